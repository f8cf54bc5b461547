/- FsA -/
import Derived.Test.YtbecmcjibpamoaaGreatDoorQ01
set_option linter.unusedVariables false
set_option linter.unusedSimpArgs false
set_option linter.deprecated false
set_option linter.unnecessarySimpa false
namespace Go.Proofs.YtbecmcjibpamoaaGreatDoor
open Go.RowKit
structure Turned (S : Nat → Prop) (w w' : World) : Prop where
  os : w'.os = w.os
  tape : w'.tape = w.tape
  output : w'.output = w.output
  size : w.heap.size ≤ w'.heap.size
  block : ∀ k, k < w.heap.size → ¬ S k → w'.heap[k]? = w.heap[k]?
section
variable {S S' : Nat → Prop} {w w1 w2 : World}
theorem Turned.refl (S : Nat → Prop) (w : World) : Turned S w w := ⟨rfl, rfl, rfl, Nat.le_refl _, fun _ _ _ => rfl⟩
theorem Turned.trans (h : Turned S w w1) (k : Turned S' w1 w2) (hs : ∀ b, S' b → b < w.heap.size → S b) : Turned S w w2 :=
  ⟨k.os.trans h.os, k.tape.trans h.tape, k.output.trans h.output, Nat.le_trans h.size k.size, fun b hb hn =>
    (k.block b (Nat.lt_of_lt_of_le hb h.size) (fun hS => hn (hs b hS hb))).trans (h.block b hb hn)⟩
theorem Turned.mono (h : Turned S w w1) (hs : ∀ b, S b → b < w.heap.size → S' b) : Turned S' w w1 :=
  ⟨h.os, h.tape, h.output, h.size, fun b hb hn => h.block b hb (fun q => hn (hs b q hb))⟩
theorem Turned.below (h : Turned S w w1) (hs : ∀ b, S b → w.heap.size ≤ b) : Below w.heap.size w w1 :=
  ⟨h.os, h.tape, h.output, h.size, fun b hb => h.block b hb (fun q => by have := hs b q; omega)⟩
theorem Turned.of_below (h : Below w.heap.size w w1) : Turned S w w1 := ⟨h.os, h.tape, h.output, h.size, fun b hb _ => h.block b hb⟩
theorem Turned.set (h : Turned S w w1) (a : Addr) (v : Value) (hs : a.block < w.heap.size → S a.block) : Turned S w (w1.setCell a v) :=
  ⟨h.os, h.tape, h.output, by simpa [World.setCell] using h.size, fun b hb hn => by
    rw [Below.heap_setCell _ _ _ _ (by rintro rfl; exact hn (hs hb))]; exact h.block b hb hn⟩
theorem Turned.alloc (h : Turned S w w1) (o : Obj) : Turned S w (w1.alloc o) :=
  ⟨h.os, h.tape, h.output, by have := h.size; simp; omega, fun b hb hn => by
    rw [Below.heap_alloc _ _ _ (Nat.lt_of_lt_of_le hb h.size)]; exact h.block b hb hn⟩
theorem Turned.drew (h : Turned S w w1) : Turned S w w1.drew := ⟨h.os, h.tape, h.output, h.size, h.block⟩
theorem Turned.drewN (h : Turned S w w1) (n : Nat) : Turned S w (w1.drewN n) := ⟨h.os, h.tape, h.output, h.size, h.block⟩
theorem Turned.put (h : Turned S w w1) (r : Nat) (o : Obj) (hs : r < w.heap.size → S r) : Turned S w { w1 with heap := w1.heap.setIfInBounds r o } :=
  ⟨h.os, h.tape, h.output, by simpa using h.size, fun b hb hn => by
    show (w1.heap.setIfInBounds r o)[b]? = _
    rw [Array.getElem?_setIfInBounds, if_neg (by rintro rfl; exact hn (hs hb))]; exact h.block b hb hn⟩
end
structure Lies {I : Type} (c : I → Option Obj) (lay : I → Nat) (w : World) : Prop where
  at_ : ∀ i o, c i = some o → w.heap[lay i]? = some o
  inj : ∀ i j, c i ≠ none → c j ≠ none → lay i = lay j → i = j
def Owns {I : Type} (c : I → Option Obj) (lay : I → Nat) (k : Nat) : Prop := ∃ i, c i ≠ none ∧ lay i = k
section
variable {I : Type} {c c' : I → Option Obj} {lay lay' : I → Nat} {w w' : World}
theorem Lies.lt (h : Lies c lay w) {i : I} {o : Obj} (hc : c i = some o) : lay i < w.heap.size := (Array.getElem?_eq_some_iff.1 (h.at_ i o hc)).1
theorem Lies.owns_lt (h : Lies c lay w) {k : Nat} (hk : Owns c lay k) : k < w.heap.size := by
  obtain ⟨i, hi, rfl⟩ := hk
  cases ho : c i with
  | none => exact absurd ho hi
  | some o => exact h.lt ho
theorem Lies.cell (h : Lies c lay w) {i : I} {cs : Array Value} {ty : TypeId} {fz : Nat × Nat} (hc : c i = some (.cells cs ty fz)) {k : Nat} {v : Value} (hk : cs[k]? = some v) : w.cell? ⟨lay i, k, none⟩ = some v := by
  simp [World.cell?, h.at_ i _ hc, hk]
theorem Lies.fz (h : Lies c lay w) {i : I} {cs : Array Value} {ty : TypeId} (hc : c i = some (.cells cs ty (0, 0))) (k : Nat) : w.frozen? ⟨lay i, k, none⟩ = false := by
  simp [World.frozen?, h.at_ i _ hc]
theorem Lies.ne (h : Lies c lay w) {i j : I} {o p : Obj} (hi : c i = some o) (hj : c j = some p) (hne : i ≠ j) : lay i ≠ lay j := fun e => hne (h.inj i j (by rw [hi]; simp) (by rw [hj]; simp) e)
theorem Lies.congr (h : Lies c lay w) (hc : ∀ i, c' i = c i) : Lies c' lay w := by
  obtain rfl : c' = c := funext hc
  exact h
theorem Lies.kept (h : Lies c lay w) (hk : ∀ i, c i ≠ none → w'.heap[lay i]? = w.heap[lay i]?) : Lies c lay w' :=
  ⟨fun i o hc => (hk i (by rw [hc]; simp)).trans (h.at_ i o hc), h.inj⟩
theorem Lies.turned {S : Nat → Prop} (h : Lies c lay w) (ht : Turned S w w') (hS : ∀ k, Owns c lay k → ¬ S k) : Lies c lay w' :=
  h.kept fun i hi => ht.block _ (h.owns_lt ⟨i, hi, rfl⟩) (hS _ ⟨i, hi, rfl⟩)
theorem Lies.alloc (h : Lies c lay w) (o : Obj) : Lies c lay (w.alloc o) := h.kept fun i hi => Below.heap_alloc _ _ _ (h.owns_lt ⟨i, hi, rfl⟩)
theorem Lies.drew (h : Lies c lay w) : Lies c lay w.drew := ⟨h.at_, h.inj⟩
theorem Lies.drewN (h : Lies c lay w) (n : Nat) : Lies c lay (w.drewN n) := ⟨h.at_, h.inj⟩
theorem Lies.set [DecidableEq I] (h : Lies c lay w) {i : I} {cs : Array Value} {ty : TypeId} {fz : Nat × Nat} (hc : c i = some (.cells cs ty fz)) (k : Nat) (v : Value) (hc' : ∀ j, c' j = if j = i then some (.cells (cs.setIfInBounds k v) ty fz) else c j) :
    Lies c' lay (w.setCell ⟨lay i, k, none⟩ v) := by
  have hlive : ∀ j, c' j ≠ none → c j ≠ none := fun j hj => by
    by_cases e : j = i
    · rw [e, hc]; simp
    · rw [hc', if_neg e] at hj; exact hj
  refine ⟨fun j o hj => ?_, fun j l hj hl e => h.inj j l (hlive j hj) (hlive l hl) e⟩
  by_cases e : j = i
  · subst e
    rw [hc', if_pos rfl] at hj
    cases hj
    have := h.at_ j _ hc
    simp [World.setCell, Array.getElem?_modify, this]
  · have hj' : c j = some o := by rw [hc', if_neg e] at hj; exact hj
    rw [Below.heap_setCell _ _ _ _ (fun q => e (h.inj j i (by rw [hj']; simp) (by rw [hc]; simp) q))]
    exact h.at_ j o hj'
theorem Lies.put [DecidableEq I] (h : Lies c lay w) {i : I} {o o' : Obj} (hc : c i = some o) (hc' : ∀ j, c' j = if j = i then some o' else c j) : Lies c' lay { w with heap := w.heap.setIfInBounds (lay i) o' } := by
  have hlive : ∀ j, c' j ≠ none → c j ≠ none := fun j hj => by
    by_cases e : j = i
    · rw [e, hc]; simp
    · rw [hc', if_neg e] at hj; exact hj
  refine ⟨fun j p hj => ?_, fun j l hj hl e => h.inj j l (hlive j hj) (hlive l hl) e⟩
  show (w.heap.setIfInBounds (lay i) o')[lay j]? = _
  rw [Array.getElem?_setIfInBounds]
  by_cases e : j = i
  · subst e
    rw [hc', if_pos rfl] at hj
    cases hj
    rw [if_pos rfl, if_pos (h.lt hc)]
  · have hj' : c j = some p := by rw [hc', if_neg e] at hj; exact hj
    rw [if_neg (fun q => e (h.inj j i (by rw [hj']; simp) (by rw [hc]; simp) q.symm))]
    exact h.at_ j p hj'
theorem Lies.new [DecidableEq I] (h : Lies c lay w) (i : I) (o : Obj) (hc' : ∀ j, c' j = if j = i then some o else c j) (hl : ∀ j, lay' j = if j = i then w.heap.size else lay j) : Lies c' lay' (w.alloc o) := by
  have hold : ∀ j, j ≠ i → c' j = c j ∧ lay' j = lay j := fun j e => ⟨by rw [hc', if_neg e], by rw [hl, if_neg e]⟩
  refine ⟨fun j p hj => ?_, fun j l hj hk e => ?_⟩
  · by_cases e : j = i
    · subst e
      rw [hc', if_pos rfl] at hj
      cases hj
      rw [hl, if_pos rfl]
      show (w.heap.push o)[w.heap.size]? = _
      simp
    · rw [(hold j e).1] at hj
      rw [(hold j e).2, Below.heap_alloc _ _ _ (h.lt hj)]
      exact h.at_ j p hj
  · by_cases e1 : j = i <;> by_cases e2 : l = i
    · rw [e1, e2]
    · exfalso
      rw [(hold l e2).1] at hk
      have := h.owns_lt ⟨l, hk, rfl⟩
      rw [e1, hl, if_pos rfl, (hold l e2).2] at e
      omega
    · exfalso
      rw [(hold j e1).1] at hj
      have := h.owns_lt ⟨j, hj, rfl⟩
      rw [e2, hl i, if_pos rfl, (hold j e1).2] at e
      omega
    · rw [(hold j e1).1] at hj
      rw [(hold l e2).1] at hk
      rw [(hold j e1).2, (hold l e2).2] at e
      exact h.inj j l hj hk e
theorem Lies.less (h : Lies c lay w) (hc' : ∀ j o, c' j = some o → c j = some o) : Lies c' lay w :=
  ⟨fun j o hj => h.at_ j o (hc' j o hj), fun j l hj hl e => by
    cases h1 : c' j with
    | none => exact absurd h1 hj
    | some p => cases h2 : c' l with
      | none => exact absurd h2 hl
      | some q => exact h.inj j l (by rw [hc' j p h1]; simp) (by rw [hc' l q h2]; simp) e⟩
end
end Go.Proofs.YtbecmcjibpamoaaGreatDoor
