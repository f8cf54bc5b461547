/- Texts of one proof, packed: FsA, FsB, FsC -/
import Derived.Test.YtggdedihfhibfaaGreatDoorBase
import Derived.Carry
import Derived.MapKept
import Derived.Maps.RangeRun
set_option linter.unusedVariables false
set_option linter.unusedSimpArgs false
set_option linter.deprecated false
set_option linter.unnecessarySimpa false
/- Objects of the heap that belong together: which lies where, and what stays as it was. No program's text. -/
namespace Go.Proofs.YtggdedihfhibfaaGreatDoor
open Go.RowKit
set_option linter.unusedVariables false
set_option linter.unusedSimpArgs false

/-- what is kept: all that was, but for the blocks of S -/
structure Turned (S : Nat → Prop) (w w' : World) : Prop where
  os : w'.os = w.os
  tape : w'.tape = w.tape
  output : w'.output = w.output
  size : w.heap.size ≤ w'.heap.size
  block : ∀ k, k < w.heap.size → ¬ S k → w'.heap[k]? = w.heap[k]?
section
variable {S S' : Nat → Prop} {w w1 w2 : World}
theorem Turned.refl (S : Nat → Prop) (w : World) : Turned S w w := ⟨rfl, rfl, rfl, Nat.le_refl _, fun _ _ _ => rfl⟩
theorem Turned.trans (h : Turned S w w1) (k : Turned S' w1 w2) (hs : ∀ b, S' b → b < w.heap.size → S b) : Turned S w w2 :=
  ⟨k.os.trans h.os, k.tape.trans h.tape, k.output.trans h.output, Nat.le_trans h.size k.size, fun b hb hn =>
    (k.block b (Nat.lt_of_lt_of_le hb h.size) (fun hS => hn (hs b hS hb))).trans (h.block b hb hn)⟩
theorem Turned.mono (h : Turned S w w1) (hs : ∀ b, S b → b < w.heap.size → S' b) : Turned S' w w1 :=
  ⟨h.os, h.tape, h.output, h.size, fun b hb hn => h.block b hb (fun q => hn (hs b q hb))⟩
theorem Turned.below (h : Turned S w w1) (hs : ∀ b, S b → w.heap.size ≤ b) : Below w.heap.size w w1 :=
  ⟨h.os, h.tape, h.output, h.size, fun b hb => h.block b hb (fun q => by have := hs b q; omega)⟩
theorem Turned.of_below (h : Below w.heap.size w w1) : Turned S w w1 := ⟨h.os, h.tape, h.output, h.size, fun b hb _ => h.block b hb⟩
theorem Turned.set (h : Turned S w w1) (a : Addr) (v : Value) (hs : a.block < w.heap.size → S a.block) : Turned S w (w1.setCell a v) :=
  ⟨h.os, h.tape, h.output, by simpa [World.setCell] using h.size, fun b hb hn => by
    rw [Below.heap_setCell _ _ _ _ (by rintro rfl; exact hn (hs hb))]; exact h.block b hb hn⟩
theorem Turned.alloc (h : Turned S w w1) (o : Obj) : Turned S w (w1.alloc o) :=
  ⟨h.os, h.tape, h.output, by have := h.size; simp; omega, fun b hb hn => by
    rw [Below.heap_alloc _ _ _ (Nat.lt_of_lt_of_le hb h.size)]; exact h.block b hb hn⟩
theorem Turned.drew (h : Turned S w w1) : Turned S w w1.drew := ⟨h.os, h.tape, h.output, h.size, h.block⟩
theorem Turned.drewN (h : Turned S w w1) (n : Nat) : Turned S w (w1.drewN n) := ⟨h.os, h.tape, h.output, h.size, h.block⟩
theorem Turned.put (h : Turned S w w1) (r : Nat) (o : Obj) (hs : r < w.heap.size → S r) : Turned S w { w1 with heap := w1.heap.setIfInBounds r o } :=
  ⟨h.os, h.tape, h.output, by simpa using h.size, fun b hb hn => by
    show (w1.heap.setIfInBounds r o)[b]? = _
    rw [Array.getElem?_setIfInBounds, if_neg (by rintro rfl; exact hn (hs hb))]; exact h.block b hb hn⟩
end

/-- objects by their names: which lies where -/
structure Lies {I : Type} (c : I → Option Obj) (lay : I → Nat) (w : World) : Prop where
  at_ : ∀ i o, c i = some o → w.heap[lay i]? = some o
  inj : ∀ i j, c i ≠ none → c j ≠ none → lay i = lay j → i = j
/-- the blocks -/
def Owns {I : Type} (c : I → Option Obj) (lay : I → Nat) (k : Nat) : Prop := ∃ i, c i ≠ none ∧ lay i = k
section
variable {I : Type} {c c' : I → Option Obj} {lay lay' : I → Nat} {w w' : World}
theorem Lies.lt (h : Lies c lay w) {i : I} {o : Obj} (hc : c i = some o) : lay i < w.heap.size := (Array.getElem?_eq_some_iff.1 (h.at_ i o hc)).1
theorem Lies.owns_lt (h : Lies c lay w) {k : Nat} (hk : Owns c lay k) : k < w.heap.size := by
  obtain ⟨i, hi, rfl⟩ := hk
  cases ho : c i with
  | none => exact absurd ho hi
  | some o => exact h.lt ho
theorem Lies.cell (h : Lies c lay w) {i : I} {cs : Array Value} {ty : TypeId} {fz : Nat × Nat} (hc : c i = some (.cells cs ty fz)) {k : Nat} {v : Value} (hk : cs[k]? = some v) : w.cell? ⟨lay i, k, none⟩ = some v := by
  simp [World.cell?, h.at_ i _ hc, hk]
theorem Lies.fz (h : Lies c lay w) {i : I} {cs : Array Value} {ty : TypeId} (hc : c i = some (.cells cs ty (0, 0))) (k : Nat) : w.frozen? ⟨lay i, k, none⟩ = false := by
  simp [World.frozen?, h.at_ i _ hc]
theorem Lies.ne (h : Lies c lay w) {i j : I} {o p : Obj} (hi : c i = some o) (hj : c j = some p) (hne : i ≠ j) : lay i ≠ lay j := fun e => hne (h.inj i j (by rw [hi]; simp) (by rw [hj]; simp) e)
/-- what is the same in other words -/
theorem Lies.congr (h : Lies c lay w) (hc : ∀ i, c' i = c i) : Lies c' lay w := by
  obtain rfl : c' = c := funext hc
  exact h
theorem Lies.kept (h : Lies c lay w) (hk : ∀ i, c i ≠ none → w'.heap[lay i]? = w.heap[lay i]?) : Lies c lay w' :=
  ⟨fun i o hc => (hk i (by rw [hc]; simp)).trans (h.at_ i o hc), h.inj⟩
theorem Lies.turned {S : Nat → Prop} (h : Lies c lay w) (ht : Turned S w w') (hS : ∀ k, Owns c lay k → ¬ S k) : Lies c lay w' :=
  h.kept fun i hi => ht.block _ (h.owns_lt ⟨i, hi, rfl⟩) (hS _ ⟨i, hi, rfl⟩)
theorem Lies.alloc (h : Lies c lay w) (o : Obj) : Lies c lay (w.alloc o) := h.kept fun i hi => Below.heap_alloc _ _ _ (h.owns_lt ⟨i, hi, rfl⟩)
theorem Lies.drew (h : Lies c lay w) : Lies c lay w.drew := ⟨h.at_, h.inj⟩
theorem Lies.drewN (h : Lies c lay w) (n : Nat) : Lies c lay (w.drewN n) := ⟨h.at_, h.inj⟩
/-- a cell is written -/
theorem Lies.set [DecidableEq I] (h : Lies c lay w) {i : I} {cs : Array Value} {ty : TypeId} {fz : Nat × Nat} (hc : c i = some (.cells cs ty fz)) (k : Nat) (v : Value) (hc' : ∀ j, c' j = if j = i then some (.cells (cs.setIfInBounds k v) ty fz) else c j) :
    Lies c' lay (w.setCell ⟨lay i, k, none⟩ v) := by
  have hlive : ∀ j, c' j ≠ none → c j ≠ none := fun j hj => by
    by_cases e : j = i
    · rw [e, hc]; simp
    · rw [hc', if_neg e] at hj; exact hj
  refine ⟨fun j o hj => ?_, fun j l hj hl e => h.inj j l (hlive j hj) (hlive l hl) e⟩
  by_cases e : j = i
  · subst e
    rw [hc', if_pos rfl] at hj
    cases hj
    have := h.at_ j _ hc
    simp [World.setCell, Array.getElem?_modify, this]
  · have hj' : c j = some o := by rw [hc', if_neg e] at hj; exact hj
    rw [Below.heap_setCell _ _ _ _ (fun q => e (h.inj j i (by rw [hj']; simp) (by rw [hc]; simp) q))]
    exact h.at_ j o hj'
/-- an object is put in the place of another one -/
theorem Lies.put [DecidableEq I] (h : Lies c lay w) {i : I} {o o' : Obj} (hc : c i = some o) (hc' : ∀ j, c' j = if j = i then some o' else c j) : Lies c' lay { w with heap := w.heap.setIfInBounds (lay i) o' } := by
  have hlive : ∀ j, c' j ≠ none → c j ≠ none := fun j hj => by
    by_cases e : j = i
    · rw [e, hc]; simp
    · rw [hc', if_neg e] at hj; exact hj
  refine ⟨fun j p hj => ?_, fun j l hj hl e => h.inj j l (hlive j hj) (hlive l hl) e⟩
  show (w.heap.setIfInBounds (lay i) o')[lay j]? = _
  rw [Array.getElem?_setIfInBounds]
  by_cases e : j = i
  · subst e
    rw [hc', if_pos rfl] at hj
    cases hj
    rw [if_pos rfl, if_pos (h.lt hc)]
  · have hj' : c j = some p := by rw [hc', if_neg e] at hj; exact hj
    rw [if_neg (fun q => e (h.inj j i (by rw [hj']; simp) (by rw [hc]; simp) q.symm))]
    exact h.at_ j p hj'
/-- an object is new -/
theorem Lies.new [DecidableEq I] (h : Lies c lay w) (i : I) (o : Obj) (hc' : ∀ j, c' j = if j = i then some o else c j) (hl : ∀ j, lay' j = if j = i then w.heap.size else lay j) : Lies c' lay' (w.alloc o) := by
  have hold : ∀ j, j ≠ i → c' j = c j ∧ lay' j = lay j := fun j e => ⟨by rw [hc', if_neg e], by rw [hl, if_neg e]⟩
  refine ⟨fun j p hj => ?_, fun j l hj hk e => ?_⟩
  · by_cases e : j = i
    · subst e
      rw [hc', if_pos rfl] at hj
      cases hj
      rw [hl, if_pos rfl]
      show (w.heap.push o)[w.heap.size]? = _
      simp
    · rw [(hold j e).1] at hj
      rw [(hold j e).2, Below.heap_alloc _ _ _ (h.lt hj)]
      exact h.at_ j p hj
  · by_cases e1 : j = i <;> by_cases e2 : l = i
    · rw [e1, e2]
    · exfalso
      rw [(hold l e2).1] at hk
      have := h.owns_lt ⟨l, hk, rfl⟩
      rw [e1, hl, if_pos rfl, (hold l e2).2] at e
      omega
    · exfalso
      rw [(hold j e1).1] at hj
      have := h.owns_lt ⟨j, hj, rfl⟩
      rw [e2, hl i, if_pos rfl, (hold j e1).2] at e
      omega
    · rw [(hold j e1).1] at hj
      rw [(hold l e2).1] at hk
      rw [(hold j e1).2, (hold l e2).2] at e
      exact h.inj j l hj hk e
/-- some objects are none any more -/
theorem Lies.less (h : Lies c lay w) (hc' : ∀ j o, c' j = some o → c j = some o) : Lies c' lay w :=
  ⟨fun j o hj => h.at_ j o (hc' j o hj), fun j l hj hl e => by
    cases h1 : c' j with
    | none => exact absurd h1 hj
    | some p => cases h2 : c' l with
      | none => exact absurd h2 hl
      | some q => exact h.inj j l (by rw [hc' j p h1]; simp) (by rw [hc' l q h2]; simp) e⟩
end
end Go.Proofs.YtggdedihfhibfaaGreatDoor
/- Maps by their entries: what a look-up, a store, a deletion come to. No program's text. -/
namespace Go.Proofs.YtggdedihfhibfaaGreatDoor
open Go.RowKit
set_option linter.unusedVariables false
set_option linter.unusedSimpArgs false

/-- a key of an integer or a string kind -/
inductive Key where
  | int (n : Int)
  | str (s : List UInt8)
  deriving DecidableEq
def Key.val : Key → Value
  | .int n => .int .i64 n
  | .str s => .string ⟨s.toArray⟩
def Key.sort : Key → TypeDesc
  | .int _ => .int .i64
  | .str _ => .string
/-- a map: its entries, each with the number of its birth, and the next number -/
structure GMap where
  es : List (Key × Value × Nat)
  clk : Nat
def entryOf (e : Key × Value × Nat) : MapEntry := { key := e.1.val, val := e.2.1, born := e.2.2 }
def GMap.obj (m : GMap) : Obj := .map (m.es.map entryOf).toArray m.clk
/-- all keys are of one kind -/
def GMap.Of (m : GMap) (d : TypeDesc) : Prop := ∀ e ∈ m.es, e.1.sort = d
def getE (k : Key) : List (Key × Value × Nat) → Option Value
  | [] => none
  | e :: l => if e.1 = k then some e.2.1 else getE k l
def setE (k : Key) (v : Value) (b : Nat) : List (Key × Value × Nat) → List (Key × Value × Nat)
  | [] => [(k, v, b)]
  | e :: l => if e.1 = k then (k, v, e.2.2) :: l else e :: setE k v b l
def delE (k : Key) : List (Key × Value × Nat) → List (Key × Value × Nat)
  | [] => []
  | e :: l => if e.1 = k then l else e :: delE k l
def GMap.get (m : GMap) (k : Key) : Option Value := getE k m.es
def GMap.put (m : GMap) (k : Key) (v : Value) : GMap := ⟨setE k v m.clk m.es, if (m.get k).isSome then m.clk else m.clk + 1⟩
def GMap.del (m : GMap) (k : Key) : GMap := ⟨delE k m.es, m.clk⟩
def GMap.empty : GMap := ⟨[], 0⟩
theorem GMap.empty_obj : GMap.empty.obj = .map #[] 0 := rfl

section
variable {P : Program} {w : World}
theorem str_beq2 (a b : List UInt8) : ((⟨a.toArray⟩ : ByteArray) == ⟨b.toArray⟩) = (a == b) := by
  rw [beq_toListBytes, ByteArray.toList_eq, ByteArray.toList_eq]
theorem same_key {k k' : Key} (h : k'.sort = k.sort) : Instr.sameNow k.sort k.val k'.val = some (decide (k' = k)) := by
  cases k <;> cases k' <;> simp [Key.sort] at h
  · rename_i a b
    simp only [Key.sort, Key.val, Instr.sameNow, if_pos, Key.int.injEq]
    by_cases e : b = a
    · simp [e]
    · simp [e, Ne.symm e]
  · rename_i a b
    simp only [Key.sort, Key.val, Instr.sameNow, Key.str.injEq]
    rw [str_beq2]
    by_cases e : b = a
    · simp [e]
    · simp [e, Ne.symm e]
/-- where a key stands -/
theorem find_at {k : Key} : ∀ (l : List (Key × Value × Nat)) (i : Nat), (∀ e ∈ l, e.1.sort = k.sort) → ∃ r, Instr.findNow k.sort k.val (l.map entryOf) i = some r ∧ r.map (·.2) = getE k l ∧
    (∀ j v, r = some (j, v) → i ≤ j ∧ ∃ e, l[j - i]? = some e ∧ e.1 = k ∧ e.2.1 = v ∧ (∀ v' b, setE k v' b l = l.set (j - i) (k, v', e.2.2)) ∧ delE k l = l.eraseIdx (j - i)) ∧ (r = none → (∀ v' b, setE k v' b l = l ++ [(k, v', b)]) ∧ delE k l = l)
  | [], i, _ => ⟨none, rfl, rfl, (fun j v h => by cases h), (fun _ => ⟨fun _ _ => rfl, rfl⟩)⟩
  | e :: l, i, h => by
    have hs := same_key (h e (by simp))
    have hcons : Instr.findNow k.sort k.val ((e :: l).map entryOf) i = match Instr.sameNow k.sort k.val e.1.val with
      | some true => some (some (i, e.2.1))
      | some false => Instr.findNow k.sort k.val (l.map entryOf) (i + 1)
      | none => none := rfl
    rw [hcons, hs]
    by_cases hk : e.1 = k
    · refine ⟨some (i, e.2.1), by simp [hk], by simp [getE, hk], fun j v hj => ?_, fun q => by cases q⟩
      cases hj
      refine ⟨Nat.le_refl _, e, by simp, hk, rfl, fun v' b => ?_, ?_⟩
      · simp [setE, hk]
      · simp [delE, hk]
    · obtain ⟨r, h1, h2, h3, h4⟩ := find_at l (i + 1) (fun x hx => h x (by simp [hx]))
      refine ⟨r, by simp [hk, h1], by simp [getE, hk, h2], fun j v hj => ?_, fun q => ?_⟩
      · obtain ⟨q1, e', q2, q3, q4, q5, q6⟩ := h3 j v hj
        have hji : j - i = (j - (i + 1)) + 1 := by omega
        refine ⟨by omega, e', by rw [hji]; simpa using q2, q3, q4, fun v' b => ?_, ?_⟩
        · rw [hji]; simp [setE, hk, q5]
        · rw [hji]; simp [delE, hk, q6]
      · obtain ⟨q1, q2⟩ := h4 q
        exact ⟨fun v' b => by simp [setE, hk, q1], by simp [delE, hk, q2]⟩
theorem key_checked {kt : TypeId} {k : Key} (hk : P.underlying kt = some k.sort) (b : Bool) : (Instr.checkKey b 10000 kt k.val).run P w = .ok () w := by
  cases k <;> exact (fun (n : Nat) => (by simp [Instr.checkKey, run_underlying hk, Key.sort, Key.val] : (Instr.checkKey b (n + 1) kt _).run P w = .ok () w)) 9999
theorem find_run {kt : TypeId} {d : TypeDesc} {u : Value} {es : List MapEntry} {r : Option (Nat × Value)} (hu : P.underlying kt = some d) (h : Instr.findNow d u es 0 = some r) : (Instr.findKey kt u es).run P w = .ok r w := by
  simp [Instr.findKey, run_underlying hu, h]
theorem map_got {r : Nat} {es : Array MapEntry} {c : Nat} (h : w.heap[r]? = some (.map es c)) : (Go.getObj r).run P w = .ok (.map es c) w := by
  simp [Go.getObj, Sem.run, h]
theorem map_laid {r : Nat} {es es' : Array MapEntry} {c c' : Nat} (h : w.heap[r]? = some (.map es c)) : (Go.setObj r (.map es' c')).run P w = .ok () { w with heap := w.heap.setIfInBounds r (.map es' c') } := by
  simp [Go.setObj, Sem.run, h]
theorem GMap.look {t kt et : TypeId} {k : Key} {m : GMap} {b : Nat} {z : Value} (ht : P.underlying t = some (.map kt et)) (hk : P.underlying kt = some k.sort) (hm : m.Of k.sort) (hb : w.heap[b]? = some m.obj) (hz : (zeroValue et).run P w = .ok z w) :
    (Instr.lookup t (.map (some b)) k.val false).run P w = .ok ((m.get k).getD z) w ∧ (Instr.lookup t (.map (some b)) k.val true).run P w = .ok (.tuple #[(m.get k).getD z, .bool (m.get k).isSome]) w := by
  obtain ⟨r, h1, h2, _⟩ := find_at m.es 0 (fun e he => hm e he)
  have hf := find_run (P := P) (w := w) hk h1
  have hg : (m.get k) = r.map (·.2) := h2.symm
  rw [hg]
  cases r with
  | none => exact ⟨by simp [Instr.lookup, run_underlying ht, map_got (P := P) hb, key_checked hk, hf, hz], by simp [Instr.lookup, run_underlying ht, map_got (P := P) hb, key_checked hk, hf, hz]⟩
  | some p => exact ⟨by simp [Instr.lookup, run_underlying ht, map_got (P := P) hb, key_checked hk, hf], by simp [Instr.lookup, run_underlying ht, map_got (P := P) hb, key_checked hk, hf]⟩
theorem eraseIdx_map2 {α β : Type} (f : α → β) : ∀ (l : List α) (i : Nat), (l.eraseIdx i).map f = (l.map f).eraseIdx i
  | [], _ => rfl
  | _ :: _, 0 => rfl
  | x :: l, i + 1 => by simp [eraseIdx_map2 f l i]
theorem keyStays2 (k : Key) : (Instr.keyThatStays k.val k.val).run P w = .ok k.val w := by
  have hb : ∀ n, Instr.sameBits n k.val k.val = true := fun n => by
    cases k <;> simp [Instr.sameBits, Key.val, str_beq2]
  simp [Instr.keyThatStays, hb]
/-- the map that a store leaves, and the world -/
theorem GMap.store {t kt et : TypeId} {k : Key} {m : GMap} {b : Nat} {v : Value} (ht : P.underlying t = some (.map kt et)) (hk : P.underlying kt = some k.sort) (hm : m.Of k.sort) (hb : w.heap[b]? = some m.obj) :
    (Instr.mapUpdate t (.map (some b)) k.val v).run P w = .ok () { w with heap := w.heap.setIfInBounds b (m.put k v).obj } := by
  obtain ⟨r, h1, h2, h3, h4⟩ := find_at m.es 0 (fun e he => hm e he)
  have hf := find_run (P := P) (w := w) hk h1
  have hg : m.get k = r.map (·.2) := h2.symm
  cases r with
  | none =>
    have hput : (m.put k v).obj = .map ((m.es.map entryOf).toArray.push { key := k.val, val := v, born := m.clk }) (m.clk + 1) := by
      unfold GMap.put GMap.obj
      rw [(h4 rfl).1, hg]
      simp [entryOf]
    rw [hput]
    simp [Instr.mapUpdate, run_underlying ht, map_got (P := P) hb, key_checked hk, hf, map_laid (P := P) hb]
  | some p =>
    obtain ⟨i, x⟩ := p
    obtain ⟨_, e, q1, q2, q3, q4, _⟩ := h3 i x rfl
    rw [Nat.sub_zero] at q1 q4
    have hput : (m.put k v).obj = .map ((m.es.map entryOf).toArray.modify i fun e => { e with key := k.val, val := v }) m.clk := by
      unfold GMap.put GMap.obj
      rw [q4, hg]
      simp only [Option.map_some, Option.isSome_some, if_true]
      congr 1
      apply Array.ext'
      simp only [Array.toList_modify, List.map_set]
      apply List.ext_getElem?
      intro j
      rw [List.getElem?_set, List.getElem?_modify]
      by_cases hij : i = j
      · subst hij
        have hlt : i < m.es.length := (List.getElem?_eq_some_iff.1 q1).1
        have hge : m.es[i] = e := (List.getElem?_eq_some_iff.1 q1).2
        simp [entryOf, hlt, hge]
      · simp [hij]
    rw [hput]
    have hkey : (((m.es.map entryOf).toArray[i]?).map (·.key)).getD k.val = k.val := by
      simp [q1, entryOf, q2]
    simp [Instr.mapUpdate, run_underlying ht, map_got (P := P) hb, key_checked hk, hf, map_laid (P := P) hb]
    simp only [List.getElem?_toArray, List.getElem?_map, Option.map_map] at hkey
    rw [hkey, keyStays2]
    simp [map_laid (P := P) hb]
theorem GMap.drop {t kt et ty : TypeId} {k : Key} {m : GMap} {b : Nat} {ts : Array TypeId} (hts : ts[0]? = some t) (ht : P.underlying t = some (.map kt et)) (hk : P.underlying kt = some k.sort) (hm : m.Of k.sort) (hb : w.heap[b]? = some m.obj) :
    (Builtin.delete_ ts ty #[.map (some b), k.val]).run P w = .ok (.tuple #[]) { w with heap := w.heap.setIfInBounds b (m.del k).obj } := by
  obtain ⟨r, h1, h2, h3, h4⟩ := find_at m.es 0 (fun e he => hm e he)
  have hf := find_run (P := P) (w := w) hk h1
  cases r with
  | none =>
    have hd : (m.del k).obj = .map (m.es.map entryOf).toArray m.clk := by
      unfold GMap.del GMap.obj
      rw [(h4 rfl).2]
    rw [hd]
    simp [Builtin.delete_, hts, run_underlying ht, map_got (P := P) hb, key_checked hk, hf, map_laid (P := P) hb]
  | some p =>
    obtain ⟨i, x⟩ := p
    obtain ⟨_, e, q1, q2, q3, _, q5⟩ := h3 i x rfl
    rw [Nat.sub_zero] at q1 q5
    have hd : (m.del k).obj = .map ((m.es.map entryOf).toArray.eraseIdxIfInBounds i) m.clk := by
      unfold GMap.del GMap.obj
      rw [q5]
      congr 1
      apply Array.ext'
      simp [eraseIdx_map2]
    rw [hd]
    simp [Builtin.delete_, hts, run_underlying ht, map_got (P := P) hb, key_checked hk, hf, map_laid (P := P) hb]
theorem setE_of {k : Key} {v : Value} {b : Nat} {d : TypeDesc} (hk : k.sort = d) : ∀ {l : List (Key × Value × Nat)}, (∀ e ∈ l, e.1.sort = d) → ∀ e ∈ setE k v b l, e.1.sort = d
  | [], _, e, he => by simp [setE] at he; rw [he]; exact hk
  | x :: l, h, e, he => by
    unfold setE at he
    split at he
    · rcases List.mem_cons.1 he with rfl | he
      · exact hk
      · exact h e (by simp [he])
    · rcases List.mem_cons.1 he with rfl | he
      · exact h _ (by simp)
      · exact setE_of hk (fun y hy => h y (by simp [hy])) e he
theorem delE_sub {k : Key} : ∀ {l : List (Key × Value × Nat)}, ∀ e ∈ delE k l, e ∈ l
  | [], e, he => he
  | x :: l, e, he => by
    unfold delE at he
    split at he
    · exact List.mem_cons_of_mem _ he
    · rcases List.mem_cons.1 he with rfl | he
      · simp
      · exact List.mem_cons_of_mem _ (delE_sub e he)
theorem GMap.Of.put {m : GMap} {d : TypeDesc} (h : m.Of d) {k : Key} (hk : k.sort = d) (v : Value) : (m.put k v).Of d := setE_of hk h
theorem GMap.Of.del {m : GMap} {d : TypeDesc} (h : m.Of d) (k : Key) : (m.del k).Of d := fun e he => h e (delE_sub e he)
theorem GMap.Of.empty (d : TypeDesc) : GMap.empty.Of d := fun e he => by cases he
end
/-- keys and births: no key twice, no birth twice, all births below the next one -/
structure GoodE (l : List (Key × Nat)) (c : Nat) : Prop where
  keys : (l.map (·.1)).Nodup
  births : (l.map (·.2)).Nodup
  below : ∀ e ∈ l, e.2 < c
def kb (l : List (Key × Value × Nat)) : List (Key × Nat) := l.map fun e => (e.1, e.2.2)
def GMap.Good (m : GMap) : Prop := GoodE (kb m.es) m.clk
theorem GMap.Good.empty : GMap.empty.Good := ⟨List.nodup_nil, List.nodup_nil, fun e he => by cases he⟩
theorem kb_setE (k : Key) (v : Value) (b : Nat) : ∀ l : List (Key × Value × Nat), kb (setE k v b l) = if (getE k l).isSome then kb l else kb l ++ [(k, b)]
  | [] => rfl
  | e :: l => by
    unfold setE getE
    by_cases h : e.1 = k
    · rw [if_pos h, if_pos h]; simp [kb, h]
    · rw [if_neg h, if_neg h]
      show (e.1, e.2.2) :: kb (setE k v b l) = _
      rw [kb_setE k v b l]
      split <;> rfl
theorem kb_delE (k : Key) : ∀ l : List (Key × Value × Nat), (kb (delE k l)).Sublist (kb l)
  | [] => List.Sublist.refl _
  | e :: l => by
    unfold delE
    by_cases h : e.1 = k
    · rw [if_pos h]; exact List.sublist_cons_self _ _
    · rw [if_neg h]; exact (kb_delE k l).cons_cons _
theorem getE_none {k : Key} : ∀ {l : List (Key × Value × Nat)}, getE k l = none ↔ ∀ e ∈ l, e.1 ≠ k
  | [] => by simp [getE]
  | e :: l => by
    unfold getE
    by_cases h : e.1 = k
    · simp [h]
    · simp [h, getE_none (l := l)]
theorem GoodE.sub {l l' : List (Key × Nat)} {c : Nat} (h : GoodE l c) (hs : l'.Sublist l) : GoodE l' c :=
  ⟨h.keys.sublist (hs.map _), h.births.sublist (hs.map _), fun e he => h.below e (hs.subset he)⟩
theorem GMap.Good.del {m : GMap} (h : m.Good) (k : Key) : (m.del k).Good := GoodE.sub h (kb_delE k m.es)
theorem GMap.Good.put {m : GMap} (h : m.Good) (k : Key) (v : Value) : (m.put k v).Good := by
  unfold GMap.Good GMap.put
  show GoodE (kb (setE k v m.clk m.es)) _
  rw [kb_setE]
  cases hg : getE k m.es with
  | some x =>
    have : (m.get k).isSome = true := by unfold GMap.get; rw [hg]; rfl
    rw [this]; exact h
  | none =>
    have : (m.get k).isSome = false := by unfold GMap.get; rw [hg]; rfl
    rw [this]
    have hn := getE_none.1 hg
    refine ⟨?_, ?_, ?_⟩
    · simp only [Option.isSome_none, Bool.false_eq_true, if_false, List.map_append, List.map_cons, List.map_nil]
      rw [List.nodup_append]
      refine ⟨h.keys, by simp, ?_⟩
      intro a ha b hb e
      simp only [List.mem_singleton] at hb
      simp only [kb, List.map_map, List.mem_map] at ha
      obtain ⟨x, hx, rfl⟩ := ha
      exact hn x hx (by rw [← hb, ← e]; rfl)
    · simp only [Option.isSome_none, Bool.false_eq_true, if_false, List.map_append, List.map_cons, List.map_nil]
      rw [List.nodup_append]
      refine ⟨h.births, by simp, ?_⟩
      intro a ha b hb e
      simp only [List.mem_singleton] at hb
      obtain ⟨x, hx, rfl⟩ := List.mem_map.1 ha
      have := h.below x hx
      omega
    · intro e he
      simp only [Option.isSome_none, Bool.false_eq_true, if_false, List.mem_append, List.mem_singleton] at he ⊢
      rcases he with he | rfl
      · have := h.below e he; omega
      · show m.clk < m.clk + 1; omega
theorem delE_filter {k : Key} : ∀ {l : List (Key × Value × Nat)}, (l.map (·.1)).Nodup → delE k l = l.filter (fun e => decide (e.1 ≠ k))
  | [], _ => rfl
  | e :: l, h => by
    unfold delE
    rw [List.map_cons, List.nodup_cons] at h
    by_cases hk : e.1 = k
    · subst hk
      rw [if_pos rfl, List.filter_cons_of_neg (by simp)]
      rw [List.filter_eq_self.2]
      intro x hx
      have : x.1 ≠ e.1 := fun q => h.1 (by rw [← q]; exact List.mem_map_of_mem hx)
      simpa using this
    · rw [if_neg hk, List.filter_cons_of_pos (by simpa using hk), delE_filter h.2]
theorem setE_mem {k : Key} {v : Value} {b : Nat} : ∀ {l : List (Key × Value × Nat)} {e : Key × Value × Nat}, e ∈ setE k v b l → e ∈ l ∨ (e.1 = k ∧ e.2.1 = v)
  | [], e, he => by simp [setE] at he; right; rw [he]; exact ⟨rfl, rfl⟩
  | x :: l, e, he => by
    unfold setE at he
    split at he
    · rcases List.mem_cons.1 he with rfl | he
      · exact .inr ⟨rfl, rfl⟩
      · exact .inl (by simp [he])
    · rcases List.mem_cons.1 he with rfl | he
      · exact .inl (by simp)
      · rcases setE_mem he with q | q
        · exact .inl (by simp [q])
        · exact .inr q
/-- the step of a range over a map: nothing is left, or one of what is left comes out, whichever -/
theorem wpList_next_g {P : Program} {w : World} {ops : Array Oper} {rest : List Oper} {o : Oper} {a : Act} {Q : Exit → Act → World → Prop} (hg : o.guard = none) (it : Operand) (hop : o.op = Op.next it false) (r b since c0 : Nat) (seen : Array Nat) (m : GMap)
    (hit : a.eval it = .pointer (some ⟨r, 0, none⟩)) (hr : w.heap[r]? = some (.mapIter (some b) since seen c0)) (hb : w.heap[b]? = some m.obj) (hold : ∀ x ∈ m.es, x.2.2 < since) (hsc : since ≤ c0)
    (hDone : (∀ x ∈ m.es, x.2.2 ∈ seen) → wpList P ops Q rest (a.put o.dst (.tuple #[.bool false])) w)
    (hMore : ∀ x ∈ m.es, x.2.2 ∉ seen → ∀ n, wpList P ops Q rest (a.put o.dst (.tuple #[.bool true, x.1.val, x.2.1])) { (w.drewN n) with heap := (w.drewN n).heap.setIfInBounds r (.mapIter (some b) since (seen.push x.2.2) m.clk) }) :
    wpList P ops Q (o :: rest) a w := by
  refine wpList_plain hg fun K' hK' => ?_
  unfold Oper.wp
  have hleft : ∀ e, e ∈ (leftOf (m.es.map entryOf).toArray seen).toList ↔ ∃ x ∈ m.es, x.2.2 ∉ seen ∧ entryOf x = e := by
    intro e
    simp only [leftOf, Array.toList_filter, List.mem_filter, List.mem_map, Bool.not_eq_true', Array.contains_eq_mem, decide_eq_false_iff_not]
    constructor
    · rintro ⟨⟨x, hx, rfl⟩, h2⟩; exact ⟨x, hx, h2, rfl⟩
    · rintro ⟨x, hx, h2, rfl⟩; exact ⟨⟨x, hx, rfl⟩, h2⟩
  rcases run_next_at (P := P) w o.type r b since c0 seen _ _ hr hb (by
    intro x hx
    simp only [List.mem_map] at hx
    obtain ⟨y, hy, rfl⟩ := hx
    exact hold y hy) hsc with ⟨h0, hrun⟩ | ⟨e, he, w1, hw1, hrun⟩
  · simp [execOp, hop, hit, hrun, Result.andThen]
    refine hK' _ _ (hDone fun x hx => ?_)
    refine Classical.byContradiction fun hn => ?_
    have := (hleft (entryOf x)).2 ⟨x, hx, hn, rfl⟩
    rw [Array.eq_empty_of_size_eq_zero h0] at this
    cases this
  · obtain ⟨x, hx, hns, rfl⟩ := (hleft e).1 he
    simp [execOp, hop, hit, hrun, Result.andThen]
    rcases hw1 with rfl | rfl
    · exact hK' _ _ (hMore x hx hns 0)
    · exact hK' _ _ (hMore x hx hns 1)
theorem run_entry_g {P : Program} {w : World} {r b since : Nat} {seen : Array Nat} {m : GMap} {x : Key × Value × Nat} (hr : w.heap[r]? = some (.mapIter (some b) since (seen.push x.2.2) m.clk)) (hb : w.heap[b]? = some m.obj) (hx : x ∈ m.es) (hg : m.Good) :
    (Instr.entry (.pointer (some ⟨r, 0, none⟩))).run P w = .ok (.tuple #[x.1.val, x.2.1]) w := by
  have := run_entry_at (P := P) w r b since seen _ _ (entryOf x) hr hb (by simpa using List.mem_map_of_mem (f := entryOf) hx) (by
    have := hg.births
    simpa [kb, List.map_map, Function.comp_def, entryOf] using this)
  exact this
end Go.Proofs.YtggdedihfhibfaaGreatDoor
/- The file system's objects in a world: what each holds, by a model that has the same parts. -/
namespace Go.Proofs.YtggdedihfhibfaaGreatDoor
open Go.RowKit
set_option linter.unusedVariables false
set_option linter.unusedSimpArgs false

/-- a node: its names, its users, its kind, its size, its parts' blocks -/
structure Nd where
  names : Int
  users : Int
  kind : Int
  size : Int
  parts : GMap
/-- a directory: its names, its parent -/
structure Dr where
  names : GMap
  parent : Int
structure Fs where
  nodes : List (Option Nd)
  bs : List (Bool × List UInt8)
  free : Int
  dirs : List (Int × Dr × Nat)
  clk : Nat
inductive FId where
  | F | T | G | S | B | D
  | N (i : Nat)
  | P (i : Nat)
  | E (i : Int)
  | M (i : Int)
  deriving DecidableEq
/-- the place of the node i -/
def slotOf (i : Int) : Nat := (i - 1).toNat
theorem slotOf_eq (k : Nat) : slotOf ((k : Int) + 1) = k := by unfold slotOf; omega
def ptrTo (b : Nat) : Value := .pointer (some ⟨b, 0, none⟩)
def byteV (b : UInt8) : Value := .int .u8 b.toNat
def blockV (b : Bool × List UInt8) : List Value := .bool b.1 :: b.2.map byteV
def dirE (i : Int) : List (Int × Dr × Nat) → Option Dr
  | [] => none
  | e :: l => if e.1 = i then some e.2.1 else dirE i l
/-- the node i (the first one is 1) -/
def Fs.nd (s : Fs) (i : Int) : Option Nd := if i < 1 then none else (s.nodes[slotOf i]?).join
def Fs.dr (s : Fs) (i : Int) : Option Dr := dirE i s.dirs
def Fs.dmap (s : Fs) (lay : FId → Nat) : GMap := ⟨s.dirs.map fun e => (.int e.1, ptrTo (lay (.E e.1)), e.2.2), s.clk⟩
def ndV (lay : FId → Nat) (i : Nat) (x : Nd) : Array Value := #[.int .i64 x.names, .int .i64 x.users, .int .i64 x.kind, .int .i64 x.size, .map (some (lay (.P i)))]
def Fs.obj (s : Fs) (lay : FId → Nat) : FId → Option Obj
  | .F => some (.cells #[ptrTo (lay .T), .map (some (lay .D))] 99 (0, 0))
  | .T => some (.cells #[.slice (some ⟨lay .G, 0, none⟩) s.nodes.length s.nodes.length, ptrTo (lay .S)] 208 (0, 0))
  | .G => some (.cells (s.nodes.mapIdx fun i o => match o with | some _ => ptrTo (lay (.N i)) | none => .pointer none).toArray 185 (0, 0))
  | .S => some (.cells #[.slice (some ⟨lay .B, 0, none⟩) s.bs.length s.bs.length, .int .i64 s.free] 234 (0, 0))
  | .B => some (.cells (s.bs.flatMap blockV).toArray 240 (0, 0))
  | .D => some (s.dmap lay).obj
  | .N i => match s.nodes[i]? with
    | some (some x) => some (.cells (ndV lay i x) 191 (0, 0))
    | _ => none
  | .P i => match s.nodes[i]? with
    | some (some x) => some x.parts.obj
    | _ => none
  | .E i => match s.dr i with
    | some d => some (.cells #[.map (some (lay (.M i))), .int .i64 d.parent] 95 (0, 0))
    | none => none
  | .M i => match s.dr i with
    | some d => some d.names.obj
    | none => none
/-- a node's parts: part numbers to block numbers -/
structure PartsOk (m : GMap) : Prop where
  good : m.Good
  ints : ∀ e ∈ m.es, ∃ p b, e.1 = .int p ∧ e.2.1 = .int .i64 b
/-- a directory's names: texts to node numbers -/
structure NamesOk (m : GMap) : Prop where
  good : m.Good
  ints : ∀ e ∈ m.es, ∃ t b, e.1 = .str t ∧ e.2.1 = .int .i64 b
theorem PartsOk.of {m : GMap} (h : PartsOk m) : m.Of (.int .i64) := fun e he => by obtain ⟨p, b, h1, _⟩ := h.ints e he; rw [h1]; rfl
theorem NamesOk.of {m : GMap} (h : NamesOk m) : m.Of .string := fun e he => by obtain ⟨p, b, h1, _⟩ := h.ints e he; rw [h1]; rfl
/-- what holds of every such model -/
structure Fs.Ok (s : Fs) : Prop where
  nodes : s.nodes.length ≤ 1024
  blocks : s.bs.length ≤ 4096
  bytes : ∀ b ∈ s.bs, b.2.length = 64
  parts : ∀ x, some x ∈ s.nodes → PartsOk x.parts
  names : ∀ e ∈ s.dirs, NamesOk e.2.1.names
  dirs : GoodE (s.dirs.map fun e => (.int e.1, e.2.2)) s.clk
structure FsIs (s : Fs) (lay : FId → Nat) (w : World) : Prop where
  lies : Lies (s.obj lay) lay w
  ok : s.Ok
section
variable {s : Fs} {lay : FId → Nat} {w w' : World}
theorem Fs.nd_slot {i : Int} {x : Nd} (h : s.nd i = some x) : 1 ≤ i ∧ i ≤ s.nodes.length ∧ s.nodes[slotOf i]? = some (some x) := by
  unfold Fs.nd at h
  by_cases h1 : i < 1
  · rw [if_pos h1] at h; cases h
  · rw [if_neg h1] at h
    cases ho : s.nodes[slotOf i]? with
    | none => rw [ho] at h; cases h
    | some o =>
      rw [ho] at h
      have h' : o = some x := h
      have := (List.getElem?_eq_some_iff.1 ho).1
      unfold slotOf at this
      exact ⟨by omega, by omega, by rw [h']⟩
theorem Fs.nd_none {i : Int} (h : s.nd i = none) (h1 : 1 ≤ i) (h2 : i ≤ s.nodes.length) : s.nodes[slotOf i]? = some none := by
  unfold Fs.nd at h
  rw [if_neg (by omega)] at h
  cases ho : s.nodes[slotOf i]? with
  | none => rw [List.getElem?_eq_none_iff] at ho; unfold slotOf at ho; omega
  | some o => rw [ho] at h; have h' : o = none := h; rw [h']
theorem FsIs.f0 (h : FsIs s lay w) : w.cell? ⟨lay .F, 0, none⟩ = some (ptrTo (lay .T)) := h.lies.cell (i := .F) rfl rfl
theorem FsIs.f1 (h : FsIs s lay w) : w.cell? ⟨lay .F, 1, none⟩ = some (.map (some (lay .D))) := h.lies.cell (i := .F) rfl rfl
theorem FsIs.t0 (h : FsIs s lay w) : w.cell? ⟨lay .T, 0, none⟩ = some (.slice (some ⟨lay .G, 0, none⟩) s.nodes.length s.nodes.length) := h.lies.cell (i := .T) rfl rfl
theorem FsIs.t1 (h : FsIs s lay w) : w.cell? ⟨lay .T, 1, none⟩ = some (ptrTo (lay .S)) := h.lies.cell (i := .T) rfl rfl
theorem FsIs.s0 (h : FsIs s lay w) : w.cell? ⟨lay .S, 0, none⟩ = some (.slice (some ⟨lay .B, 0, none⟩) s.bs.length s.bs.length) := h.lies.cell (i := .S) rfl rfl
theorem FsIs.s1 (h : FsIs s lay w) : w.cell? ⟨lay .S, 1, none⟩ = some (.int .i64 s.free) := h.lies.cell (i := .S) rfl rfl
theorem FsIs.g (h : FsIs s lay w) {i : Int} {x : Nd} (hn : s.nd i = some x) : w.cell? ⟨lay .G, slotOf i, none⟩ = some (ptrTo (lay (.N (slotOf i)))) := by
  obtain ⟨h1, h2, h3⟩ := Fs.nd_slot hn
  exact h.lies.cell (i := .G) rfl (by rw [List.getElem?_toArray, List.getElem?_mapIdx, h3]; rfl)
theorem FsIs.gN (h : FsIs s lay w) {k : Nat} {x : Nd} (hn : s.nodes[k]? = some (some x)) : w.cell? ⟨lay .G, k, none⟩ = some (ptrTo (lay (.N k))) :=
  h.lies.cell (i := .G) rfl (by rw [List.getElem?_toArray, List.getElem?_mapIdx, hn]; rfl)
theorem FsIs.g0 (h : FsIs s lay w) {i : Nat} (hn : s.nodes[i]? = some none) : w.cell? ⟨lay .G, i, none⟩ = some (.pointer none) :=
  h.lies.cell (i := .G) rfl (by rw [List.getElem?_toArray, List.getElem?_mapIdx, hn]; rfl)
theorem Fs.obj_n {i : Nat} {x : Nd} (h : s.nodes[i]? = some (some x)) : s.obj lay (.N i) = some (.cells (ndV lay i x) 191 (0, 0)) ∧ s.obj lay (.P i) = some x.parts.obj := by
  simp [Fs.obj, h]
theorem FsIs.n (h : FsIs s lay w) {i : Nat} {x : Nd} (hn : s.nodes[i]? = some (some x)) {k : Nat} {v : Value} (hk : (ndV lay i x)[k]? = some v) : w.cell? ⟨lay (.N i), k, none⟩ = some v :=
  h.lies.cell (Fs.obj_n hn).1 hk
theorem FsIs.n0 (h : FsIs s lay w) {i : Nat} {x : Nd} (hn : s.nodes[i]? = some (some x)) : w.cell? ⟨lay (.N i), 0, none⟩ = some (.int .i64 x.names) := h.n hn rfl
theorem FsIs.n1 (h : FsIs s lay w) {i : Nat} {x : Nd} (hn : s.nodes[i]? = some (some x)) : w.cell? ⟨lay (.N i), 1, none⟩ = some (.int .i64 x.users) := h.n hn rfl
theorem FsIs.n2 (h : FsIs s lay w) {i : Nat} {x : Nd} (hn : s.nodes[i]? = some (some x)) : w.cell? ⟨lay (.N i), 2, none⟩ = some (.int .i64 x.kind) := h.n hn rfl
theorem FsIs.n3 (h : FsIs s lay w) {i : Nat} {x : Nd} (hn : s.nodes[i]? = some (some x)) : w.cell? ⟨lay (.N i), 3, none⟩ = some (.int .i64 x.size) := h.n hn rfl
theorem FsIs.n4 (h : FsIs s lay w) {i : Nat} {x : Nd} (hn : s.nodes[i]? = some (some x)) : w.cell? ⟨lay (.N i), 4, none⟩ = some (.map (some (lay (.P i)))) := h.n hn rfl
theorem FsIs.nf (h : FsIs s lay w) {i : Nat} {x : Nd} (hn : s.nodes[i]? = some (some x)) (k : Nat) : w.frozen? ⟨lay (.N i), k, none⟩ = false := h.lies.fz (Fs.obj_n hn).1 k
theorem FsIs.drewN (h : FsIs s lay w) (n : Nat) : FsIs s lay (w.drewN n) := ⟨h.lies.drewN n, h.ok⟩
theorem FsIs.alloc (h : FsIs s lay w) (o : Obj) : FsIs s lay (w.alloc o) := ⟨h.lies.alloc o, h.ok⟩
end

/-! ### nodes -/
theorem at_some {s lay} (i : Int) (x : Nd) (w : World) (h : FsIs s lay w) (hn : s.nd i = some x) : Calls Tryz.prog 112 #[ptrTo (lay .T), .int .i64 i] w fun e w' => e = .returned (ptrTo (lay (.N (slotOf i)))) ∧ w = w' := by
  obtain ⟨h1, h2, h3⟩ := Fs.nd_slot hn
  have c1 := h.t0
  have c2 := h.g hn
  have hl := h.ok.nodes
  obtain ⟨k, rfl⟩ : ∃ k : Nat, i = k + 1 := ⟨(i - 1).toNat, by omega⟩
  have hk := slotOf_eq k
  rw [hk] at c2 ⊢
  have hk2 : k < s.nodes.length := by omega
  unfold ptrTo at *
  clear h hn h3
  go_enter Tryz.func112, Tryz.ntmps112
  go_wp2
  go_ret
  exact ⟨rfl, rfl⟩
theorem at_none {s lay} (i : Int) (w : World) (h : FsIs s lay w) (hn : s.nd i = none) : Calls Tryz.prog 112 #[ptrTo (lay .T), .int .i64 i] w fun e w' => e = .returned (.pointer none) ∧ w = w' := by
  have c1 := h.t0
  have hl := h.ok.nodes
  unfold ptrTo at *
  by_cases h1 : i < 1
  · clear h hn
    go_enter Tryz.func112, Tryz.ntmps112
    go_wp2
    go_ret
    exact ⟨rfl, rfl⟩
  · by_cases h2 : (s.nodes.length : Int) < i
    · have h0 : (1 : Int) ≤ i := by omega
      clear h hn
      go_enter Tryz.func112, Tryz.ntmps112
      go_wp2
      go_ret
      exact ⟨rfl, rfl⟩
    · have h3 := Fs.nd_none hn (by omega) (by omega)
      obtain ⟨k, rfl⟩ : ∃ k : Nat, i = k + 1 := ⟨(i - 1).toNat, by omega⟩
      have hk := slotOf_eq k
      rw [hk] at h3
      have c2 := h.g0 h3
      have hk2 : k < s.nodes.length := by omega
      clear h hn h3
      go_enter Tryz.func112, Tryz.ntmps112
      go_wp2
      go_ret
      exact ⟨rfl, rfl⟩
/-- a field of a node, or nought -/
def Fs.fld (s : Fs) (f : Nd → Int) (i : Int) : Int := match s.nd i with
  | some x => f x
  | none => 0
theorem find_some {s lay} (i : Int) (x : Nd) (w : World) (h : FsIs s lay w) (hn : s.nd i = some x) : Calls Tryz.prog 126 #[ptrTo (lay .T), .int .i64 i] w fun e w' => e = .returned (.tuple #[ptrTo (lay (.N (slotOf i))), .int .i64 0]) ∧ w = w' := by
  go_enter Tryz.func126, Tryz.ntmps126
  unfold ptrTo
  go_wp2_with (go_at_call 112; refine (at_some i x w h hn).mono ?_; rintro e w' ⟨rfl, rfl⟩; unfold ptrTo)
  go_ret2
  exact ⟨rfl, rfl⟩
theorem find_none {s lay} (i : Int) (w : World) (h : FsIs s lay w) (hn : s.nd i = none) : Calls Tryz.prog 126 #[ptrTo (lay .T), .int .i64 i] w fun e w' => e = .returned (.tuple #[.pointer none, .int .i64 23]) ∧ w = w' := by
  go_enter Tryz.func126, Tryz.ntmps126
  unfold ptrTo
  go_wp2_with (go_at_call 112; refine (at_none i w h hn).mono ?_; rintro e w' ⟨rfl, rfl⟩)
  go_ret2
  exact ⟨rfl, rfl⟩
theorem kind_any {s lay} (i : Int) (w : World) (h : FsIs s lay w) : Calls Tryz.prog 65 #[ptrTo (lay .T), .int .i64 i] w fun e w' => e = .returned (.int .i64 (s.fld Nd.kind i)) ∧ w = w' := by
  cases hn : s.nd i with
  | none =>
    have hf : s.fld Nd.kind i = 0 := by unfold Fs.fld; rw [hn]
    rw [hf]
    go_enter Tryz.func65, Tryz.ntmps65
    unfold ptrTo
    go_wp2_with (go_at_call 112; refine (at_none i w h hn).mono ?_; rintro e w' ⟨rfl, rfl⟩)
    go_ret
    exact ⟨rfl, rfl⟩
  | some x =>
    have hf : s.fld Nd.kind i = x.kind := by unfold Fs.fld; rw [hn]
    rw [hf]
    have c3 := h.n2 (Fs.nd_slot hn).2.2
    go_enter Tryz.func65, Tryz.ntmps65
    unfold ptrTo
    go_wp2_with (go_at_call 112; refine (at_some i x w h hn).mono ?_; rintro e w' ⟨rfl, rfl⟩; unfold ptrTo)
    go_ret
    exact ⟨rfl, rfl⟩
theorem size_any {s lay} (i : Int) (w : World) (h : FsIs s lay w) : Calls Tryz.prog 69 #[ptrTo (lay .T), .int .i64 i] w fun e w' => e = .returned (.int .i64 (s.fld Nd.size i)) ∧ w = w' := by
  cases hn : s.nd i with
  | none =>
    have hf : s.fld Nd.size i = 0 := by unfold Fs.fld; rw [hn]
    rw [hf]
    go_enter Tryz.func69, Tryz.ntmps69
    unfold ptrTo
    go_wp2_with (go_at_call 112; refine (at_none i w h hn).mono ?_; rintro e w' ⟨rfl, rfl⟩)
    go_ret
    exact ⟨rfl, rfl⟩
  | some x =>
    have hf : s.fld Nd.size i = x.size := by unfold Fs.fld; rw [hn]
    rw [hf]
    have c3 := h.n3 (Fs.nd_slot hn).2.2
    go_enter Tryz.func69, Tryz.ntmps69
    unfold ptrTo
    go_wp2_with (go_at_call 112; refine (at_some i x w h hn).mono ?_; rintro e w' ⟨rfl, rfl⟩; unfold ptrTo)
    go_ret
    exact ⟨rfl, rfl⟩
theorem links_any {s lay} (i : Int) (w : World) (h : FsIs s lay w) : Calls Tryz.prog 132 #[ptrTo (lay .T), .int .i64 i] w fun e w' => e = .returned (.int .i64 (s.fld Nd.names i)) ∧ w = w' := by
  cases hn : s.nd i with
  | none =>
    have hf : s.fld Nd.names i = 0 := by unfold Fs.fld; rw [hn]
    rw [hf]
    go_enter Tryz.func132, Tryz.ntmps132
    unfold ptrTo
    go_wp2_with (go_at_call 112; refine (at_none i w h hn).mono ?_; rintro e w' ⟨rfl, rfl⟩)
    go_ret
    exact ⟨rfl, rfl⟩
  | some x =>
    have hf : s.fld Nd.names i = x.names := by unfold Fs.fld; rw [hn]
    rw [hf]
    have c3 := h.n0 (Fs.nd_slot hn).2.2
    go_enter Tryz.func132, Tryz.ntmps132
    unfold ptrTo
    go_wp2_with (go_at_call 112; refine (at_some i x w h hn).mono ?_; rintro e w' ⟨rfl, rfl⟩; unfold ptrTo)
    go_ret
    exact ⟨rfl, rfl⟩
end Go.Proofs.YtggdedihfhibfaaGreatDoor
