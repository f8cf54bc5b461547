/- Texts of one proof, packed: Base, FsA, FsB, WgA, WgB, WgC, WgD, WgE, WgF, WgG -/
import Derived.Test.YtelohloaoocoaaaGreatDoorChecked
import Derived.WalkKit
import Derived.Deep.QuietTactic
import Derived.BigQuiet
import Derived.StillTailTactics
import Derived.Lib.Hide
import Derived.Deep.DeepFit
import Derived.Deep.DeepMust
import Derived.Deep.LoopGhost
import Derived.WalkSpells
import Derived.WalkLawsBesides
import Derived.Carry
import Derived.MapKept
import Derived.Maps.RangeRun
import Derived.IntWalk
import Derived.Sort.OwnSortedInts
set_option linter.unusedVariables false
set_option linter.unusedSimpArgs false
set_option linter.deprecated false
set_option linter.unnecessarySimpa false
/- Small laws on worlds that all texts of this seat use. -/
namespace Go.Proofs.YtelohloaoocoaaaGreatDoor
open Go.RowKit

@[go_sem] theorem str_cat (a b : List UInt8) : (ByteArray.mk a.toArray ++ ByteArray.mk b.toArray) = ⟨(a ++ b).toArray⟩ := by
  apply ByteArray.ext; simp
@[go_sem] theorem str_size (a : List UInt8) : (ByteArray.mk a.toArray).size = a.length := by simp [ByteArray.size]
@[go_sem low] theorem str_extract (l : List UInt8) (a b : Nat) : (ByteArray.mk l.toArray).extract a b = ⟨((l.drop a).take (b - a)).toArray⟩ := by
  apply ByteArray.ext
  simp [ByteArray.data_extract]
@[go_sem] theorem str_upto (l : List UInt8) (b : Nat) : (ByteArray.mk l.toArray).extract 0 b = ⟨(l.take b).toArray⟩ := by
  rw [str_extract]; simp
@[go_sem] theorem str_from (l : List UInt8) (a : Nat) : (ByteArray.mk l.toArray).extract a l.length = ⟨(l.drop a).toArray⟩ := by
  rw [str_extract, List.take_of_length_le (by simp)]
/-- the byte at a place, in the walk's own spelling -/
theorem str_at (l : List UInt8) (k : Nat) (h : k < l.length) : ∃ (c : UInt8) (h' : k < (ByteArray.mk l.toArray).size), (ByteArray.mk l.toArray)[k]'h' = c ∧ l[k]? = some c := by
  refine ⟨l[k], by rw [str_size]; exact h, ?_, by simp [h]⟩
  show l.toArray[k] = l[k]
  simp
theorem cs_same {w : World} {a : Addr} {u v : Value} (h : w.cell? a = some u) : (w.setCell a v).cell? a = some v := World.cell?_setCell_same _ _ _ h
theorem cs_other {w : World} {a b : Addr} {v : Value} (h : a ≠ b) : (w.setCell a v).cell? b = w.cell? b := World.cell?_setCell_other _ _ _ _ h
theorem fz_set {w : World} {a b : Addr} {v : Value} : (w.setCell a v).frozen? b = w.frozen? b := World.frozen?_setCell ..
theorem grown_set {w w' : World} {b : Nat} (h : w.grownBy w' (some b)) (a : Addr) (ha : a.block = b) (v : Value) : w.grownBy (w'.setCell a v) (some b) :=
  ⟨h.os, h.tape, h.output, by simpa [World.setCell] using h.size, fun k hk hne => by
    rw [Below.heap_setCell _ _ _ _ (by rintro rfl; exact hne (by rw [ha]))]; exact h.block k hk hne⟩
theorem grown_at {w w' : World} {b o : Nat} {s : Option Nat} {v : Value} (h : w.grownBy w' (some b)) : w.grownBy (w'.setCell ⟨b, o, s⟩ v) (some b) := grown_set h _ rfl _
theorem grown_drew {w w' : World} {r : Option Nat} (h : w.grownBy w' r) : w.grownBy w'.drew r := ⟨h.os, h.tape, h.output, h.size, h.block⟩
theorem grown_trans {a b c : World} {r : Option Nat} (h : a.grownBy b r) (k : b.grownBy c r) : a.grownBy c r :=
  ⟨k.os.trans h.os, k.tape.trans h.tape, k.output.trans h.output, Nat.le_trans h.size k.size, fun i hi hne => (k.block i (Nat.lt_of_lt_of_le hi h.size) hne).trans (h.block i hi hne)⟩
theorem grown_below {a b c : World} {r : Option Nat} (h : a.grownBy b r) (k : Below b.heap.size b c) : a.grownBy c r :=
  ⟨k.os.trans h.os, k.tape.trans h.tape, k.output.trans h.output, Nat.le_trans h.size k.size, fun i hi hne => (k.block i (Nat.lt_of_lt_of_le hi h.size)).trans (h.block i hi hne)⟩
theorem grown_alloc {a w : World} {r : Option Nat} (h : a.grownBy w r) (o : Obj) : a.grownBy (w.alloc o) r :=
  grown_trans h ⟨rfl, rfl, rfl, by simp, fun k hk _ => Below.heap_alloc _ _ _ hk⟩
/-- a store into a block that is new -/
theorem grown_setnew {w w' : World} {r : Option Nat} (h : w.grownBy w' r) (a : Addr) (ha : w.heap.size ≤ a.block) (v : Value) : w.grownBy (w'.setCell a v) r :=
  ⟨h.os, h.tape, h.output, by simpa [World.setCell] using h.size, fun k hk hne => by
    rw [Below.heap_setCell _ _ _ _ (by omega)]; exact h.block k hk hne⟩
theorem grown_some {w w' : World} (h : w.grownBy w' none) (b : Nat) : w.grownBy w' (some b) := ⟨h.os, h.tape, h.output, h.size, fun k hk _ => h.block k hk (by simp)⟩
theorem below_of_grown {w w' : World} (h : w.grownBy w' none) : Below w.heap.size w w' := ⟨h.os, h.tape, h.output, h.size, fun k hk => h.block k hk (by simp)⟩
theorem cs_block {w : World} {a b : Addr} {v : Value} (h : a.block ≠ b.block) : (w.setCell a v).cell? b = w.cell? b := cs_other (fun e => h (by rw [e]))
theorem ret_int {k : IntKind} {a b : Int} (h : a = b) : Ending.returned (.int k a) = .returned (.int k b) := by rw [h]
theorem ret_bool {a b : Bool} (h : a = b) : Ending.returned (.bool a) = .returned (.bool b) := by rw [h]
theorem ret_int_v {k : IntKind} {a b : Int} {v : Value} (h : a = b) : Ending.returned (.tuple #[.int k a, v]) = .returned (.tuple #[.int k b, v]) := by rw [h]
theorem bcell {W w1 : World} (hb : Below W.heap.size W w1) : (∀ b o, b < W.heap.size → w1.cell? ⟨b, o, none⟩ = W.cell? ⟨b, o, none⟩) ∧ (∀ b o, b < W.heap.size → w1.frozen? ⟨b, o, none⟩ = W.frozen? ⟨b, o, none⟩) :=
  ⟨fun b o h => hb.cell (p := ⟨b, o, none⟩) h, fun b o h => hb.frozen (p := ⟨b, o, none⟩) h⟩
theorem keep_cell {w w' : World} {a : Addr} {v : Value} (h : w.cell? a = some v) (hb : Below w.heap.size w w') : w'.cell? a = some v :=
  (hb.cell (World.block_lt_of_cell? w a h)).trans h
/-- a slice of strings -/
structure Strs (W : World) (v : Value) (L : List (List UInt8)) : Prop where
  len : L.length ≤ maxLen
  shape : ∃ a cap, v = .slice a L.length cap ∧ L.length ≤ cap ∧ (0 < L.length → ∃ b off, a = some ⟨b, off, none⟩ ∧ b < W.heap.size ∧
    ∀ (i : Nat) (x : List UInt8), L[i]? = some x → W.cell? ⟨b, off + i, none⟩ = some (.string ⟨x.toArray⟩))
  ok : ∀ (i : Nat) (x : List UInt8), L[i]? = some x → x.length ≤ maxLen
theorem Strs.below {w w' : World} {v : Value} {L} (h : Strs w v L) (hb : Below w.heap.size w w') : Strs w' v L := by
  obtain ⟨a, cap, h1, h2, h3⟩ := h.shape
  refine ⟨h.len, ⟨a, cap, h1, h2, fun hp => ?_⟩, h.ok⟩
  obtain ⟨b, off, e1, e2, e3⟩ := h3 hp
  exact ⟨b, off, e1, Nat.lt_of_lt_of_le e2 hb.size, fun i x hx => keep_cell (e3 i x hx) hb⟩
end Go.Proofs.YtelohloaoocoaaaGreatDoor
/- Objects of the heap that belong together: which lies where, and what stays as it was. No program's text. -/
namespace Go.Proofs.YtelohloaoocoaaaGreatDoor
open Go.RowKit
set_option linter.unusedVariables false
set_option linter.unusedSimpArgs false

/-- what is kept: all that was, but for the blocks of S -/
structure Turned (S : Nat → Prop) (w w' : World) : Prop where
  os : w'.os = w.os
  tape : w'.tape = w.tape
  output : w'.output = w.output
  size : w.heap.size ≤ w'.heap.size
  block : ∀ k, k < w.heap.size → ¬ S k → w'.heap[k]? = w.heap[k]?
section
variable {S S' : Nat → Prop} {w w1 w2 : World}
theorem Turned.refl (S : Nat → Prop) (w : World) : Turned S w w := ⟨rfl, rfl, rfl, Nat.le_refl _, fun _ _ _ => rfl⟩
theorem Turned.trans (h : Turned S w w1) (k : Turned S' w1 w2) (hs : ∀ b, S' b → b < w.heap.size → S b) : Turned S w w2 :=
  ⟨k.os.trans h.os, k.tape.trans h.tape, k.output.trans h.output, Nat.le_trans h.size k.size, fun b hb hn =>
    (k.block b (Nat.lt_of_lt_of_le hb h.size) (fun hS => hn (hs b hS hb))).trans (h.block b hb hn)⟩
theorem Turned.mono (h : Turned S w w1) (hs : ∀ b, S b → b < w.heap.size → S' b) : Turned S' w w1 :=
  ⟨h.os, h.tape, h.output, h.size, fun b hb hn => h.block b hb (fun q => hn (hs b q hb))⟩
theorem Turned.below (h : Turned S w w1) (hs : ∀ b, S b → w.heap.size ≤ b) : Below w.heap.size w w1 :=
  ⟨h.os, h.tape, h.output, h.size, fun b hb => h.block b hb (fun q => by have := hs b q; omega)⟩
theorem Turned.of_below (h : Below w.heap.size w w1) : Turned S w w1 := ⟨h.os, h.tape, h.output, h.size, fun b hb _ => h.block b hb⟩
theorem Turned.set (h : Turned S w w1) (a : Addr) (v : Value) (hs : a.block < w.heap.size → S a.block) : Turned S w (w1.setCell a v) :=
  ⟨h.os, h.tape, h.output, by simpa [World.setCell] using h.size, fun b hb hn => by
    rw [Below.heap_setCell _ _ _ _ (by rintro rfl; exact hn (hs hb))]; exact h.block b hb hn⟩
theorem Turned.alloc (h : Turned S w w1) (o : Obj) : Turned S w (w1.alloc o) :=
  ⟨h.os, h.tape, h.output, by have := h.size; simp; omega, fun b hb hn => by
    rw [Below.heap_alloc _ _ _ (Nat.lt_of_lt_of_le hb h.size)]; exact h.block b hb hn⟩
theorem Turned.drew (h : Turned S w w1) : Turned S w w1.drew := ⟨h.os, h.tape, h.output, h.size, h.block⟩
theorem Turned.drewN (h : Turned S w w1) (n : Nat) : Turned S w (w1.drewN n) := ⟨h.os, h.tape, h.output, h.size, h.block⟩
theorem Turned.put (h : Turned S w w1) (r : Nat) (o : Obj) (hs : r < w.heap.size → S r) : Turned S w { w1 with heap := w1.heap.setIfInBounds r o } :=
  ⟨h.os, h.tape, h.output, by simpa using h.size, fun b hb hn => by
    show (w1.heap.setIfInBounds r o)[b]? = _
    rw [Array.getElem?_setIfInBounds, if_neg (by rintro rfl; exact hn (hs hb))]; exact h.block b hb hn⟩
end

/-- objects by their names: which lies where -/
structure Lies {I : Type} (c : I → Option Obj) (lay : I → Nat) (w : World) : Prop where
  at_ : ∀ i o, c i = some o → w.heap[lay i]? = some o
  inj : ∀ i j, c i ≠ none → c j ≠ none → lay i = lay j → i = j
/-- the blocks -/
def Owns {I : Type} (c : I → Option Obj) (lay : I → Nat) (k : Nat) : Prop := ∃ i, c i ≠ none ∧ lay i = k
section
variable {I : Type} {c c' : I → Option Obj} {lay lay' : I → Nat} {w w' : World}
theorem Lies.lt (h : Lies c lay w) {i : I} {o : Obj} (hc : c i = some o) : lay i < w.heap.size := (Array.getElem?_eq_some_iff.1 (h.at_ i o hc)).1
theorem Lies.owns_lt (h : Lies c lay w) {k : Nat} (hk : Owns c lay k) : k < w.heap.size := by
  obtain ⟨i, hi, rfl⟩ := hk
  cases ho : c i with
  | none => exact absurd ho hi
  | some o => exact h.lt ho
theorem Lies.cell (h : Lies c lay w) {i : I} {cs : Array Value} {ty : TypeId} {fz : Nat × Nat} (hc : c i = some (.cells cs ty fz)) {k : Nat} {v : Value} (hk : cs[k]? = some v) : w.cell? ⟨lay i, k, none⟩ = some v := by
  simp [World.cell?, h.at_ i _ hc, hk]
theorem Lies.fz (h : Lies c lay w) {i : I} {cs : Array Value} {ty : TypeId} (hc : c i = some (.cells cs ty (0, 0))) (k : Nat) : w.frozen? ⟨lay i, k, none⟩ = false := by
  simp [World.frozen?, h.at_ i _ hc]
theorem Lies.ne (h : Lies c lay w) {i j : I} {o p : Obj} (hi : c i = some o) (hj : c j = some p) (hne : i ≠ j) : lay i ≠ lay j := fun e => hne (h.inj i j (by rw [hi]; simp) (by rw [hj]; simp) e)
/-- what is the same in other words -/
theorem Lies.congr (h : Lies c lay w) (hc : ∀ i, c' i = c i) : Lies c' lay w := by
  obtain rfl : c' = c := funext hc
  exact h
theorem Lies.kept (h : Lies c lay w) (hk : ∀ i, c i ≠ none → w'.heap[lay i]? = w.heap[lay i]?) : Lies c lay w' :=
  ⟨fun i o hc => (hk i (by rw [hc]; simp)).trans (h.at_ i o hc), h.inj⟩
theorem Lies.turned {S : Nat → Prop} (h : Lies c lay w) (ht : Turned S w w') (hS : ∀ k, Owns c lay k → ¬ S k) : Lies c lay w' :=
  h.kept fun i hi => ht.block _ (h.owns_lt ⟨i, hi, rfl⟩) (hS _ ⟨i, hi, rfl⟩)
theorem Lies.alloc (h : Lies c lay w) (o : Obj) : Lies c lay (w.alloc o) := h.kept fun i hi => Below.heap_alloc _ _ _ (h.owns_lt ⟨i, hi, rfl⟩)
theorem Lies.drew (h : Lies c lay w) : Lies c lay w.drew := ⟨h.at_, h.inj⟩
theorem Lies.drewN (h : Lies c lay w) (n : Nat) : Lies c lay (w.drewN n) := ⟨h.at_, h.inj⟩
/-- a cell is written -/
theorem Lies.set [DecidableEq I] (h : Lies c lay w) {i : I} {cs : Array Value} {ty : TypeId} {fz : Nat × Nat} (hc : c i = some (.cells cs ty fz)) (k : Nat) (v : Value) (hc' : ∀ j, c' j = if j = i then some (.cells (cs.setIfInBounds k v) ty fz) else c j) :
    Lies c' lay (w.setCell ⟨lay i, k, none⟩ v) := by
  have hlive : ∀ j, c' j ≠ none → c j ≠ none := fun j hj => by
    by_cases e : j = i
    · rw [e, hc]; simp
    · rw [hc', if_neg e] at hj; exact hj
  refine ⟨fun j o hj => ?_, fun j l hj hl e => h.inj j l (hlive j hj) (hlive l hl) e⟩
  by_cases e : j = i
  · subst e
    rw [hc', if_pos rfl] at hj
    cases hj
    have := h.at_ j _ hc
    simp [World.setCell, Array.getElem?_modify, this]
  · have hj' : c j = some o := by rw [hc', if_neg e] at hj; exact hj
    rw [Below.heap_setCell _ _ _ _ (fun q => e (h.inj j i (by rw [hj']; simp) (by rw [hc]; simp) q))]
    exact h.at_ j o hj'
/-- an object is put in the place of another one -/
theorem Lies.put [DecidableEq I] (h : Lies c lay w) {i : I} {o o' : Obj} (hc : c i = some o) (hc' : ∀ j, c' j = if j = i then some o' else c j) : Lies c' lay { w with heap := w.heap.setIfInBounds (lay i) o' } := by
  have hlive : ∀ j, c' j ≠ none → c j ≠ none := fun j hj => by
    by_cases e : j = i
    · rw [e, hc]; simp
    · rw [hc', if_neg e] at hj; exact hj
  refine ⟨fun j p hj => ?_, fun j l hj hl e => h.inj j l (hlive j hj) (hlive l hl) e⟩
  show (w.heap.setIfInBounds (lay i) o')[lay j]? = _
  rw [Array.getElem?_setIfInBounds]
  by_cases e : j = i
  · subst e
    rw [hc', if_pos rfl] at hj
    cases hj
    rw [if_pos rfl, if_pos (h.lt hc)]
  · have hj' : c j = some p := by rw [hc', if_neg e] at hj; exact hj
    rw [if_neg (fun q => e (h.inj j i (by rw [hj']; simp) (by rw [hc]; simp) q.symm))]
    exact h.at_ j p hj'
/-- an object is new -/
theorem Lies.new [DecidableEq I] (h : Lies c lay w) (i : I) (o : Obj) (hc' : ∀ j, c' j = if j = i then some o else c j) (hl : ∀ j, lay' j = if j = i then w.heap.size else lay j) : Lies c' lay' (w.alloc o) := by
  have hold : ∀ j, j ≠ i → c' j = c j ∧ lay' j = lay j := fun j e => ⟨by rw [hc', if_neg e], by rw [hl, if_neg e]⟩
  refine ⟨fun j p hj => ?_, fun j l hj hk e => ?_⟩
  · by_cases e : j = i
    · subst e
      rw [hc', if_pos rfl] at hj
      cases hj
      rw [hl, if_pos rfl]
      show (w.heap.push o)[w.heap.size]? = _
      simp
    · rw [(hold j e).1] at hj
      rw [(hold j e).2, Below.heap_alloc _ _ _ (h.lt hj)]
      exact h.at_ j p hj
  · by_cases e1 : j = i <;> by_cases e2 : l = i
    · rw [e1, e2]
    · exfalso
      rw [(hold l e2).1] at hk
      have := h.owns_lt ⟨l, hk, rfl⟩
      rw [e1, hl, if_pos rfl, (hold l e2).2] at e
      omega
    · exfalso
      rw [(hold j e1).1] at hj
      have := h.owns_lt ⟨j, hj, rfl⟩
      rw [e2, hl i, if_pos rfl, (hold j e1).2] at e
      omega
    · rw [(hold j e1).1] at hj
      rw [(hold l e2).1] at hk
      rw [(hold j e1).2, (hold l e2).2] at e
      exact h.inj j l hj hk e
/-- some objects are none any more -/
theorem Lies.less (h : Lies c lay w) (hc' : ∀ j o, c' j = some o → c j = some o) : Lies c' lay w :=
  ⟨fun j o hj => h.at_ j o (hc' j o hj), fun j l hj hl e => by
    cases h1 : c' j with
    | none => exact absurd h1 hj
    | some p => cases h2 : c' l with
      | none => exact absurd h2 hl
      | some q => exact h.inj j l (by rw [hc' j p h1]; simp) (by rw [hc' l q h2]; simp) e⟩
end
end Go.Proofs.YtelohloaoocoaaaGreatDoor
/- Maps by their entries: what a look-up, a store, a deletion come to. No program's text. -/
namespace Go.Proofs.YtelohloaoocoaaaGreatDoor
open Go.RowKit
set_option linter.unusedVariables false
set_option linter.unusedSimpArgs false

/-- a key of an integer or a string kind -/
inductive Key where
  | int (n : Int)
  | str (s : List UInt8)
  deriving DecidableEq
def Key.val : Key → Value
  | .int n => .int .i64 n
  | .str s => .string ⟨s.toArray⟩
def Key.sort : Key → TypeDesc
  | .int _ => .int .i64
  | .str _ => .string
/-- a map: its entries, each with the number of its birth, and the next number -/
structure GMap where
  es : List (Key × Value × Nat)
  clk : Nat
def entryOf (e : Key × Value × Nat) : MapEntry := { key := e.1.val, val := e.2.1, born := e.2.2 }
def GMap.obj (m : GMap) : Obj := .map (m.es.map entryOf).toArray m.clk
/-- all keys are of one kind -/
def GMap.Of (m : GMap) (d : TypeDesc) : Prop := ∀ e ∈ m.es, e.1.sort = d
def getE (k : Key) : List (Key × Value × Nat) → Option Value
  | [] => none
  | e :: l => if e.1 = k then some e.2.1 else getE k l
def setE (k : Key) (v : Value) (b : Nat) : List (Key × Value × Nat) → List (Key × Value × Nat)
  | [] => [(k, v, b)]
  | e :: l => if e.1 = k then (k, v, e.2.2) :: l else e :: setE k v b l
def delE (k : Key) : List (Key × Value × Nat) → List (Key × Value × Nat)
  | [] => []
  | e :: l => if e.1 = k then l else e :: delE k l
def GMap.get (m : GMap) (k : Key) : Option Value := getE k m.es
def GMap.put (m : GMap) (k : Key) (v : Value) : GMap := ⟨setE k v m.clk m.es, if (m.get k).isSome then m.clk else m.clk + 1⟩
def GMap.del (m : GMap) (k : Key) : GMap := ⟨delE k m.es, m.clk⟩
def GMap.empty : GMap := ⟨[], 0⟩
theorem GMap.empty_obj : GMap.empty.obj = .map #[] 0 := rfl

section
variable {P : Program} {w : World}
theorem str_beq2 (a b : List UInt8) : ((⟨a.toArray⟩ : ByteArray) == ⟨b.toArray⟩) = (a == b) := by
  rw [beq_toListBytes, ByteArray.toList_eq, ByteArray.toList_eq]
theorem same_key {k k' : Key} (h : k'.sort = k.sort) : Instr.sameNow k.sort k.val k'.val = some (decide (k' = k)) := by
  cases k <;> cases k' <;> simp [Key.sort] at h
  · rename_i a b
    simp only [Key.sort, Key.val, Instr.sameNow, if_pos, Key.int.injEq]
    by_cases e : b = a
    · simp [e]
    · simp [e, Ne.symm e]
  · rename_i a b
    simp only [Key.sort, Key.val, Instr.sameNow, Key.str.injEq]
    rw [str_beq2]
    by_cases e : b = a
    · simp [e]
    · simp [e, Ne.symm e]
/-- where a key stands -/
theorem find_at {k : Key} : ∀ (l : List (Key × Value × Nat)) (i : Nat), (∀ e ∈ l, e.1.sort = k.sort) → ∃ r, Instr.findNow k.sort k.val (l.map entryOf) i = some r ∧ r.map (·.2) = getE k l ∧
    (∀ j v, r = some (j, v) → i ≤ j ∧ ∃ e, l[j - i]? = some e ∧ e.1 = k ∧ e.2.1 = v ∧ (∀ v' b, setE k v' b l = l.set (j - i) (k, v', e.2.2)) ∧ delE k l = l.eraseIdx (j - i)) ∧ (r = none → (∀ v' b, setE k v' b l = l ++ [(k, v', b)]) ∧ delE k l = l)
  | [], i, _ => ⟨none, rfl, rfl, (fun j v h => by cases h), (fun _ => ⟨fun _ _ => rfl, rfl⟩)⟩
  | e :: l, i, h => by
    have hs := same_key (h e (by simp))
    have hcons : Instr.findNow k.sort k.val ((e :: l).map entryOf) i = match Instr.sameNow k.sort k.val e.1.val with
      | some true => some (some (i, e.2.1))
      | some false => Instr.findNow k.sort k.val (l.map entryOf) (i + 1)
      | none => none := rfl
    rw [hcons, hs]
    by_cases hk : e.1 = k
    · refine ⟨some (i, e.2.1), by simp [hk], by simp [getE, hk], fun j v hj => ?_, fun q => by cases q⟩
      cases hj
      refine ⟨Nat.le_refl _, e, by simp, hk, rfl, fun v' b => ?_, ?_⟩
      · simp [setE, hk]
      · simp [delE, hk]
    · obtain ⟨r, h1, h2, h3, h4⟩ := find_at l (i + 1) (fun x hx => h x (by simp [hx]))
      refine ⟨r, by simp [hk, h1], by simp [getE, hk, h2], fun j v hj => ?_, fun q => ?_⟩
      · obtain ⟨q1, e', q2, q3, q4, q5, q6⟩ := h3 j v hj
        have hji : j - i = (j - (i + 1)) + 1 := by omega
        refine ⟨by omega, e', by rw [hji]; simpa using q2, q3, q4, fun v' b => ?_, ?_⟩
        · rw [hji]; simp [setE, hk, q5]
        · rw [hji]; simp [delE, hk, q6]
      · obtain ⟨q1, q2⟩ := h4 q
        exact ⟨fun v' b => by simp [setE, hk, q1], by simp [delE, hk, q2]⟩
theorem key_checked {kt : TypeId} {k : Key} (hk : P.underlying kt = some k.sort) (b : Bool) : (Instr.checkKey b 10000 kt k.val).run P w = .ok () w := by
  cases k <;> exact (fun (n : Nat) => (by simp [Instr.checkKey, run_underlying hk, Key.sort, Key.val] : (Instr.checkKey b (n + 1) kt _).run P w = .ok () w)) 9999
theorem find_run {kt : TypeId} {d : TypeDesc} {u : Value} {es : List MapEntry} {r : Option (Nat × Value)} (hu : P.underlying kt = some d) (h : Instr.findNow d u es 0 = some r) : (Instr.findKey kt u es).run P w = .ok r w := by
  simp [Instr.findKey, run_underlying hu, h]
theorem map_got {r : Nat} {es : Array MapEntry} {c : Nat} (h : w.heap[r]? = some (.map es c)) : (Go.getObj r).run P w = .ok (.map es c) w := by
  simp [Go.getObj, Sem.run, h]
theorem map_laid {r : Nat} {es es' : Array MapEntry} {c c' : Nat} (h : w.heap[r]? = some (.map es c)) : (Go.setObj r (.map es' c')).run P w = .ok () { w with heap := w.heap.setIfInBounds r (.map es' c') } := by
  simp [Go.setObj, Sem.run, h]
theorem GMap.look {t kt et : TypeId} {k : Key} {m : GMap} {b : Nat} {z : Value} (ht : P.underlying t = some (.map kt et)) (hk : P.underlying kt = some k.sort) (hm : m.Of k.sort) (hb : w.heap[b]? = some m.obj) (hz : (zeroValue et).run P w = .ok z w) :
    (Instr.lookup t (.map (some b)) k.val false).run P w = .ok ((m.get k).getD z) w ∧ (Instr.lookup t (.map (some b)) k.val true).run P w = .ok (.tuple #[(m.get k).getD z, .bool (m.get k).isSome]) w := by
  obtain ⟨r, h1, h2, _⟩ := find_at m.es 0 (fun e he => hm e he)
  have hf := find_run (P := P) (w := w) hk h1
  have hg : (m.get k) = r.map (·.2) := h2.symm
  rw [hg]
  cases r with
  | none => exact ⟨by simp [Instr.lookup, run_underlying ht, map_got (P := P) hb, key_checked hk, hf, hz], by simp [Instr.lookup, run_underlying ht, map_got (P := P) hb, key_checked hk, hf, hz]⟩
  | some p => exact ⟨by simp [Instr.lookup, run_underlying ht, map_got (P := P) hb, key_checked hk, hf], by simp [Instr.lookup, run_underlying ht, map_got (P := P) hb, key_checked hk, hf]⟩
theorem eraseIdx_map2 {α β : Type} (f : α → β) : ∀ (l : List α) (i : Nat), (l.eraseIdx i).map f = (l.map f).eraseIdx i
  | [], _ => rfl
  | _ :: _, 0 => rfl
  | x :: l, i + 1 => by simp [eraseIdx_map2 f l i]
theorem keyStays2 (k : Key) : (Instr.keyThatStays k.val k.val).run P w = .ok k.val w := by
  have hb : ∀ n, Instr.sameBits n k.val k.val = true := fun n => by
    cases k <;> simp [Instr.sameBits, Key.val, str_beq2]
  simp [Instr.keyThatStays, hb]
/-- the map that a store leaves, and the world -/
theorem GMap.store {t kt et : TypeId} {k : Key} {m : GMap} {b : Nat} {v : Value} (ht : P.underlying t = some (.map kt et)) (hk : P.underlying kt = some k.sort) (hm : m.Of k.sort) (hb : w.heap[b]? = some m.obj) :
    (Instr.mapUpdate t (.map (some b)) k.val v).run P w = .ok () { w with heap := w.heap.setIfInBounds b (m.put k v).obj } := by
  obtain ⟨r, h1, h2, h3, h4⟩ := find_at m.es 0 (fun e he => hm e he)
  have hf := find_run (P := P) (w := w) hk h1
  have hg : m.get k = r.map (·.2) := h2.symm
  cases r with
  | none =>
    have hput : (m.put k v).obj = .map ((m.es.map entryOf).toArray.push { key := k.val, val := v, born := m.clk }) (m.clk + 1) := by
      unfold GMap.put GMap.obj
      rw [(h4 rfl).1, hg]
      simp [entryOf]
    rw [hput]
    simp [Instr.mapUpdate, run_underlying ht, map_got (P := P) hb, key_checked hk, hf, map_laid (P := P) hb]
  | some p =>
    obtain ⟨i, x⟩ := p
    obtain ⟨_, e, q1, q2, q3, q4, _⟩ := h3 i x rfl
    rw [Nat.sub_zero] at q1 q4
    have hput : (m.put k v).obj = .map ((m.es.map entryOf).toArray.modify i fun e => { e with key := k.val, val := v }) m.clk := by
      unfold GMap.put GMap.obj
      rw [q4, hg]
      simp only [Option.map_some, Option.isSome_some, if_true]
      congr 1
      apply Array.ext'
      simp only [Array.toList_modify, List.map_set]
      apply List.ext_getElem?
      intro j
      rw [List.getElem?_set, List.getElem?_modify]
      by_cases hij : i = j
      · subst hij
        have hlt : i < m.es.length := (List.getElem?_eq_some_iff.1 q1).1
        have hge : m.es[i] = e := (List.getElem?_eq_some_iff.1 q1).2
        simp [entryOf, hlt, hge]
      · simp [hij]
    rw [hput]
    have hkey : (((m.es.map entryOf).toArray[i]?).map (·.key)).getD k.val = k.val := by
      simp [q1, entryOf, q2]
    simp [Instr.mapUpdate, run_underlying ht, map_got (P := P) hb, key_checked hk, hf, map_laid (P := P) hb]
    simp only [List.getElem?_toArray, List.getElem?_map, Option.map_map] at hkey
    rw [hkey, keyStays2]
    simp [map_laid (P := P) hb]
theorem GMap.drop {t kt et ty : TypeId} {k : Key} {m : GMap} {b : Nat} {ts : Array TypeId} (hts : ts[0]? = some t) (ht : P.underlying t = some (.map kt et)) (hk : P.underlying kt = some k.sort) (hm : m.Of k.sort) (hb : w.heap[b]? = some m.obj) :
    (Builtin.delete_ ts ty #[.map (some b), k.val]).run P w = .ok (.tuple #[]) { w with heap := w.heap.setIfInBounds b (m.del k).obj } := by
  obtain ⟨r, h1, h2, h3, h4⟩ := find_at m.es 0 (fun e he => hm e he)
  have hf := find_run (P := P) (w := w) hk h1
  cases r with
  | none =>
    have hd : (m.del k).obj = .map (m.es.map entryOf).toArray m.clk := by
      unfold GMap.del GMap.obj
      rw [(h4 rfl).2]
    rw [hd]
    simp [Builtin.delete_, hts, run_underlying ht, map_got (P := P) hb, key_checked hk, hf, map_laid (P := P) hb]
  | some p =>
    obtain ⟨i, x⟩ := p
    obtain ⟨_, e, q1, q2, q3, _, q5⟩ := h3 i x rfl
    rw [Nat.sub_zero] at q1 q5
    have hd : (m.del k).obj = .map ((m.es.map entryOf).toArray.eraseIdxIfInBounds i) m.clk := by
      unfold GMap.del GMap.obj
      rw [q5]
      congr 1
      apply Array.ext'
      simp [eraseIdx_map2]
    rw [hd]
    simp [Builtin.delete_, hts, run_underlying ht, map_got (P := P) hb, key_checked hk, hf, map_laid (P := P) hb]
theorem setE_of {k : Key} {v : Value} {b : Nat} {d : TypeDesc} (hk : k.sort = d) : ∀ {l : List (Key × Value × Nat)}, (∀ e ∈ l, e.1.sort = d) → ∀ e ∈ setE k v b l, e.1.sort = d
  | [], _, e, he => by simp [setE] at he; rw [he]; exact hk
  | x :: l, h, e, he => by
    unfold setE at he
    split at he
    · rcases List.mem_cons.1 he with rfl | he
      · exact hk
      · exact h e (by simp [he])
    · rcases List.mem_cons.1 he with rfl | he
      · exact h _ (by simp)
      · exact setE_of hk (fun y hy => h y (by simp [hy])) e he
theorem delE_sub {k : Key} : ∀ {l : List (Key × Value × Nat)}, ∀ e ∈ delE k l, e ∈ l
  | [], e, he => he
  | x :: l, e, he => by
    unfold delE at he
    split at he
    · exact List.mem_cons_of_mem _ he
    · rcases List.mem_cons.1 he with rfl | he
      · simp
      · exact List.mem_cons_of_mem _ (delE_sub e he)
theorem GMap.Of.put {m : GMap} {d : TypeDesc} (h : m.Of d) {k : Key} (hk : k.sort = d) (v : Value) : (m.put k v).Of d := setE_of hk h
theorem GMap.Of.del {m : GMap} {d : TypeDesc} (h : m.Of d) (k : Key) : (m.del k).Of d := fun e he => h e (delE_sub e he)
theorem GMap.Of.empty (d : TypeDesc) : GMap.empty.Of d := fun e he => by cases he
end
/-- keys and births: no key twice, no birth twice, all births below the next one -/
structure GoodE (l : List (Key × Nat)) (c : Nat) : Prop where
  keys : (l.map (·.1)).Nodup
  births : (l.map (·.2)).Nodup
  below : ∀ e ∈ l, e.2 < c
def kb (l : List (Key × Value × Nat)) : List (Key × Nat) := l.map fun e => (e.1, e.2.2)
def GMap.Good (m : GMap) : Prop := GoodE (kb m.es) m.clk
theorem GMap.Good.empty : GMap.empty.Good := ⟨List.nodup_nil, List.nodup_nil, fun e he => by cases he⟩
theorem kb_setE (k : Key) (v : Value) (b : Nat) : ∀ l : List (Key × Value × Nat), kb (setE k v b l) = if (getE k l).isSome then kb l else kb l ++ [(k, b)]
  | [] => rfl
  | e :: l => by
    unfold setE getE
    by_cases h : e.1 = k
    · rw [if_pos h, if_pos h]; simp [kb, h]
    · rw [if_neg h, if_neg h]
      show (e.1, e.2.2) :: kb (setE k v b l) = _
      rw [kb_setE k v b l]
      split <;> rfl
theorem kb_delE (k : Key) : ∀ l : List (Key × Value × Nat), (kb (delE k l)).Sublist (kb l)
  | [] => List.Sublist.refl _
  | e :: l => by
    unfold delE
    by_cases h : e.1 = k
    · rw [if_pos h]; exact List.sublist_cons_self _ _
    · rw [if_neg h]; exact (kb_delE k l).cons_cons _
theorem getE_none {k : Key} : ∀ {l : List (Key × Value × Nat)}, getE k l = none ↔ ∀ e ∈ l, e.1 ≠ k
  | [] => by simp [getE]
  | e :: l => by
    unfold getE
    by_cases h : e.1 = k
    · simp [h]
    · simp [h, getE_none (l := l)]
theorem GoodE.sub {l l' : List (Key × Nat)} {c : Nat} (h : GoodE l c) (hs : l'.Sublist l) : GoodE l' c :=
  ⟨h.keys.sublist (hs.map _), h.births.sublist (hs.map _), fun e he => h.below e (hs.subset he)⟩
theorem GMap.Good.del {m : GMap} (h : m.Good) (k : Key) : (m.del k).Good := GoodE.sub h (kb_delE k m.es)
theorem GMap.Good.put {m : GMap} (h : m.Good) (k : Key) (v : Value) : (m.put k v).Good := by
  unfold GMap.Good GMap.put
  show GoodE (kb (setE k v m.clk m.es)) _
  rw [kb_setE]
  cases hg : getE k m.es with
  | some x =>
    have : (m.get k).isSome = true := by unfold GMap.get; rw [hg]; rfl
    rw [this]; exact h
  | none =>
    have : (m.get k).isSome = false := by unfold GMap.get; rw [hg]; rfl
    rw [this]
    have hn := getE_none.1 hg
    refine ⟨?_, ?_, ?_⟩
    · simp only [Option.isSome_none, Bool.false_eq_true, if_false, List.map_append, List.map_cons, List.map_nil]
      rw [List.nodup_append]
      refine ⟨h.keys, by simp, ?_⟩
      intro a ha b hb e
      simp only [List.mem_singleton] at hb
      simp only [kb, List.map_map, List.mem_map] at ha
      obtain ⟨x, hx, rfl⟩ := ha
      exact hn x hx (by rw [← hb, ← e]; rfl)
    · simp only [Option.isSome_none, Bool.false_eq_true, if_false, List.map_append, List.map_cons, List.map_nil]
      rw [List.nodup_append]
      refine ⟨h.births, by simp, ?_⟩
      intro a ha b hb e
      simp only [List.mem_singleton] at hb
      obtain ⟨x, hx, rfl⟩ := List.mem_map.1 ha
      have := h.below x hx
      omega
    · intro e he
      simp only [Option.isSome_none, Bool.false_eq_true, if_false, List.mem_append, List.mem_singleton] at he ⊢
      rcases he with he | rfl
      · have := h.below e he; omega
      · show m.clk < m.clk + 1; omega
theorem delE_filter {k : Key} : ∀ {l : List (Key × Value × Nat)}, (l.map (·.1)).Nodup → delE k l = l.filter (fun e => decide (e.1 ≠ k))
  | [], _ => rfl
  | e :: l, h => by
    unfold delE
    rw [List.map_cons, List.nodup_cons] at h
    by_cases hk : e.1 = k
    · subst hk
      rw [if_pos rfl, List.filter_cons_of_neg (by simp)]
      rw [List.filter_eq_self.2]
      intro x hx
      have : x.1 ≠ e.1 := fun q => h.1 (by rw [← q]; exact List.mem_map_of_mem hx)
      simpa using this
    · rw [if_neg hk, List.filter_cons_of_pos (by simpa using hk), delE_filter h.2]
theorem setE_mem {k : Key} {v : Value} {b : Nat} : ∀ {l : List (Key × Value × Nat)} {e : Key × Value × Nat}, e ∈ setE k v b l → e ∈ l ∨ (e.1 = k ∧ e.2.1 = v)
  | [], e, he => by simp [setE] at he; right; rw [he]; exact ⟨rfl, rfl⟩
  | x :: l, e, he => by
    unfold setE at he
    split at he
    · rcases List.mem_cons.1 he with rfl | he
      · exact .inr ⟨rfl, rfl⟩
      · exact .inl (by simp [he])
    · rcases List.mem_cons.1 he with rfl | he
      · exact .inl (by simp)
      · rcases setE_mem he with q | q
        · exact .inl (by simp [q])
        · exact .inr q
/-- the step of a range over a map: nothing is left, or one of what is left comes out, whichever -/
theorem wpList_next_g {P : Program} {w : World} {ops : Array Oper} {rest : List Oper} {o : Oper} {a : Act} {Q : Exit → Act → World → Prop} (hg : o.guard = none) (it : Operand) (hop : o.op = Op.next it false) (r b since c0 : Nat) (seen : Array Nat) (m : GMap)
    (hit : a.eval it = .pointer (some ⟨r, 0, none⟩)) (hr : w.heap[r]? = some (.mapIter (some b) since seen c0)) (hb : w.heap[b]? = some m.obj) (hold : ∀ x ∈ m.es, x.2.2 < since) (hsc : since ≤ c0)
    (hDone : (∀ x ∈ m.es, x.2.2 ∈ seen) → wpList P ops Q rest (a.put o.dst (.tuple #[.bool false])) w)
    (hMore : ∀ x ∈ m.es, x.2.2 ∉ seen → ∀ n, wpList P ops Q rest (a.put o.dst (.tuple #[.bool true, x.1.val, x.2.1])) { (w.drewN n) with heap := (w.drewN n).heap.setIfInBounds r (.mapIter (some b) since (seen.push x.2.2) m.clk) }) :
    wpList P ops Q (o :: rest) a w := by
  refine wpList_plain hg fun K' hK' => ?_
  unfold Oper.wp
  have hleft : ∀ e, e ∈ (leftOf (m.es.map entryOf).toArray seen).toList ↔ ∃ x ∈ m.es, x.2.2 ∉ seen ∧ entryOf x = e := by
    intro e
    simp only [leftOf, Array.toList_filter, List.mem_filter, List.mem_map, Bool.not_eq_true', Array.contains_eq_mem, decide_eq_false_iff_not]
    constructor
    · rintro ⟨⟨x, hx, rfl⟩, h2⟩; exact ⟨x, hx, h2, rfl⟩
    · rintro ⟨x, hx, h2, rfl⟩; exact ⟨⟨x, hx, rfl⟩, h2⟩
  rcases run_next_at (P := P) w o.type r b since c0 seen _ _ hr hb (by
    intro x hx
    simp only [List.mem_map] at hx
    obtain ⟨y, hy, rfl⟩ := hx
    exact hold y hy) hsc with ⟨h0, hrun⟩ | ⟨e, he, w1, hw1, hrun⟩
  · simp [execOp, hop, hit, hrun, Result.andThen]
    refine hK' _ _ (hDone fun x hx => ?_)
    refine Classical.byContradiction fun hn => ?_
    have := (hleft (entryOf x)).2 ⟨x, hx, hn, rfl⟩
    rw [Array.eq_empty_of_size_eq_zero h0] at this
    cases this
  · obtain ⟨x, hx, hns, rfl⟩ := (hleft e).1 he
    simp [execOp, hop, hit, hrun, Result.andThen]
    rcases hw1 with rfl | rfl
    · exact hK' _ _ (hMore x hx hns 0)
    · exact hK' _ _ (hMore x hx hns 1)
theorem run_entry_g {P : Program} {w : World} {r b since : Nat} {seen : Array Nat} {m : GMap} {x : Key × Value × Nat} (hr : w.heap[r]? = some (.mapIter (some b) since (seen.push x.2.2) m.clk)) (hb : w.heap[b]? = some m.obj) (hx : x ∈ m.es) (hg : m.Good) :
    (Instr.entry (.pointer (some ⟨r, 0, none⟩))).run P w = .ok (.tuple #[x.1.val, x.2.1]) w := by
  have := run_entry_at (P := P) w r b since seen _ _ (entryOf x) hr hb (by simpa using List.mem_map_of_mem (f := entryOf) hx) (by
    have := hg.births
    simpa [kb, List.map_map, Function.comp_def, entryOf] using this)
  exact this
end Go.Proofs.YtelohloaoocoaaaGreatDoor
/- Steps of objects that lie by their names; parts beside one another; maps of pointers. No program's text. -/
namespace Go.Proofs.YtelohloaoocoaaaGreatDoor
open Go.RowKit
set_option linter.unusedVariables false
set_option linter.unusedSimpArgs false
set_option linter.unnecessarySimpa false

/-- what a step leaves: other objects, and nothing else is touched -/
structure GStep {I I' : Type} (c : I → Option Obj) (lay : I → Nat) (w : World) (c' : I' → Option Obj) (lay' : I' → Nat) (w' : World) : Prop where
  lies : Lies c' lay' w'
  turned : Turned (Owns c lay) w w'
  own : ∀ k, Owns c' lay' k → Owns c lay k ∨ w.heap.size ≤ k
section
variable {I I' I'' : Type} {c : I → Option Obj} {lay : I → Nat} {w w' w'' : World} {c' : I' → Option Obj} {lay' : I' → Nat} {c'' : I'' → Option Obj} {lay'' : I'' → Nat}
theorem GStep.refl (h : Lies c lay w) : GStep c lay w c lay w := ⟨h, Turned.refl _ _, fun _ hk => .inl hk⟩
theorem GStep.trans (h : GStep c lay w c' lay' w') (k : GStep c' lay' w' c'' lay'' w'') : GStep c lay w c'' lay'' w'' :=
  ⟨k.lies, h.turned.trans k.turned (fun b hb hlt => (h.own b hb).resolve_right (by omega)), fun b hb => by
    rcases k.own b hb with q | q
    · exact h.own b q
    · exact .inr (Nat.le_trans h.turned.size q)⟩
theorem GStep.alloc (h : GStep c lay w c' lay' w') (o : Obj) : GStep c lay w c' lay' (w'.alloc o) := ⟨h.lies.alloc o, h.turned.alloc o, h.own⟩
theorem GStep.drewN (h : GStep c lay w c' lay' w') (n : Nat) : GStep c lay w c' lay' (w'.drewN n) := ⟨h.lies.drewN n, h.turned.drewN n, h.own⟩
theorem GStep.drew (h : GStep c lay w c' lay' w') : GStep c lay w c' lay' w'.drew := ⟨h.lies.drew, h.turned.drew, h.own⟩
theorem GStep.below (h : GStep c lay w c' lay' w') (hb : Below w'.heap.size w' w'') : GStep c lay w c' lay' w'' :=
  ⟨h.lies.kept fun i hi => hb.block _ (h.lies.owns_lt ⟨i, hi, rfl⟩),
   h.turned.trans (Turned.of_below hb : Turned (fun _ => False) w' w'') (fun _ q => q.elim), h.own⟩
/-- a store to a block that is new and no object's -/
theorem GStep.setnew (h : GStep c lay w c' lay' w') (a : Addr) (v : Value) (hn : w.heap.size ≤ a.block) (ho : ¬ Owns c' lay' a.block) : GStep c lay w c' lay' (w'.setCell a v) :=
  ⟨h.lies.kept fun i hi => Below.heap_setCell _ _ _ _ (fun e => ho ⟨i, hi, e⟩), h.turned.set a v (fun q => by omega), h.own⟩
theorem GStep.set [DecidableEq I'] {c3 : I' → Option Obj} (h : GStep c lay w c' lay' w') {i : I'} {cs : Array Value} {ty : TypeId} {fz : Nat × Nat} (hc : c' i = some (.cells cs ty fz)) (k : Nat) (v : Value) (hc' : ∀ j, c3 j = if j = i then some (.cells (cs.setIfInBounds k v) ty fz) else c' j) :
    GStep c lay w c3 lay' (w'.setCell ⟨lay' i, k, none⟩ v) := by
  have hown : Owns c' lay' (lay' i) := ⟨i, by rw [hc]; simp, rfl⟩
  refine ⟨h.lies.set hc k v hc', h.turned.set _ _ (fun hlt => (h.own _ hown).resolve_right (by simpa using hlt)), fun b hb => ?_⟩
  obtain ⟨j, hj, rfl⟩ := hb
  refine h.own _ ⟨j, fun e => hj ?_, rfl⟩
  rw [hc']
  by_cases q : j = i
  · rw [q, hc] at e; cases e
  · rw [if_neg q, e]
theorem GStep.put [DecidableEq I'] {c3 : I' → Option Obj} (h : GStep c lay w c' lay' w') {i : I'} {o o' : Obj} (hc : c' i = some o) (hc' : ∀ j, c3 j = if j = i then some o' else c' j) :
    GStep c lay w c3 lay' { w' with heap := w'.heap.setIfInBounds (lay' i) o' } := by
  have hown : Owns c' lay' (lay' i) := ⟨i, by rw [hc]; simp, rfl⟩
  refine ⟨h.lies.put hc hc', h.turned.put _ _ (fun hlt => (h.own _ hown).resolve_right (by omega)), fun b hb => ?_⟩
  obtain ⟨j, hj, rfl⟩ := hb
  refine h.own _ ⟨j, fun e => hj ?_, rfl⟩
  rw [hc']
  by_cases q : j = i
  · rw [q, hc] at e; cases e
  · rw [if_neg q, e]
theorem GStep.new [DecidableEq I'] {c3 : I' → Option Obj} {lay3 : I' → Nat} (h : GStep c lay w c' lay' w') (i : I') (o : Obj) (hc' : ∀ j, c3 j = if j = i then some o else c' j) (hl : ∀ j, lay3 j = if j = i then w'.heap.size else lay' j) :
    GStep c lay w c3 lay3 (w'.alloc o) := by
  refine ⟨h.lies.new i o hc' hl, h.turned.alloc o, fun b hb => ?_⟩
  obtain ⟨j, hj, rfl⟩ := hb
  by_cases q : j = i
  · right; rw [hl, if_pos q]; exact h.turned.size
  · rw [hl, if_neg q]
    exact h.own _ ⟨j, fun e => hj (by rw [hc', if_neg q]; exact e), rfl⟩
/-- objects are forgotten, and told in other words -/
theorem GStep.less {c3 : I' → Option Obj} (h : GStep c lay w c' lay' w') (hc' : ∀ j o, c3 j = some o → c' j = some o) : GStep c lay w c3 lay' w' :=
  ⟨h.lies.less hc', h.turned, fun b ⟨j, hj, e⟩ => h.own b ⟨j, (by
    intro q
    cases h3 : c3 j with
    | none => exact hj h3
    | some o => have := hc' j o h3; rw [q] at this; cases this), e⟩⟩
theorem GStep.congr {c3 : I' → Option Obj} (h : GStep c lay w c' lay' w') (hc' : ∀ j, c3 j = c' j) : GStep c lay w c3 lay' w' := by
  obtain rfl : c3 = c' := funext hc'
  exact h
/-- the places of what is not there do not matter -/
theorem Lies.relay {lay2 : I → Nat} (h : Lies c lay w) (hl : ∀ i, c i ≠ none → lay2 i = lay i) : Lies c lay2 w :=
  ⟨fun i o ho => by rw [hl i (by rw [ho]; simp)]; exact h.at_ i o ho, fun i j hi hj e => h.inj i j hi hj (by rw [← hl i hi, ← hl j hj]; exact e)⟩
theorem GStep.relay {lay2 : I' → Nat} (h : GStep c lay w c' lay' w') (hl : ∀ i, c' i ≠ none → lay2 i = lay' i) : GStep c lay w c' lay2 w' :=
  ⟨h.lies.relay hl, h.turned, fun b ⟨j, hj, e⟩ => h.own b ⟨j, hj, by rw [← hl j hj]; exact e⟩⟩
theorem GStep.below_all {n : Nat} {w0 : World} (h : GStep c lay w c' lay' w') (hb : Below n w0 w) (hl : ∀ k, Owns c lay k → n ≤ k) (hn : n ≤ w0.heap.size) : Below n w0 w' :=
  ⟨h.turned.os.trans hb.os, h.turned.tape.trans hb.tape, h.turned.output.trans hb.output, Nat.le_trans hb.size h.turned.size, fun k hk =>
    (h.turned.block k (Nat.lt_of_lt_of_le hk (Nat.le_trans hn hb.size)) (fun q => by have := hl k q; omega)).trans (hb.block k hk)⟩
end
section
variable {I J I' : Type} {c : I → Option Obj} {d : J → Option Obj} {lay : I → Nat} {lay2 : J → Nat} {w w' : World} {c' : I' → Option Obj} {lay' : I' → Nat}
theorem Lies.inl (h : Lies (Sum.elim c d) (Sum.elim lay lay2) w) : Lies c lay w :=
  ⟨fun i o ho => h.at_ (.inl i) o ho, fun i j hi hj e => by have := h.inj (.inl i) (.inl j) hi hj e; cases this; rfl⟩
theorem Lies.inr (h : Lies (Sum.elim c d) (Sum.elim lay lay2) w) : Lies d lay2 w :=
  ⟨fun i o ho => h.at_ (.inr i) o ho, fun i j hi hj e => by have := h.inj (.inr i) (.inr j) hi hj e; cases this; rfl⟩
theorem Lies.apart (h : Lies (Sum.elim c d) (Sum.elim lay lay2) w) : ∀ k, Owns c lay k → ¬ Owns d lay2 k := by
  rintro k ⟨i, hi, rfl⟩ ⟨j, hj, e⟩
  have := h.inj (.inr j) (.inl i) hj hi e
  cases this
theorem Lies.both (h : Lies c lay w) (k : Lies d lay2 w) (ha : ∀ b, Owns c lay b → ¬ Owns d lay2 b) : Lies (Sum.elim c d) (Sum.elim lay lay2) w := by
  refine ⟨fun i o ho => ?_, fun i j hi hj e => ?_⟩
  · cases i with
    | inl i => exact h.at_ i o ho
    | inr i => exact k.at_ i o ho
  · cases i with
    | inl i => cases j with
      | inl j => rw [h.inj i j hi hj e]
      | inr j => exact absurd ⟨j, hj, e.symm⟩ (ha _ ⟨i, hi, rfl⟩)
    | inr i => cases j with
      | inl j => exact absurd ⟨i, hi, e⟩ (ha _ ⟨j, hj, rfl⟩)
      | inr j => rw [k.inj i j hi hj e]
theorem owns_sum {k : Nat} : Owns (Sum.elim c d) (Sum.elim lay lay2) k ↔ Owns c lay k ∨ Owns d lay2 k := by
  constructor
  · rintro ⟨i | i, hi, e⟩
    · exact .inl ⟨i, hi, e⟩
    · exact .inr ⟨i, hi, e⟩
  · rintro (⟨i, hi, e⟩ | ⟨i, hi, e⟩)
    · exact ⟨.inl i, hi, e⟩
    · exact ⟨.inr i, hi, e⟩
/-- a step of the one part leaves the other one -/
theorem GStep.left (hl : Lies (Sum.elim c d) (Sum.elim lay lay2) w) (h : GStep c lay w c' lay' w') : GStep (Sum.elim c d) (Sum.elim lay lay2) w (Sum.elim c' d) (Sum.elim lay' lay2) w' := by
  have hd : Lies d lay2 w' := hl.inr.turned h.turned (fun k hk q => hl.apart k q hk)
  refine ⟨h.lies.both hd (fun b hb q => ?_), h.turned.mono (fun b hb _ => owns_sum.2 (.inl hb)), fun k hk => ?_⟩
  · rcases h.own b hb with r | r
    · exact hl.apart b r q
    · have := hl.inr.owns_lt q; omega
  · rcases owns_sum.1 hk with q | q
    · rcases h.own k q with r | r
      · exact .inl (owns_sum.2 (.inl r))
      · exact .inr r
    · exact .inl (owns_sum.2 (.inr q))
theorem GStep.right (hl : Lies (Sum.elim d c) (Sum.elim lay2 lay) w) (h : GStep c lay w c' lay' w') : GStep (Sum.elim d c) (Sum.elim lay2 lay) w (Sum.elim d c') (Sum.elim lay2 lay') w' := by
  have hd : Lies d lay2 w' := hl.inl.turned h.turned (fun k hk q => hl.apart k hk q)
  refine ⟨hd.both h.lies (fun b hb q => ?_), h.turned.mono (fun b hb _ => owns_sum.2 (.inr hb)), fun k hk => ?_⟩
  · rcases h.own b q with r | r
    · exact hl.apart b hb r
    · have := hl.inl.owns_lt hb; omega
  · rcases owns_sum.1 hk with q | q
    · exact .inl (owns_sum.2 (.inl q))
    · rcases h.own k q with r | r
      · exact .inl (owns_sum.2 (.inr r))
      · exact .inr r
end
/-- a map of numbers to pointers: the keys, and when they came -/
structure PMap where
  es : List (Int × Nat)
  clk : Nat
def PMap.keys (m : PMap) : List Int := m.es.map (·.1)
structure PMap.Ok (m : PMap) : Prop where
  keys : m.keys.Nodup
  births : (m.es.map (·.2)).Nodup
  below : ∀ e ∈ m.es, e.2 < m.clk
def ptrOf (b : Nat) : Value := .pointer (some ⟨b, 0, none⟩)
def PMap.gm (m : PMap) (lay : Int → Nat) : GMap := ⟨m.es.map fun e => (.int e.1, ptrOf (lay e.1), e.2), m.clk⟩
def PMap.add (m : PMap) (i : Int) : PMap := ⟨m.es ++ [(i, m.clk)], m.clk + 1⟩
def PMap.del (m : PMap) (i : Int) : PMap := ⟨m.es.filter fun e => decide (e.1 ≠ i), m.clk⟩
section
variable {m : PMap} {lay : Int → Nat}
theorem PMap.of_gm (m : PMap) (lay : Int → Nat) : (m.gm lay).Of (.int .i64) := fun e he => by
  simp only [PMap.gm, List.mem_map] at he
  obtain ⟨x, _, rfl⟩ := he
  rfl
theorem PMap.good_gm (h : m.Ok) (lay : Int → Nat) : (m.gm lay).Good := by
  refine ⟨?_, ?_, ?_⟩
  · have : (kb (m.gm lay).es).map (·.1) = m.keys.map Key.int := by simp [kb, PMap.gm, PMap.keys, List.map_map, Function.comp_def]
    rw [this]
    exact List.Pairwise.map Key.int (fun a b hab e => hab (by cases e; rfl)) h.keys
  · have : (kb (m.gm lay).es).map (·.2) = m.es.map (·.2) := by simp [kb, PMap.gm, List.map_map, Function.comp_def]
    rw [this]; exact h.births
  · intro e he
    simp only [kb, PMap.gm, List.map_map, List.mem_map, Function.comp_apply] at he
    obtain ⟨x, hx, rfl⟩ := he
    exact h.below x hx
theorem getE_map (lay : Int → Nat) (i : Int) : ∀ l : List (Int × Nat), getE (.int i) (l.map fun e => (Key.int e.1, ptrOf (lay e.1), e.2)) = if i ∈ l.map (·.1) then some (ptrOf (lay i)) else none
  | [] => by simp [getE]
  | e :: l => by
    rw [List.map_cons, getE, getE_map lay i l]
    by_cases h : e.1 = i
    · simp [h]
    · rw [if_neg (by intro q; cases q; exact h rfl)]
      have hm : (i ∈ List.map (fun x => x.1) (e :: l)) ↔ i ∈ List.map (fun x => x.1) l := by
        rw [List.map_cons, List.mem_cons]
        exact ⟨fun q => q.resolve_left (fun z => h z.symm), .inr⟩
      by_cases q : i ∈ List.map (fun x => x.1) l
      · rw [if_pos q, if_pos (hm.2 q)]
      · rw [if_neg q, if_neg (fun z => q (hm.1 z))]
theorem PMap.get_gm (m : PMap) (lay : Int → Nat) (i : Int) : (m.gm lay).get (.int i) = if i ∈ m.keys then some (ptrOf (lay i)) else none := getE_map lay i m.es
theorem PMap.get_some {i : Int} (h : i ∈ m.keys) : (m.gm lay).get (.int i) = some (ptrOf (lay i)) := by rw [PMap.get_gm, if_pos h]
theorem PMap.get_none {i : Int} (h : i ∉ m.keys) : (m.gm lay).get (.int i) = none := by rw [PMap.get_gm, if_neg h]
theorem setE_map {lay lay' : Int → Nat} {i : Int} {b c : Nat} : ∀ {l : List (Int × Nat)}, i ∉ l.map (·.1) → (∀ j ∈ l.map (·.1), lay' j = lay j) → lay' i = b →
    setE (.int i) (ptrOf b) c (l.map fun e => (Key.int e.1, ptrOf (lay e.1), e.2)) = (l ++ [(i, c)]).map fun e => (Key.int e.1, ptrOf (lay' e.1), e.2)
  | [], _, _, hb => by simp [setE, hb]
  | e :: l, h, hl, hb => by
    simp only [List.map_cons, List.mem_cons, not_or] at h
    rw [List.map_cons, setE, if_neg (by simpa using Ne.symm h.1), setE_map (lay' := lay') (by simpa using h.2) (fun j hj => hl j (by simp at hj ⊢; exact .inr hj)) hb]
    simp [hl e.1 (by simp)]
theorem PMap.put_gm {lay' : Int → Nat} {i : Int} {b : Nat} (h : i ∉ m.keys) (hl : ∀ j ∈ m.keys, lay' j = lay j) (hb : lay' i = b) : (m.gm lay).put (.int i) (ptrOf b) = (m.add i).gm lay' := by
  unfold GMap.put
  rw [PMap.get_none h]
  simp only [Option.isSome_none, Bool.false_eq_true, if_false]
  unfold PMap.gm
  rw [setE_map h hl hb]
  rfl
theorem PMap.del_gm (h : m.Ok) (i : Int) : (m.gm lay).del (.int i) = (m.del i).gm lay := by
  have hk : ((m.gm lay).es.map (·.1)).Nodup := by have := (PMap.good_gm h lay).keys; simpa [kb, List.map_map, Function.comp_def] using this
  unfold GMap.del
  rw [delE_filter hk]
  unfold PMap.gm PMap.del
  simp only [List.filter_map, GMap.mk.injEq, and_true]
  congr 1
  apply List.filter_congr
  intro x _
  simp
theorem PMap.keys_add (m : PMap) (i : Int) : (m.add i).keys = m.keys ++ [i] := by simp [PMap.keys, PMap.add]
theorem PMap.mem_add {i j : Int} : j ∈ (m.add i).keys ↔ j ∈ m.keys ∨ j = i := by rw [PMap.keys_add]; simp
theorem PMap.mem_del {i j : Int} : j ∈ (m.del i).keys ↔ j ∈ m.keys ∧ j ≠ i := by
  simp only [PMap.keys, PMap.del, List.mem_map, List.mem_filter, decide_eq_true_eq]
  constructor
  · rintro ⟨x, ⟨h1, h2⟩, rfl⟩; exact ⟨⟨x, h1, rfl⟩, h2⟩
  · rintro ⟨⟨x, h1, rfl⟩, h2⟩; exact ⟨x, ⟨h1, h2⟩, rfl⟩
theorem PMap.Ok.add (h : m.Ok) {i : Int} (hi : i ∉ m.keys) : (m.add i).Ok := by
  refine ⟨?_, ?_, ?_⟩
  · rw [PMap.keys_add, List.nodup_append]
    refine ⟨h.keys, by simp, fun a ha b hb e => ?_⟩
    simp only [List.mem_singleton] at hb
    exact hi (by rw [← hb, ← e]; exact ha)
  · show ((m.es ++ [(i, m.clk)]).map (·.2)).Nodup
    rw [List.map_append, List.nodup_append]
    refine ⟨h.births, by simp, fun a ha b hb e => ?_⟩
    simp only [List.map_cons, List.map_nil, List.mem_singleton] at hb
    obtain ⟨x, hx, rfl⟩ := List.mem_map.1 ha
    have := h.below x hx
    omega
  · intro e he
    have he : e ∈ m.es ++ [(i, m.clk)] := he
    rcases List.mem_append.1 he with q | q
    · have := h.below e q; show e.2 < m.clk + 1; omega
    · simp only [List.mem_singleton] at q; subst q; show m.clk < m.clk + 1; omega
theorem PMap.Ok.del (h : m.Ok) (i : Int) : (m.del i).Ok :=
  ⟨h.keys.sublist (List.filter_sublist.map _), h.births.sublist (List.filter_sublist.map _), fun e he => h.below e (List.mem_filter.1 he |>.1)⟩
theorem PMap.mem_gm {x : Key × Value × Nat} (hx : x ∈ (m.gm lay).es) : ∃ i, i ∈ m.keys ∧ x.1 = .int i ∧ x.2.1 = ptrOf (lay i) ∧ (i, x.2.2) ∈ m.es := by
  simp only [PMap.gm, List.mem_map] at hx
  obtain ⟨e, he, rfl⟩ := hx
  exact ⟨e.1, List.mem_map_of_mem he, rfl, rfl, he⟩
theorem PMap.gm_relay {lay' : Int → Nat} (h : ∀ i ∈ m.keys, lay' i = lay i) : m.gm lay' = m.gm lay := by
  unfold PMap.gm
  congr 1
  apply List.map_congr_left
  intro e he
  rw [h e.1 (List.mem_map_of_mem he)]
end
end Go.Proofs.YtelohloaoocoaaaGreatDoor
/- procs.Table: its processes by numbers; what lives, forks, turns. -/
namespace Go.Proofs.YtelohloaoocoaaaGreatDoor
open Go.RowKit IntWalk
set_option linter.unusedVariables false
set_option linter.unusedSimpArgs false
set_option linter.unnecessarySimpa false

/-- a process -/
structure Pr where
  state : Int
  parent : Int
  status : Int
inductive TId where
  | T | M
  | P (i : Int)
  deriving DecidableEq
/-- a table: how many there may be, the map, and each one's process -/
structure Tab where
  most : Int
  m : PMap
  pr : Int → Pr
def prV (p : Pr) : Array Value := #[.int .i64 p.state, .int .i64 p.parent, .int .i64 p.status]
def Tab.obj (t : Tab) (lay : TId → Nat) : TId → Option Obj
  | .T => some (.cells #[.int .i64 t.most, .map (some (lay .M))] 131 (0, 0))
  | .M => some (t.m.gm fun i => lay (.P i)).obj
  | .P i => if i ∈ t.m.keys then some (.cells (prV (t.pr i)) 134 (0, 0)) else none
structure TabIs (t : Tab) (lay : TId → Nat) (w : World) : Prop where
  lies : Lies (t.obj lay) lay w
  ok : t.m.Ok
/-- what a call leaves -/
structure TStep (t : Tab) (lay : TId → Nat) (w : World) (t' : Tab) (lay' : TId → Nat) (w' : World) : Prop where
  g : GStep (t.obj lay) lay w (t'.obj lay') lay' w'
  ok : t'.m.Ok
  top : lay' .T = lay .T
theorem TStep.is {t lay w t' lay' w'} (h : TStep t lay w t' lay' w') : TabIs t' lay' w' := ⟨h.g.lies, h.ok⟩
theorem TStep.refl {t lay w} (h : TabIs t lay w) : TStep t lay w t lay w := ⟨GStep.refl h.lies, h.ok, rfl⟩
theorem TStep.trans {t lay w t' lay' w' t'' lay'' w''} (h : TStep t lay w t' lay' w') (k : TStep t' lay' w' t'' lay'' w'') : TStep t lay w t'' lay'' w'' := ⟨h.g.trans k.g, k.ok, k.top.trans h.top⟩
section
variable {t : Tab} {lay : TId → Nat} {w : World}
theorem TabIs.t0 (h : TabIs t lay w) : w.cell? ⟨lay .T, 0, none⟩ = some (.int .i64 t.most) := h.lies.cell (i := .T) rfl rfl
theorem TabIs.t1 (h : TabIs t lay w) : w.cell? ⟨lay .T, 1, none⟩ = some (.map (some (lay .M))) := h.lies.cell (i := .T) rfl rfl
theorem Tab.obj_p {i : Int} (hi : i ∈ t.m.keys) : t.obj lay (.P i) = some (.cells (prV (t.pr i)) 134 (0, 0)) := by simp [Tab.obj, hi]
theorem TabIs.p (h : TabIs t lay w) {i : Int} (hi : i ∈ t.m.keys) {k : Nat} {v : Value} (hk : (prV (t.pr i))[k]? = some v) : w.cell? ⟨lay (.P i), k, none⟩ = some v := h.lies.cell (Tab.obj_p hi) hk
theorem TabIs.p0 (h : TabIs t lay w) {i : Int} (hi : i ∈ t.m.keys) : w.cell? ⟨lay (.P i), 0, none⟩ = some (.int .i64 (t.pr i).state) := h.p hi rfl
theorem TabIs.p1 (h : TabIs t lay w) {i : Int} (hi : i ∈ t.m.keys) : w.cell? ⟨lay (.P i), 1, none⟩ = some (.int .i64 (t.pr i).parent) := h.p hi rfl
theorem TabIs.p2 (h : TabIs t lay w) {i : Int} (hi : i ∈ t.m.keys) : w.cell? ⟨lay (.P i), 2, none⟩ = some (.int .i64 (t.pr i).status) := h.p hi rfl
theorem TabIs.pf (h : TabIs t lay w) {i : Int} (hi : i ∈ t.m.keys) (k : Nat) : w.frozen? ⟨lay (.P i), k, none⟩ = false := h.lies.fz (Tab.obj_p hi) k
theorem zero_procp (w : World) : (zeroValue 132).run Tryz.prog w = .ok (.pointer none) w := by kernel_rfl
theorem TabIs.mapAt (h : TabIs t lay w) : w.heap[lay .M]? = some (t.m.gm fun i => lay (.P i)).obj := h.lies.at_ .M _ rfl
theorem TabIs.look (h : TabIs t lay w) (i : Int) : (Instr.lookup 129 (.map (some (lay .M))) (.int .i64 i) false).run Tryz.prog w = .ok (if i ∈ t.m.keys then ptrOf (lay (.P i)) else .pointer none) w := by
  have := (GMap.look (P := Tryz.prog) (k := .int i) Tryz.underlying129 Tryz.underlying3 (PMap.of_gm t.m _) h.mapAt (zero_procp w)).1
  simp only [Key.val] at this
  rw [this, PMap.get_gm]
  split <;> rfl
theorem TabIs.look_in (h : TabIs t lay w) {i : Int} (hi : i ∈ t.m.keys) : (Instr.lookup 129 (.map (some (lay .M))) (.int .i64 i) false).run Tryz.prog w = .ok (.pointer (some ⟨lay (.P i), 0, none⟩)) w := by
  rw [h.look, if_pos hi]; rfl
theorem TabIs.look_out (h : TabIs t lay w) {i : Int} (hi : i ∉ t.m.keys) : (Instr.lookup 129 (.map (some (lay .M))) (.int .i64 i) false).run Tryz.prog w = .ok (.pointer none) w := by
  rw [h.look, if_neg hi]
def Tab.setP (t : Tab) (i : Int) (p : Pr) : Tab := { t with pr := fun j => if j = i then p else t.pr j }
theorem Tab.setP_obj (t : Tab) (lay : TId → Nat) {i : Int} (p : Pr) (hi : i ∈ t.m.keys) (j : TId) : (t.setP i p).obj lay j = if j = .P i then some (.cells (prV p) 134 (0, 0)) else t.obj lay j := by
  cases j with
  | P k =>
    simp only [Tab.obj, Tab.setP, TId.P.injEq]
    by_cases e : k = i
    · subst e; simp [hi]
    · simp [e]
  | _ => simp [Tab.obj, Tab.setP]
theorem TStep.setP {t' : Tab} {lay' : TId → Nat} {w' : World} (h : TStep t lay w t' lay' w') {i : Int} (hi : i ∈ t'.m.keys) (k : Nat) (v : Value) (p : Pr) (hp : prV p = (prV (t'.pr i)).setIfInBounds k v) : TStep t lay w (t'.setP i p) lay' (w'.setCell ⟨lay' (.P i), k, none⟩ v) :=
  ⟨h.g.set (Tab.obj_p hi) k v (fun j => by rw [Tab.setP_obj t' lay' p hi j, hp]), h.ok, h.top⟩
end

/-! ### the table's calls -/
theorem lives_nil (w : World) : Calls Tryz.prog 82 #[.pointer none] w fun e w' => e = .returned (.bool false) ∧ w = w' := by
  go_enter Tryz.func82, Tryz.ntmps82
  go_wp2
  go_ret
  exact ⟨rfl, rfl⟩
theorem lives_at (b : Nat) (s : Int) (w : World) (h : w.cell? ⟨b, 0, none⟩ = some (.int .i64 s)) (v : Bool) (hv : (s == 3) = !v) : Calls Tryz.prog 82 #[.pointer (some ⟨b, 0, none⟩)] w fun e w' => e = .returned (.bool v) ∧ w = w' := by
  have h1 : (s != 3) = v := by simp only [bne, hv, Bool.not_not]
  cases v <;> simp only [Bool.not_true, Bool.not_false] at hv <;>
  · go_enter Tryz.func82, Tryz.ntmps82
    go_wp2
    go_ret
    exact ⟨rfl, rfl⟩
theorem alive_in {t lay} (i : Int) (w : World) (h : TabIs t lay w) (hi : i ∈ t.m.keys) (hs : (t.pr i).state ≠ 3) : Calls Tryz.prog 54 #[ptrOf (lay .T), .int .i64 i] w fun e w' => e = .returned (.tuple #[ptrOf (lay (.P i)), .int .i64 0]) ∧ w = w' := by
  have c1 := h.t1
  have hl := h.look_in hi
  have c2 := h.p0 hi
  have HL := Lib.hid (lives_at (lay (.P i)) _ w c2 true (by simpa using hs))
  clear c2
  unfold ptrOf
  go_enter Tryz.func54, Tryz.ntmps54
  go_wp2_with (go_at_call 82; refine HL.out.mono ?_; rintro e w' ⟨rfl, rfl⟩)
  go_ret2
  exact ⟨rfl, rfl⟩
theorem alive_out {t lay} (i : Int) (w : World) (h : TabIs t lay w) (hs : i ∉ t.m.keys ∨ (t.pr i).state = 3) : Calls Tryz.prog 54 #[ptrOf (lay .T), .int .i64 i] w fun e w' => e = .returned (.tuple #[.pointer none, .int .i64 23]) ∧ w = w' := by
  have c1 := h.t1
  unfold ptrOf
  by_cases hi : i ∈ t.m.keys
  · have hl := h.look_in hi
    have c2 := h.p0 hi
    have h3 : (t.pr i).state = 3 := hs.resolve_left (fun q => q hi)
    have HL := Lib.hid (lives_at (lay (.P i)) _ w c2 false (by simpa using h3))
    clear c2 h3 hs
    go_enter Tryz.func54, Tryz.ntmps54
    go_wp2_with (go_at_call 82; refine HL.out.mono ?_; rintro e w' ⟨rfl, rfl⟩)
    go_ret2
    exact ⟨rfl, rfl⟩
  · have hl := h.look_out hi
    clear hs
    go_enter Tryz.func54, Tryz.ntmps54
    go_wp2_with (go_at_call 82; refine (lives_nil w).mono ?_; rintro e w' ⟨rfl, rfl⟩)
    go_ret2
    exact ⟨rfl, rfl⟩
def Tab.turnS (t : Tab) (i : Int) (s : Int) : Tab := t.setP i { t.pr i with state := s }
theorem turn_in {t lay} (i s : Int) (w : World) (h : TabIs t lay w) (hi : i ∈ t.m.keys) (hs : (t.pr i).state ≠ 3) : Calls Tryz.prog 69 #[ptrOf (lay .T), .int .i64 i, .int .i64 s] w fun e w' => e = .returned (.int .i64 0) ∧ TStep t lay w (t.turnS i s) lay w' := by
  have c2 := h.p0 hi
  have f2 := h.pf hi 0
  go_enter Tryz.func69, Tryz.ntmps69
  go_wp2_with (go_at_call 54; refine (alive_in i w h hi hs).mono ?_; rintro e w' ⟨rfl, rfl⟩; unfold ptrOf)
  go_ret
  exact ⟨rfl, (TStep.refl h).setP hi 0 _ { t.pr i with state := s } rfl⟩
theorem turn_out {t lay} (i s : Int) (w : World) (h : TabIs t lay w) (hs : i ∉ t.m.keys ∨ (t.pr i).state = 3) : Calls Tryz.prog 69 #[ptrOf (lay .T), .int .i64 i, .int .i64 s] w fun e w' => e = .returned (.int .i64 23) ∧ w = w' := by
  go_enter Tryz.func69, Tryz.ntmps69
  go_wp2_with (go_at_call 54; refine (alive_out i w h hs).mono ?_; rintro e w' ⟨rfl, rfl⟩)
  go_ret
  exact ⟨rfl, rfl⟩
theorem wake_in {t lay} (i : Int) (w : World) (h : TabIs t lay w) (hi : i ∈ t.m.keys) (hs : (t.pr i).state ≠ 3) : Calls Tryz.prog 47 #[ptrOf (lay .T), .int .i64 i] w fun e w' => e = .returned (.int .i64 0) ∧ TStep t lay w (t.turnS i 1) lay w' := by
  go_enter Tryz.func47, Tryz.ntmps47
  go_wp2_with (go_at_call 69; refine (turn_in i 1 w h hi hs).mono ?_; rintro e w' ⟨rfl, hst⟩)
  go_ret
  exact ⟨rfl, hst⟩
theorem block_in {t lay} (i : Int) (w : World) (h : TabIs t lay w) (hi : i ∈ t.m.keys) (hs : (t.pr i).state ≠ 3) : Calls Tryz.prog 49 #[ptrOf (lay .T), .int .i64 i] w fun e w' => e = .returned (.int .i64 0) ∧ TStep t lay w (t.turnS i 2) lay w' := by
  go_enter Tryz.func49, Tryz.ntmps49
  go_wp2_with (go_at_call 69; refine (turn_in i 2 w h hi hs).mono ?_; rintro e w' ⟨rfl, hst⟩)
  go_ret
  exact ⟨rfl, hst⟩
/-- a process's state; 0: there is none -/
def Tab.stateOf (t : Tab) (i : Int) : Int := if i ∈ t.m.keys then (t.pr i).state else 0
end Go.Proofs.YtelohloaoocoaaaGreatDoor
/- fds.Set and what is open: numbers by slots; share, Fork, Close, End. -/
namespace Go.Proofs.YtelohloaoocoaaaGreatDoor
open Go.RowKit IntWalk
set_option linter.unusedVariables false
set_option linter.unusedSimpArgs false
set_option linter.unnecessarySimpa false

inductive XId where
  | X
  | O (k : Nat)
  | Z (i : Int)
  deriving DecidableEq
/-- files: the tree, how many are open, the sinks; what is open, and how many numbers it has; sets, by their slots -/
structure Fx where
  fs : Nat
  many : Int
  sv : Value
  op : Nat → Option (Value × Int)
  zs : Int → Option (List (Option Nat))
def slotV (lay : XId → Nat) : Option Nat → Value
  | none => .pointer none
  | some k => ptrOf (lay (.O k))
def setV (lay : XId → Nat) (l : List (Option Nat)) : List Value := ptrOf (lay .X) :: l.map (slotV lay)
def Fx.obj (s : Fx) (lay : XId → Nat) : XId → Option Obj
  | .X => some (.cells #[ptrOf s.fs, .int .i64 s.many, s.sv] 141 (0, 0))
  | .O k => match s.op k with
    | some (v, n) => some (.cells #[v, .int .i64 n] 198 (0, 0))
    | none => none
  | .Z i => match s.zs i with
    | some l => some (.cells (setV lay l).toArray 164 (0, 0))
    | none => none
/-- sets have sixteen slots, and what stands in them is open -/
structure Fx.Ok (s : Fx) : Prop where
  len : ∀ i l, s.zs i = some l → l.length = 16
  live : ∀ i l k, s.zs i = some l → some k ∈ l → ∃ v n, s.op k = some (v, n)
structure FxIs (s : Fx) (lay : XId → Nat) (w : World) : Prop where
  lies : Lies (s.obj lay) lay w
  ok : s.Ok
structure XStep (s : Fx) (lay : XId → Nat) (w : World) (s' : Fx) (lay' : XId → Nat) (w' : World) : Prop where
  g : GStep (s.obj lay) lay w (s'.obj lay') lay' w'
  ok : s'.Ok
  top : lay' .X = lay .X
theorem XStep.is {s lay w s' lay' w'} (h : XStep s lay w s' lay' w') : FxIs s' lay' w' := ⟨h.g.lies, h.ok⟩
theorem XStep.refl {s lay w} (h : FxIs s lay w) : XStep s lay w s lay w := ⟨GStep.refl h.lies, h.ok, rfl⟩
theorem XStep.trans {s lay w s' lay' w' s'' lay'' w''} (h : XStep s lay w s' lay' w') (k : XStep s' lay' w' s'' lay'' w'') : XStep s lay w s'' lay'' w'' := ⟨h.g.trans k.g, k.ok, k.top.trans h.top⟩
theorem FxIs.below {s lay w w'} (h : FxIs s lay w) (hb : Below w.heap.size w w') : FxIs s lay w' := ⟨((GStep.refl h.lies).below hb).lies, h.ok⟩
theorem XStep.below {s lay w s' lay' w' w''} (h : XStep s lay w s' lay' w') (hb : Below w'.heap.size w' w'') : XStep s lay w s' lay' w'' := ⟨h.g.below hb, h.ok, h.top⟩
theorem XStep.drewN {s lay w s' lay' w'} (h : XStep s lay w s' lay' w') (n : Nat) : XStep s lay w s' lay' (w'.drewN n) := ⟨h.g.drewN n, h.ok, h.top⟩
section
variable {s : Fx} {lay : XId → Nat} {w : World}
theorem FxIs.x0 (h : FxIs s lay w) : w.cell? ⟨lay .X, 0, none⟩ = some (ptrOf s.fs) := h.lies.cell (i := .X) rfl rfl
theorem FxIs.x1 (h : FxIs s lay w) : w.cell? ⟨lay .X, 1, none⟩ = some (.int .i64 s.many) := h.lies.cell (i := .X) rfl rfl
theorem FxIs.x2 (h : FxIs s lay w) : w.cell? ⟨lay .X, 2, none⟩ = some s.sv := h.lies.cell (i := .X) rfl rfl
theorem FxIs.xf (h : FxIs s lay w) (k : Nat) : w.frozen? ⟨lay .X, k, none⟩ = false := h.lies.fz (i := .X) rfl k
theorem Fx.obj_o {k : Nat} {v : Value} {n : Int} (hk : s.op k = some (v, n)) : s.obj lay (.O k) = some (.cells #[v, .int .i64 n] 198 (0, 0)) := by simp [Fx.obj, hk]
theorem Fx.obj_z {i : Int} {l : List (Option Nat)} (hi : s.zs i = some l) : s.obj lay (.Z i) = some (.cells (setV lay l).toArray 164 (0, 0)) := by simp [Fx.obj, hi]
theorem FxIs.o0 (h : FxIs s lay w) {k : Nat} {v : Value} {n : Int} (hk : s.op k = some (v, n)) : w.cell? ⟨lay (.O k), 0, none⟩ = some v := h.lies.cell (Fx.obj_o hk) rfl
theorem FxIs.o1 (h : FxIs s lay w) {k : Nat} {v : Value} {n : Int} (hk : s.op k = some (v, n)) : w.cell? ⟨lay (.O k), 1, none⟩ = some (.int .i64 n) := h.lies.cell (Fx.obj_o hk) rfl
theorem FxIs.of (h : FxIs s lay w) {k : Nat} {v : Value} {n : Int} (hk : s.op k = some (v, n)) (j : Nat) : w.frozen? ⟨lay (.O k), j, none⟩ = false := h.lies.fz (Fx.obj_o hk) j
theorem FxIs.z0 (h : FxIs s lay w) {i : Int} {l : List (Option Nat)} (hi : s.zs i = some l) : w.cell? ⟨lay (.Z i), 0, none⟩ = some (ptrOf (lay .X)) := h.lies.cell (Fx.obj_z hi) rfl
theorem FxIs.zf (h : FxIs s lay w) {i : Int} {l : List (Option Nat)} (hi : s.zs i = some l) (j : Nat) : w.frozen? ⟨lay (.Z i), j, none⟩ = false := h.lies.fz (Fx.obj_z hi) j
theorem FxIs.slot (h : FxIs s lay w) {i : Int} {l : List (Option Nat)} (hi : s.zs i = some l) {n : Nat} {o : Option Nat} (hn : l[n]? = some o) : w.cell? ⟨lay (.Z i), 1 + n, none⟩ = some (slotV lay o) :=
  h.lies.cell (Fx.obj_z hi) (by rw [List.getElem?_toArray, setV, Nat.add_comm 1 n, List.getElem?_cons_succ, List.getElem?_map, hn]; rfl)
/-- a number of sets more, what is open turned -/
def Fx.setMany (s : Fx) (n : Int) : Fx := { s with many := n }
def Fx.setOp (s : Fx) (k : Nat) (v : Value) (n : Int) : Fx := { s with op := fun j => if j = k then some (v, n) else s.op j }
def Fx.setZ (s : Fx) (i : Int) (l : List (Option Nat)) : Fx := { s with zs := fun j => if j = i then some l else s.zs j }
theorem Fx.setMany_obj (s : Fx) (lay : XId → Nat) (n : Int) (j : XId) : (s.setMany n).obj lay j = if j = .X then some (.cells #[ptrOf s.fs, .int .i64 n, s.sv] 141 (0, 0)) else s.obj lay j := by
  cases j <;> simp [Fx.obj, Fx.setMany]
theorem Fx.setOp_obj (s : Fx) (lay : XId → Nat) (k : Nat) (v : Value) (n : Int) (j : XId) : (s.setOp k v n).obj lay j = if j = .O k then some (.cells #[v, .int .i64 n] 198 (0, 0)) else s.obj lay j := by
  cases j with
  | O i => by_cases e : i = k <;> simp [Fx.obj, Fx.setOp, e]
  | _ => simp [Fx.obj, Fx.setOp]
theorem Fx.setZ_obj (s : Fx) (lay : XId → Nat) (i : Int) (l : List (Option Nat)) (j : XId) : (s.setZ i l).obj lay j = if j = .Z i then some (.cells (setV lay l).toArray 164 (0, 0)) else s.obj lay j := by
  cases j with
  | Z k => by_cases e : k = i <;> simp [Fx.obj, Fx.setZ, e]
  | _ => simp [Fx.obj, Fx.setZ]
section
variable {s0 : Fx} {lay0 : XId → Nat} {w0 : World}
theorem XStep.setMany (h : XStep s0 lay0 w0 s lay w) (n : Int) : XStep s0 lay0 w0 (s.setMany n) lay (w.setCell ⟨lay .X, 1, none⟩ (.int .i64 n)) :=
  ⟨h.g.set (i := .X) rfl 1 _ (fun j => by rw [Fx.setMany_obj]; rfl), ⟨h.ok.len, h.ok.live⟩, h.top⟩
theorem XStep.setOp (h : XStep s0 lay0 w0 s lay w) {k : Nat} {v : Value} {m : Int} (hk : s.op k = some (v, m)) (n : Int) : XStep s0 lay0 w0 (s.setOp k v n) lay (w.setCell ⟨lay (.O k), 1, none⟩ (.int .i64 n)) :=
  ⟨h.g.set (Fx.obj_o hk) 1 _ (fun j => by rw [Fx.setOp_obj]; rfl), ⟨h.ok.len, fun i l j hi hj => by
    obtain ⟨v', n', h'⟩ := h.ok.live i l j hi hj
    by_cases e : j = k
    · exact ⟨v, n, by simp [Fx.setOp, e]⟩
    · exact ⟨v', n', by simp [Fx.setOp, e, h']⟩⟩, h.top⟩
theorem XStep.setZ (h : XStep s0 lay0 w0 s lay w) {i : Int} {l : List (Option Nat)} (hi : s.zs i = some l) (n : Nat) (o : Option Nat) (hn : n < 16) (ho : ∀ k, o = some k → ∃ v m, s.op k = some (v, m)) : XStep s0 lay0 w0 (s.setZ i (l.set n o)) lay (w.setCell ⟨lay (.Z i), 1 + n, none⟩ (slotV lay o)) :=
  ⟨h.g.set (Fx.obj_z hi) (1 + n) _ (fun j => by
    rw [Fx.setZ_obj]
    have : (setV lay (l.set n o)).toArray = (setV lay l).toArray.setIfInBounds (1 + n) (slotV lay o) := by
      apply Array.ext'
      simp [setV, Nat.add_comm 1 n, List.map_set]
    rw [this]), ⟨fun j l' hj => by
      by_cases e : j = i
      · simp [Fx.setZ, e] at hj; rw [← hj, List.length_set]; exact h.ok.len i l hi
      · simp [Fx.setZ, e] at hj; exact h.ok.len j l' hj, fun j l' k hj hk => by
      by_cases e : j = i
      · simp [Fx.setZ, e] at hj
        rw [← hj] at hk
        rcases List.mem_or_eq_of_mem_set hk with q | q
        · exact h.ok.live i l k hi q
        · exact ho k q.symm
      · simp [Fx.setZ, e] at hj; exact h.ok.live j l' k hj hk⟩, h.top⟩
end
end

/-! ### calls of a set -/
theorem at_open {s lay} (i : Int) (l : List (Option Nat)) (n k : Nat) (w : World) (h : FxIs s lay w) (hi : s.zs i = some l) (hn : l[n]? = some (some k)) : Calls Tryz.prog 104 #[ptrOf (lay (.Z i)), .int .i64 n] w fun e w' => e = .returned (.tuple #[ptrOf (lay (.O k)), .int .i64 0]) ∧ w = w' := by
  have c1 := h.slot hi hn
  have hl := h.ok.len i l hi
  have hlt := (List.getElem?_eq_some_iff.1 hn).1
  have hn1 : (n : Int) < 16 := by omega
  simp only [slotV] at c1
  unfold ptrOf at *
  clear h hi hn hl
  go_enter Tryz.func104, Tryz.ntmps104
  go_wp2
  go_ret2
  exact ⟨rfl, rfl⟩
theorem at_shut {s lay} (i : Int) (l : List (Option Nat)) (n : Nat) (w : World) (h : FxIs s lay w) (hi : s.zs i = some l) (hn : l[n]? = some none) : Calls Tryz.prog 104 #[ptrOf (lay (.Z i)), .int .i64 n] w fun e w' => e = .returned (.tuple #[.pointer none, .int .i64 28]) ∧ w = w' := by
  have c1 := h.slot hi hn
  have hl := h.ok.len i l hi
  have hlt := (List.getElem?_eq_some_iff.1 hn).1
  have hn1 : (n : Int) < 16 := by omega
  simp only [slotV] at c1
  unfold ptrOf at *
  clear h hi hn hl
  go_enter Tryz.func104, Tryz.ntmps104
  go_wp2
  go_ret2
  exact ⟨rfl, rfl⟩
/-- a slot is taken by what is open already -/
theorem share_more {s lay} (i : Int) (l : List (Option Nat)) (n k : Nat) (v : Value) (c : Int) (w : World) (h : FxIs s lay w) (hi : s.zs i = some l) (hn : n < 16) (hk : s.op k = some (v, c)) (hc : 0 < c) (hc2 : c < 1000000) :
    Calls Tryz.prog 84 #[ptrOf (lay (.Z i)), .int .i64 n, ptrOf (lay (.O k))] w fun e w' => e = .returned (.tuple #[]) ∧ XStep s lay w ((s.setOp k v (c + 1)).setZ i (l.set n (some k))) lay w' := by
  have c1 := h.o1 hk
  have f1 := h.of hk 1
  have hn1 : (n : Int) < 16 := by omega
  have hz : (c == 0) = false := by simpa using (show c ≠ 0 by omega)
  have hst := ((XStep.refl h).setOp hk (c + 1)).setZ (i := i) (l := l) (by simpa [Fx.setOp] using hi) n (some k) hn (fun k' hk' => by cases hk'; exact ⟨v, c + 1, by simp [Fx.setOp]⟩)
  have f2 := h.zf hi (1 + n)
  obtain ⟨o3, ho3⟩ : ∃ o, l[n]? = some o := ⟨_, List.getElem?_eq_getElem (by rw [h.ok.len i l hi]; exact hn)⟩
  have c3 := h.slot hi ho3
  generalize slotV lay o3 = old at c3
  clear ho3
  have hne : lay (.O k) ≠ lay (.Z i) := h.lies.ne (Fx.obj_o hk) (Fx.obj_z hi) (by simp)
  simp only [slotV] at hst
  unfold ptrOf at *
  have HS := Lib.hid hst
  clear hst h hi hk
  go_enter Tryz.func84, Tryz.ntmps84
  go_wp2
  go_end0
  exact ⟨rfl, HS.out⟩
theorem XStep.newZ {s0 lay0 w0 s lay w} (h : XStep s0 lay0 w0 s lay w) {i : Int} (hi : s.zs i = none) (o : Obj) (lay' : XId → Nat) (hl : ∀ j, lay' j = if j = .Z i then w.heap.size else lay j) (ho : o = .cells (setV lay (List.replicate 16 none)).toArray 164 (0, 0)) : XStep s0 lay0 w0 (s.setZ i (List.replicate 16 none)) lay' (w.alloc o) := by
  have hx : ∀ k, lay' (.O k) = lay (.O k) := fun k => by rw [hl, if_neg (by simp)]
  have hX : lay' .X = lay .X := by rw [hl, if_neg (by simp)]
  have hsl : ∀ l, setV lay' l = setV lay l := fun l => by
    unfold setV
    rw [hX]
    congr 1
    apply List.map_congr_left
    intro a _
    cases a with
    | none => rfl
    | some k => simp only [slotV, hx]
  refine ⟨h.g.new (.Z i) o (fun j => ?_) hl, ⟨fun j l hj => ?_, fun j l k hj hk => ?_⟩, hX.trans h.top⟩
  · rw [Fx.setZ_obj]
    by_cases e : j = .Z i
    · rw [if_pos e, if_pos e, ho, hsl]
    · rw [if_neg e, if_neg e]
      cases j with
      | X => rfl
      | O k => rfl
      | Z k => simp only [Fx.obj, hsl]
  · by_cases e : j = i
    · simp [Fx.setZ, e] at hj; rw [← hj]; simp
    · simp [Fx.setZ, e] at hj; exact h.ok.len j l hj
  · by_cases e : j = i
    · simp [Fx.setZ, e] at hj; rw [← hj] at hk; simp at hk
    · simp [Fx.setZ, e] at hj; exact h.ok.live j l k hj hk
theorem newset_any {s lay} (i : Int) (lay' : XId → Nat) (w : World) (h : FxIs s lay w) (hi : s.zs i = none) (hl : ∀ j, lay' j = if j = .Z i then w.heap.size else lay j) : Calls Tryz.prog 35 #[ptrOf (lay .X)] w fun e w' =>
    e = .returned (ptrOf w.heap.size) ∧ XStep s lay w (s.setZ i (List.replicate 16 none)) lay' w' := by
  have hst := (XStep.refl h).newZ hi _ lay' hl rfl
  unfold ptrOf
  simp only [setV, List.map_replicate, slotV] at hst
  unfold ptrOf at hst
  go_enter Tryz.func35, Tryz.ntmps35
  go_wp2
  go_ret
  exact ⟨rfl, hst⟩
/-- a set forked, as far as the slot n -/
def Fx.forkS (s : Fx) (j : Int) (l : List (Option Nat)) (n : Nat) : Fx :=
  { s with op := fun k => (s.op k).map fun p => (p.1, p.2 + ((l.take n).count (some k) : Nat)), zs := fun x => if x = j then some (l.take n ++ List.replicate (16 - n) none) else s.zs x }
theorem forkS_zero (s : Fx) (j : Int) (l : List (Option Nat)) : s.forkS j l 0 = s.setZ j (List.replicate 16 none) := by
  simp [Fx.forkS, Fx.setZ]
theorem take_snoc2 {l : List (Option Nat)} {n : Nat} {o : Option Nat} (h : l[n]? = some o) : l.take (n + 1) = l.take n ++ [o] := by
  rw [List.take_add_one, h]; rfl
theorem forkS_none (s : Fx) (j : Int) {l : List (Option Nat)} {n : Nat} (hn : n < 16) (h : l[n]? = some none) : s.forkS j l (n + 1) = s.forkS j l n := by
  have e : 16 - n = (16 - (n + 1)) + 1 := by omega
  unfold Fx.forkS
  rw [take_snoc2 h, e, List.replicate_succ]
  simp
theorem forkS_some (s : Fx) (j : Int) {l : List (Option Nat)} {n k : Nat} {v : Value} {c : Int} (hn : n < 16) (h : l[n]? = some (some k)) (hk : s.op k = some (v, c)) :
    s.forkS j l (n + 1) = ((s.forkS j l n).setOp k v (c + ((l.take n).count (some k) : Nat) + 1)).setZ j ((l.take n ++ List.replicate (16 - n) none).set n (some k)) := by
  have e : 16 - n = (16 - (n + 1)) + 1 := by omega
  have hlt := (List.getElem?_eq_some_iff.1 h).1
  have hln : (l.take n).length = n := by rw [List.length_take]; omega
  unfold Fx.forkS Fx.setOp Fx.setZ
  rw [take_snoc2 h]
  simp only [Fx.mk.injEq, true_and]
  refine ⟨funext fun x => ?_, funext fun x => ?_⟩
  · by_cases q : x = k
    · subst q
      rw [if_pos rfl, hk]
      simp [List.count_append]
      omega
    · rw [if_neg q]
      have : ([some k] : List (Option Nat)).count (some x) = 0 := by
        rw [List.count_eq_zero]; simp [q]
      rw [List.count_append, this]; rfl
  · by_cases q : x = j
    · rw [if_pos q, if_pos q]
      congr 1
      rw [e, List.replicate_succ, List.set_append_right _ _ (by omega), hln, Nat.sub_self]
      simp
    · rw [if_neg q, if_neg q, if_neg q]
/-- a load, by what it reads -/
theorem wpList_load_at {P : Program} {ops : Array Oper} {rest : List Oper} {o : Oper} {a : Act} {w : World} {Q : Exit → Act → World → Prop} (hgd : o.guard = none) (ty : TypeId) (x : Operand) (ho : o.op = .load ty x) (ad : Addr) (hx : a.eval x = .pointer (some ad)) (v : Value)
    (hl : (loadVar ty ad).run P w = .ok v w) (h : wpList P ops Q rest (a.put o.dst v) w) : wpList P ops Q (o :: rest) a w := by
  refine wpList_plain hgd fun K hK => ?_
  unfold Oper.wp
  simp only [execOp, ho, hx, Instr.loadAt, Instr.sureAddr, Sem.run_bind, Sem.run_pure, Result.andThen_ok, hl]
  exact hK _ _ h
theorem run_index_arr {P : Program} {w : World} {t e : TypeId} {n i : Nat} {cs : Array Value} {v : Value} (ht : P.underlying t = some (.array n e)) (hi : i < n) (hs : (sizeOf e).run P w = .ok 1 w) (ha : (isAgg e).run P w = .ok false w) (hc : cs[i]? = some v) :
    (Instr.index t (.agg cs) (.int .i64 i)).run P w = .ok v w := by
  have h1 : (0 : Int) ≤ i ∧ (i : Int) < n := by omega
  have ha2 : (asIntOf (Value.int IntKind.i64 ↑i)).run P w = .ok (IntKind.i64, (i : Int)) w := rfl
  simp [Instr.index, run_underlying ht, h1, hs, part, ha, hc, hi, ha2]
theorem load_slots {s lay} (i : Int) (l : List (Option Nat)) (w : World) (h : FxIs s lay w) (hi : s.zs i = some l) : (loadVar 162 ⟨lay (.Z i), 1, none⟩).run Tryz.prog w = .ok (.agg (l.map (slotV lay)).toArray) w := by
  have hl := h.ok.len i l hi
  have hml : (l.map (slotV lay)).length = 16 := by rw [List.length_map, hl]
  have hrun := run_loadCells (P := Tryz.prog) w ⟨lay (.Z i), 1, none⟩ 16 (fun j => (l.map (slotV lay)).getD j undef) (fun j hj => by
    obtain ⟨o, ho⟩ : ∃ o, l[j]? = some o := ⟨_, List.getElem?_eq_getElem (by omega)⟩
    have hget : (l.map (slotV lay)).getD j undef = slotV lay o := by
      rw [List.getD_eq_getElem?_getD, List.getElem?_map, ho]; rfl
    have hadd : Addr.add ⟨lay (.Z i), 1, none⟩ j = ⟨lay (.Z i), 1 + j, none⟩ := by cases j <;> simp [Addr.add]
    rw [hadd, hget]; exact h.slot hi ho)
  have hlist : (List.range 16).map (fun j => (l.map (slotV lay)).getD j undef) = l.map (slotV lay) := by
    apply List.ext_getElem?
    intro j
    rw [List.getElem?_map]
    by_cases e : j < 16
    · rw [List.getElem?_range e, List.getElem?_eq_getElem (show j < (l.map (slotV lay)).length by omega)]
      simp [List.getD_eq_getElem?_getD, List.getElem?_eq_getElem (show j < l.length by omega)]
    · rw [List.getElem?_eq_none (by simpa using e), List.getElem?_eq_none (by omega)]; rfl
  rw [hlist] at hrun
  have hagg : (isAgg 162).run Tryz.prog w = .ok true w := by kernel_rfl
  have hsz : (sizeOf 162).run Tryz.prog w = .ok 16 w := by kernel_rfl
  simp only [loadVar, Sem.run_bind, hagg, Result.andThen_ok, if_true, hsz, hrun, Sem.run_pure]
end Go.Proofs.YtelohloaoocoaaaGreatDoor
/- fds.Set: Fork, Close, End. -/

namespace Go.Proofs.YtelohloaoocoaaaGreatDoor
open Go.RowKit IntWalk
set_option linter.unusedVariables false
set_option linter.unusedSimpArgs false
set_option linter.unnecessarySimpa false

/-- what is open in slots has some numbers, not too many -/
def Fx.Counted (s : Fx) (l : List (Option Nat)) : Prop := ∀ k, some k ∈ l → ∃ v c, s.op k = some (v, c) ∧ 0 < c ∧ c < 900000
theorem forkS_op {s : Fx} {j : Int} {l : List (Option Nat)} {n k : Nat} {v : Value} {c : Int} (hk : s.op k = some (v, c)) : (s.forkS j l n).op k = some (v, c + ((l.take n).count (some k) : Nat)) := by
  simp [Fx.forkS, hk]
theorem forkS_z (s : Fx) (j : Int) (l : List (Option Nat)) (n : Nat) : (s.forkS j l n).zs j = some (l.take n ++ List.replicate (16 - n) none) := by simp [Fx.forkS]
def FkRel (s : Fx) (lay : XId → Nat) (w : World) (j : Int) (l : List (Option Nat)) (lay' : XId → Nat) (n : Nat) (W : World) : Prop := XStep s lay w (s.forkS j l n) lay' W
set_option maxRecDepth 100000 in
theorem setfork_any {s lay} (i j : Int) (l : List (Option Nat)) (lay' : XId → Nat) (w : World) (h : FxIs s lay w) (hi : s.zs i = some l) (hj : s.zs j = none) (hc : s.Counted l) (hlay : ∀ x, lay' x = if x = .Z j then w.heap.size else lay x) :
    Calls Tryz.prog 108 #[ptrOf (lay (.Z i))] w fun e w' => e = .returned (ptrOf (lay' (.Z j))) ∧ XStep s lay w (s.forkS j l 16) lay' w' := by
  have hl := h.ok.len i l hi
  have c0 := h.z0 hi
  have hij : i ≠ j := by rintro rfl; rw [hi] at hj; cases hj
  have hnew := newset_any j lay' w h hj hlay
  have hlz : lay (.Z i) = lay' (.Z i) := by rw [hlay, if_neg (by simp [hij])]
  have hlj : w.heap.size = lay' (.Z j) := by rw [hlay, if_pos rfl]
  rw [hlj] at hnew
  rw [hlz] at c0 ⊢
  have hop : ∀ k, some k ∈ l → ∃ v c, s.op k = some (v, c) ∧ 0 < c ∧ c < 900000 := hc
  unfold ptrOf at *
  go_enter Tryz.func108, Tryz.ntmps108
  have HN := Lib.hid hnew
  have HI := Lib.hid hi
  have HOP := Lib.hid hop
  clear hnew hlz hlj hlay hop hc
  go_wp2_with fail
  refine HN.out.mono ?_
  rintro e w1 ⟨rfl, hst⟩
  have hi1 : (s.setZ j (List.replicate 16 none)).zs i = some l := by simp [Fx.setZ, hij, hi]
  have hload := load_slots i l w1 hst.is hi1
  have c1 := hst.is.z0 hi1
  rw [← forkS_zero s j l] at hst
  have HS := Lib.hid hst
  have HL := Lib.hid hload
  clear hst hload
  go_wp2_with (refine wpList_load_at rfl 162 _ rfl ⟨lay' (.Z i), 1, none⟩ rfl _ HL.out ?_)
  go_loopw [17] (fun i W => ∃ n : Nat, i = .int .i64 n ∧ n ≤ 16 ∧ FkRel s lay w j l lay' n W) (fun i _ => 16 - (intOf i).toNat)
  case atStart => exact ⟨0, rfl, by omega, HS.out⟩
  case round =>
    obtain ⟨n, rfl, hn, hR⟩ := hrel
    by_cases hlt : n < 16
    · obtain ⟨o, ho⟩ : ∃ o, l[n]? = some o := ⟨_, List.getElem?_eq_getElem (by omega)⟩
      have hlt1 : (n : Int) < 16 := by omega
      have hg1 : (l.map (slotV lay')).toArray[n]? = some (slotV lay' o) := by rw [List.getElem?_toArray, List.getElem?_map, ho]; rfl
      have hix := run_index_arr (P := Tryz.prog) (w := wr) Tryz.underlying162 hlt (by kernel_rfl) (by kernel_rfl) hg1
      cases o with
      | none =>
        simp only [slotV] at hix
        have HO := Lib.hid ho
        clear ho hg1
        go_wp2_with fail
        go_roundw
        case rel => exact ⟨n + 1, by go_num, hlt, by unfold FkRel; rw [forkS_none s j hlt HO.out]; exact hR⟩
        case measure => simp [intOf]; omega
      | some k =>
        simp only [slotV] at hix
        obtain ⟨v, c, hk, hc1, hc2⟩ := HOP.out k (List.mem_of_getElem? ho)
        have hcn : (l.take n).count (some k) ≤ 16 := Nat.le_trans List.count_le_length (by rw [List.length_take]; omega)
        have HC := Lib.hid (share_more (lay := lay') j _ n k v _ wr hR.is (forkS_z s j l n) hlt (forkS_op hk) (by omega) (by omega))
        have HO := Lib.hid ho
        have HK := Lib.hid hk
        clear ho hg1 hk
        unfold ptrOf at *
        go_wp2_with (go_at_call 84; refine HC.out.mono ?_; rintro e w2 ⟨rfl, hst⟩; have HST := Lib.hid hst; clear hst)
        go_roundw
        case rel => exact ⟨n + 1, by go_num, hlt, by unfold FkRel; rw [forkS_some s j hlt HO.out HK.out]; exact hR.trans HST.out⟩
        case measure => simp [intOf]; omega
    · have hn16 : n = 16 := by omega
      subst hn16
      go_wp2_with fail
      go_ret
      exact ⟨rfl, hR⟩
/-- the set's slot n is shut, others have what it had -/
theorem shut_more {s lay} (i : Int) (l : List (Option Nat)) (n k : Nat) (v : Value) (c : Int) (w : World) (h : FxIs s lay w) (hi : s.zs i = some l) (hn : l[n]? = some (some k)) (hk : s.op k = some (v, c)) (hc : 1 < c) (hc2 : c < 1000000) :
    Calls Tryz.prog 73 #[ptrOf (lay (.Z i)), .int .i64 n] w fun e w' => e = .returned (.int .i64 0) ∧ XStep s lay w ((s.setZ i (l.set n none)).setOp k v (c - 1)) lay w' := by
  have hl := h.ok.len i l hi
  have hlt := (List.getElem?_eq_some_iff.1 hn).1
  have hn1 : (n : Int) < 16 := by omega
  have c1 := h.o1 hk
  have f1 := h.of hk 1
  have c3 := h.slot hi hn
  have f2 := h.zf hi (1 + n)
  have hne : lay (.Z i) ≠ lay (.O k) := h.lies.ne (Fx.obj_z hi) (Fx.obj_o hk) (by simp)
  have hz : (c - 1 == 0) = false := by simpa using (show c - 1 ≠ 0 by omega)
  have hst := ((XStep.refl h).setZ hi n none (by omega) (fun k hk => by cases hk)).setOp (k := k) (v := v) (m := c) (by simpa [Fx.setZ] using hk) (c - 1)
  have HA := Lib.hid (at_open i l n k w h hi hn)
  simp only [slotV] at hst c3
  unfold ptrOf at *
  have HS := Lib.hid hst
  clear hst h hi hn hk
  go_enter Tryz.func73, Tryz.ntmps73
  go_wp2_with (go_at_call 104; refine HA.out.mono ?_; rintro e w' ⟨rfl, rfl⟩)
  go_ret
  exact ⟨rfl, HS.out⟩
theorem shut_none {s lay} (i : Int) (l : List (Option Nat)) (n : Nat) (w : World) (h : FxIs s lay w) (hi : s.zs i = some l) (hn : l[n]? = some none) :
    Calls Tryz.prog 73 #[ptrOf (lay (.Z i)), .int .i64 n] w fun e w' => e = .returned (.int .i64 28) ∧ w = w' := by
  have HA := Lib.hid (at_shut i l n w h hi hn)
  unfold ptrOf at *
  clear h hi hn
  go_enter Tryz.func73, Tryz.ntmps73
  go_wp2_with (go_at_call 104; refine HA.out.mono ?_; rintro e w' ⟨rfl, rfl⟩)
  go_ret
  exact ⟨rfl, rfl⟩
end Go.Proofs.YtelohloaoocoaaaGreatDoor
/- fds.Set: the last number of a tape, or of a sink; End. -/
namespace Go.Proofs.YtelohloaoocoaaaGreatDoor
open Go.RowKit IntWalk
set_option linter.unusedVariables false
set_option linter.unusedSimpArgs false
set_option linter.unnecessarySimpa false

theorem tapeclose_any (b : Value) (w : World) : Calls Tryz.prog 344 #[b] w fun e w' => e = .returned (.int .i64 0) ∧ w = w' := by
  go_enter Tryz.func344, Tryz.ntmps344
  go_wp2
  go_ret
  exact ⟨rfl, rfl⟩
set_option maxRecDepth 100000 in
theorem shut_tape {s lay} (i : Int) (l : List (Option Nat)) (n k b : Nat) (w : World) (h : FxIs s lay w) (hi : s.zs i = some l) (hn : l[n]? = some (some k)) (hk : s.op k = some (.iface 166 (ptrOf b), 1)) (hm : 0 < s.many) (hm2 : s.many < 1000000) :
    Calls Tryz.prog 73 #[ptrOf (lay (.Z i)), .int .i64 n] w fun e w' => e = .returned (.int .i64 0) ∧ XStep s lay w (((s.setZ i (l.set n none)).setOp k (.iface 166 (ptrOf b)) 0).setMany (s.many - 1)) lay w' := by
  have hl := h.ok.len i l hi
  have hlt := (List.getElem?_eq_some_iff.1 hn).1
  have hn1 : (n : Int) < 16 := by omega
  have c0 := h.o0 hk
  have c1 := h.o1 hk
  have f1 := h.of hk 1
  have c3 := h.slot hi hn
  have c4 := h.z0 hi
  have c5 := h.x1
  have f5 := h.xf 1
  have f2 := h.zf hi (1 + n)
  have hne : lay (.Z i) ≠ lay (.O k) := h.lies.ne (Fx.obj_z hi) (Fx.obj_o hk) (by simp)
  have hne2 : lay .X ≠ lay (.O k) := h.lies.ne (i := .X) rfl (Fx.obj_o hk) (by simp)
  have hne3 : lay .X ≠ lay (.Z i) := h.lies.ne (i := .X) rfl (Fx.obj_z hi) (by simp)
  have hst := (((XStep.refl h).setZ hi n none (by omega) (fun k hk => by cases hk)).setOp (k := k) (v := .iface 166 (ptrOf b)) (m := 1) (by simpa [Fx.setZ] using hk) 0).setMany (s.many - 1)
  have HA := Lib.hid (at_open i l n k w h hi hn)
  simp only [slotV] at hst c3
  unfold ptrOf at *
  have HS := Lib.hid hst
  clear hst h hi hn hk
  have hmt : ∀ W : World, (method 522 166 (.pointer (some ⟨b, 0, none⟩)) "Close").run Tryz.prog W = .ok (344, .pointer (some ⟨b, 0, none⟩)) W := fun _ => by kernel_rfl
  go_enter Tryz.func73, Tryz.ntmps73
  go_wp2_with first
    | (go_at_call 104; refine HA.out.mono ?_; rintro e w' ⟨rfl, rfl⟩)
    | (go_at_call 344; refine (tapeclose_any _ _).mono ?_; rintro e w' ⟨rfl, rfl⟩)
  go_ret
  exact ⟨rfl, HS.out⟩
theorem sinkclose_any (b : Value) (w : World) : Calls Tryz.prog 340 #[b] w fun e w' => e = .returned (.int .i64 0) ∧ w = w' := by
  go_enter Tryz.func340, Tryz.ntmps340
  go_wp2
  go_ret
  exact ⟨rfl, rfl⟩
set_option maxRecDepth 100000 in
theorem shut_sink {s lay} (i : Int) (l : List (Option Nat)) (n k b : Nat) (w : World) (h : FxIs s lay w) (hi : s.zs i = some l) (hn : l[n]? = some (some k)) (hk : s.op k = some (.iface 144 (ptrOf b), 1)) (hm : 0 < s.many) (hm2 : s.many < 1000000) :
    Calls Tryz.prog 73 #[ptrOf (lay (.Z i)), .int .i64 n] w fun e w' => e = .returned (.int .i64 0) ∧ XStep s lay w (((s.setZ i (l.set n none)).setOp k (.iface 144 (ptrOf b)) 0).setMany (s.many - 1)) lay w' := by
  have hl := h.ok.len i l hi
  have hlt := (List.getElem?_eq_some_iff.1 hn).1
  have hn1 : (n : Int) < 16 := by omega
  have c0 := h.o0 hk
  have c1 := h.o1 hk
  have f1 := h.of hk 1
  have c3 := h.slot hi hn
  have c4 := h.z0 hi
  have c5 := h.x1
  have f5 := h.xf 1
  have f2 := h.zf hi (1 + n)
  have hne : lay (.Z i) ≠ lay (.O k) := h.lies.ne (Fx.obj_z hi) (Fx.obj_o hk) (by simp)
  have hne2 : lay .X ≠ lay (.O k) := h.lies.ne (i := .X) rfl (Fx.obj_o hk) (by simp)
  have hne3 : lay .X ≠ lay (.Z i) := h.lies.ne (i := .X) rfl (Fx.obj_z hi) (by simp)
  have hst := (((XStep.refl h).setZ hi n none (by omega) (fun k hk => by cases hk)).setOp (k := k) (v := .iface 144 (ptrOf b)) (m := 1) (by simpa [Fx.setZ] using hk) 0).setMany (s.many - 1)
  have HA := Lib.hid (at_open i l n k w h hi hn)
  simp only [slotV] at hst c3
  unfold ptrOf at *
  have HS := Lib.hid hst
  clear hst h hi hn hk
  have hmt : ∀ W : World, (method 522 144 (.pointer (some ⟨b, 0, none⟩)) "Close").run Tryz.prog W = .ok (340, .pointer (some ⟨b, 0, none⟩)) W := fun _ => by kernel_rfl
  go_enter Tryz.func73, Tryz.ntmps73
  go_wp2_with first
    | (go_at_call 104; refine HA.out.mono ?_; rintro e w' ⟨rfl, rfl⟩)
    | (go_at_call 340; refine (sinkclose_any _ _).mono ?_; rintro e w' ⟨rfl, rfl⟩)
  go_ret
  exact ⟨rfl, HS.out⟩
/-- End, by what holds as each number has been shut -/
theorem setend_any (b : Nat) (Inv : Nat → World → Prop) (w : World) (h0 : Inv 0 w) (hr : ∀ n W, n < 16 → Inv n W → Calls Tryz.prog 73 #[ptrOf b, .int .i64 n] W fun e w' => (∃ r, e = .returned (.int .i64 r)) ∧ Inv (n + 1) w') :
    Calls Tryz.prog 109 #[ptrOf b] w fun e w' => e = .returned (.tuple #[]) ∧ Inv 16 w' := by
  have HR := Lib.hid hr
  clear hr
  unfold ptrOf at *
  go_enter Tryz.func109, Tryz.ntmps109
  go_wp2_with fail
  go_loopw [3] (fun i W => ∃ n : Nat, i = .int .i64 n ∧ n ≤ 16 ∧ Inv n W) (fun i _ => 16 - (intOf i).toNat)
  case atStart => exact ⟨0, rfl, by omega, h0⟩
  case round =>
    obtain ⟨n, rfl, hn, hI⟩ := hrel
    by_cases hlt : n < 16
    · have hlt1 : (n : Int) < 16 := by omega
      go_wp2_with (go_at_call 73; refine (HR.out n _ hlt hI).mono ?_; rintro e w2 ⟨⟨r, rfl⟩, hI2⟩)
      go_roundw
      case rel => exact ⟨n + 1, by go_num, hlt, hI2⟩
      case measure => simp [intOf]; omega
    · have hn16 : n = 16 := by omega
      subst hn16
      go_wp2_with fail
      go_end0
      exact ⟨rfl, hI⟩
/-- a set ends, others share all that it has -/
def Fx.endS (s : Fx) (i : Int) (l : List (Option Nat)) (n : Nat) : Fx :=
  { s with op := fun k => (s.op k).map fun p => (p.1, p.2 - ((l.take n).count (some k) : Nat)), zs := fun x => if x = i then some (List.replicate n none ++ l.drop n) else s.zs x }
theorem endS_zero {s : Fx} {i : Int} {l : List (Option Nat)} (hi : s.zs i = some l) : s.endS i l 0 = s := by
  cases s
  simp only [Fx.endS, Fx.mk.injEq, true_and]
  refine ⟨funext fun k => ?_, funext fun x => ?_⟩
  · rename_i op zs
    cases h : op k with
    | none => rfl
    | some p => simp [h]
  · by_cases q : x = i
    · rw [if_pos q, q]; simpa using hi.symm
    · rw [if_neg q]
theorem endS_z (s : Fx) (i : Int) (l : List (Option Nat)) (n : Nat) : (s.endS i l n).zs i = some (List.replicate n none ++ l.drop n) := by simp [Fx.endS]
theorem endS_op {s : Fx} {i : Int} {l : List (Option Nat)} {n k : Nat} {v : Value} {c : Int} (hk : s.op k = some (v, c)) : (s.endS i l n).op k = some (v, c - ((l.take n).count (some k) : Nat)) := by
  simp [Fx.endS, hk]
theorem end_slots {l : List (Option Nat)} {n : Nat} {o : Option Nat} (h : l[n]? = some o) : (List.replicate n none ++ l.drop n)[n]? = some o ∧ (List.replicate n none ++ l.drop n).set n none = List.replicate (n + 1) none ++ l.drop (n + 1) := by
  have hlt := (List.getElem?_eq_some_iff.1 h).1
  refine ⟨?_, ?_⟩
  · rw [List.getElem?_append_right (by simp)]
    simp [h]
  · rw [List.set_append_right _ _ (by simp), List.length_replicate, Nat.sub_self, List.drop_eq_getElem_cons hlt, List.set_cons_zero, List.replicate_succ']
    simp
theorem endS_none {s : Fx} {i : Int} {l : List (Option Nat)} {n : Nat} (h : l[n]? = some none) : s.endS i l (n + 1) = s.endS i l n := by
  have hlt := (List.getElem?_eq_some_iff.1 h).1
  have hv : l[n] = none := (List.getElem?_eq_some_iff.1 h).2
  unfold Fx.endS
  rw [take_snoc2 h, List.replicate_succ', List.drop_eq_getElem_cons (i := n) hlt, hv]
  simp
theorem endS_some {s : Fx} {i : Int} {l : List (Option Nat)} {n k : Nat} {v : Value} {c : Int} (h : l[n]? = some (some k)) (hk : s.op k = some (v, c)) :
    s.endS i l (n + 1) = ((s.endS i l n).setZ i ((List.replicate n none ++ l.drop n).set n none)).setOp k v (c - ((l.take n).count (some k) : Nat) - 1) := by
  rw [(end_slots h).2]
  unfold Fx.endS Fx.setOp Fx.setZ
  rw [take_snoc2 h]
  simp only [Fx.mk.injEq, true_and]
  refine ⟨funext fun x => ?_, funext fun x => ?_⟩
  · by_cases q : x = k
    · subst q
      rw [if_pos rfl, hk]
      simp [List.count_append]
      omega
    · rw [if_neg q]
      have : ([some k] : List (Option Nat)).count (some x) = 0 := by
        rw [List.count_eq_zero]; simp [q]
      rw [List.count_append, this]; rfl
  · by_cases q : x = i
    · rw [if_pos q, if_pos q]
    · rw [if_neg q, if_neg q, if_neg q]
theorem setend_more {s lay} (i : Int) (l : List (Option Nat)) (w : World) (h : FxIs s lay w) (hi : s.zs i = some l) (hc : ∀ k, some k ∈ l → ∃ v c, s.op k = some (v, c) ∧ (l.count (some k) : Int) < c ∧ c < 1000000) :
    Calls Tryz.prog 109 #[ptrOf (lay (.Z i))] w fun e w' => e = .returned (.tuple #[]) ∧ XStep s lay w (s.endS i l 16) lay w' := by
  have hl := h.ok.len i l hi
  refine setend_any (lay (.Z i)) (fun n W => XStep s lay w (s.endS i l n) lay W) w (by rw [endS_zero hi]; exact XStep.refl h) fun n W hn hI => ?_
  obtain ⟨o, ho⟩ : ∃ o, l[n]? = some o := ⟨_, List.getElem?_eq_getElem (by omega)⟩
  cases o with
  | none =>
    refine (shut_none i _ n W hI.is (endS_z s i l n) (end_slots ho).1).mono ?_
    rintro e w' ⟨rfl, rfl⟩
    exact ⟨⟨_, rfl⟩, by rw [endS_none ho]; exact hI⟩
  | some k =>
    obtain ⟨v, c, hk, h1, h2⟩ := hc k (List.mem_of_getElem? ho)
    have hcn : (l.take (n + 1)).count (some k) ≤ l.count (some k) := (List.take_sublist _ _).count_le _
    have hcs : (l.take (n + 1)).count (some k) = (l.take n).count (some k) + 1 := by rw [take_snoc2 ho]; simp [List.count_append]
    refine (shut_more i _ n k v _ W hI.is (endS_z s i l n) (end_slots ho).1 (endS_op hk) (by omega) (by omega)).mono ?_
    rintro e w' ⟨rfl, hst⟩
    exact ⟨⟨_, rfl⟩, by rw [endS_some ho hk]; exact hI.trans hst⟩
/-- the last set ends: a tape and two sinks -/
def stdSlots : List (Option Nat) := some 0 :: some 1 :: some 2 :: List.replicate 13 none
def Fx.lastS (s : Fx) (i : Int) (n : Nat) : Fx :=
  { s with many := s.many - (min n 3 : Nat), op := fun k => if k < min n 3 then (s.op k).map (fun p => (p.1, 0)) else s.op k, zs := fun x => if x = i then some (List.replicate n none ++ stdSlots.drop n) else s.zs x }
theorem setend_last {s lay} (i : Int) (b0 b1 b2 : Nat) (w : World) (h : FxIs s lay w) (hi : s.zs i = some stdSlots) (h0 : s.op 0 = some (.iface 166 (ptrOf b0), 1)) (h1 : s.op 1 = some (.iface 144 (ptrOf b1), 1)) (h2 : s.op 2 = some (.iface 144 (ptrOf b2), 1)) (hm : s.many = 3) :
    Calls Tryz.prog 109 #[ptrOf (lay (.Z i))] w fun e w' => e = .returned (.tuple #[]) ∧ XStep s lay w (s.lastS i 16) lay w' := by
  have hstep : ∀ n k v, n < 3 → k = n → s.op n = some (v, 1) → s.lastS i (n + 1) = (((s.lastS i n).setZ i ((List.replicate n none ++ stdSlots.drop n).set n none)).setOp k v 0).setMany ((s.lastS i n).many - 1) := by
    rintro n k v hn rfl hv
    have hs : stdSlots[k]? = some (some k) := by
      match k, hn with
      | 0, _ => rfl
      | 1, _ => rfl
      | 2, _ => rfl
    rw [(end_slots hs).2]
    unfold Fx.lastS Fx.setOp Fx.setZ Fx.setMany
    simp only [Fx.mk.injEq, true_and]
    refine ⟨by omega, funext fun x => ?_, funext fun x => ?_⟩
    · by_cases q : x = k
      · subst q; rw [if_pos (by omega), if_pos rfl, hv]; rfl
      · rw [if_neg q]
        by_cases q2 : x < k
        · rw [if_pos (by omega), if_pos (by omega)]
        · rw [if_neg (by omega), if_neg (by omega)]
    · by_cases q : x = i
      · rw [if_pos q, if_pos q]
      · rw [if_neg q, if_neg q, if_neg q]
  refine setend_any (lay (.Z i)) (fun n W => XStep s lay w (s.lastS i n) lay W) w ?_ fun n W hn hI => ?_
  · have : s.lastS i 0 = s := by
      cases s
      simp only [Fx.lastS, Fx.mk.injEq, true_and]
      refine ⟨by omega, funext fun k => by simp, funext fun x => ?_⟩
      by_cases q : x = i
      · rw [if_pos q, q]; simpa using hi.symm
      · rw [if_neg q]
    rw [this]; exact XStep.refl h
  · have hz : (s.lastS i n).zs i = some (List.replicate n none ++ stdSlots.drop n) := by simp [Fx.lastS]
    have hop : ∀ k v, n ≤ k → s.op k = some (v, 1) → (s.lastS i n).op k = some (v, 1) := fun k v hk hv => by
      simp only [Fx.lastS]
      rw [if_neg (by omega), hv]
    have hmn : (s.lastS i n).many = 3 - (min n 3 : Nat) := by simp [Fx.lastS, hm]
    by_cases hn3 : n < 3
    · match n, hn3 with
      | 0, _ =>
        refine (shut_tape i _ 0 0 b0 W hI.is hz (end_slots (o := some 0) rfl).1 (hop 0 _ (by omega) h0) (by rw [hmn]; decide) (by rw [hmn]; decide)).mono ?_
        rintro e w' ⟨rfl, hst⟩
        exact ⟨⟨_, rfl⟩, by rw [hstep 0 0 _ (by omega) rfl h0]; exact hI.trans hst⟩
      | 1, _ =>
        refine (shut_sink i _ 1 1 b1 W hI.is hz (end_slots (o := some 1) rfl).1 (hop 1 _ (by omega) h1) (by rw [hmn]; decide) (by rw [hmn]; decide)).mono ?_
        rintro e w' ⟨rfl, hst⟩
        exact ⟨⟨_, rfl⟩, by rw [hstep 1 1 _ (by omega) rfl h1]; exact hI.trans hst⟩
      | 2, _ =>
        refine (shut_sink i _ 2 2 b2 W hI.is hz (end_slots (o := some 2) rfl).1 (hop 2 _ (by omega) h2) (by rw [hmn]; decide) (by rw [hmn]; decide)).mono ?_
        rintro e w' ⟨rfl, hst⟩
        exact ⟨⟨_, rfl⟩, by rw [hstep 2 2 _ (by omega) rfl h2]; exact hI.trans hst⟩
    · have hs : stdSlots[n]? = some none := by
        obtain ⟨m, rfl⟩ : ∃ m, n = m + 3 := ⟨n - 3, by omega⟩
        show (List.replicate 13 none)[m]? = _
        rw [List.getElem?_replicate, if_pos (by omega)]
      refine (shut_none i _ n W hI.is hz (end_slots hs).1).mono ?_
      rintro e w' ⟨rfl, rfl⟩
      refine ⟨⟨_, rfl⟩, ?_⟩
      have : s.lastS i (n + 1) = s.lastS i n := by
        have hlt := (List.getElem?_eq_some_iff.1 hs).1
        have hv : stdSlots[n] = none := (List.getElem?_eq_some_iff.1 hs).2
        unfold Fx.lastS
        rw [List.replicate_succ', List.drop_eq_getElem_cons (i := n) hlt, hv, show min (n + 1) 3 = min n 3 by omega]
        simp
      rw [this]; exact hI
end Go.Proofs.YtelohloaoocoaaaGreatDoor
/- procs.Table: Fork, leave, Exit of a process without children, Wait. -/
namespace Go.Proofs.YtelohloaoocoaaaGreatDoor
open Go.RowKit IntWalk
set_option linter.unusedVariables false
set_option linter.unusedSimpArgs false
set_option linter.unnecessarySimpa false

/-- a process more -/
def Tab.addP (t : Tab) (i : Int) (p : Pr) : Tab := { t with m := t.m.add i, pr := fun j => if j = i then p else t.pr j }
def Tab.delP (t : Tab) (i : Int) : Tab := { t with m := t.m.del i }
section
variable {t t' : Tab} {lay lay' : TId → Nat} {w w' : World}
theorem TabIs.below (h : TabIs t lay w) (hb : Below w.heap.size w w') : TabIs t lay w' := ⟨((GStep.refl h.lies).below hb).lies, h.ok⟩
theorem TStep.below {w''} (h : TStep t lay w t' lay' w') (hb : Below w'.heap.size w' w'') : TStep t lay w t' lay' w'' := ⟨h.g.below hb, h.ok, h.top⟩
theorem TStep.drewN (h : TStep t lay w t' lay' w') (n : Nat) : TStep t lay w t' lay' (w'.drewN n) := ⟨h.g.drewN n, h.ok, h.top⟩
/-- a new process, and the map that has it -/
theorem TStep.addP (h : TStep t lay w t' lay' w') {i : Int} (hi : i ∉ t'.m.keys) (p : Pr) (lay2 : TId → Nat) (hl : ∀ j, lay2 j = if j = .P i then w'.heap.size else lay' j) :
    TStep t lay w (t'.addP i p) lay2 { (w'.alloc (.cells (prV p) 134 (0, 0))) with heap := (w'.alloc (.cells (prV p) 134 (0, 0))).heap.setIfInBounds (lay2 .M) ((t'.m.gm fun i => lay' (.P i)).put (.int i) (ptrOf w'.heap.size)).obj } := by
  have hput := PMap.put_gm (m := t'.m) (lay := fun i => lay' (.P i)) (lay' := fun i => lay2 (.P i)) (b := w'.heap.size) hi (fun j hj => by
    show lay2 (.P j) = lay' (.P j)
    rw [hl, if_neg (by intro e; cases e; exact hi hj)]) (by show lay2 (.P i) = _; rw [hl, if_pos rfl])
  rw [hput]
  have hM : lay2 .M = lay' .M := by rw [hl, if_neg (by simp)]
  have hT : lay2 .T = lay' .T := by rw [hl, if_neg (by simp)]
  have h1 : GStep (t.obj lay) lay w (fun j => if j = .P i then some (.cells (prV p) 134 (0, 0)) else t'.obj lay' j) lay2 (w'.alloc (.cells (prV p) 134 (0, 0))) :=
    h.g.new (.P i) _ (fun j => rfl) hl
  refine ⟨h1.put (i := .M) (o := (t'.m.gm fun i => lay' (.P i)).obj) (by simp [Tab.obj]) (fun j => ?_), h.ok.add hi, hT.trans h.top⟩
  cases j with
  | T => simp [Tab.obj, Tab.addP, hM]
  | M => simp [Tab.obj, Tab.addP]
  | P k =>
    by_cases e : k = i
    · subst e; simp [Tab.obj, Tab.addP, PMap.mem_add]
    · simp [Tab.obj, Tab.addP, PMap.mem_add, e]
theorem TStep.delP (h : TStep t lay w t' lay' w') (i : Int) : TStep t lay w (t'.delP i) lay' { w' with heap := w'.heap.setIfInBounds (lay' .M) ((t'.m.gm fun i => lay' (.P i)).del (.int i)).obj } := by
  rw [PMap.del_gm h.ok]
  refine ⟨(h.g.put (i := .M) (c3 := fun j => if j = .M then some ((t'.m.del i).gm fun i => lay' (.P i)).obj else t'.obj lay' j) rfl (fun j => rfl)).less (fun j o hj => ?_), h.ok.del i, h.top⟩
  cases j with
  | T => simpa [Tab.obj, Tab.delP] using hj
  | M => simpa [Tab.obj, Tab.delP] using hj
  | P k =>
    simp only [Tab.obj, Tab.delP, PMap.mem_del] at hj
    by_cases e : k ∈ t'.m.keys ∧ k ≠ i
    · rw [if_pos e] at hj; simp [Tab.obj, e.1]; simpa using hj
    · rw [if_neg e] at hj; cases hj
end
set_option maxRecDepth 100000 in
theorem fork_any {t lay} (p q : Int) (lay' : TId → Nat) (w : World) (h : TabIs t lay w) (hp : p ∈ t.m.keys) (hs : (t.pr p).state ≠ 3) (hq1 : 1 ≤ q) (hqm : q ≤ t.most) (hm : t.most ≤ 1024) (hin : ∀ j, 1 ≤ j → j < q → j ∈ t.m.keys) (hout : q ∉ t.m.keys) (hl : ∀ j, lay' j = if j = .P q then w.heap.size else lay j) :
    Calls Tryz.prog 34 #[ptrOf (lay .T), .int .i64 p] w fun e w' => e = .returned (.tuple #[.int .i64 q, .int .i64 0]) ∧ TStep t lay w (t.addP q ⟨1, p, 0⟩) lay' w' := by
  have c0 := h.t0
  have c1 := h.t1
  have hA := alive_in p w h hp hs
  have hp2 : p ≠ 0 ∨ p = 0 := by omega
  have hst := (TStep.refl h).addP hout ⟨1, p, 0⟩ lay' hl
  have hM : lay' .M = lay .M := by rw [hl, if_neg (by simp)]
  rw [hM] at hst
  have HS := Lib.hid hst
  have HA := Lib.hid hA
  have HIN := Lib.hid hin
  have HST := Lib.hid (fun (o : Obj) => GMap.store (P := Tryz.prog) (w := w.alloc o) (k := .int q) (v := ptrOf w.heap.size) Tryz.underlying129 Tryz.underlying3 (PMap.of_gm t.m _) ((Below.heap_alloc w o _ (h.lies.owns_lt ⟨.M, by simp [Tab.obj], rfl⟩)).trans h.mapAt))
  have hq2 : q ≤ 1024 := by omega
  unfold ptrOf at *
  clear hst hA hl hM hin
  go_enter Tryz.func34, Tryz.ntmps34
  go_wp2_with (go_at_call 54; refine HA.out.mono ?_; rintro e w' ⟨rfl, rfl⟩)
  go_loop [8] (fun i => ∃ k : Nat, i = .int .i64 k ∧ 1 ≤ k ∧ (k : Int) ≤ q) (fun i => 2000 - (intOf i).toNat)
  case atStart => exact ⟨1, rfl, by omega, by omega⟩
  case round =>
    obtain ⟨k, rfl, hk1, hk2⟩ := hrel
    have hkm : (k : Int) ≤ t.most := by omega
    by_cases hlt : (k : Int) < q
    · have hlook := h.look_in (HIN.out k (by omega) hlt)
      go_wp2_with fail
      go_round
      case rel => exact ⟨k + 1, by go_num, by omega, by omega⟩
      case measure => simp [intOf]; omega
    · have hkq : (k : Int) = q := by omega
      subst hkq
      have hlook := h.look_out hout
      have hsto := HST.out (.cells #[.int .i64 1, .int .i64 p, .int .i64 0] 134 (0, 0))
      simp only [Key.val] at hsto
      go_wp2_with fail
      go_ret2
      exact ⟨rfl, HS.out⟩
end Go.Proofs.YtelohloaoocoaaaGreatDoor
/- Ranges over a map: the iterator, what is to come. No program's text. -/
namespace Go.Proofs.YtelohloaoocoaaaGreatDoor
open Go.RowKit
set_option linter.unusedVariables false
set_option linter.unusedSimpArgs false
set_option linter.unnecessarySimpa false

/-! ### ranges over a map -/
theorem filter_less {α : Type} {p q : α → Bool} : ∀ {l : List α}, (∀ x ∈ l, p x = true → q x = true) → ∀ e ∈ l, q e = true → p e = false → (l.filter p).length < (l.filter q).length
  | [], _, e, he, _, _ => by cases he
  | x :: l, h, e, he, h1, h2 => by
    have hle : (l.filter p).length ≤ (l.filter q).length := by
      rw [← List.countP_eq_length_filter, ← List.countP_eq_length_filter]
      exact List.countP_mono_left (fun y hy hp => h y (List.mem_cons_of_mem _ hy) hp)
    rcases List.mem_cons.1 he with rfl | he'
    · rw [List.filter_cons_of_pos h1, List.filter_cons_of_neg (by rw [h2]; simp), List.length_cons]; omega
    · have := filter_less (fun y hy => h y (List.mem_cons_of_mem _ hy)) e he' h1 h2
      by_cases hp : p x = true
      · rw [List.filter_cons_of_pos hp, List.filter_cons_of_pos (h x (by simp) hp), List.length_cons, List.length_cons]; omega
      · rw [List.filter_cons_of_neg hp]
        by_cases hq : q x = true
        · rw [List.filter_cons_of_pos hq, List.length_cons]; omega
        · rw [List.filter_cons_of_neg hq]; exact this
def leftN (es : List (Key × Value × Nat)) (w : World) (r : Nat) : Nat := match w.heap[r]? with
  | some (.mapIter _ _ seen _) => (es.filter fun e => decide (e.2.2 ∉ seen)).length
  | _ => 0
theorem leftN_at {es : List (Key × Value × Nat)} {w : World} {r : Nat} {b : Option Nat} {since c : Nat} {seen : Array Nat} (h : w.heap[r]? = some (.mapIter b since seen c)) : leftN es w r = (es.filter fun e => decide (e.2.2 ∉ seen)).length := by
  unfold leftN; rw [h]
def iterO (b : Nat) (c : Nat) (seen : Array Nat) : Obj := .mapIter (some b) c seen c
def putO (w : World) (r : Nat) (o : Obj) : World := { w with heap := w.heap.setIfInBounds r o }
theorem putO_at {w : World} {r : Nat} (o : Obj) (h : r < w.heap.size) : (putO w r o).heap[r]? = some o := by
  show (w.heap.setIfInBounds r o)[r]? = _
  rw [Array.getElem?_setIfInBounds, if_pos rfl, if_pos h]
theorem putO_ne {w : World} {r b : Nat} (o : Obj) (h : r ≠ b) : (putO w r o).heap[b]? = w.heap[b]? := by
  show (w.heap.setIfInBounds r o)[b]? = _
  rw [Array.getElem?_setIfInBounds, if_neg h]
theorem run_range_g {P : Program} {w : World} {t kt et : TypeId} {m : GMap} {b : Nat} (ht : P.underlying t = some (.map kt et)) (hb : w.heap[b]? = some m.obj) : (Instr.range t (.map (some b))).run P w = .ok (.pointer (some ⟨w.heap.size, 0, none⟩)) (w.alloc (iterO b m.clk #[])) := by
  simp [Instr.range, run_underlying ht, map_got (P := P) hb]
  rfl
theorem wpList_next_o {P : Program} {w : World} {ops : Array Oper} {rest : List Oper} {o : Oper} {a : Act} {Q : Exit → Act → World → Prop} (hg : o.guard = none) (it : Operand) (hop : o.op = Op.next it false) (r b : Nat) (seen : Array Nat) (m : GMap)
    (hit : a.eval it = .pointer (some ⟨r, 0, none⟩)) (hr : w.heap[r]? = some (iterO b m.clk seen)) (hb : w.heap[b]? = some m.obj) (hgd : m.Good)
    (hDone : (∀ x ∈ m.es, x.2.2 ∈ seen) → wpList P ops Q rest (a.put o.dst (.tuple #[.bool false])) w)
    (hMore : ∀ x, x ∈ m.es → x.2.2 ∉ seen → ∀ n, wpList P ops Q rest (a.put o.dst (.tuple #[.bool true, x.1.val, x.2.1])) (putO (w.drewN n) r (iterO b m.clk (seen.push x.2.2)))) :
    wpList P ops Q (o :: rest) a w :=
  wpList_next_g hg it hop r b m.clk m.clk seen m hit hr hb (fun x hx => hgd.below (x.1, x.2.2) (List.mem_map_of_mem (f := fun e : Key × Value × Nat => (e.1, e.2.2)) hx)) (Nat.le_refl _) hDone (fun x hx hn n => hMore x hx hn n)

theorem below_putO {w W : World} (h : Below w.heap.size w W) {r : Nat} (hr : w.heap.size ≤ r) (o : Obj) : Below w.heap.size w (putO W r o) :=
  ⟨h.os, h.tape, h.output, by simpa [putO] using h.size, fun k hk => by rw [putO_ne _ (by omega)]; exact h.block k hk⟩
/-- a range's world: the iterator at r, and nothing below is turned -/
structure It (w1 : World) (b c r : Nat) (seen : Array Nat) (W : World) : Prop where
  below : Below w1.heap.size w1 W
  it : W.heap[r]? = some (iterO b c seen)
  new : w1.heap.size ≤ r
theorem It.start (w : World) (b c : Nat) : It w b c w.heap.size #[] (w.alloc (iterO b c #[])) :=
  ⟨(Below.refl _ _).alloc (Nat.le_refl _) _, by show (w.heap.push _)[w.heap.size]? = _; exact Array.getElem?_push_size, Nat.le_refl _⟩
theorem It.next {w1 W : World} {b c r : Nat} {seen : Array Nat} (h : It w1 b c r seen W) (n k : Nat) : It w1 b c r (seen.push k) (putO (W.drewN n) r (iterO b c (seen.push k))) :=
  ⟨below_putO (W := W.drewN n) ⟨h.below.os, h.below.tape, h.below.output, h.below.size, h.below.block⟩ h.new _, putO_at _ (Array.getElem?_eq_some_iff.1 h.it).1, h.new⟩
theorem It.left {w1 W W' : World} {b c r k : Nat} {seen : Array Nat} {es : List (Key × Value × Nat)} (h : It w1 b c r seen W) (h' : It w1 b c r (seen.push k) W') {x : Key × Value × Nat} (hx : x ∈ es) (hk : x.2.2 = k) (hn : k ∉ seen) : leftN es W' r < leftN es W r := by
  rw [leftN_at h.it, leftN_at h'.it]
  refine filter_less (fun y _ hy => ?_) x hx (by simp [hk, hn]) (by simp [hk])
  simp only [Array.mem_push, decide_eq_true_eq, not_or] at hy ⊢
  exact hy.1
end Go.Proofs.YtelohloaoocoaaaGreatDoor
