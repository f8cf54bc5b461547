/- Small laws on worlds that all texts of this seat use. -/
import Derived.Test.YtbecmcjibpamoaaGreatDoorChecked
import Derived.WalkKit
import Derived.Deep.QuietTactic
import Derived.BigQuiet
import Derived.StillTailTactics
import Derived.Lib.Hide
import Derived.Deep.DeepFit
import Derived.Deep.DeepMust
import Derived.Deep.LoopGhost
import Derived.WalkSpells
import Derived.WalkLawsBesides
namespace Go.Proofs.YtbecmcjibpamoaaGreatDoor
open Go.RowKit

@[go_sem] theorem str_cat (a b : List UInt8) : (ByteArray.mk a.toArray ++ ByteArray.mk b.toArray) = ⟨(a ++ b).toArray⟩ := by
  apply ByteArray.ext; simp
@[go_sem] theorem str_size (a : List UInt8) : (ByteArray.mk a.toArray).size = a.length := by simp [ByteArray.size]
@[go_sem low] theorem str_extract (l : List UInt8) (a b : Nat) : (ByteArray.mk l.toArray).extract a b = ⟨((l.drop a).take (b - a)).toArray⟩ := by
  apply ByteArray.ext
  simp [ByteArray.data_extract]
@[go_sem] theorem str_upto (l : List UInt8) (b : Nat) : (ByteArray.mk l.toArray).extract 0 b = ⟨(l.take b).toArray⟩ := by
  rw [str_extract]; simp
@[go_sem] theorem str_from (l : List UInt8) (a : Nat) : (ByteArray.mk l.toArray).extract a l.length = ⟨(l.drop a).toArray⟩ := by
  rw [str_extract, List.take_of_length_le (by simp)]
/-- the byte at a place, in the walk's own spelling -/
theorem str_at (l : List UInt8) (k : Nat) (h : k < l.length) : ∃ (c : UInt8) (h' : k < (ByteArray.mk l.toArray).size), (ByteArray.mk l.toArray)[k]'h' = c ∧ l[k]? = some c := by
  refine ⟨l[k], by rw [str_size]; exact h, ?_, by simp [h]⟩
  show l.toArray[k] = l[k]
  simp
theorem cs_same {w : World} {a : Addr} {u v : Value} (h : w.cell? a = some u) : (w.setCell a v).cell? a = some v := World.cell?_setCell_same _ _ _ h
theorem cs_other {w : World} {a b : Addr} {v : Value} (h : a ≠ b) : (w.setCell a v).cell? b = w.cell? b := World.cell?_setCell_other _ _ _ _ h
theorem fz_set {w : World} {a b : Addr} {v : Value} : (w.setCell a v).frozen? b = w.frozen? b := World.frozen?_setCell ..
theorem grown_set {w w' : World} {b : Nat} (h : w.grownBy w' (some b)) (a : Addr) (ha : a.block = b) (v : Value) : w.grownBy (w'.setCell a v) (some b) :=
  ⟨h.os, h.tape, h.output, by simpa [World.setCell] using h.size, fun k hk hne => by
    rw [Below.heap_setCell _ _ _ _ (by rintro rfl; exact hne (by rw [ha]))]; exact h.block k hk hne⟩
theorem grown_at {w w' : World} {b o : Nat} {s : Option Nat} {v : Value} (h : w.grownBy w' (some b)) : w.grownBy (w'.setCell ⟨b, o, s⟩ v) (some b) := grown_set h _ rfl _
theorem grown_drew {w w' : World} {r : Option Nat} (h : w.grownBy w' r) : w.grownBy w'.drew r := ⟨h.os, h.tape, h.output, h.size, h.block⟩
theorem grown_trans {a b c : World} {r : Option Nat} (h : a.grownBy b r) (k : b.grownBy c r) : a.grownBy c r :=
  ⟨k.os.trans h.os, k.tape.trans h.tape, k.output.trans h.output, Nat.le_trans h.size k.size, fun i hi hne => (k.block i (Nat.lt_of_lt_of_le hi h.size) hne).trans (h.block i hi hne)⟩
theorem grown_below {a b c : World} {r : Option Nat} (h : a.grownBy b r) (k : Below b.heap.size b c) : a.grownBy c r :=
  ⟨k.os.trans h.os, k.tape.trans h.tape, k.output.trans h.output, Nat.le_trans h.size k.size, fun i hi hne => (k.block i (Nat.lt_of_lt_of_le hi h.size)).trans (h.block i hi hne)⟩
theorem grown_alloc {a w : World} {r : Option Nat} (h : a.grownBy w r) (o : Obj) : a.grownBy (w.alloc o) r :=
  grown_trans h ⟨rfl, rfl, rfl, by simp, fun k hk _ => Below.heap_alloc _ _ _ hk⟩
/-- a store into a block that is new -/
theorem grown_setnew {w w' : World} {r : Option Nat} (h : w.grownBy w' r) (a : Addr) (ha : w.heap.size ≤ a.block) (v : Value) : w.grownBy (w'.setCell a v) r :=
  ⟨h.os, h.tape, h.output, by simpa [World.setCell] using h.size, fun k hk hne => by
    rw [Below.heap_setCell _ _ _ _ (by omega)]; exact h.block k hk hne⟩
theorem grown_some {w w' : World} (h : w.grownBy w' none) (b : Nat) : w.grownBy w' (some b) := ⟨h.os, h.tape, h.output, h.size, fun k hk _ => h.block k hk (by simp)⟩
theorem below_of_grown {w w' : World} (h : w.grownBy w' none) : Below w.heap.size w w' := ⟨h.os, h.tape, h.output, h.size, fun k hk => h.block k hk (by simp)⟩
theorem cs_block {w : World} {a b : Addr} {v : Value} (h : a.block ≠ b.block) : (w.setCell a v).cell? b = w.cell? b := cs_other (fun e => h (by rw [e]))
theorem ret_int {k : IntKind} {a b : Int} (h : a = b) : Ending.returned (.int k a) = .returned (.int k b) := by rw [h]
theorem ret_bool {a b : Bool} (h : a = b) : Ending.returned (.bool a) = .returned (.bool b) := by rw [h]
theorem ret_int_v {k : IntKind} {a b : Int} {v : Value} (h : a = b) : Ending.returned (.tuple #[.int k a, v]) = .returned (.tuple #[.int k b, v]) := by rw [h]
theorem bcell {W w1 : World} (hb : Below W.heap.size W w1) : (∀ b o, b < W.heap.size → w1.cell? ⟨b, o, none⟩ = W.cell? ⟨b, o, none⟩) ∧ (∀ b o, b < W.heap.size → w1.frozen? ⟨b, o, none⟩ = W.frozen? ⟨b, o, none⟩) :=
  ⟨fun b o h => hb.cell (p := ⟨b, o, none⟩) h, fun b o h => hb.frozen (p := ⟨b, o, none⟩) h⟩
theorem keep_cell {w w' : World} {a : Addr} {v : Value} (h : w.cell? a = some v) (hb : Below w.heap.size w w') : w'.cell? a = some v :=
  (hb.cell (World.block_lt_of_cell? w a h)).trans h
/-- a slice of strings -/
structure Strs (W : World) (v : Value) (L : List (List UInt8)) : Prop where
  len : L.length ≤ maxLen
  shape : ∃ a cap, v = .slice a L.length cap ∧ L.length ≤ cap ∧ (0 < L.length → ∃ b off, a = some ⟨b, off, none⟩ ∧ b < W.heap.size ∧
    ∀ (i : Nat) (x : List UInt8), L[i]? = some x → W.cell? ⟨b, off + i, none⟩ = some (.string ⟨x.toArray⟩))
  ok : ∀ (i : Nat) (x : List UInt8), L[i]? = some x → x.length ≤ maxLen
theorem Strs.below {w w' : World} {v : Value} {L} (h : Strs w v L) (hb : Below w.heap.size w w') : Strs w' v L := by
  obtain ⟨a, cap, h1, h2, h3⟩ := h.shape
  refine ⟨h.len, ⟨a, cap, h1, h2, fun hp => ?_⟩, h.ok⟩
  obtain ⟨b, off, e1, e2, e3⟩ := h3 hp
  exact ⟨b, off, e1, Nat.lt_of_lt_of_le e2 hb.size, fun i x hx => keep_cell (e3 i x hx) hb⟩
end Go.Proofs.YtbecmcjibpamoaaGreatDoor
