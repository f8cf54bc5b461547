/- Base -/
import Derived.Test.YtbecmcjibpamoaaGreatDoorChecked
import Derived.WalkKit
import Derived.Deep.QuietTactic
import Derived.BigQuiet
import Derived.StillTailTactics
import Derived.Lib.Hide
import Derived.Deep.DeepFit
import Derived.Deep.DeepMust
import Derived.Deep.LoopGhost
import Derived.WalkSpells
import Derived.WalkLawsBesides
set_option linter.unusedVariables false
set_option linter.unusedSimpArgs false
set_option linter.deprecated false
set_option linter.unnecessarySimpa false
namespace Go.Proofs.YtbecmcjibpamoaaGreatDoor
open Go.RowKit
@[go_sem] theorem str_cat (a b : List UInt8) : (ByteArray.mk a.toArray ++ ByteArray.mk b.toArray) = ⟨(a ++ b).toArray⟩ := by
  apply ByteArray.ext; simp
@[go_sem] theorem str_size (a : List UInt8) : (ByteArray.mk a.toArray).size = a.length := by simp [ByteArray.size]
@[go_sem low] theorem str_extract (l : List UInt8) (a b : Nat) : (ByteArray.mk l.toArray).extract a b = ⟨((l.drop a).take (b - a)).toArray⟩ := by
  apply ByteArray.ext
  simp [ByteArray.data_extract]
@[go_sem] theorem str_upto (l : List UInt8) (b : Nat) : (ByteArray.mk l.toArray).extract 0 b = ⟨(l.take b).toArray⟩ := by
  rw [str_extract]; simp
@[go_sem] theorem str_from (l : List UInt8) (a : Nat) : (ByteArray.mk l.toArray).extract a l.length = ⟨(l.drop a).toArray⟩ := by
  rw [str_extract, List.take_of_length_le (by simp)]
theorem str_at (l : List UInt8) (k : Nat) (h : k < l.length) : ∃ (c : UInt8) (h' : k < (ByteArray.mk l.toArray).size), (ByteArray.mk l.toArray)[k]'h' = c ∧ l[k]? = some c := by
  refine ⟨l[k], by rw [str_size]; exact h, ?_, by simp [h]⟩
  show l.toArray[k] = l[k]
  simp
theorem cs_same {w : World} {a : Addr} {u v : Value} (h : w.cell? a = some u) : (w.setCell a v).cell? a = some v := World.cell?_setCell_same _ _ _ h
theorem cs_other {w : World} {a b : Addr} {v : Value} (h : a ≠ b) : (w.setCell a v).cell? b = w.cell? b := World.cell?_setCell_other _ _ _ _ h
theorem fz_set {w : World} {a b : Addr} {v : Value} : (w.setCell a v).frozen? b = w.frozen? b := World.frozen?_setCell ..
theorem cs_block {w : World} {a b : Addr} {v : Value} (h : a.block ≠ b.block) : (w.setCell a v).cell? b = w.cell? b := cs_other (fun e => h (by rw [e]))
theorem ret_bool {a b : Bool} (h : a = b) : Ending.returned (.bool a) = .returned (.bool b) := by rw [h]
theorem keep_cell {w w' : World} {a : Addr} {v : Value} (h : w.cell? a = some v) (hb : Below w.heap.size w w') : w'.cell? a = some v :=
  (hb.cell (World.block_lt_of_cell? w a h)).trans h
structure Strs (W : World) (v : Value) (L : List (List UInt8)) : Prop where
  len : L.length ≤ maxLen
  shape : ∃ a cap, v = .slice a L.length cap ∧ L.length ≤ cap ∧ (0 < L.length → ∃ b off, a = some ⟨b, off, none⟩ ∧ b < W.heap.size ∧
    ∀ (i : Nat) (x : List UInt8), L[i]? = some x → W.cell? ⟨b, off + i, none⟩ = some (.string ⟨x.toArray⟩))
  ok : ∀ (i : Nat) (x : List UInt8), L[i]? = some x → x.length ≤ maxLen
theorem Strs.below {w w' : World} {v : Value} {L} (h : Strs w v L) (hb : Below w.heap.size w w') : Strs w' v L := by
  obtain ⟨a, cap, h1, h2, h3⟩ := h.shape
  refine ⟨h.len, ⟨a, cap, h1, h2, fun hp => ?_⟩, h.ok⟩
  obtain ⟨b, off, e1, e2, e3⟩ := h3 hp
  exact ⟨b, off, e1, Nat.lt_of_lt_of_le e2 hb.size, fun i x hx => keep_cell (e3 i x hx) hb⟩
end Go.Proofs.YtbecmcjibpamoaaGreatDoor
