/- Texts: how many lines, words and bytes. -/
import Derived.Test.YtmhgehnkhhlbkaaGreatDoorEnv
import Derived.Test.YtmhgehnkhhlbkaaGreatDoorOwn
import Derived.Test.YtmhgehnkhhlbkaaGreatDoorTxW
namespace Go.Proofs.YtmhgehnkhhlbkaaGreatDoor
open Go.RowKit

theorem fblank_any (x : Nat) (w : World) : Calls Tryz.prog 28 #[.int .i32 x] w fun e w' => e = .returned (.bool (blankR x)) ∧ w = w' := by
  have hE := Lib.hid (show blankR x = ((decide (9 ≤ (x : Int)) && decide ((x : Int) ≤ 13)) || ((x : Int) == 32)) by rw [Bool.eq_iff_iff]; simp [blankR]; omega)
  go_enter Tryz.func28, Tryz.ntmps28
  go_wp2
  all_goals go_ret
  all_goals refine ⟨ret_bool ?_, rfl⟩
  all_goals rw [hE.out]
  all_goals first | (simp_all; done) | (simp_all <;> omega; done) | (rw [Bool.eq_iff_iff]; simp; omega)
theorem enter_blank : ∀ args w, (callFunc 28 args).run Tryz.prog w = .ok (.enter 28 args) w := enters_of Tryz.func28 (by kernel_rfl) rfl
theorem pred_blank (w : World) : PredAt Tryz.prog 28 #[] encR blankR w := by
  intro W x _
  unfold FnGives
  have := fblank_any x W
  exact this.mono fun e w' h => ⟨h.1, 0, h.2.symm⟩
set_option maxRecDepth 100000 in
theorem fields_any (l : List UInt8) (hl : l.length ≤ 1048576) (w : World) : Calls Tryz.prog 27 #[.string ⟨l.toArray⟩, .func (.func 28) #[] #[]] w fun e w' => (∃ A, e = .returned (.slice (some ⟨A, 0, none⟩) (wordsAt true l) (wordsAt true l))) ∧ Below w.heap.size w w' := by
  have := Tryz.strings_FieldsFunc 28 #[] enter_blank blankR ⟨l.toArray⟩ w (by rw [str_size]; omega) (pred_blank w)
  rw [fields_count] at this
  exact this.mono fun e w' ⟨A, h1, _, _, h4⟩ => ⟨⟨A, h1⟩, h4⟩
theorem count_any (l : List UInt8) (c : UInt8) (w : World) : Calls Tryz.prog 26 #[.string ⟨l.toArray⟩, .string ⟨#[c]⟩] w fun e w' => e = .returned (.int .i64 (l.count c)) ∧ w = w' := by
  have := Tryz.strings_Count_one ⟨l.toArray⟩ c w
  have e0 : (ByteArray.mk l.toArray).data.toList = l := by simp
  rw [e0] at this
  exact this.mono fun _ _ h => ⟨h.1, h.2.symm⟩
theorem wc_any (l : List UInt8) (hl : l.length ≤ 1048576) (w : World) : Calls Tryz.prog 17 #[.string ⟨l.toArray⟩] w fun e w' => e = .returned (.tuple #[.int .i64 (l.count 10), .int .i64 (wordsAt true l), .int .i64 l.length]) ∧ Below w.heap.size w w' := by
  have hC := Lib.hid (count_any l 10)
  have hF := Lib.hid (fields_any l hl)
  go_enter Tryz.func17, Tryz.ntmps17
  go_wp2_with fail
  refine (hC.out w).mono ?_
  rintro e w' ⟨rfl, rfl⟩
  go_wp2_with fail
  refine (hF.out w).mono ?_
  rintro e w1 ⟨⟨A, rfl⟩, hB⟩
  go_wp2_with fail
  go_ret3
  exact ⟨rfl, hB⟩
def pbAt (l : List UInt8) : Nat → Bool
  | 0 => true
  | k + 1 => blankB (l.getD k 0)
end Go.Proofs.YtmhgehnkhhlbkaaGreatDoor
