/- Texts: how many lines, words and bytes. -/
import Derived.Test.YtmhgehnkhhlbkaaDoorEnv
import Derived.Test.YtmhgehnkhhlbkaaDoorOwn
import Derived.Test.YtmhgehnkhhlbkaaDoorTxW
namespace Go.Proofs.YtmhgehnkhhlbkaaDoor
open Go.RowKit

theorem fblank_any (x : Nat) (w : World) : Calls Tryd.prog 33 #[.int .i32 x] w fun e w' => e = .returned (.bool (blankR x)) ∧ w = w' := by
  have hE := Lib.hid (show blankR x = ((decide (9 ≤ (x : Int)) && decide ((x : Int) ≤ 13)) || ((x : Int) == 32)) by rw [Bool.eq_iff_iff]; simp [blankR]; omega)
  go_enter Tryd.func33, Tryd.ntmps33
  go_wp2
  all_goals go_ret
  all_goals refine ⟨ret_bool ?_, rfl⟩
  all_goals rw [hE.out]
  all_goals first | (simp_all; done) | (simp_all <;> omega; done) | (rw [Bool.eq_iff_iff]; simp; omega)
theorem enter_blank : ∀ args w, (callFunc 33 args).run Tryd.prog w = .ok (.enter 33 args) w := enters_of Tryd.func33 (by kernel_rfl) rfl
theorem pred_blank (w : World) : PredAt Tryd.prog 33 #[] encR blankR w := by
  intro W x _
  unfold FnGives
  have := fblank_any x W
  exact this.mono fun e w' h => ⟨h.1, 0, h.2.symm⟩
set_option maxRecDepth 100000 in
theorem fields_any (l : List UInt8) (hl : l.length ≤ 1048576) (w : World) : Calls Tryd.prog 32 #[.string ⟨l.toArray⟩, .func (.func 33) #[] #[]] w fun e w' => (∃ A, e = .returned (.slice (some ⟨A, 0, none⟩) (wordsAt true l) (wordsAt true l))) ∧ Below w.heap.size w w' := by
  have := Tryd.strings_FieldsFunc 33 #[] enter_blank blankR ⟨l.toArray⟩ w (by rw [str_size]; omega) (pred_blank w)
  rw [fields_count] at this
  exact this.mono fun e w' ⟨A, h1, _, _, h4⟩ => ⟨⟨A, h1⟩, h4⟩
theorem count_any (l : List UInt8) (c : UInt8) (w : World) : Calls Tryd.prog 31 #[.string ⟨l.toArray⟩, .string ⟨#[c]⟩] w fun e w' => e = .returned (.int .i64 (l.count c)) ∧ w = w' := by
  have := Tryd.strings_Count_one ⟨l.toArray⟩ c w
  have e0 : (ByteArray.mk l.toArray).data.toList = l := by simp
  rw [e0] at this
  exact this.mono fun _ _ h => ⟨h.1, h.2.symm⟩
theorem wc_any (l : List UInt8) (hl : l.length ≤ 1048576) (w : World) : Calls Tryd.prog 11 #[.string ⟨l.toArray⟩] w fun e w' => e = .returned (.tuple #[.int .i64 (l.count 10), .int .i64 (wordsAt true l), .int .i64 l.length]) ∧ Below w.heap.size w w' := by
  have hC := Lib.hid (count_any l 10)
  have hF := Lib.hid (fields_any l hl)
  go_enter Tryd.func11, Tryd.ntmps11
  go_wp2_with fail
  refine (hC.out w).mono ?_
  rintro e w' ⟨rfl, rfl⟩
  go_wp2_with fail
  refine (hF.out w).mono ?_
  rintro e w1 ⟨⟨A, rfl⟩, hB⟩
  go_wp2_with fail
  go_ret3
  exact ⟨rfl, hB⟩
theorem rblankc_any (c : UInt8) (w : World) : Calls Tryd.prog 34 #[.int .u8 c.toNat] w fun e w' => e = .returned (.bool (blankB c)) ∧ w = w' := by
  have hE := Lib.hid (show blankB c = ((decide (9 ≤ (c.toNat : Int)) && decide ((c.toNat : Int) ≤ 13)) || ((c.toNat : Int) == 32)) by rw [Bool.eq_iff_iff]; simp [blankB]; omega)
  go_enter Tryd.func34, Tryd.ntmps34
  go_wp2
  all_goals go_ret
  all_goals refine ⟨ret_bool ?_, rfl⟩
  all_goals rw [hE.out]
  all_goals first | (simp_all; done) | (simp_all <;> omega; done) | (rw [Bool.eq_iff_iff]; simp; omega)
theorem rblank10 (w : World) : Calls Tryd.prog 34 #[.int .u8 10] w fun e w' => e = .returned (.bool true) ∧ w = w' := rblankc_any 10 w
def pbAt (l : List UInt8) : Nat → Bool
  | 0 => true
  | k + 1 => blankB (l.getD k 0)
set_option maxRecDepth 100000 in
set_option maxHeartbeats 3200000 in
theorem rwc_any (l : List UInt8) (hl : l.length ≤ 1048576) (w : World) : Calls Tryd.prog 12 #[.string ⟨l.toArray⟩] w fun e w' => e = .returned (.tuple #[.int .i64 (l.count 10), .int .i64 (wordsAt true l), .int .i64 l.length]) ∧ w = w' := by
  go_enter Tryd.func12, Tryd.ntmps12
  go_wp2_with fail
  go_loop [5, 6, 7] (fun a b i => ∃ k n : Nat, k ≤ l.length ∧ a = .int .i64 ((l.take k).count 10) ∧ b = .int .i64 n ∧ n ≤ k ∧ i = .int .i64 k ∧ n + wordsAt (pbAt l k) (l.drop k) = wordsAt true l) (fun _ _ i => l.length - (intOf i).toNat)
  case atStart => exact ⟨0, 0, by omega, rfl, rfl, by omega, rfl, by simp [pbAt]⟩
  case round =>
    obtain ⟨k, n, hk, rfl, rfl, hnk, rfl, hw⟩ := hrel
    have hq : (l.take k).count 10 ≤ k := Nat.le_trans List.count_le_length (by rw [List.length_take]; omega)
    by_cases hkl : k < l.length
    · obtain ⟨c, _, hg, hc⟩ := str_at l k hkl
      have hdk : l.drop k = c :: l.drop (k + 1) := by
        obtain ⟨h1, h2⟩ := List.getElem?_eq_some_iff.1 hc
        rw [← h2]; exact List.drop_eq_getElem_cons h1
      have hpb1 : pbAt l (k + 1) = blankB c := by simp [pbAt, List.getD, hc]
      cases k with
      | zero =>
        have hpb : pbAt l 0 = true := rfl
        by_cases e10 : c = 10
        · subst e10
          have h10 : ((10 : UInt8).toNat : Int) = 10 := rfl
          have hbc : blankB 10 = true := rfl
          have hct := Lib.hid (show (l.take (0 + 1)).count 10 = (l.take 0).count 10 + 1 by rw [List.take_add_one, hc]; simp)
          have hnw := Lib.hid (show n + wordsAt (pbAt l (0 + 1)) (l.drop (0 + 1)) = wordsAt true l by rw [← hw, hdk, hpb, hpb1]; simp only [wordsAt, hbc]; simp <;> omega)
          clear hw hdk hc hpb hpb1
          generalize (l.take 0).count 10 = q at *
          go_wp2_with (go_at_call 34; refine (rblank10 _).mono ?_; rintro e w' ⟨rfl, rfl⟩)
          go_round
          case rel => exact ⟨0 + 1, n, by omega, by first | (rw [hct.out]; done) | (rw [hct.out]; go_num), by go_num, by omega, by go_num, hnw.out⟩
          case measure => simp [intOf]; omega
        · have h10n : ¬ (c.toNat : Int) = 10 := fun h => e10 (UInt8.toNat_inj.1 (by show c.toNat = 10; omega))
          have h10 : ((c.toNat : Int) == 10) = false := by rw [beq_eq_false_iff_ne]; exact h10n
          have hct := Lib.hid (show (l.take (0 + 1)).count 10 = (l.take 0).count 10 by rw [List.take_add_one, hc]; simp [e10])
          cases hbc : blankB c
          · have hnw := Lib.hid (show n + 1 + wordsAt (pbAt l (0 + 1)) (l.drop (0 + 1)) = wordsAt true l by rw [← hw, hdk, hpb, hpb1]; simp only [wordsAt, hbc]; simp <;> omega)
            clear hw hdk hc hpb hpb1
            generalize (l.take 0).count 10 = q at *
            go_wp2_with (go_at_call 34; refine (rblankc_any _ _).mono ?_; rintro e w' ⟨rfl, rfl⟩)
            go_round
            case rel => exact ⟨0 + 1, n + 1, by omega, by first | (rw [hct.out]; done) | (rw [hct.out]; go_num), by go_num, by omega, by go_num, hnw.out⟩
            case measure => simp [intOf]; omega
          · have hnw := Lib.hid (show n + wordsAt (pbAt l (0 + 1)) (l.drop (0 + 1)) = wordsAt true l by rw [← hw, hdk, hpb, hpb1]; simp only [wordsAt, hbc]; simp <;> omega)
            clear hw hdk hc hpb hpb1
            generalize (l.take 0).count 10 = q at *
            go_wp2_with (go_at_call 34; refine (rblankc_any _ _).mono ?_; rintro e w' ⟨rfl, rfl⟩)
            go_round
            case rel => exact ⟨0 + 1, n, by omega, by first | (rw [hct.out]; done) | (rw [hct.out]; go_num), by go_num, by omega, by go_num, hnw.out⟩
            case measure => simp [intOf]; omega
      | succ j =>
        obtain ⟨d, _, hgd, hd⟩ := str_at l j (by omega)
        cases hbd : blankB d
        · have hpb : pbAt l (j + 1) = false := by simp [pbAt, List.getD, hd, hbd]
          clear hd
          by_cases e10 : c = 10
          · subst e10
            have h10 : ((10 : UInt8).toNat : Int) = 10 := rfl
            have hbc : blankB 10 = true := rfl
            have hct := Lib.hid (show (l.take ((j + 1) + 1)).count 10 = (l.take (j + 1)).count 10 + 1 by rw [List.take_add_one, hc]; simp)
            have hnw := Lib.hid (show n + wordsAt (pbAt l ((j + 1) + 1)) (l.drop ((j + 1) + 1)) = wordsAt true l by rw [← hw, hdk, hpb, hpb1]; simp only [wordsAt, hbc]; simp <;> omega)
            clear hw hdk hc hpb hpb1
            generalize (l.take (j + 1)).count 10 = q at *
            go_wp2_with (go_at_call 34; refine (rblank10 _).mono ?_; rintro e w' ⟨rfl, rfl⟩)
            go_round
            case rel => exact ⟨(j + 1) + 1, n, by omega, by first | (rw [hct.out]; done) | (rw [hct.out]; go_num), by go_num, by omega, by go_num, hnw.out⟩
            case measure => simp [intOf]; omega
          · have h10n : ¬ (c.toNat : Int) = 10 := fun h => e10 (UInt8.toNat_inj.1 (by show c.toNat = 10; omega))
            have h10 : ((c.toNat : Int) == 10) = false := by rw [beq_eq_false_iff_ne]; exact h10n
            have hct := Lib.hid (show (l.take ((j + 1) + 1)).count 10 = (l.take (j + 1)).count 10 by rw [List.take_add_one, hc]; simp [e10])
            cases hbc : blankB c
            · have hnw := Lib.hid (show n + wordsAt (pbAt l ((j + 1) + 1)) (l.drop ((j + 1) + 1)) = wordsAt true l by rw [← hw, hdk, hpb, hpb1]; simp only [wordsAt, hbc]; simp <;> omega)
              clear hw hdk hc hpb hpb1
              generalize (l.take (j + 1)).count 10 = q at *
              go_wp2_with (go_at_call 34; refine (rblankc_any _ _).mono ?_; rintro e w' ⟨rfl, rfl⟩)
              go_round
              case rel => exact ⟨(j + 1) + 1, n, by omega, by first | (rw [hct.out]; done) | (rw [hct.out]; go_num), by go_num, by omega, by go_num, hnw.out⟩
              case measure => simp [intOf]; omega
            · have hnw := Lib.hid (show n + wordsAt (pbAt l ((j + 1) + 1)) (l.drop ((j + 1) + 1)) = wordsAt true l by rw [← hw, hdk, hpb, hpb1]; simp only [wordsAt, hbc]; simp <;> omega)
              clear hw hdk hc hpb hpb1
              generalize (l.take (j + 1)).count 10 = q at *
              go_wp2_with (go_at_call 34; refine (rblankc_any _ _).mono ?_; rintro e w' ⟨rfl, rfl⟩)
              go_round
              case rel => exact ⟨(j + 1) + 1, n, by omega, by first | (rw [hct.out]; done) | (rw [hct.out]; go_num), by go_num, by omega, by go_num, hnw.out⟩
              case measure => simp [intOf]; omega
        · have hpb : pbAt l (j + 1) = true := by simp [pbAt, List.getD, hd, hbd]
          clear hd
          by_cases e10 : c = 10
          · subst e10
            have h10 : ((10 : UInt8).toNat : Int) = 10 := rfl
            have hbc : blankB 10 = true := rfl
            have hct := Lib.hid (show (l.take ((j + 1) + 1)).count 10 = (l.take (j + 1)).count 10 + 1 by rw [List.take_add_one, hc]; simp)
            have hnw := Lib.hid (show n + wordsAt (pbAt l ((j + 1) + 1)) (l.drop ((j + 1) + 1)) = wordsAt true l by rw [← hw, hdk, hpb, hpb1]; simp only [wordsAt, hbc]; simp <;> omega)
            clear hw hdk hc hpb hpb1
            generalize (l.take (j + 1)).count 10 = q at *
            go_wp2_with (go_at_call 34; refine (rblank10 _).mono ?_; rintro e w' ⟨rfl, rfl⟩)
            go_round
            case rel => exact ⟨(j + 1) + 1, n, by omega, by first | (rw [hct.out]; done) | (rw [hct.out]; go_num), by go_num, by omega, by go_num, hnw.out⟩
            case measure => simp [intOf]; omega
          · have h10n : ¬ (c.toNat : Int) = 10 := fun h => e10 (UInt8.toNat_inj.1 (by show c.toNat = 10; omega))
            have h10 : ((c.toNat : Int) == 10) = false := by rw [beq_eq_false_iff_ne]; exact h10n
            have hct := Lib.hid (show (l.take ((j + 1) + 1)).count 10 = (l.take (j + 1)).count 10 by rw [List.take_add_one, hc]; simp [e10])
            cases hbc : blankB c
            · have hnw := Lib.hid (show n + 1 + wordsAt (pbAt l ((j + 1) + 1)) (l.drop ((j + 1) + 1)) = wordsAt true l by rw [← hw, hdk, hpb, hpb1]; simp only [wordsAt, hbc]; simp <;> omega)
              clear hw hdk hc hpb hpb1
              generalize (l.take (j + 1)).count 10 = q at *
              go_wp2_with (go_at_call 34; refine (rblankc_any _ _).mono ?_; rintro e w' ⟨rfl, rfl⟩)
              go_round
              case rel => exact ⟨(j + 1) + 1, n + 1, by omega, by first | (rw [hct.out]; done) | (rw [hct.out]; go_num), by go_num, by omega, by go_num, hnw.out⟩
              case measure => simp [intOf]; omega
            · have hnw := Lib.hid (show n + wordsAt (pbAt l ((j + 1) + 1)) (l.drop ((j + 1) + 1)) = wordsAt true l by rw [← hw, hdk, hpb, hpb1]; simp only [wordsAt, hbc]; simp <;> omega)
              clear hw hdk hc hpb hpb1
              generalize (l.take (j + 1)).count 10 = q at *
              go_wp2_with (go_at_call 34; refine (rblankc_any _ _).mono ?_; rintro e w' ⟨rfl, rfl⟩)
              go_round
              case rel => exact ⟨(j + 1) + 1, n, by omega, by first | (rw [hct.out]; done) | (rw [hct.out]; go_num), by go_num, by omega, by go_num, hnw.out⟩
              case measure => simp [intOf]; omega
    · obtain rfl : k = l.length := by omega
      rw [List.drop_length] at hw
      have hn : n = wordsAt true l := by simpa [wordsAt] using hw
      have hn' := Lib.hid hn
      clear hn hw
      rw [List.take_length]
      go_wp2_with fail
      go_ret3
      rw [hn'.out]
      exact ⟨rfl, rfl⟩
end Go.Proofs.YtmhgehnkhhlbkaaDoor
