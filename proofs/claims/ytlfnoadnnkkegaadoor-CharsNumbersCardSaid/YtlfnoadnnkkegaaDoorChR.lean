/- Chars: the reference's names. -/
import Derived.Test.YtlfnoadnnkkegaaDoorChB
namespace Go.Proofs.YtlfnoadnnkkegaaDoor
open Go.RowKit

theorem alphaB_eq2 (c : UInt8) : alphaB c = ((decide (97 ≤ (c.toNat : Int)) && decide ((c.toNat : Int) ≤ 122)) || ((decide (65 ≤ (c.toNat : Int)) && decide ((c.toNat : Int) ≤ 90)) || ((c.toNat : Int) == 95))) := by
  have h : ∀ n : Fin 256, alphaB (UInt8.ofNat n) = ((decide (97 ≤ ((n : Nat) : Int)) && decide (((n : Nat) : Int) ≤ 122)) || ((decide (65 ≤ ((n : Nat) : Int)) && decide (((n : Nat) : Int) ≤ 90)) || (((n : Nat) : Int) == 95))) := by decide +kernel
  have := h ⟨c.toNat, c.toNat_lt⟩
  simpa using this
theorem rdigit_any (c : UInt8) (w : World) : Calls Tryd.prog 27 #[.int .u8 c.toNat] w fun e w' => e = .returned (.bool (digitB c)) ∧ w = w' := by
  have hc : c.toNat < 256 := c.toNat_lt
  have hE := Lib.hid (digitB_eq c)
  go_enter Tryd.func27, Tryd.ntmps27
  go_wp2
  all_goals go_ret
  all_goals refine ⟨ret_bool ?_, rfl⟩
  all_goals rw [hE.out]
  all_goals first | (simp_all; done) | (simp_all <;> omega; done) | (rw [Bool.eq_iff_iff]; simp; omega)
theorem ralpha_any (c : UInt8) (w : World) : Calls Tryd.prog 29 #[.int .u8 c.toNat] w fun e w' => e = .returned (.bool (alphaB c)) ∧ w = w' := by
  have hc : c.toNat < 256 := c.toNat_lt
  have hE := Lib.hid (alphaB_eq2 c)
  go_enter Tryd.func29, Tryd.ntmps29
  go_wp2
  all_goals go_ret
  all_goals refine ⟨ret_bool ?_, rfl⟩
  all_goals rw [hE.out]
  all_goals first | (simp_all; done) | (simp_all <;> omega; done) | (rw [Bool.eq_iff_iff]; simp; omega)

theorem rfront_any (l : List UInt8) (hl : l.length ≤ maxLen) (w : World) : Calls Tryd.prog 10 #[.string ⟨l.toArray⟩] w fun e w' => e = .returned (.int .i64 (frontN l)) ∧ w = w' := by
  unfold maxLen at hl
  by_cases h0 : l = []
  · subst h0
    go_enter Tryd.func10, Tryd.ntmps10
    go_wp2_with fail
    go_ret
    exact ⟨rfl, rfl⟩
  have hpos : 0 < l.length := List.length_pos_iff.2 h0
  have h1 : (l == []) = false := by simp [h0]
  have h1' : l.isEmpty = false := by simp [h0]
  obtain ⟨c, _, hg, hc⟩ := str_at l 0 hpos
  have hc' := Lib.hid hc
  clear hc
  cases ha : alphaB c
  · have hn := Lib.hid (IsFront.eq (l := l) (k := 0) ⟨by omega, by intro j c h; omega, fun c' h' => by rw [hc'.out] at h'; cases h'; simp [fr, ha]⟩)
    go_enter Tryd.func10, Tryd.ntmps10
    go_wp2_with (first
      | (go_at_call 29; refine (ralpha_any c _).mono ?_; rintro e w' ⟨rfl, rfl⟩)
      | (go_at_call 27; refine (rdigit_any c _).mono ?_; rintro e w' ⟨rfl, rfl⟩))
    go_ret
    exact ⟨ret_int (by rw [← hn.out]; rfl), rfl⟩
  · have h0a := Lib.hid (show ∀ j c', j < 1 → l[j]? = some c' → fr j c' = true from fun j c' hj h' => by
      obtain rfl : j = 0 := by omega
      rw [hc'.out] at h'; cases h'; simp [fr, ha])
    go_enter Tryd.func10, Tryd.ntmps10
    go_wp2_with (first
      | (go_at_call 29; refine (ralpha_any c _).mono ?_; rintro e w' ⟨rfl, rfl⟩)
      | (go_at_call 27; refine (rdigit_any c _).mono ?_; rintro e w' ⟨rfl, rfl⟩))
    go_loop [3] (fun n => ∃ k : Nat, 1 ≤ k ∧ k ≤ l.length ∧ n = .int .i64 k ∧ ∀ j c, j < k → l[j]? = some c → fr j c = true) (fun n => l.length - (intOf n).toNat)
    case atStart => exact ⟨1, by omega, by omega, rfl, h0a.out⟩
    case round =>
      obtain ⟨k, hk1, hk, rfl, hok⟩ := hrel
      have hok' := Lib.hid hok
      clear hok h0a hg hc' ha
      by_cases hkl : k < l.length
      · obtain ⟨c, _, hg, hc⟩ := str_at l k hkl
        have hc' := Lib.hid hc
        clear hc
        have hex : fr k c = false → k = frontN l := fun h => IsFront.eq ⟨hk, hok'.out, fun c' h' => by rw [hc'.out] at h'; cases h'; exact h⟩
        have hgo : fr k c = true → ∀ j c', j < k + 1 → l[j]? = some c' → fr j c' = true := fun h j c' hj hc2 => by
          rcases Nat.lt_or_ge j k with h' | h'
          · exact hok'.out j c' h' hc2
          · obtain rfl : j = k := by omega
            rw [hc'.out] at hc2; cases hc2; exact h
        have hex' := Lib.hid hex
        have hgo' := Lib.hid hgo
        clear hex hgo
        cases ha : alphaB c
        · cases hd : digitB c
          · have hn := Lib.hid (hex'.out (by simp [fr, ha, hd]))
            go_wp2_with (first
      | (go_at_call 29; refine (ralpha_any c _).mono ?_; rintro e w' ⟨rfl, rfl⟩)
      | (go_at_call 27; refine (rdigit_any c _).mono ?_; rintro e w' ⟨rfl, rfl⟩))
            go_ret
            exact ⟨ret_int (by rw [hn.out]), rfl⟩
          · have hn := Lib.hid (hgo'.out (by simp [fr, hd]; omega))
            go_wp2_with (first
      | (go_at_call 29; refine (ralpha_any c _).mono ?_; rintro e w' ⟨rfl, rfl⟩)
      | (go_at_call 27; refine (rdigit_any c _).mono ?_; rintro e w' ⟨rfl, rfl⟩))
            go_round
            case rel => exact ⟨k + 1, by omega, by omega, by go_num, hn.out⟩
            case measure => simp [intOf]; omega
        · have hn := Lib.hid (hgo'.out (by simp [fr, ha]))
          go_wp2_with (first
      | (go_at_call 29; refine (ralpha_any c _).mono ?_; rintro e w' ⟨rfl, rfl⟩)
      | (go_at_call 27; refine (rdigit_any c _).mono ?_; rintro e w' ⟨rfl, rfl⟩))
          go_round
          case rel => exact ⟨k + 1, by omega, by omega, by go_num, hn.out⟩
          case measure => simp [intOf]; omega
      · obtain rfl : k = l.length := by omega
        have hn := Lib.hid (IsFront.eq ⟨hk, hok'.out, fun c' h' => by rw [List.getElem?_eq_none (Nat.le_refl _)] at h'; cases h'⟩)
        go_wp2_with fail
        go_ret
        exact ⟨ret_int (by rw [← hn.out]), rfl⟩
theorem rname_any (l : List UInt8) (hl : l.length ≤ maxLen) (w : World) : Calls Tryd.prog 12 #[.string ⟨l.toArray⟩] w fun e w' => e = .returned (.bool (nameB l)) ∧ w = w' := by
  have hl' := hl
  unfold maxLen at hl'
  have hf := frontN_le l
  by_cases h0 : l = []
  · subst h0
    go_enter Tryd.func12, Tryd.ntmps12
    go_wp2_with fail
    go_ret
    exact ⟨rfl, rfl⟩
  · have h1 : l.isEmpty = false := by simp [h0]
    have h2 : (l == []) = false := by simp [h0]
    by_cases he : frontN l = l.length
    · have hb : ((frontN l : Int) == l.length) = true := by rw [beq_iff_eq]; omega
      have hr := Lib.hid (show nameB l = true by simp [nameB, h0, he])
      clear he
      go_enter Tryd.func12, Tryd.ntmps12
      go_wp2_with (go_at_call 10; refine (rfront_any l hl _).mono ?_; rintro e w' ⟨rfl, rfl⟩)
      go_ret
      exact ⟨ret_bool (by rw [hr.out]), rfl⟩
    · have hb : ((frontN l : Int) == l.length) = false := by rw [beq_eq_false_iff_ne]; omega
      have hr := Lib.hid (show nameB l = false by simp [nameB, he])
      clear he
      go_enter Tryd.func12, Tryd.ntmps12
      go_wp2_with (go_at_call 10; refine (rfront_any l hl _).mono ?_; rintro e w' ⟨rfl, rfl⟩)
      go_ret
      exact ⟨ret_bool (by rw [hr.out]), rfl⟩

end Go.Proofs.YtlfnoadnnkkegaaDoor
