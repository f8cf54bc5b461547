/- Chars: bytes. -/
import Derived.Test.YtlfnoadnnkkegaaDoorBase
namespace Go.Proofs.YtlfnoadnnkkegaaDoor
open Go.RowKit

def alphaB (c : UInt8) : Bool := (65 ≤ c && c ≤ 90) || (97 ≤ c && c ≤ 122) || c == 95
def digitB (c : UInt8) : Bool := 48 ≤ c && c ≤ 57
theorem alphaB_eq (c : UInt8) : alphaB c = ((c.toNat : Int) == 95 || (decide (97 ≤ bits .or .u8 c.toNat 32) && decide (bits .or .u8 c.toNat 32 ≤ 122))) := by
  have h : ∀ n : Fin 256, alphaB (UInt8.ofNat n) = (((n : Nat) : Int) == 95 || (decide (97 ≤ bits .or .u8 (n : Nat) 32) && decide (bits .or .u8 (n : Nat) 32 ≤ 122))) := by decide +kernel
  have := h ⟨c.toNat, c.toNat_lt⟩
  simpa using this
theorem digitB_eq (c : UInt8) : digitB c = (decide (48 ≤ (c.toNat : Int)) && decide ((c.toNat : Int) ≤ 57)) := by
  rw [Bool.eq_iff_iff]; simp [digitB, UInt8.le_iff_toNat_le]; omega
theorem digit_any (c : UInt8) (w : World) : Calls Tryd.prog 26 #[.int .u8 c.toNat] w fun e w' => e = .returned (.bool (digitB c)) ∧ w = w' := by
  have hc : c.toNat < 256 := c.toNat_lt
  have hE := Lib.hid (digitB_eq c)
  go_enter Tryd.func26, Tryd.ntmps26
  go_wp2
  all_goals go_ret
  all_goals refine ⟨ret_bool ?_, rfl⟩
  all_goals rw [hE.out]
  all_goals first | (simp_all; done) | (simp_all <;> omega)
theorem alpha_any (c : UInt8) (w : World) : Calls Tryd.prog 28 #[.int .u8 c.toNat] w fun e w' => e = .returned (.bool (alphaB c)) ∧ w = w' := by
  have hc : c.toNat < 256 := c.toNat_lt
  have hE := Lib.hid (alphaB_eq c)
  go_enter Tryd.func28, Tryd.ntmps28
  go_wp2
  all_goals go_ret
  all_goals refine ⟨ret_bool ?_, rfl⟩
  all_goals rw [hE.out]
  all_goals first | (simp_all; done) | (simp_all <;> omega)
/-- how long the name at the front is -/
def frontN : List UInt8 → Nat
  | [] => 0
  | c :: t => if alphaB c then 1 + (t.takeWhile (fun c => alphaB c || digitB c)).length else 0
def fr (j : Nat) (c : UInt8) : Bool := alphaB c || (decide (0 < j) && digitB c)
structure IsFront (l : List UInt8) (k : Nat) : Prop where
  le : k ≤ l.length
  ok : ∀ j c, j < k → l[j]? = some c → fr j c = true
  no : ∀ c, l[k]? = some c → fr k c = false
theorem takeWhile_unique (p : UInt8 → Bool) : ∀ (l : List UInt8) (k : Nat), k ≤ l.length → (∀ j c, j < k → l[j]? = some c → p c = true) → (∀ c, l[k]? = some c → p c = false) → k = (l.takeWhile p).length
  | [], k, hk, _, _ => by simpa using hk
  | c :: t, 0, _, _, hn => by rw [List.takeWhile_cons, hn c rfl]; rfl
  | c :: t, k + 1, hk, ho, hn => by
    rw [List.takeWhile_cons, ho 0 c (by omega) rfl]
    simp only [if_true, List.length_cons]
    rw [takeWhile_unique p t k (by simpa using hk) (fun j c' hj h => ho (j + 1) c' (by omega) (by simpa using h)) (fun c' h => hn c' (by simpa using h))]
theorem IsFront.eq {l : List UInt8} {k : Nat} (h : IsFront l k) : k = frontN l := by
  cases l with
  | nil => simpa [frontN] using h.le
  | cons c t =>
    have h0 := h.no
    cases k with
    | zero =>
      have := h.no c rfl
      simp only [fr, Bool.or_eq_false_iff] at this
      simp [frontN, this.1]
    | succ k =>
      have h1 := h.ok 0 c (by omega) rfl
      simp [fr] at h1
      simp only [frontN, h1, if_true]
      rw [← takeWhile_unique (fun c => alphaB c || digitB c) t k (by simpa using h.le) (fun j c' hj hc => by
          have := h.ok (j + 1) c' (by omega) (by simpa using hc)
          simpa [fr] using this)
        (fun c' hc => by
          have := h.no c' (by simpa using hc)
          simpa [fr] using this)]
      omega
theorem front_any (l : List UInt8) (hl : l.length ≤ maxLen) (w : World) : Calls Tryd.prog 9 #[.string ⟨l.toArray⟩] w fun e w' => e = .returned (.int .i64 (frontN l)) ∧ w = w' := by
  unfold maxLen at hl
  go_enter Tryd.func9, Tryd.ntmps9
  go_wp2_with fail
  go_loop [3] (fun n => ∃ k : Nat, k ≤ l.length ∧ n = .int .i64 k ∧ ∀ j c, j < k → l[j]? = some c → fr j c = true) (fun n => l.length - (intOf n).toNat)
  case atStart => exact ⟨0, by omega, rfl, by intro j c h; omega⟩
  case round =>
    obtain ⟨k, hk, rfl, hok⟩ := hrel
    have hok' := Lib.hid hok
    clear hok
    by_cases hkl : k < l.length
    · obtain ⟨c, _, hg, hc⟩ := str_at l k hkl
      have hc' := Lib.hid hc
      clear hc
      have hex : fr k c = false → k = frontN l := fun h => IsFront.eq ⟨hk, hok'.out, fun c' h' => by rw [hc'.out] at h'; cases h'; exact h⟩
      have hgo : fr k c = true → ∀ j c', j < k + 1 → l[j]? = some c' → fr j c' = true := fun h j c' hj hc2 => by
        rcases Nat.lt_or_ge j k with h' | h'
        · exact hok'.out j c' h' hc2
        · obtain rfl : j = k := by omega
          rw [hc'.out] at hc2; cases hc2; exact h
      have hex' := Lib.hid hex
      have hgo' := Lib.hid hgo
      clear hex hgo
      cases ha : alphaB c
      · by_cases hk0 : (0 : Int) < k
        · cases hd : digitB c
          · have hn := Lib.hid (hex'.out (by simp [fr, ha, hd]))
            go_wp2_with (first
              | (go_at_call 28; refine (alpha_any c _).mono ?_; rintro e w' ⟨rfl, rfl⟩)
              | (go_at_call 26; refine (digit_any c _).mono ?_; rintro e w' ⟨rfl, rfl⟩))
            go_ret
            exact ⟨ret_int (by rw [hn.out]), rfl⟩
          · have hn := Lib.hid (hgo'.out (by simp [fr, hd]; omega))
            go_wp2_with (first
              | (go_at_call 28; refine (alpha_any c _).mono ?_; rintro e w' ⟨rfl, rfl⟩)
              | (go_at_call 26; refine (digit_any c _).mono ?_; rintro e w' ⟨rfl, rfl⟩))
            go_round
            case rel => exact ⟨k + 1, by omega, by go_num, hn.out⟩
            case measure => simp [intOf]; omega
        · have hn := Lib.hid (hex'.out (by simp [fr, ha]; omega))
          go_wp2_with (first
            | (go_at_call 28; refine (alpha_any c _).mono ?_; rintro e w' ⟨rfl, rfl⟩)
            | (go_at_call 26; refine (digit_any c _).mono ?_; rintro e w' ⟨rfl, rfl⟩))
          go_ret
          exact ⟨ret_int (by rw [hn.out]), rfl⟩
      · have hn := Lib.hid (hgo'.out (by simp [fr, ha]))
        go_wp2_with (first
          | (go_at_call 28; refine (alpha_any c _).mono ?_; rintro e w' ⟨rfl, rfl⟩)
          | (go_at_call 26; refine (digit_any c _).mono ?_; rintro e w' ⟨rfl, rfl⟩))
        go_round
        case rel => exact ⟨k + 1, by omega, by go_num, hn.out⟩
        case measure => simp [intOf]; omega
    · obtain rfl : k = l.length := by omega
      have hn := Lib.hid (IsFront.eq ⟨hk, hok'.out, fun c' h' => by rw [List.getElem?_eq_none (Nat.le_refl _)] at h'; cases h'⟩)
      go_wp2_with fail
      go_ret
      exact ⟨ret_int (by rw [← hn.out]), rfl⟩
end Go.Proofs.YtlfnoadnnkkegaaDoor
