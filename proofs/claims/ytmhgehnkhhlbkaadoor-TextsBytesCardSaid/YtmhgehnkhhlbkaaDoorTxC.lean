/- Texts: the reference's sets of bytes. -/
import Derived.Test.YtmhgehnkhhlbkaaDoorTxB
namespace Go.Proofs.YtmhgehnkhhlbkaaDoor
open Go.RowKit

theorem rescape_any (c : UInt8) (w : World) (v : UInt8) (hv : escV c = some v) : Calls Tryd.prog 58 #[.int .u8 c.toNat] w fun e w' => e = .returned (.int .u8 v.toNat) ∧ w = w' := by
  have hcv : c = 110 ∧ v = 10 ∨ c = 116 ∧ v = 9 ∨ c = 92 ∧ v = 92 := by
    unfold escV at hv; split at hv
    · cases hv; exact .inl ⟨by assumption, rfl⟩
    · split at hv
      · cases hv; exact .inr (.inl ⟨by assumption, rfl⟩)
      · split at hv
        · cases hv; exact .inr (.inr ⟨by assumption, rfl⟩)
        · cases hv
  rcases hcv with ⟨rfl, rfl⟩ | ⟨rfl, rfl⟩ | ⟨rfl, rfl⟩
  all_goals
    go_enter Tryd.func58, Tryd.ntmps58
    go_wp2
    go_ret
    exact ⟨rfl, rfl⟩
theorem resc10 (w : World) : Calls Tryd.prog 58 #[.int .u8 110] w fun e w' => e = .returned (.int .u8 10) ∧ w = w' := rescape_any 110 w 10 rfl
theorem resc9 (w : World) : Calls Tryd.prog 58 #[.int .u8 116] w fun e w' => e = .returned (.int .u8 9) ∧ w = w' := rescape_any 116 w 9 rfl
theorem resc92 (w : World) : Calls Tryd.prog 58 #[.int .u8 92] w fun e w' => e = .returned (.int .u8 92) ∧ w = w' := rescape_any 92 w 92 rfl
set_option maxRecDepth 100000 in
set_option maxHeartbeats 16000000 in
theorem rset_any (l : List UInt8) (hl : l.length ≤ 500) (w : World) : Calls Tryd.prog 36 #[.string ⟨l.toArray⟩] w fun e w' => SetRes w w' e (setL l) := by
  go_enter Tryd.func36, Tryd.ntmps36
  go_wp2_with fail
  go_loopw [4, 5] (fun v i W => ∃ (k : Nat) (o : List UInt8), k ≤ l.length ∧ i = .int .i64 k ∧ setL l = (setL (l.drop k)).map (o ++ ·) ∧ o.length + 256 * (l.length - k) ≤ 128000 ∧ OwnB W w.heap.size v o ∧ Below w.heap.size w W) (fun _ i _ => l.length - (intOf i).toNat)
  case atStart => exact ⟨0, [], by omega, rfl, by simp, by simp; omega, OwnB.nil _ _, Below.refl _ _⟩
  case round =>
    obtain ⟨k, o, hk, rfl, hset, hlen, hown, hB⟩ := hrel
    have hsz := hB.size
    have hset' := Lib.hid hset
    clear hset
    by_cases hkl : k < l.length
    · obtain ⟨b, _, hg0, hb0⟩ := str_at l k hkl
      have hd0 := drop_cons hb0
      by_cases hk2 : k + 2 < l.length
      · obtain ⟨c0, _, hg1, hc1⟩ := str_at l (k + 1) (by omega)
        have hd1 := drop_cons hc1
        by_cases h45 : c0 = 45
        · subst h45
          obtain ⟨e, _, hg2, hc2⟩ := str_at l (k + 2) hk2
          have hd2 := drop_cons hc2
          have hbn := b.toNat_lt
          have hen := e.toNat_lt
          by_cases heb : e < b
          · have hlt : (e.toNat : Int) < b.toNat := by have := UInt8.lt_iff_toNat_lt.1 heb; omega
            have hs := Lib.hid (show setL l = none by rw [hset'.out, hd0, hd1, hd2, setL_bad _ _ _ heb]; rfl)
            clear hd0 hd1 hd2 hb0 hc1 hc2 heb
            go_wp2_with fail
            go_ret2
            rw [hs.out]
            exact ⟨rfl, hB⟩
          · have hlt : (b.toNat : Int) ≤ e.toNat := by have := mt UInt8.lt_iff_toNat_lt.2 heb; omega
            have hltn : ¬ e.toNat < b.toNat := by omega
            have hdec : decide (e.toNat < b.toNat) = false := by simp; omega
            have hs := Lib.hid (show setL l = (setL (l.drop (k + 3))).map ((o ++ rngN b.toNat (e.toNat + 1 - b.toNat)) ++ ·) by
              rw [hset'.out, hd0, hd1, hd2, setL_range _ _ _ heb, Option.map_map]; congr 1; funext x; simp)
            clear hd0 hd1 hd2 hb0 hc1 hc2 heb
            obtain ⟨n, hn⟩ : ∃ n, e.toNat + 1 - b.toNat = n := ⟨_, rfl⟩
            rw [hn] at hs
            go_wp2_with fail
            go_loopw [4, 7] (fun v c W => ∃ j : Nat, j ≤ n ∧ c = .int .i64 (b.toNat + j : Nat) ∧ OwnB W w.heap.size v (o ++ rngN b.toNat j) ∧ Below w.heap.size w W) (fun _ c _ => (256 - intOf c).toNat)
            case atStart => exact ⟨0, by omega, by go_num, by simpa [rngN] using hown, hB⟩
            case round =>
              obtain ⟨j, hj, rfl, hown2, hB2⟩ := hrel
              have hsz2 := hB2.size
              have hrl := rngN_len b.toNat j
              by_cases hjn : j < n
              · have hle : ((b.toNat + j : Nat) : Int) ≤ e.toNat := by omega
                have hsu := Lib.hid (rngN_succ b.toNat j)
                have hcb : (UInt8.ofNat (b.toNat + j)).toNat = b.toNat + j := by rw [UInt8.toNat_ofNat']; omega
                generalize UInt8.ofNat (b.toNat + j) = c at *
                generalize rngN b.toNat j = R at *
                go_wp2_with (at_builtin; refine append_lit rfl _ _ rfl w.heap.size _ _ rfl hown2 [c] _ (by simp only [List.map_cons, List.map_nil]; congr 2; omega) 1 rfl rfl (by simp; omega) hsz2 ?_; intro v1 w1 hown1 hg1'; have hB1 := below_own hB2 hown2 hg1' hsz2)
                go_round
                case rel => exact ⟨j + 1, by omega, by go_num, by rw [hsu.out, ← List.append_assoc]; exact hown1, hB1⟩
                case measure => simp [intOf]; omega
              · have hle : ¬ ((b.toNat + j : Nat) : Int) ≤ e.toNat := by omega
                have hjn' : j = n := by omega
                rw [hjn'] at hown2
                have hrl2 := rngN_len b.toNat n
                have hlen3 : (o ++ rngN b.toNat n).length + 256 * (l.length - (k + 3)) ≤ 128000 := by simp; omega
                generalize o ++ rngN b.toNat n = O at *
                go_wp2_with fail
                go_round
                case rel => exact ⟨k + 3, O, by omega, by go_num, hs.out, hlen3, hown2, hB2⟩
                case measure => simp [intOf]; omega
        · have hn45 := ne_int (k := 45) (by omega) h45
          have hn45' : ((c0.toNat : Int) == 45) = false := by rw [beq_eq_false_iff_ne]; exact hn45
          have hrange : ¬ (2 ≤ (l.drop (k + 1)).length ∧ (l.drop (k + 1)).getD 0 0 = 45) := fun h => h45 (by have := h.2; rw [hd1] at this; exact this)
          clear hd1 h45
          by_cases hb92 : b = 92
          · subst hb92
            by_cases hk1 : k + 1 < l.length
            · obtain ⟨c, rfl⟩ : ∃ c, c = c0 := ⟨_, rfl⟩
              have hcc := hc1
              have hgc := hg1
              clear hc1 hg1
              have hd1 := drop_cons hcc
              have hgd : (l.drop (k + 1)).getD 0 0 = c := by simp [List.getD, List.getElem?_drop, hcc]
              cases hv : escV c with
              | none =>
                have e1 : ¬ c = 110 := fun h => by subst h; cases hv
                have e2 : ¬ c = 116 := fun h => by subst h; cases hv
                have e3 : ¬ c = 92 := fun h => by subst h; cases hv
                have n1 := ne_int (k := 110) (by omega) e1
                have n2 := ne_int (k := 116) (by omega) e2
                have n3 := ne_int (k := 92) (by omega) e3
                have m1 : ((c.toNat : Int) == 110) = false := by rw [beq_eq_false_iff_ne]; exact n1
                have m2 : ((c.toNat : Int) == 116) = false := by rw [beq_eq_false_iff_ne]; exact n2
                have m3 : ((c.toNat : Int) == 92) = false := by rw [beq_eq_false_iff_ne]; exact n3
                have hs := Lib.hid (show setL l = (setL (l.drop (k + 1))).map ((o ++ [92]) ++ ·) by
                  rw [hset'.out, hd0, setL_one _ _ hrange (fun h => by have := h.2.2; rw [hgd, hv] at this; cases this), Option.map_map]; congr 1; funext x; simp)
                clear hrange hd0 hb0 hd1 hgd hcc hset' e1 e2 e3
                go_wp2_with (first
                  | (go_at_call 58; refine (resc92 _).mono ?_; rintro e w' ⟨rfl, rfl⟩)
                  | (at_builtin; refine append_lit rfl _ _ rfl w.heap.size _ _ rfl hown [92] _ rfl 1 rfl rfl (by first | omega | (simp; omega)) hsz ?_; intro v1 w1 hown1 hg1'; have hB1 := below_own hB hown hg1' hsz))
                go_round
                case rel => exact ⟨k + 1, o ++ [92], by omega, by go_num, hs.out, by simp; omega, hown1, hB1⟩
                case measure => simp [intOf]; omega
              | some v =>
                have hs := Lib.hid (show setL l = (setL (l.drop (k + 2))).map ((o ++ [v]) ++ ·) by
                  rw [hset'.out, hd0, hd1, setL_esc c v _ (by rw [hd1] at hrange; simpa using hrange) hv, Option.map_map]; congr 1; funext x; simp)
                have hcv : c = 110 ∧ v = 10 ∨ c = 116 ∧ v = 9 ∨ c = 92 ∧ v = 92 := by
                  unfold escV at hv; split at hv
                  · cases hv; exact .inl ⟨by assumption, rfl⟩
                  · split at hv
                    · cases hv; exact .inr (.inl ⟨by assumption, rfl⟩)
                    · split at hv
                      · cases hv; exact .inr (.inr ⟨by assumption, rfl⟩)
                      · cases hv
                clear hrange hd0 hb0 hd1 hgd hcc hset' hv
                rcases hcv with ⟨rfl, rfl⟩ | ⟨rfl, rfl⟩ | ⟨rfl, rfl⟩
                · go_wp2_with (first
                    | (go_at_call 58; refine (resc10 _).mono ?_; rintro e w' ⟨rfl, rfl⟩)
                    | (at_builtin; refine append_lit rfl _ _ rfl w.heap.size _ _ rfl hown [10] _ rfl 1 rfl rfl (by first | omega | (simp; omega)) hsz ?_; intro v1 w1 hown1 hg1'; have hB1 := below_own hB hown hg1' hsz))
                  go_round
                  case rel => exact ⟨k + 2, o ++ [10], by omega, by go_num, hs.out, by simp; omega, hown1, hB1⟩
                  case measure => simp [intOf]; omega
                · go_wp2_with (first
                    | (go_at_call 58; refine (resc9 _).mono ?_; rintro e w' ⟨rfl, rfl⟩)
                    | (at_builtin; refine append_lit rfl _ _ rfl w.heap.size _ _ rfl hown [9] _ rfl 1 rfl rfl (by first | omega | (simp; omega)) hsz ?_; intro v1 w1 hown1 hg1'; have hB1 := below_own hB hown hg1' hsz))
                  go_round
                  case rel => exact ⟨k + 2, o ++ [9], by omega, by go_num, hs.out, by simp; omega, hown1, hB1⟩
                  case measure => simp [intOf]; omega
                · go_wp2_with (first
                    | (go_at_call 58; refine (resc92 _).mono ?_; rintro e w' ⟨rfl, rfl⟩)
                    | (at_builtin; refine append_lit rfl _ _ rfl w.heap.size _ _ rfl hown [92] _ rfl 1 rfl rfl (by first | omega | (simp; omega)) hsz ?_; intro v1 w1 hown1 hg1'; have hB1 := below_own hB hown hg1' hsz))
                  go_round
                  case rel => exact ⟨k + 2, o ++ [92], by omega, by go_num, hs.out, by simp; omega, hown1, hB1⟩
                  case measure => simp [intOf]; omega
            · exact absurd (show k + 1 < l.length by omega) hk1
          · have hn92 := ne_int (k := 92) (by omega) hb92
            have hn92' : ((b.toNat : Int) == 92) = false := by rw [beq_eq_false_iff_ne]; exact hn92
            clear hc1
            have hs := Lib.hid (show setL l = (setL (l.drop (k + 1))).map ((o ++ [b]) ++ ·) by
              rw [hset'.out, hd0, setL_one _ _ hrange (fun h => hb92 h.1), Option.map_map]; congr 1; funext x; simp)
            clear hrange hd0 hb0 hset'
            go_wp2_with (first
              | (go_at_call 58; refine (resc92 _).mono ?_; rintro e w' ⟨rfl, rfl⟩)
              | (at_builtin; refine append_lit rfl _ _ rfl w.heap.size _ _ rfl hown [b] _ rfl 1 rfl rfl (by first | omega | (simp; omega)) hsz ?_; intro v1 w1 hown1 hg1'; have hB1 := below_own hB hown hg1' hsz))
            go_round
            case rel => exact ⟨k + 1, o ++ [b], by omega, by go_num, hs.out, by simp; omega, hown1, hB1⟩
            case measure => simp [intOf]; omega
      · have hrange : ¬ (2 ≤ (l.drop (k + 1)).length ∧ (l.drop (k + 1)).getD 0 0 = 45) := fun h => by have := h.1; simp at this; omega
        by_cases hb92 : b = 92
        · subst hb92
          by_cases hk1 : k + 1 < l.length
          · obtain ⟨c, _, hgc, hcc⟩ := str_at l (k + 1) hk1
            have hd1 := drop_cons hcc
            have hgd : (l.drop (k + 1)).getD 0 0 = c := by simp [List.getD, List.getElem?_drop, hcc]
            cases hv : escV c with
            | none =>
              have e1 : ¬ c = 110 := fun h => by subst h; cases hv
              have e2 : ¬ c = 116 := fun h => by subst h; cases hv
              have e3 : ¬ c = 92 := fun h => by subst h; cases hv
              have n1 := ne_int (k := 110) (by omega) e1
              have n2 := ne_int (k := 116) (by omega) e2
              have n3 := ne_int (k := 92) (by omega) e3
              have m1 : ((c.toNat : Int) == 110) = false := by rw [beq_eq_false_iff_ne]; exact n1
              have m2 : ((c.toNat : Int) == 116) = false := by rw [beq_eq_false_iff_ne]; exact n2
              have m3 : ((c.toNat : Int) == 92) = false := by rw [beq_eq_false_iff_ne]; exact n3
              have hs := Lib.hid (show setL l = (setL (l.drop (k + 1))).map ((o ++ [92]) ++ ·) by
                rw [hset'.out, hd0, setL_one _ _ hrange (fun h => by have := h.2.2; rw [hgd, hv] at this; cases this), Option.map_map]; congr 1; funext x; simp)
              clear hrange hd0 hb0 hd1 hgd hcc hset' e1 e2 e3
              go_wp2_with (first
                | (go_at_call 58; refine (resc92 _).mono ?_; rintro e w' ⟨rfl, rfl⟩)
                | (at_builtin; refine append_lit rfl _ _ rfl w.heap.size _ _ rfl hown [92] _ rfl 1 rfl rfl (by first | omega | (simp; omega)) hsz ?_; intro v1 w1 hown1 hg1'; have hB1 := below_own hB hown hg1' hsz))
              go_round
              case rel => exact ⟨k + 1, o ++ [92], by omega, by go_num, hs.out, by simp; omega, hown1, hB1⟩
              case measure => simp [intOf]; omega
            | some v =>
              have hs := Lib.hid (show setL l = (setL (l.drop (k + 2))).map ((o ++ [v]) ++ ·) by
                rw [hset'.out, hd0, hd1, setL_esc c v _ (by rw [hd1] at hrange; simpa using hrange) hv, Option.map_map]; congr 1; funext x; simp)
              have hcv : c = 110 ∧ v = 10 ∨ c = 116 ∧ v = 9 ∨ c = 92 ∧ v = 92 := by
                unfold escV at hv; split at hv
                · cases hv; exact .inl ⟨by assumption, rfl⟩
                · split at hv
                  · cases hv; exact .inr (.inl ⟨by assumption, rfl⟩)
                  · split at hv
                    · cases hv; exact .inr (.inr ⟨by assumption, rfl⟩)
                    · cases hv
              clear hrange hd0 hb0 hd1 hgd hcc hset' hv
              rcases hcv with ⟨rfl, rfl⟩ | ⟨rfl, rfl⟩ | ⟨rfl, rfl⟩
              · go_wp2_with (first
                  | (go_at_call 58; refine (resc10 _).mono ?_; rintro e w' ⟨rfl, rfl⟩)
                  | (at_builtin; refine append_lit rfl _ _ rfl w.heap.size _ _ rfl hown [10] _ rfl 1 rfl rfl (by first | omega | (simp; omega)) hsz ?_; intro v1 w1 hown1 hg1'; have hB1 := below_own hB hown hg1' hsz))
                go_round
                case rel => exact ⟨k + 2, o ++ [10], by omega, by go_num, hs.out, by simp; omega, hown1, hB1⟩
                case measure => simp [intOf]; omega
              · go_wp2_with (first
                  | (go_at_call 58; refine (resc9 _).mono ?_; rintro e w' ⟨rfl, rfl⟩)
                  | (at_builtin; refine append_lit rfl _ _ rfl w.heap.size _ _ rfl hown [9] _ rfl 1 rfl rfl (by first | omega | (simp; omega)) hsz ?_; intro v1 w1 hown1 hg1'; have hB1 := below_own hB hown hg1' hsz))
                go_round
                case rel => exact ⟨k + 2, o ++ [9], by omega, by go_num, hs.out, by simp; omega, hown1, hB1⟩
                case measure => simp [intOf]; omega
              · go_wp2_with (first
                  | (go_at_call 58; refine (resc92 _).mono ?_; rintro e w' ⟨rfl, rfl⟩)
                  | (at_builtin; refine append_lit rfl _ _ rfl w.heap.size _ _ rfl hown [92] _ rfl 1 rfl rfl (by first | omega | (simp; omega)) hsz ?_; intro v1 w1 hown1 hg1'; have hB1 := below_own hB hown hg1' hsz))
                go_round
                case rel => exact ⟨k + 2, o ++ [92], by omega, by go_num, hs.out, by simp; omega, hown1, hB1⟩
                case measure => simp [intOf]; omega
          · have hnil : l.drop (k + 1) = [] := List.drop_eq_nil_of_le (by omega)
            have hs := Lib.hid (show setL l = (setL (l.drop (k + 1))).map ((o ++ [92]) ++ ·) by
              rw [hset'.out, hd0, setL_one _ _ hrange (fun h => h.2.1 hnil), Option.map_map]; congr 1; funext x; simp)
            clear hrange hd0 hb0 hset' hnil
            go_wp2_with (first
              | (go_at_call 58; refine (resc92 _).mono ?_; rintro e w' ⟨rfl, rfl⟩)
              | (at_builtin; refine append_lit rfl _ _ rfl w.heap.size _ _ rfl hown [92] _ rfl 1 rfl rfl (by first | omega | (simp; omega)) hsz ?_; intro v1 w1 hown1 hg1'; have hB1 := below_own hB hown hg1' hsz))
            go_round
            case rel => exact ⟨k + 1, o ++ [92], by omega, by go_num, hs.out, by simp; omega, hown1, hB1⟩
            case measure => simp [intOf]; omega
        · have hn92 := ne_int (k := 92) (by omega) hb92
          have hn92' : ((b.toNat : Int) == 92) = false := by rw [beq_eq_false_iff_ne]; exact hn92
          have hs := Lib.hid (show setL l = (setL (l.drop (k + 1))).map ((o ++ [b]) ++ ·) by
            rw [hset'.out, hd0, setL_one _ _ hrange (fun h => hb92 h.1), Option.map_map]; congr 1; funext x; simp)
          clear hrange hd0 hb0 hset'
          go_wp2_with (first
            | (go_at_call 58; refine (resc92 _).mono ?_; rintro e w' ⟨rfl, rfl⟩)
            | (at_builtin; refine append_lit rfl _ _ rfl w.heap.size _ _ rfl hown [b] _ rfl 1 rfl rfl (by first | omega | (simp; omega)) hsz ?_; intro v1 w1 hown1 hg1'; have hB1 := below_own hB hown hg1' hsz))
          go_round
          case rel => exact ⟨k + 1, o ++ [b], by omega, by go_num, hs.out, by simp; omega, hown1, hB1⟩
          case measure => simp [intOf]; omega
    · obtain rfl : k = l.length := by omega
      have hs := Lib.hid (show setL l = some o by rw [hset'.out, List.drop_length, setL_nil]; simp)
      clear hset'
      go_wp2_with fail
      go_ret2
      rw [hs.out]
      exact ⟨u4, rfl, hown, by omega, hB⟩
end Go.Proofs.YtmhgehnkhhlbkaaDoor
