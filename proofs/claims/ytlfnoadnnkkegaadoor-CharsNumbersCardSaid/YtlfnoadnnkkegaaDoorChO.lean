/- Chars: the reference's numbers; the law CharsNumbers. -/
import Derived.Test.YtlfnoadnnkkegaaDoorChM
import Derived.Test.YtlfnoadnnkkegaaDoorOwn
import Derived.Test.YtlfnoadnnkkegaaDoorChR
namespace Go.Proofs.YtlfnoadnnkkegaaDoor
open Go.RowKit

/-- the digits of a number that is not zero -/
def dig0 (u : Nat) : List UInt8 := if u = 0 then [] else Lib.decDigits u
theorem dig0_step (u : Nat) (h : u ≠ 0) : dig0 u = dig0 (u / 10) ++ [UInt8.ofNat (48 + u % 10)] := by
  unfold dig0
  rw [if_neg h, Lib.decDigits]
  split
  · rename_i h1
    rw [if_pos (by omega), Nat.mod_eq_of_lt h1]; rfl
  · rw [if_neg (by omega)]
theorem decVal_snoc (l : List UInt8) (c : UInt8) : decVal (l ++ [c]) = decVal l * 10 + (c.toNat - 48) := by
  unfold decVal; rw [decFrom_app]; rfl
theorem decVal_take (l : List UInt8) (k : Nat) : decVal (l.take k) ≤ decVal l := by
  have : decVal l = decFrom (decVal (l.take k)) (l.drop k) := by
    unfold decVal; rw [← decFrom_app, List.take_append_drop]
  rw [this]; exact decFrom_ge _ _
theorem itoa_neg (u : Nat) (h : u ≠ 0) : Lib.itoa (-(u : Int)) = 45 :: dig0 u := by
  unfold Lib.itoa dig0
  rw [if_pos (by omega), if_neg h]; congr 2; omega
theorem itoa_pos (u : Nat) (h : u ≠ 0) : Lib.itoa (u : Int) = dig0 u := by
  unfold Lib.itoa dig0
  rw [if_neg (by omega), if_neg h]; rfl
theorem itoa_zero : Lib.itoa 0 = [48] := by
  unfold Lib.itoa; rw [if_neg (by omega), Lib.decDigits]; rfl
theorem dig0_len (u : Nat) (h : u ≤ 9223372036854775808) : (dig0 u).length ≤ 19 := by
  unfold dig0; split
  · simp
  · exact dec_len 19 u (by omega) (by omega)
set_option maxRecDepth 100000 in
set_option maxHeartbeats 1600000 in
theorem rnumber_any (l : List UInt8) (hl : l.length ≤ 2000) (most : Int) (hm : -9223372036854775808 ≤ most ∧ most ≤ 9223372036854775807) (w : World) :
    Calls Tryd.prog 15 #[.string ⟨l.toArray⟩, .int .i64 most] w fun e w' => e = .returned (.tuple #[.int .i64 (numRes l most).1, .int .i64 (numRes l most).2]) ∧ w = w' := by
  by_cases h0 : l = []
  · subst h0
    go_enter Tryd.func15, Tryd.ntmps15
    go_wp2_with fail
    go_ret2
    exact ⟨rfl, rfl⟩
  have hne1 : (l == []) = false := by simp [h0]
  have hne2 : l.isEmpty = false := by simp [h0]
  have hh0 := Lib.hid h0
  clear h0
  go_enter Tryd.func15, Tryd.ntmps15
  go_wp2_with fail
  go_loop [6] (fun i => ∃ k : Nat, k ≤ l.length ∧ i = .int .i64 k ∧ (l.take k).all digB = true) (fun i => l.length - (intOf i).toNat)
  case atStart => exact ⟨0, by omega, rfl, rfl⟩
  case round =>
    obtain ⟨k, hk, rfl, hall⟩ := hrel
    have hall' := Lib.hid hall
    clear hall
    by_cases hkl : k < l.length
    · obtain ⟨c, _, hg, hc⟩ := str_at l k hkl
      have hc' := Lib.hid hc
      clear hc
      cases hd : digB c
      · have hd2 : digitB c = false := hd
        have hr := Lib.hid (show numRes l most = (0, 10) by
          simp only [numRes]; rw [if_pos (.inr (by rw [List.all_eq_false]; exact ⟨c, List.mem_of_getElem? hc'.out, by simp [hd]⟩))])
        go_wp2_with (go_at_call 27; refine (rdigit_any c _).mono ?_; rintro e w' ⟨rfl, rfl⟩)
        go_ret2
        rw [hr.out]
        exact ⟨rfl, rfl⟩
      · have hd2 : digitB c = true := hd
        have hn := Lib.hid (show (l.take (k + 1)).all digB = true by rw [List.take_add_one, hc'.out, List.all_append, hall'.out]; simp [hd])
        go_wp2_with (go_at_call 27; refine (rdigit_any c _).mono ?_; rintro e w' ⟨rfl, rfl⟩)
        go_round
        case rel => exact ⟨k + 1, by omega, by go_num, hn.out⟩
        case measure => simp [intOf]; omega
    · obtain rfl : k = l.length := by omega
      have had := Lib.hid (show l.all digB = true by have := hall'.out; rwa [List.take_length] at this)
      clear hall'
      go_wp2_with fail
      go_loop [7, 8] (fun n i => ∃ k : Nat, k ≤ l.length ∧ n = .int .i64 (decVal (l.take k)) ∧ i = .int .i64 k ∧ (k = 0 ∨ (decVal (l.take k) : Int) ≤ most)) (fun _ i => l.length - (intOf i).toNat)
      case atStart => exact ⟨0, by omega, rfl, rfl, .inl rfl⟩
      case round =>
        obtain ⟨k, hk, rfl, rfl, hmo⟩ := hrel
        by_cases hkl : k < l.length
        · obtain ⟨c, _, hg, hc⟩ := str_at l k hkl
          have hd : digB c = true := List.all_eq_true.1 had.out c (List.mem_of_getElem? hc)
          have hd' := (digB_iff c).1 hd
          have hsn : decVal (l.take (k + 1)) = decVal (l.take k) * 10 + (c.toNat - 48) := by
            rw [List.take_add_one, hc]; exact decVal_snoc _ _
          have hle := decVal_take l (k + 1)
          have h00 : k = 0 → decVal (l.take k) = 0 := fun e => by subst e; rfl
          have hbig := Lib.hid (fun (h : most < decVal (l.take (k + 1))) => show numRes l most = (0, 3) by
            simp only [numRes]; rw [if_neg (by simp [hh0.out, had.out]), if_pos (by omega)])
          have hsn' := Lib.hid hsn
          have hle' := Lib.hid hle
          clear hc hd hsn hle
          generalize decVal (l.take k) = n at *
          go_wp2_with fail
          · go_ret2
            rw [hbig.out (by rw [hsn'.out]; omega)]
            exact ⟨rfl, rfl⟩
          · go_round
            case rel => exact ⟨k + 1, by omega, by rw [hsn'.out]; go_num, by go_num, .inr (by rw [hsn'.out]; omega)⟩
            case measure => simp [intOf]; omega
          · go_ret2
            rw [hbig.out (by rw [hsn'.out]; omega)]
            exact ⟨rfl, rfl⟩
        · obtain rfl : k = l.length := by omega
          have hr := Lib.hid (show numRes l most = ((decVal l : Int), 0) by
            rw [List.take_length] at hmo
            have hp : l.length ≠ 0 := fun e => hh0.out (List.eq_nil_of_length_eq_zero e)
            simp only [numRes]; rw [if_neg (by simp [hh0.out, had.out]), if_neg (by omega)])
          rw [List.take_length] at *
          go_wp2_with fail
          go_ret2
          rw [hr.out]
          exact ⟨rfl, rfl⟩
set_option maxRecDepth 100000 in
set_option maxHeartbeats 1600000 in
theorem rtext_neg (u : Nat) (hu : u ≠ 0) (hn : u ≤ 9223372036854775808) (w : World) : Calls Tryd.prog 17 #[.int .i64 (-(u : Int))] w fun e w' => e = .returned (.string ⟨(Lib.itoa (-(u : Int))).toArray⟩) ∧ Below w.heap.size w w' := by
  have hit := Lib.hid (itoa_neg u hu)
  have hdl := dig0_len u (by omega)
  have h0 : ¬ (-(u : Int)) = 0 := by omega
  have h0b : ((-(u : Int)) == 0) = false := by rw [beq_eq_false_iff_ne]; exact h0
  have hneg : (-(u : Int)) < 0 := by omega
  go_enter Tryd.func17, Tryd.ntmps17
  go_wp2_with fail
  go_loopw [3, 4] (fun v m W => ∃ (x : Nat) (o : List UInt8), x ≤ u ∧ m = .int .i64 (-(x : Int)) ∧ dig0 u = dig0 x ++ o.reverse ∧ OwnB W w.heap.size v o ∧ Below w.heap.size w W) (fun _ m _ => (intOf m).natAbs)
  case atStart => exact ⟨u, [], by omega, rfl, by simp, OwnB.nil _ _, Below.refl _ _⟩
  case round =>
    obtain ⟨x, o, hx, rfl, hdg, hown, hB⟩ := hrel
    have hsz := hB.size
    have hxl : (dig0 x ++ o.reverse).length ≤ 19 := by rw [← hdg]; exact hdl
    have hol : o.length ≤ 19 := by simp at hxl; omega
    by_cases hx0 : x = 0
    · subst hx0
      have hdg' := Lib.hid (show dig0 u = o.reverse by rw [hdg]; rfl)
      clear hdg hxl
      go_wp2_with (at_builtin; refine append_lit rfl _ _ rfl w.heap.size _ _ rfl hown [45] _ rfl 1 rfl rfl (by simp; omega) hsz ?_; intro v1 w1 hown1 hg1; have hB1 := below_own hB hown hg1 hsz; obtain ⟨g, cap, rfl, hgb, hgw, hcell0, _⟩ := hown1.at (by simp); have hcell := Lib.hid hcell0; clear hcell0; have hres := Lib.hid (hit.out.trans (show 45 :: dig0 u = (o ++ [45]).reverse by rw [hdg'.out]; simp)); have hLl : (o ++ [45]).length ≤ 20 := (by simp; omega); clear hg1; generalize o ++ [45] = L at *)
      go_loopw [6, 7] (fun s i W => ∃ k : Nat, k ≤ L.length ∧ i = .int .i64 ((k : Int) - 1) ∧ OwnB W w1.heap.size s (L.reverse.take (L.length - k)) ∧ Below w1.heap.size w1 W) (fun _ i _ => (intOf i + 1).toNat)
      case atStart => exact ⟨L.length, by omega, by go_num, by rw [Nat.sub_self]; exact OwnB.nil _ _, Below.refl _ _⟩
      case round =>
        obtain ⟨k, hk, rfl, hown2, hB2⟩ := hrel
        have hsz2 := hB2.size
        cases k with
        | zero =>
          have hcv := hown2.conv
          have hlr : L.reverse.take (L.length - 0) = L.reverse := List.take_of_length_le (by simp)
          rw [hlr] at hcv hown2
          go_wp2_with fail
          go_ret
          rw [hres.out]
          exact ⟨rfl, hB1.trans (hB2.mono hB1.size)⟩
        | succ j =>
          have hj1 : (((j + 1 : Nat) : Int) - 1) = (j : Int) := by omega
          rw [hj1]
          obtain ⟨b, hb⟩ : ∃ b, L[j]? = some b := ⟨L[j]'(by omega), by simp⟩
          have hcj := (hB2.cell (p := ⟨g, j, none⟩) hgw).trans (hcell.out j b hb)
          have htk := Lib.hid (show L.reverse.take (L.length - j) = L.reverse.take (L.length - (j + 1)) ++ [b] by
            rw [show L.length - j = (L.length - (j + 1)) + 1 by omega, List.take_add_one, List.getElem?_reverse (by omega)]
            rw [show L.length - 1 - (L.length - (j + 1)) = j by omega, hb]; rfl)
          have hlen2 : (L.reverse.take (L.length - (j + 1))).length ≤ 30 := by simp; omega
          clear hb
          generalize L.reverse.take (L.length - (j + 1)) = T at *
          go_wp2_with (at_builtin; refine append_lit rfl _ _ rfl w1.heap.size _ _ rfl hown2 [b] _ rfl 1 rfl rfl (by simp; omega) hsz2 ?_; intro v3 w3 hown3 hg3; have hB3 := below_own hB2 hown2 hg3 hsz2)
          go_round
          case rel => first | exact ⟨j, by omega, by go_num, by rw [htk.out]; exact hown3, hB3⟩ | ((repeat apply Exists.intro); refine ⟨?_, rfl⟩; exact ⟨j, by omega, by go_num, by rw [htk.out]; exact hown3, hB3⟩)
          case measure => first | (simp [intOf]; done) | (simp [intOf]; omega)
    · have hst := dig0_step x hx0
      have hdg' := Lib.hid (hdg.trans (by rw [hst]))
      obtain ⟨c, hc⟩ : ∃ c, UInt8.ofNat (48 + x % 10) = c := ⟨_, rfl⟩
      have hdg3 := Lib.hid (show dig0 u = dig0 (x / 10) ++ (o ++ [c]).reverse by rw [hdg'.out, ← hc]; simp)
      have hcn : c.toNat = 48 + x % 10 := by rw [← hc]; exact digit_of _ (Nat.mod_lt _ (by omega))
      clear hdg hdg' hc hst hxl
      go_wp2_with (at_builtin; refine append_lit rfl _ _ rfl w.heap.size _ _ rfl hown [c] _ (by simp only [List.map_cons, List.map_nil]; congr 2; omega) 1 rfl rfl (by simp; omega) hsz ?_; intro v1 w1 hown1 hg1; have hB1 := below_own hB hown hg1 hsz)
      all_goals
        go_round
        case rel => first | exact ⟨x / 10, o ++ [c], by omega, by go_num, hdg3.out, hown1, hB1⟩ | ((repeat apply Exists.intro); refine ⟨?_, rfl⟩; exact ⟨x / 10, o ++ [c], by omega, by go_num, hdg3.out, hown1, hB1⟩)
        case measure => simp [intOf]; omega
set_option maxRecDepth 100000 in
set_option maxHeartbeats 1600000 in
theorem rtext_pos (u : Nat) (hu : u ≠ 0) (hn : u ≤ 9223372036854775807) (w : World) : Calls Tryd.prog 17 #[.int .i64 (u : Int)] w fun e w' => e = .returned (.string ⟨(Lib.itoa (u : Int)).toArray⟩) ∧ Below w.heap.size w w' := by
  have hit := Lib.hid (itoa_pos u hu)
  have hdl := dig0_len u (by omega)
  have h0 : ¬ (u : Int) = 0 := by omega
  have h0b : ((u : Int) == 0) = false := by rw [beq_eq_false_iff_ne]; exact h0
  have hneg : ¬ (u : Int) < 0 := by omega
  go_enter Tryd.func17, Tryd.ntmps17
  go_wp2_with fail
  go_loopw [3, 4] (fun v m W => ∃ (x : Nat) (o : List UInt8), x ≤ u ∧ m = .int .i64 (x : Int) ∧ dig0 u = dig0 x ++ o.reverse ∧ OwnB W w.heap.size v o ∧ Below w.heap.size w W) (fun _ m _ => (intOf m).natAbs)
  case atStart => exact ⟨u, [], by omega, rfl, by simp, OwnB.nil _ _, Below.refl _ _⟩
  case round =>
    obtain ⟨x, o, hx, rfl, hdg, hown, hB⟩ := hrel
    have hsz := hB.size
    have hxl : (dig0 x ++ o.reverse).length ≤ 19 := by rw [← hdg]; exact hdl
    have hol : o.length ≤ 19 := by simp at hxl; omega
    by_cases hx0 : x = 0
    · subst hx0
      have hdg' := Lib.hid (show dig0 u = o.reverse by rw [hdg]; rfl)
      clear hdg hxl
      obtain ⟨g, cap, rfl, hgb, hgw, hcell0, _⟩ := hown.at (fun e => by have h1 := hdg'.out; rw [e] at h1; have := dig0_step u (by omega); rw [h1] at this; simp at this)
      have hcell := Lib.hid hcell0
      clear hcell0
      have hres := Lib.hid (hit.out.trans hdg'.out)
      have hLl : o.length ≤ 20 := by omega
      have hB1 := hB
      generalize o = L at *
      generalize wr = w1 at *
      go_wp2_with fail
      go_loopw [6, 7] (fun s i W => ∃ k : Nat, k ≤ L.length ∧ i = .int .i64 ((k : Int) - 1) ∧ OwnB W w1.heap.size s (L.reverse.take (L.length - k)) ∧ Below w1.heap.size w1 W) (fun _ i _ => (intOf i + 1).toNat)
      case atStart => exact ⟨L.length, by omega, by go_num, by rw [Nat.sub_self]; exact OwnB.nil _ _, Below.refl _ _⟩
      case round =>
        obtain ⟨k, hk, rfl, hown2, hB2⟩ := hrel
        have hsz2 := hB2.size
        cases k with
        | zero =>
          have hcv := hown2.conv
          have hlr : L.reverse.take (L.length - 0) = L.reverse := List.take_of_length_le (by simp)
          rw [hlr] at hcv hown2
          go_wp2_with fail
          go_ret
          rw [hres.out]
          exact ⟨rfl, hB1.trans (hB2.mono hB1.size)⟩
        | succ j =>
          have hj1 : (((j + 1 : Nat) : Int) - 1) = (j : Int) := by omega
          rw [hj1]
          obtain ⟨b, hb⟩ : ∃ b, L[j]? = some b := ⟨L[j]'(by omega), by simp⟩
          have hcj := (hB2.cell (p := ⟨g, j, none⟩) hgw).trans (hcell.out j b hb)
          have htk := Lib.hid (show L.reverse.take (L.length - j) = L.reverse.take (L.length - (j + 1)) ++ [b] by
            rw [show L.length - j = (L.length - (j + 1)) + 1 by omega, List.take_add_one, List.getElem?_reverse (by omega)]
            rw [show L.length - 1 - (L.length - (j + 1)) = j by omega, hb]; rfl)
          have hlen2 : (L.reverse.take (L.length - (j + 1))).length ≤ 30 := by simp; omega
          clear hb
          generalize L.reverse.take (L.length - (j + 1)) = T at *
          go_wp2_with (at_builtin; refine append_lit rfl _ _ rfl w1.heap.size _ _ rfl hown2 [b] _ rfl 1 rfl rfl (by simp; omega) hsz2 ?_; intro v3 w3 hown3 hg3; have hB3 := below_own hB2 hown2 hg3 hsz2)
          go_round
          case rel => first | exact ⟨j, by omega, by go_num, by rw [htk.out]; exact hown3, hB3⟩ | ((repeat apply Exists.intro); refine ⟨?_, rfl⟩; exact ⟨j, by omega, by go_num, by rw [htk.out]; exact hown3, hB3⟩)
          case measure => first | (simp [intOf]; done) | (simp [intOf]; omega)
    · have hst := dig0_step x hx0
      have hdg' := Lib.hid (hdg.trans (by rw [hst]))
      obtain ⟨c, hc⟩ : ∃ c, UInt8.ofNat (48 + x % 10) = c := ⟨_, rfl⟩
      have hdg3 := Lib.hid (show dig0 u = dig0 (x / 10) ++ (o ++ [c]).reverse by rw [hdg'.out, ← hc]; simp)
      have hcn : c.toNat = 48 + x % 10 := by rw [← hc]; exact digit_of _ (Nat.mod_lt _ (by omega))
      clear hdg hdg' hc hst hxl
      go_wp2_with (at_builtin; refine append_lit rfl _ _ rfl w.heap.size _ _ rfl hown [c] _ (by simp only [List.map_cons, List.map_nil]; congr 2; omega) 1 rfl rfl (by simp; omega) hsz ?_; intro v1 w1 hown1 hg1; have hB1 := below_own hB hown hg1 hsz)
      all_goals
        go_round
        case rel => first | exact ⟨x / 10, o ++ [c], by omega, by go_num, hdg3.out, hown1, hB1⟩ | ((repeat apply Exists.intro); refine ⟨?_, rfl⟩; exact ⟨x / 10, o ++ [c], by omega, by go_num, hdg3.out, hown1, hB1⟩)
        case measure => simp [intOf]; omega
theorem rtext_any (n : Int) (hn : -9223372036854775808 ≤ n ∧ n ≤ 9223372036854775807) (w : World) : Calls Tryd.prog 17 #[.int .i64 n] w fun e w' => e = .returned (.string ⟨(Lib.itoa n).toArray⟩) ∧ Below w.heap.size w w' := by
  by_cases h0 : n = 0
  · subst h0
    go_enter Tryd.func17, Tryd.ntmps17
    go_wp2_with fail
    go_ret
    rw [itoa_zero]
    exact ⟨rfl, Below.refl _ _⟩
  rcases Int.lt_or_gt_of_ne h0 with hneg | hpos
  · obtain ⟨u, rfl⟩ : ∃ u : Nat, n = -(u : Int) := ⟨n.natAbs, by omega⟩
    exact rtext_neg u (by omega) (by omega) w
  · obtain ⟨u, rfl⟩ : ∃ u : Nat, n = (u : Int) := ⟨n.toNat, by omega⟩
    exact rtext_pos u (by omega) (by omega) w
set_option maxRecDepth 100000 in
set_option maxHeartbeats 1600000 in
theorem cnumbers_any (s : List UInt8) (hs : s.length ≤ maxLen) (m : Int) (hm : -9223372036854775808 ≤ m ∧ m ≤ 9223372036854775807) (n : Int) (hn : -9223372036854775808 ≤ n ∧ n ≤ 9223372036854775807) (w : World) (hE : Env w) :
    Calls Tryd.prog 4 #[.string ⟨s.toArray⟩, .int .i64 m, .int .i64 n] w fun e w' => e = .returned (.bool true) ∧ Below w.heap.size w w' := by
  unfold maxLen at hs
  by_cases hbig : (2000 : Int) < s.length
  · have ha := Lib.hid (awake_any w hE)
    go_enter Tryd.func4, Tryd.ntmps4
    go_wp2_with (go_at_call 13; refine ha.out.mono ?_; rintro e w' ⟨rfl, hB⟩)
    go_ret
    exact ⟨rfl, hB⟩
  go_enter Tryd.func4, Tryd.ntmps4
  go_wp2_with fail
  refine (number_any s (by omega) m hm w hE).mono ?_
  rintro e w1 ⟨rfl, hB1⟩
  have hE1 := hE.below hB1
  go_wp2_with fail
  refine (rnumber_any s (by omega) m hm w1).mono ?_
  rintro e w' ⟨rfl, rfl⟩
  go_wp2_with fail
  refine (text_any n hn w1 hE1).mono ?_
  rintro e w3 ⟨rfl, hB3'⟩
  have hB3 := hB1.trans (hB3'.mono hB1.size)
  clear hB3' hE1 hB1
  go_wp2_with fail
  refine (rtext_any n hn w3).mono ?_
  rintro e w4 ⟨rfl, hB4'⟩
  have hB4 := hB3.trans (hB4'.mono hB3.size)
  have ha := awake_at w4 (hE.below hB4)
  clear hB4' hB3
  go_wp2_with fail
  refine ha.out.mono ?_
  rintro e w5 ⟨rfl, hB5⟩
  go_wp2_with fail
  go_ret
  exact ⟨rfl, hB4.trans (hB5.mono hB4.size)⟩
end Go.Proofs.YtlfnoadnnkkegaaDoor
