/- Texts: by a pattern (the reference's side): the next text, numbers. -/
import Derived.Test.YtmhgehnkhhlbkaaDoorTxT
namespace Go.Proofs.YtmhgehnkhhlbkaaDoor
open Go.RowKit

/-- the reference's printer in block pb -/
def RPrt (base : Nat) (w : World) (pb : Nat) (out : List UInt8) (rv : Value) (took bad : Bool) : Prop :=
  base ≤ pb ∧ w.heap[pb]? = some (.cells #[.string ⟨out.toArray⟩, rv, .bool took, .bool bad] 65 (0, 0))
theorem RPrt.cells {base : Nat} {w : World} {pb : Nat} {out rv} {took bad : Bool} (h : RPrt base w pb out rv took bad) :
    w.cell? ⟨pb, 0, none⟩ = some (.string ⟨out.toArray⟩) ∧ w.cell? ⟨pb, 1, none⟩ = some rv ∧ w.cell? ⟨pb, 2, none⟩ = some (.bool took) ∧ w.cell? ⟨pb, 3, none⟩ = some (.bool bad) ∧ (∀ i, w.frozen? ⟨pb, i, none⟩ = false) ∧ base ≤ pb :=
  ⟨by rw [cell_heap h.2]; rfl, by rw [cell_heap h.2]; rfl, by rw [cell_heap h.2]; rfl, by rw [cell_heap h.2]; rfl, free_heap h.2, h.1⟩
theorem RPrt.out {base : Nat} {w : World} {pb : Nat} {out rv} {took bad : Bool} (h : RPrt base w pb out rv took bad) (o : List UInt8) : RPrt base (w.setCell ⟨pb, 0, none⟩ (.string ⟨o.toArray⟩)) pb o rv took bad ∧ Below base w (w.setCell ⟨pb, 0, none⟩ (.string ⟨o.toArray⟩)) :=
  ⟨⟨h.1, by rw [heap_setCell_same w pb 0 _ _ _ h.2]; rfl⟩, below_set (Below.refl _ _) h.1 _⟩
theorem RPrt.rest {base : Nat} {w : World} {pb : Nat} {out rv} {took bad : Bool} (h : RPrt base w pb out rv took bad) (r : Value) : RPrt base (w.setCell ⟨pb, 1, none⟩ r) pb out r took bad ∧ Below base w (w.setCell ⟨pb, 1, none⟩ r) :=
  ⟨⟨h.1, by rw [heap_setCell_same w pb 1 _ _ _ h.2]; rfl⟩, below_set (Below.refl _ _) h.1 _⟩
theorem RPrt.tk {base : Nat} {w : World} {pb : Nat} {out rv} {took bad : Bool} (h : RPrt base w pb out rv took bad) (t : Bool) : RPrt base (w.setCell ⟨pb, 2, none⟩ (.bool t)) pb out rv t bad ∧ Below base w (w.setCell ⟨pb, 2, none⟩ (.bool t)) :=
  ⟨⟨h.1, by rw [heap_setCell_same w pb 2 _ _ _ h.2]; rfl⟩, below_set (Below.refl _ _) h.1 _⟩
theorem RPrt.bd {base : Nat} {w : World} {pb : Nat} {out rv} {took bad : Bool} (h : RPrt base w pb out rv took bad) (t : Bool) : RPrt base (w.setCell ⟨pb, 3, none⟩ (.bool t)) pb out rv took t ∧ Below base w (w.setCell ⟨pb, 3, none⟩ (.bool t)) :=
  ⟨⟨h.1, by rw [heap_setCell_same w pb 3 _ _ _ h.2]; rfl⟩, below_set (Below.refl _ _) h.1 _⟩
def RNext (base : Nat) (w w' : World) (pb : Nat) (out : List UInt8) (took bad : Bool) (L : List (List UInt8)) : Prop :=
  ∃ rv', RPrt base w' pb out rv' took bad ∧ RestB base w' rv' L.tail ∧ Below base w w'
set_option maxRecDepth 100000 in
theorem rnext_any (base pb : Nat) (w : World) (out : List UInt8) (rv : Value) (took bad : Bool) (L : List (List UInt8)) (h : RPrt base w pb out rv took bad) (hr : RestB base w rv L) :
    Calls Tryd.prog 63 #[.pointer (some ⟨pb, 0, none⟩)] w fun e w' => e = .returned (.string ⟨(L.headD []).toArray⟩) ∧ RNext base w w' pb out took bad L := by
  obtain ⟨c0, c1, c2, c3, hf, hbp⟩ := h.cells
  have hf1 := hf 1
  have hr1 := hr
  obtain ⟨a, n, cap, rfl, hn, hnc, hn1, hx5, hat⟩ := hr1
  cases L with
  | nil =>
    obtain rfl : n = 0 := by simpa using hn
    have hN : RNext base w w pb out took bad [] := ⟨_, h, hr, Below.refl _ _⟩
    clear hat hx5 hr h hf hn
    go_enter Tryd.func63, Tryd.ntmps63
    go_wp2_with fail
    go_ret
    exact ⟨rfl, hN⟩
  | cons x r =>
    have hn0 : 0 < n := by simp at hn; omega
    obtain ⟨b, off, rfl, hbb, hcs⟩ := hat hn0
    have hx := hcs 0 x rfl
    rw [Nat.add_zero] at hx
    have hres : ∀ a', (1 < n → a' = some ⟨b, off + 1, none⟩) → RNext base w (w.setCell ⟨pb, 1, none⟩ (.slice a' (n - 1) (cap - 1))) pb out took bad (x :: r) := by
      intro a' ha'
      obtain ⟨h2, hB2⟩ := h.rest (.slice a' (n - 1) (cap - 1))
      refine ⟨_, h2, ⟨a', n - 1, cap - 1, rfl, by simp at hn ⊢; omega, by omega, by omega, fun y hy => hx5 y (List.mem_cons_of_mem _ hy), fun hp => ?_⟩, hB2⟩
      refine ⟨b, off + 1, ha' (by omega), hbb, fun i y hy => ?_⟩
      have := hcs (i + 1) y hy
      rw [show off + 1 + i = off + (i + 1) by omega]
      exact (hB2.cell (p := ⟨b, off + (i + 1), none⟩) hbb).trans this
    have Hres := Lib.hid hres
    have hne2 : ¬ b = pb := by omega
    clear hres hcs hat hx5 hr h hf hn
    have hnc' : (n : Int) ≤ cap := by omega
    have hne0 : ((n : Int) == 0) = false := by rw [beq_eq_false_iff_ne]; omega
    by_cases hcap : cap = 1
    · subst hcap
      obtain rfl : n = 1 := by omega
      go_enter Tryd.func63, Tryd.ntmps63
      go_wp2_with fail
      go_ret
      exact ⟨rfl, Hres.out _ (fun h => by omega)⟩
    · go_enter Tryd.func63, Tryd.ntmps63
      go_wp2_with fail
      go_ret
      exact ⟨rfl, Hres.out _ (fun h => rfl)⟩
theorem digB_at {c : UInt8} : digB c = (decide (48 ≤ (c.toNat : Int)) && decide ((c.toNat : Int) ≤ 57)) := by
  rw [Bool.eq_iff_iff, digB_iff]; simp; omega
theorem strip_step (r : List UInt8) (h : 1 < r.length) (h0 : r.getD 0 0 = 48) : strip (r.drop 1) = strip r := by
  match r, h with
  | c :: d :: t, _ =>
    have : c = 48 := h0
    rw [strip, if_pos this]; rfl
theorem strip_stop (r : List UInt8) (h : ¬ (1 < r.length ∧ r.getD 0 0 = 48)) : strip r = r := by
  match r with
  | [] => rfl
  | [c] => rfl
  | c :: d :: t =>
    have : ¬ c = 48 := fun e => h ⟨by simp, e⟩
    rw [strip, if_neg this]
set_option maxRecDepth 100000 in
set_option maxHeartbeats 6400000 in
theorem rnumber_any (x : List UInt8) (hx : x ≠ []) (hl : x.length ≤ 500) (w : World) : Calls Tryd.prog 64 #[.string ⟨x.toArray⟩] w fun e w' => e = numRet (numL x) ∧ w = w' := by
  have hx1 : (x == []) = false := by simp [hx]
  have hx2 : x.isEmpty = false := by simp [hx]
  have hxp : 0 < x.length := List.length_pos_iff.2 hx
  obtain ⟨c0, _, hg0, hc0⟩ := str_at x 0 hxp
  have hhead : x.head? = some c0 := by rw [← hc0]; cases x <;> rfl
  have hN : numL x = if badNum (unsg x) then none else some (sg (x.head? == some 45) (strip (unsg x))) := by rw [numL, if_neg hx]
  by_cases h45 : c0 = 45
  · subst h45
    obtain ⟨r, hr⟩ : ∃ r, x.tail = r := ⟨_, rfl⟩
    rw [hhead, show unsg x = r by rw [unsg, hhead, if_pos rfl, hr]] at hN
    have hrl : r.length ≤ 500 := by rw [← hr]; simp; omega
    have HN := Lib.hid hN
    clear hN hhead hc0 hx
    by_cases hr0 : r = []
    · have hres := Lib.hid (show numL x = none by rw [HN.out, if_pos (by simp [badNum, hr0])])
      subst hr0
      go_enter Tryd.func64, Tryd.ntmps64
      go_wp2_with fail
      go_ret2
      rw [hres.out]
      exact ⟨rfl, rfl⟩
    have hr2 : (r == []) = false := by simp [hr0]
    have hr3 : r.isEmpty = false := by simp [hr0]
    by_cases h18 : 18 < r.length
    · have hres := Lib.hid (show numL x = none by rw [HN.out, if_pos (by simp [badNum, h18])])
      clear hr0
      go_enter Tryd.func64, Tryd.ntmps64
      go_wp2_with fail
      go_ret2
      rw [hres.out]
      exact ⟨rfl, rfl⟩
    have HR0 := Lib.hid hr0
    clear hr0
    go_enter Tryd.func64, Tryd.ntmps64
    go_wp2_with fail
    go_loop [5] (fun i => ∃ k : Nat, k ≤ r.length ∧ i = .int .i64 k ∧ Hid ((r.take k).all digB = true)) (fun i => r.length - (intOf i).toNat)
    case atStart => exact ⟨0, by omega, rfl, Lib.hid rfl⟩
    case round =>
      obtain ⟨k, hk, rfl, HK⟩ := hrel
      by_cases hkn : k < r.length
      · obtain ⟨c, _, hg, hc⟩ := str_at r k hkn
        have hdg := digB_iff c
        cases hd : digB c with
        | false =>
          have hres := Lib.hid (show numL x = none by
            rw [HN.out, if_pos]
            have : r.all digB = false := by
              rw [← Bool.not_eq_true, List.all_eq_true]
              intro h
              have := h c (List.mem_of_getElem? hc)
              rw [hd] at this; cases this
            simp [badNum, this])
          have hor : (c.toNat : Int) < 48 ∨ 57 < (c.toNat : Int) := by
            rcases Nat.lt_or_ge c.toNat 48 with h | h
            · exact .inl (by omega)
            · rcases Nat.lt_or_ge 57 c.toNat with h' | h'
              · exact .inr (by omega)
              · rw [hd] at hdg; exact absurd (hdg.2 ⟨h, h'⟩) (by simp)
          clear hd hdg hc
          rcases hor with ho | ho
          all_goals
            go_wp2_with fail
            go_ret2
            rw [hres.out]
            exact ⟨rfl, rfl⟩
        | true =>
          obtain ⟨d1, d2⟩ := hdg.1 hd
          have HK2 := Lib.hid (show (r.take (k + 1)).all digB = true by rw [List.take_add_one, hc, List.all_append, HK.out]; simp [hd])
          have e1 : ¬ (c.toNat : Int) < 48 := by omega
          have e2 : ¬ 57 < (c.toNat : Int) := by omega
          clear hd hdg hc
          go_wp2_with fail
          go_round
          case rel => exact ⟨k + 1, by omega, by go_num, HK2⟩
          case measure => simp [intOf]; omega
      · obtain rfl : k = r.length := by omega
        have hall : r.all digB = true := by have := HK.out; rwa [List.take_length] at this
        have hbn : badNum r = false := by rw [badNum, hr3, hall, decide_eq_false h18]; rfl
        have hres := Lib.hid (show numL x = some (sg true (strip r)) by rw [HN.out, hbn]; rfl)
        clear hbn
        clear hall
        go_wp2_with fail
        go_loop [0] (fun s => ∃ z : List UInt8, s = .string ⟨z.toArray⟩ ∧ Hid (strip z = strip r) ∧ Hid (z ≠ []) ∧ z.length ≤ r.length) (fun s => strLen s)
        case atStart => exact ⟨r, rfl, Lib.hid rfl, HR0, Nat.le_refl _⟩
        case round =>
          obtain ⟨z, rfl, HZ, HZ0, hzl⟩ := hrel
          have hz0 : 0 < z.length := List.length_pos_iff.2 HZ0.out
          obtain ⟨c, _, hg, hc⟩ := str_at z 0 hz0
          by_cases hcont : 1 < z.length ∧ c = 48
          · obtain ⟨h1, rfl⟩ := hcont
            obtain ⟨T, hT⟩ : ∃ T, z.tail = T := ⟨_, rfl⟩
            have HS := Lib.hid (show strip T = strip r by rw [← HZ.out, ← hT, ← strip_step z h1 (by simp [List.getD, hc]), List.drop_one])
            have HT := Lib.hid (show T.length + 1 = z.length by rw [← hT]; simp; omega)
            have HT0 := Lib.hid (show T ≠ [] from fun e => by have := HT.out; rw [e] at this; simp at this; omega)
            clear hc
            go_wp2_with fail
            go_round
            case rel => exact ⟨T, rfl, HS, HT0, by have := HT.out; omega⟩
            case measure => have := HT.out; rw [strLen_str, strLen_str]; omega
          · have HZ2 := Lib.hid (show strip r = z by rw [← HZ.out]; exact strip_stop z (fun h => hcont ⟨h.1, by have := h.2; simpa [List.getD, hc] using this⟩))
            have hcases : z.length ≤ 1 ∨ ((c.toNat : Int) == 48) = false := by
              rcases Nat.lt_or_ge 1 z.length with h | h
              · exact .inr (by rw [beq_eq_false_iff_ne]; exact ne_int (k := 48) (by omega) (fun e => hcont ⟨h, e⟩))
              · exact .inl h
            clear hcont hc
            by_cases hz : z = [48]
            · subst hz
              have hr := Lib.hid (show numL x = some [48] by rw [hres.out, HZ2.out]; simp [sg])
              clear hcases
              go_wp2_with fail
              go_ret2
              rw [hr.out]
              exact ⟨rfl, rfl⟩
            · have hz1 : (z == [48]) = false := by simp [hz]
              have hr := Lib.hid (show numL x = some (45 :: z) by rw [hres.out, HZ2.out]; simp [sg, hz])
              rcases hcases with ho | ho
              all_goals go_wp2_with fail
              all_goals
                go_ret2
                rw [hr.out]
                exact ⟨rfl, rfl⟩
  · have hm : ((c0.toNat : Int) == 45) = false := by rw [beq_eq_false_iff_ne]; exact ne_int (k := 45) (by omega) h45
    obtain ⟨r, hr⟩ : ∃ r, x = r := ⟨_, rfl⟩
    rw [hhead, show unsg x = x by rw [unsg, hhead, if_neg (by simpa using h45)], show ((some c0 : Option UInt8) == some 45) = false by simp [h45]] at hN
    subst hr
    have HN := Lib.hid hN
    have hr0 := hx
    clear hN hhead hc0 hx h45
    have hr2 : (x == []) = false := by simp [hr0]
    have hr3 : x.isEmpty = false := by simp [hr0]
    by_cases h18 : 18 < x.length
    · have hres := Lib.hid (show numL x = none by rw [HN.out, if_pos (by simp [badNum, h18])])
      clear hr0
      go_enter Tryd.func64, Tryd.ntmps64
      go_wp2_with fail
      go_ret2
      rw [hres.out]
      exact ⟨rfl, rfl⟩
    have HR0 := Lib.hid hr0
    clear hr0
    go_enter Tryd.func64, Tryd.ntmps64
    go_wp2_with fail
    go_loop [5] (fun i => ∃ k : Nat, k ≤ x.length ∧ i = .int .i64 k ∧ Hid ((x.take k).all digB = true)) (fun i => x.length - (intOf i).toNat)
    case atStart => exact ⟨0, by omega, rfl, Lib.hid rfl⟩
    case round =>
      obtain ⟨k, hk, rfl, HK⟩ := hrel
      by_cases hkn : k < x.length
      · obtain ⟨c, _, hg, hc⟩ := str_at x k hkn
        have hdg := digB_iff c
        cases hd : digB c with
        | false =>
          have hres := Lib.hid (show numL x = none by
            rw [HN.out, if_pos]
            have : x.all digB = false := by
              rw [← Bool.not_eq_true, List.all_eq_true]
              intro h
              have := h c (List.mem_of_getElem? hc)
              rw [hd] at this; cases this
            simp [badNum, this])
          have hor : (c.toNat : Int) < 48 ∨ 57 < (c.toNat : Int) := by
            rcases Nat.lt_or_ge c.toNat 48 with h | h
            · exact .inl (by omega)
            · rcases Nat.lt_or_ge 57 c.toNat with h' | h'
              · exact .inr (by omega)
              · rw [hd] at hdg; exact absurd (hdg.2 ⟨h, h'⟩) (by simp)
          clear hd hdg hc
          rcases hor with ho | ho
          all_goals
            go_wp2_with fail
            go_ret2
            rw [hres.out]
            exact ⟨rfl, rfl⟩
        | true =>
          obtain ⟨d1, d2⟩ := hdg.1 hd
          have HK2 := Lib.hid (show (x.take (k + 1)).all digB = true by rw [List.take_add_one, hc, List.all_append, HK.out]; simp [hd])
          have e1 : ¬ (c.toNat : Int) < 48 := by omega
          have e2 : ¬ 57 < (c.toNat : Int) := by omega
          clear hd hdg hc
          go_wp2_with fail
          go_round
          case rel => exact ⟨k + 1, by omega, by go_num, HK2⟩
          case measure => simp [intOf]; omega
      · obtain rfl : k = x.length := by omega
        have hall : x.all digB = true := by have := HK.out; rwa [List.take_length] at this
        have hbn : badNum x = false := by rw [badNum, hr3, hall, decide_eq_false h18]; rfl
        have hres := Lib.hid (show numL x = some (sg false (strip x)) by rw [HN.out, hbn]; rfl)
        clear hbn
        clear hall
        go_wp2_with fail
        go_loop [0] (fun s => ∃ z : List UInt8, s = .string ⟨z.toArray⟩ ∧ Hid (strip z = strip x) ∧ Hid (z ≠ []) ∧ z.length ≤ x.length) (fun s => strLen s)
        case atStart => exact ⟨x, rfl, Lib.hid rfl, HR0, Nat.le_refl _⟩
        case round =>
          obtain ⟨z, rfl, HZ, HZ0, hzl⟩ := hrel
          have hz0 : 0 < z.length := List.length_pos_iff.2 HZ0.out
          obtain ⟨c, _, hg, hc⟩ := str_at z 0 hz0
          by_cases hcont : 1 < z.length ∧ c = 48
          · obtain ⟨h1, rfl⟩ := hcont
            obtain ⟨T, hT⟩ : ∃ T, z.tail = T := ⟨_, rfl⟩
            have HS := Lib.hid (show strip T = strip x by rw [← HZ.out, ← hT, ← strip_step z h1 (by simp [List.getD, hc]), List.drop_one])
            have HT := Lib.hid (show T.length + 1 = z.length by rw [← hT]; simp; omega)
            have HT0 := Lib.hid (show T ≠ [] from fun e => by have := HT.out; rw [e] at this; simp at this; omega)
            clear hc
            go_wp2_with fail
            go_round
            case rel => exact ⟨T, rfl, HS, HT0, by have := HT.out; omega⟩
            case measure => have := HT.out; rw [strLen_str, strLen_str]; omega
          · have HZ2 := Lib.hid (show strip x = z by rw [← HZ.out]; exact strip_stop z (fun h => hcont ⟨h.1, by have := h.2; simpa [List.getD, hc] using this⟩))
            have hcases : z.length ≤ 1 ∨ ((c.toNat : Int) == 48) = false := by
              rcases Nat.lt_or_ge 1 z.length with h | h
              · exact .inr (by rw [beq_eq_false_iff_ne]; exact ne_int (k := 48) (by omega) (fun e => hcont ⟨h, e⟩))
              · exact .inl h
            clear hcont hc
            by_cases hz : z = [48]
            · subst hz
              have hr := Lib.hid (show numL x = some [48] by rw [hres.out, HZ2.out]; simp [sg])
              clear hcases
              go_wp2_with fail
              go_ret2
              rw [hr.out]
              exact ⟨rfl, rfl⟩
            · have hz1 : (z == [48]) = false := by simp [hz]
              have hr := Lib.hid (show numL x = some z by rw [hres.out, HZ2.out]; simp [sg, hz])
              rcases hcases with ho | ho
              all_goals go_wp2_with fail
              all_goals
                go_ret2
                rw [hr.out]
                exact ⟨rfl, rfl⟩
end Go.Proofs.YtmhgehnkhhlbkaaDoor
