/- Texts: without the lines that are like the one ahead (the reference's side), and the law. -/
import Derived.Test.YtmhgehnkhhlbkaaDoorTxG
namespace Go.Proofs.YtmhgehnkhhlbkaaDoor
open Go.RowKit

set_option maxRecDepth 100000 in
set_option maxHeartbeats 3200000 in
theorem runiq_any (s : List UInt8) (cnt : Bool) (hs : s.length ≤ 500) (w : World) : Calls Tryd.prog 24 #[.string ⟨s.toArray⟩, .bool cnt] w fun e w' => e = .returned (.string ⟨(uniqL s cnt).toArray⟩) ∧ Below w.heap.size w w' := by
  have HL := Lib.hid (rlines_any s (by omega) w)
  have HLl := Lib.hid (lines_len s)
  have HL5 := Lib.hid (fun x (h : x ∈ linesL s) => line_len h)
  have HU := Lib.hid (show uniqL s cnt = joinL ((grp (linesL s)).map (lineU cnt)) from rfl)
  obtain ⟨L, hL⟩ : ∃ L, linesL s = L := ⟨_, rfl⟩
  rw [hL] at HL HLl HL5 HU
  obtain ⟨GG, hGG⟩ : ∃ GG, grp L = GG := ⟨_, rfl⟩
  have HGG := Lib.hid hGG
  rw [hGG] at HU
  clear hL hGG
  go_enter Tryd.func24, Tryd.ntmps24
  go_wp2_with fail
  refine HL.out.mono ?_
  rintro e w1 ⟨v, rfl, hO, hB⟩
  have hst := hO.strs (fun x hx => by have := HL5.out x hx; unfold maxLen; omega)
  obtain ⟨a0, cap, hv0, hcap, hat⟩ := hst.shape
  obtain ⟨n, hn⟩ : ∃ n, L.length = n := ⟨_, rfl⟩
  have HN := Lib.hid hn
  rw [hn] at hv0 hat
  subst hv0
  have hn5 : n ≤ 500 := by have := HLl.out; omega
  clear hn hst hO
  go_wp2_with fail
  go_loopw [5, 7, 8] (fun o cn i W => ∃ (k c : Nat) (q : List UInt8) (G : List (Nat × List UInt8)), k ≤ n ∧ i = .int .i64 k ∧ cn = .int .i64 c ∧ c ≤ k ∧ (0 < c → k < n) ∧ o = .string ⟨q.toArray⟩ ∧ q.length ≤ 505 * k ∧ Hid (q = joinL (G.map (lineU cnt))) ∧ Hid (GG = G ++ addTo c (grp (L.drop k))) ∧ Below w1.heap.size w1 W) (fun _ _ i _ => n - (intOf i).toNat)
  case atStart => exact ⟨0, 0, [], [], by omega, rfl, rfl, by omega, (fun h => by omega), rfl, by simp, Lib.hid (by simp [joinL]), Lib.hid (by rw [addTo_zero, List.drop_zero]; exact HGG.out.symm), Below.refl _ _⟩
  case round =>
    obtain ⟨k, c, q, G, hk, rfl, rfl, hck, hcn, rfl, hq, HQ, HS, hBW⟩ := hrel
    have hsz := hBW.size
    have hBB := below_tr hB hBW
    by_cases hkn : k < n
    · obtain ⟨b, off, rfl, hb, hcs⟩ := hat (by omega)
      obtain ⟨x, hx⟩ : ∃ x, L[k]? = some x := ⟨L[k]'(by rw [HN.out]; exact hkn), List.getElem?_eq_getElem _⟩
      have hcell := keep_cell (hcs k x hx) hBW
      have hxl := HL5.out x (List.mem_of_getElem? hx)
      have hd : L.drop k = x :: L.drop (k + 1) := by
        obtain ⟨h1, h2⟩ := List.getElem?_eq_some_iff.1 hx
        rw [← h2]; exact List.drop_eq_getElem_cons h1
      have hw1 : IntKind.i64.wrap ((k : Int) + 1) = (k : Int) + 1 := IntWalk.i64_in _ (by omega)
      have hw2 : ((k : Int) + 1).toNat = k + 1 := by omega
      have hw3 : (0 : Int) ≤ (k : Int) + 1 := by omega
      have hw4 : (0 : Int) ≤ (k : Int) := by omega
      have hki : (k : Int) < n := by omega
      have hcase : (k + 1 < n ∧ L[k + 1]? = some x) ∨ (L.drop (k + 1)).head? ≠ some x := by
        rw [List.head?_drop]
        by_cases h : L[k + 1]? = some x
        · exact .inl ⟨by have := (List.getElem?_eq_some_iff.1 h).1; rw [HN.out] at this; exact this, h⟩
        · exact .inr h
      rcases hcase with ⟨hk1, hy⟩ | hne
      · have hcy := keep_cell (hcs (k + 1) x hy) hBW
        have HS2 := Lib.hid (show GG = G ++ addTo (c + 1) (grp (L.drop (k + 1))) by
          rw [HS.out, hd, addTo_same _ _ _ (by rw [List.head?_drop]; exact hy)])
        have hk1' : (k : Int) + 1 < n := by omega
        have heq : (x == x) = true := by simp
        clear hcs hat hx hy hd hcn
        go_wp2_with fail
        go_quiet (fail)
        go_wp2_with fail
        go_round
        case rel => exact ⟨k + 1, c + 1, q, G, by omega, by go_num, by go_num, by omega, (fun _ => hk1), rfl, by omega, HQ, HS2, below_drewN hBW _⟩
        case measure => simp [intOf]; omega
      · have HS2 := Lib.hid (show GG = (G ++ [(c + 1, x)]) ++ addTo 0 (grp (L.drop (k + 1))) by
          rw [HS.out, hd, addTo_new _ _ _ hne, addTo_zero, List.append_assoc]; rfl)
        have hjm : joinL ((G ++ [(c + 1, x)]).map (lineU cnt)) = q ++ (lineU cnt (c + 1, x) ++ [10]) := by
          rw [List.map_append, joinL_append, ← HQ.out]; simp [joinL]
        have HJM := Lib.hid hjm
        have hgl : k + 1 < n → ∃ y, L[k + 1]? = some y ∧ y ≠ x := fun h => by
          refine ⟨L[k + 1]'(by rw [HN.out]; exact h), List.getElem?_eq_getElem _, fun e => hne ?_⟩
          rw [List.head?_drop, List.getElem?_eq_getElem (by rw [HN.out]; exact h), e]
        have hlen4 := lineU_len cnt (c + 1, x) (show c + 1 < 1000 by omega) (show x.length ≤ 500 by omega)
        have HX := Lib.hid hx
        clear hd hx hjm hne
        have hcell0 := hcs k x HX.out
        by_cases hk1 : k + 1 < n
        · obtain ⟨y, hy, hyx⟩ := hgl hk1
          have hcy := keep_cell (hcs (k + 1) y hy) hBW
          have hk1' : (k : Int) + 1 < n := by omega
          have heq : (y == x) = false := by simp [hyx]
          clear hcs hat hy hyx hgl hcn
          go_wp2_with fail
          go_quiet (fail)
          have hBd := below_drewN hBW nq
          obtain ⟨wd, hwd⟩ : ∃ wd, wd = wr.drewN nq := ⟨_, rfl⟩
          rw [← hwd] at hBd ⊢
          clear hwd
          have hcd := keep_cell hcell0 hBd
          clear hcell
          cases cnt with
          | false =>
            have HJ2 := Lib.hid (show q ++ (x ++ [10]) = joinL ((G ++ [(c + 1, x)]).map (lineU false)) from HJM.out.symm)
            go_wp2_with fail
            go_round
            case rel => exact ⟨k + 1, 0, _, G ++ [(c + 1, x)], by omega, by go_num, rfl, by omega, (fun h => by omega), rfl, by simp <;> omega, Lib.hid (by rw [← HJ2.out] <;> simp), HS2, hBd⟩
            case measure => simp [intOf]; omega
          | true =>
            have HD0 := decimals_any 6 (c + 1) wd (by omega) (by omega)
            rw [show (((c + 1 : Nat)) : Int) = (c : Int) + 1 by omega] at HD0
            have hdl := dec_short (c + 1) (by omega)
            have hJ2 := show q ++ (Lib.decDigits (c + 1) ++ [32] ++ x ++ [10]) = joinL ((G ++ [(c + 1, x)]).map (lineU true)) from HJM.out.symm
            obtain ⟨D, hD⟩ : ∃ D, Lib.decDigits (c + 1) = D := ⟨_, rfl⟩
            rw [hD] at HD0 hdl hJ2
            have HD := Lib.hid HD0
            have HJ2 := Lib.hid hJ2
            clear HD0 hD hJ2
            go_wp2_with fail
            refine HD.out.mono ?_
            rintro e w5 ⟨rfl, hB5⟩
            have hcd5 := keep_cell hcd hB5
            have hBd5 := hBd.trans (hB5.mono hBd.size)
            go_wp2_with fail
            go_round
            case rel => exact ⟨k + 1, 0, _, G ++ [(c + 1, x)], by omega, by go_num, rfl, by omega, (fun h => by omega), rfl, by simp <;> omega, Lib.hid (by rw [← HJ2.out] <;> simp), HS2, hBd5⟩
            case measure => simp [intOf]; omega
        · have hk1' : ¬ (k : Int) + 1 < n := by omega
          have hk1d : decide ((k : Int) + 1 < n) = false := by rw [decide_eq_false_iff_not]; exact hk1'
          clear hcs hat hgl hcn
          go_wp2_with fail
          go_quiet (fail)
          have hBd := below_drewN hBW nq
          obtain ⟨wd, hwd⟩ : ∃ wd, wd = wr.drewN nq := ⟨_, rfl⟩
          rw [← hwd] at hBd ⊢
          clear hwd
          have hcd := keep_cell hcell0 hBd
          clear hcell
          cases cnt with
          | false =>
            have HJ2 := Lib.hid (show q ++ (x ++ [10]) = joinL ((G ++ [(c + 1, x)]).map (lineU false)) from HJM.out.symm)
            go_wp2_with fail
            go_round
            case rel => exact ⟨k + 1, 0, _, G ++ [(c + 1, x)], by omega, by go_num, rfl, by omega, (fun h => by omega), rfl, by simp <;> omega, Lib.hid (by rw [← HJ2.out] <;> simp), HS2, hBd⟩
            case measure => simp [intOf]; omega
          | true =>
            have HD0 := decimals_any 6 (c + 1) wd (by omega) (by omega)
            rw [show (((c + 1 : Nat)) : Int) = (c : Int) + 1 by omega] at HD0
            have hdl := dec_short (c + 1) (by omega)
            have hJ2 := show q ++ (Lib.decDigits (c + 1) ++ [32] ++ x ++ [10]) = joinL ((G ++ [(c + 1, x)]).map (lineU true)) from HJM.out.symm
            obtain ⟨D, hD⟩ : ∃ D, Lib.decDigits (c + 1) = D := ⟨_, rfl⟩
            rw [hD] at HD0 hdl hJ2
            have HD := Lib.hid HD0
            have HJ2 := Lib.hid hJ2
            clear HD0 hD hJ2
            go_wp2_with fail
            refine HD.out.mono ?_
            rintro e w5 ⟨rfl, hB5⟩
            have hcd5 := keep_cell hcd hB5
            have hBd5 := hBd.trans (hB5.mono hBd.size)
            go_wp2_with fail
            go_round
            case rel => exact ⟨k + 1, 0, _, G ++ [(c + 1, x)], by omega, by go_num, rfl, by omega, (fun h => by omega), rfl, by simp <;> omega, Lib.hid (by rw [← HJ2.out] <;> simp), HS2, hBd5⟩
            case measure => simp [intOf]; omega
    · obtain rfl : k = n := by omega
      have hc0 : c = 0 := by omega
      have HU2 := Lib.hid (show uniqL s cnt = q by rw [HU.out, HS.out, HQ.out, show L.drop k = [] from List.drop_eq_nil_of_le (by rw [HN.out]; omega)]; simp [grp, addTo])
      clear hat hc0 hcn
      go_wp2_with fail
      go_ret
      rw [HU2.out]
      exact ⟨rfl, hBB⟩
set_option maxRecDepth 100000 in
theorem uniqs_any (s : List UInt8) (hs : s.length ≤ maxLen) (cnt : Bool) (w : World) (hE : Env w) :
    Calls Tryd.prog 7 #[.string ⟨s.toArray⟩, .bool cnt] w fun e w' => e = .returned (.bool true) ∧ Below w.heap.size w w' := by
  have HF := Lib.hid (few_any (.slice (some ⟨w.heap.size, 0, none⟩) 1 1) [s] (w.alloc (.cells #[.string ⟨s.toArray⟩] 9)) (strs_lit w [s] _ 1 rfl (by simp) (mem1 hs) rfl _) (by simp))
  have hA := below_alloc w (.cells #[.string ⟨s.toArray⟩] 9)
  have hE1 := hE.below hA
  cases hfew : fewL [s] with
  | false =>
    rw [hfew] at HF
    clear hfew
    go_enter Tryd.func7, Tryd.ntmps7
    go_wp2_with fail
    refine HF.out.mono ?_
    rintro e w1' ⟨rfl, rfl⟩
    go_wp2_with fail
    refine (awake_any _ hE1).mono ?_
    rintro e w2 ⟨rfl, hB2⟩
    go_wp2_with fail
    go_ret
    exact ⟨rfl, below_tr hA hB2⟩
  | true =>
    rw [hfew] at HF
    have s5 := ((few_iff _).1 hfew).1 s (by simp)
    have H1 := Lib.hid (uniq_any s cnt s5)
    have H2 := Lib.hid (runiq_any s cnt s5)
    clear hfew
    generalize uniqL s cnt = g1 at *
    have q1 : (g1 == g1) = true := by simp
    go_enter Tryd.func7, Tryd.ntmps7
    go_wp2_with fail
    refine HF.out.mono ?_
    rintro e w1' ⟨rfl, rfl⟩
    go_wp2_with fail
    refine (H1.out _ hE1).mono ?_
    rintro e w2 ⟨rfl, hB2⟩
    have hB12 := below_tr hA hB2
    go_wp2_with fail
    refine (H2.out _).mono ?_
    rintro e w3 ⟨rfl, hB3⟩
    have hBB := below_tr hB12 hB3
    have hE5 := hE.below hBB
    go_wp2_with fail
    refine (awake_any _ hE5).mono ?_
    rintro e w6 ⟨rfl, hB6⟩
    go_wp2_with fail
    go_ret
    exact ⟨rfl, below_tr hBB hB6⟩
end Go.Proofs.YtmhgehnkhhlbkaaDoor
