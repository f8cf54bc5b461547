/- Texts: what is sorted rises, and is all that there was (the law TextsOrder). -/
import Derived.Test.YtmhgehnkhhlbkaaGreatDoorTxG
import Derived.Test.YtmhgehnkhhlbkaaGreatDoorTxOp
import Derived.Test.YtmhgehnkhhlbkaaGreatDoorTxSorts
namespace Go.Proofs.YtmhgehnkhhlbkaaGreatDoor
open Go.RowKit

set_option maxRecDepth 100000 in
theorem lcount_any (s line : List UInt8) (hs : s.length ≤ 501) (w : World) : Calls Tryz.prog 9 #[.string ⟨s.toArray⟩, .string ⟨line.toArray⟩] w fun e w' =>
    e = .returned (.int .i64 ((linesL s).count line)) ∧ Below w.heap.size w w' := by
  have HL := Lib.hid (rlines_any s (by omega) w)
  have hLl := lines_len s
  have H5 := Lib.hid (fun x (h : x ∈ linesL s) => Nat.le_trans (line_len h) hs)
  obtain ⟨L, hL⟩ : ∃ L, linesL s = L := ⟨_, rfl⟩
  rw [hL] at HL hLl H5
  rw [hL]
  clear hL
  go_enter Tryz.func9, Tryz.ntmps9
  go_wp2_with fail
  refine HL.out.mono ?_
  rintro e w1 ⟨v, rfl, hO, hB⟩
  have hst := hO.strs (fun x hx => by have := H5.out x hx; unfold maxLen; omega)
  obtain ⟨a0, cap, hv0, hcap, hat⟩ := hst.shape
  obtain ⟨n, hn⟩ : ∃ n, L.length = n := ⟨_, rfl⟩
  have HN := Lib.hid hn
  rw [hn] at hv0 hat hLl
  subst hv0
  have hn5 : n ≤ 501 := by omega
  clear hn hst hO hcap
  go_wp2_with fail
  go_loop [5, 7] (fun c i => ∃ k m : Nat, k ≤ n ∧ m ≤ k ∧ i = .int .i64 k ∧ c = .int .i64 m ∧ Hid (m = (L.take k).count line)) (fun _ i => n - (intOf i).toNat)
  case atStart => exact ⟨0, 0, by omega, by omega, rfl, rfl, Lib.hid (by simp)⟩
  case round =>
    obtain ⟨k, m, hk, hm, rfl, rfl, HK⟩ := hrel
    by_cases hkn : k < n
    · obtain ⟨b, off, rfl, hb, hcs⟩ := hat (by omega)
      obtain ⟨x, hx⟩ : ∃ x, L[k]? = some x := ⟨L[k]'(by rw [HN.out]; exact hkn), List.getElem?_eq_getElem _⟩
      have hcell := hcs k x hx
      by_cases hxl : x = line
      · subst hxl
        have HK2 := Lib.hid (show m + 1 = (L.take (k + 1)).count x by rw [List.take_add_one, hx, List.count_append, ← HK.out]; simp)
        have q : (x == x) = true := by simp
        clear hx hcs hat HK
        go_wp2_with fail
        go_round
        case rel => exact ⟨k + 1, m + 1, by omega, by omega, by go_num, by go_num, HK2⟩
        case measure => simp [intOf]; omega
      · have HK2 := Lib.hid (show m = (L.take (k + 1)).count line by
          rw [List.take_add_one, hx, List.count_append, ← HK.out]
          have : List.count line [x] = 0 := by rw [List.count_eq_zero]; simp; exact fun e => hxl e.symm
          simp [this])
        have q : (x == line) = false := by simp [hxl]
        clear hx hcs hat HK hxl
        go_wp2_with fail
        go_round
        case rel => exact ⟨k + 1, m, by omega, by omega, by go_num, rfl, HK2⟩
        case measure => simp [intOf]; omega
    · obtain rfl : k = n := by omega
      have HR := Lib.hid (show m = L.count line by rw [HK.out, List.take_of_length_le (by rw [HN.out]; exact Nat.le_refl _)])
      clear hat
      go_wp2_with fail
      go_ret
      rw [← HR.out]
      exact ⟨rfl, hB⟩
theorem uniqF_eq (s : List UInt8) : uniqL s false = joinL (uniqG (linesL s)) := by
  unfold uniqL uniqG
  rw [show lineU false = (·.2) from funext fun p => by simp [lineU]]
theorem order_less {M : List (List UInt8)} (h : M.Pairwise (leB false · · = true)) {k : Nat} {x y : List UInt8} (hy : M[k]? = some y) (hx : M[k + 1]? = some x) : Op.bytesLess x y = false := by
  obtain ⟨h1, rfl⟩ := List.getElem?_eq_some_iff.1 hy
  obtain ⟨h2, rfl⟩ := List.getElem?_eq_some_iff.1 hx
  have hle : lineLe M[k] M[k + 1] = true := List.pairwise_iff_getElem.1 h k (k + 1) h1 h2 (by omega)
  rcases line_tri M[k + 1] M[k] with ⟨_, t2, t3, t4⟩ | ⟨e, t1⟩ | ⟨t1, _⟩
  · rw [t4] at hle; cases hle
  · rw [e]; exact t1
  · exact t1
set_option maxRecDepth 100000 in
set_option maxHeartbeats 1600000 in
theorem order_any (s : List UInt8) (hs : s.length ≤ maxLen) (line : List UInt8) (hl : line.length ≤ maxLen) (w : World) (hE : Env w) :
    Calls Tryz.prog 4 #[.string ⟨s.toArray⟩, .string ⟨line.toArray⟩] w fun e w' => e = .returned (.bool true) ∧ Below w.heap.size w w' := by
  have HF := Lib.hid (few_any (.slice (some ⟨w.heap.size, 0, none⟩) 1 1) [s] (w.alloc (.cells #[.string ⟨s.toArray⟩] 9)) (strs_lit w [s] _ 1 rfl (by simp) (one_mem hs) rfl _) (by simp))
  have hA := below_alloc w (.cells #[.string ⟨s.toArray⟩] 9)
  have hE1 := hE.below hA
  unfold maxLen at hs hl
  have HAW := Lib.hid (awake_any _ hE1)
  cases hfew : fewL [s] with
  | false =>
    rw [hfew] at HF
    clear hfew
    go_enter Tryz.func4, Tryz.ntmps4
    go_wp2_with fail
    refine HF.out.mono ?_
    rintro e w1' ⟨rfl, rfl⟩
    go_wp2_with fail
    refine HAW.out.mono ?_
    rintro e w2 ⟨rfl, hB2⟩
    go_wp2_with fail
    go_ret
    exact ⟨rfl, below_tr hA hB2⟩
  | true =>
    rw [hfew] at HF
    have s5 := ((few_iff _).1 hfew).1 s (by simp)
    clear hfew
    by_cases h100 : 100 < line.length
    · go_enter Tryz.func4, Tryz.ntmps4
      go_wp2_with fail
      refine HF.out.mono ?_
      rintro e w1' ⟨rfl, rfl⟩
      go_wp2_with fail
      refine HAW.out.mono ?_
      rintro e w2 ⟨rfl, hB2⟩
      go_wp2_with fail
      go_ret
      exact ⟨rfl, below_tr hA hB2⟩
    · obtain ⟨M, C, hM, hC, hlM, hlC, hMM, hcnt, hpw, huM, huC, hjM, hjC⟩ := order_facts s
      have hl1 : (joinL M).length ≤ 501 := by omega
      have hl2 : (joinL C).length ≤ 501 := by omega
      have H1 := Lib.hid (sort_any s false false (by omega))
      have H2 := Lib.hid (lcount_any (joinL M) line hl1)
      have H3 := Lib.hid (lcount_any s line (by omega))
      have H4 := Lib.hid (sort_any (joinL M) false false hl1)
      have H5 := Lib.hid (rlines_any (joinL M) (by omega))
      have H6 := Lib.hid (uniqF_any (joinL M) hl1)
      have H7 := Lib.hid (uniqF_any (joinL C) hl2)
      have H8 := Lib.hid (sort_any s false true (by omega))
      rw [hM] at H1
      rw [hlM, hcnt] at H2
      rw [hlM, hMM] at H4
      rw [hlM] at H5
      rw [uniqF_eq, hlM, huM] at H6
      rw [uniqF_eq, hlC, huC] at H7
      rw [hC] at H8
      have HX := Lib.hid (fun x (h : x ∈ M) => Nat.le_trans (flat_len M x h) (show M.flatten.length ≤ 501 by have := joinL_len M; omega))
      have HPW := Lib.hid hpw
      have hMl : M.length ≤ 501 := by have := joinL_len M; omega
      have hcl : (linesL s).count line ≤ 500 := Nat.le_trans List.count_le_length (Nat.le_trans (lines_len s) s5)
      generalize (linesL s).count line = c at *
      clear hM hC hlM hlC hMM hcnt hpw huM huC hjM hjC
      obtain ⟨t, ht⟩ : ∃ t, joinL M = t := ⟨_, rfl⟩
      obtain ⟨u, hu⟩ : ∃ u, joinL C = u := ⟨_, rfl⟩
      rw [ht] at H1 H2 H4 H5 H6 hl1
      rw [hu] at H6 H7 H8 hl2
      clear ht hu
      have q1 : (t == t) = true := by simp
      have q2 : (u == u) = true := by simp
      have q3 : ((c : Int) == c) = true := by simp
      obtain ⟨m, hm⟩ : ∃ m, line.length = m := ⟨_, rfl⟩
      have HM := Lib.hid hm
      have hm1 : m ≤ 100 := by omega
      clear hm
      go_enter Tryz.func4, Tryz.ntmps4
      go_wp2_with fail
      refine HF.out.mono ?_
      rintro e w1' ⟨rfl, rfl⟩
      go_wp2_with fail
      go_loop [5] (fun i => ∃ k : Nat, k ≤ m ∧ i = .int .i64 k) (fun i => m - (intOf i).toNat)
      case atStart => exact ⟨0, by omega, rfl⟩
      case round =>
        obtain ⟨k, hk, rfl⟩ := hrel
        by_cases hkm : k < m
        · obtain ⟨b, _, hg, hb⟩ := str_at line k (by rw [HM.out]; exact hkm)
          have hml := HM.out
          by_cases h10 : b = 10
          · subst h10
            clear hb
            go_wp2_with fail
            refine HAW.out.mono ?_
            rintro e w2 ⟨rfl, hB2⟩
            go_wp2_with fail
            go_ret
            exact ⟨rfl, below_tr hA hB2⟩
          · have n10 := ne_int (k := 10) (by omega) h10
            have m10 : ((b.toNat : Int) == 10) = false := by rw [beq_eq_false_iff_ne]; exact n10
            clear hb h10
            go_wp2_with fail
            go_round
            case rel => exact ⟨k + 1, by omega, by go_num⟩
            case measure => simp [intOf]; omega
        · have hml := HM.out
          obtain rfl : k = m := by omega
          go_wp2_with fail
          refine (H1.out _ hE1).mono ?_
          rintro e w2 ⟨rfl, hB2⟩
          have hB12 := below_tr hA hB2
          go_wp2_with fail
          refine (H2.out _).mono ?_
          rintro e w3 ⟨rfl, hB3⟩
          have hB13 := below_tr hB12 hB3
          go_wp2_with fail
          refine (H3.out _).mono ?_
          rintro e w4 ⟨rfl, hB4⟩
          have hB14 := below_tr hB13 hB4
          have hE4 := hE.below hB14
          go_wp2_with fail
          refine (H4.out _ hE4).mono ?_
          rintro e w5 ⟨rfl, hB5⟩
          have hB15 := below_tr hB14 hB5
          go_wp2_with fail
          refine (H5.out _).mono ?_
          rintro e w6 ⟨v, rfl, hO, hB6⟩
          have hB16 := below_tr hB15 hB6
          have hst := hO.strs (fun x hx => by have := HX.out x hx; unfold maxLen; omega)
          obtain ⟨a0, cap, hv0, hcap, hat⟩ := hst.shape
          obtain ⟨n, hn⟩ : ∃ n, M.length = n := ⟨_, rfl⟩
          have HN := Lib.hid hn
          rw [hn] at hv0 hat hMl
          subst hv0
          clear hn hst hO hcap
          go_wp2_with fail
          go_loopw [8] (fun i W => ∃ k : Nat, k ≤ 501 ∧ i = .int .i64 ((k : Int) + 1) ∧ (k + 1 ≤ n ∨ k = 0) ∧ Below w6.heap.size w6 W) (fun i _ => n - (intOf i).toNat)
          case atStart => exact ⟨0, by omega, rfl, .inr rfl, Below.refl _ _⟩
          case round =>
            obtain ⟨j, hj, rfl, hjn, hBW⟩ := hrel
            by_cases hlt : j + 1 < n
            · obtain ⟨b, off, rfl, hb, hcs⟩ := hat (by omega)
              obtain ⟨y, hy⟩ : ∃ y, M[j]? = some y := ⟨M[j]'(by rw [HN.out]; omega), List.getElem?_eq_getElem _⟩
              obtain ⟨x, hx⟩ : ∃ x, M[j + 1]? = some x := ⟨M[j + 1]'(by rw [HN.out]; omega), List.getElem?_eq_getElem _⟩
              have hcy := keep_cell (hcs j y hy) hBW
              have hcx := keep_cell (hcs (j + 1) x hx) hBW
              have hless := order_less HPW.out hy hx
              have hw0 : IntKind.i64.wrap ((j : Int) + 1 - 1) = (j : Int) := by rw [show (j : Int) + 1 - 1 = j by omega]; exact IntWalk.i64_in _ (by omega)
              have hw1 : IntKind.i64.wrap ((j : Int) + 1 + 1) = (j : Int) + 1 + 1 := IntWalk.i64_in _ (by omega)
              have hw2 : ((j : Int) + 1).toNat = j + 1 := by omega
              have hw3 : (0 : Int) ≤ (j : Int) + 1 := by omega
              have hw4 : (0 : Int) ≤ (j : Int) := by omega
              have hlti : (j : Int) + 1 < n := by omega
              have hltj : (j : Int) < n := by omega
              clear hcs hat hx hy
              go_wp2_with fail
              go_quiet (fail)
              go_wp2_with fail
              go_round
              case rel => exact ⟨j + 1, by omega, by go_num, .inl (by omega), bdrewN hBW _⟩
              case measure => simp [intOf]; omega
            · have hBX := below_tr hB16 hBW
              have hEX := hE.below hBX
              have hlti : ¬ (j : Int) + 1 < n := by omega
              clear hat
              go_wp2_with fail
              refine (H6.out _ hEX).mono ?_
              rintro e w7 ⟨rfl, hB7⟩
              have hBX7 := below_tr hBX hB7
              go_wp2_with fail
              refine (H7.out _ (hE.below hBX7)).mono ?_
              rintro e w8 ⟨rfl, hB8⟩
              have hBX8 := below_tr hBX7 hB8
              go_wp2_with fail
              refine (H8.out _ (hE.below hBX8)).mono ?_
              rintro e w9 ⟨rfl, hB9⟩
              have hBX9 := below_tr hBX8 hB9
              go_wp2_with fail
              refine (awake_any _ (hE.below hBX9)).mono ?_
              rintro e w10 ⟨rfl, hB10⟩
              go_wp2_with fail
              go_ret
              exact ⟨rfl, below_tr hBX9 hB10⟩
end Go.Proofs.YtmhgehnkhhlbkaaGreatDoor
