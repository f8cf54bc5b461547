/- Texts: first and last lines (the reference's side), and the laws. -/
import Derived.Test.YtmhgehnkhhlbkaaDoorTxH
namespace Go.Proofs.YtmhgehnkhhlbkaaDoor
open Go.RowKit

set_option maxRecDepth 100000 in
set_option maxHeartbeats 1600000 in
theorem rhead_any (s : List UInt8) (z : Int) (hz : -9223372036854775808 ≤ z ∧ z ≤ 9223372036854775807) (hs : s.length ≤ 500) (w : World) : Calls Tryd.prog 28 #[.string ⟨s.toArray⟩, .int .i64 z] w fun e w' => e = .returned (.string ⟨(headL s z.toNat).toArray⟩) ∧ w = w' := by
  obtain ⟨n, hn⟩ : ∃ n, s.length = n := ⟨_, rfl⟩
  have HN := Lib.hid hn
  rcases Int.lt_or_le z 1 with h1 | h1
  · have HR := Lib.hid (show headL s z.toNat = [] by rw [show z.toNat = 0 by omega, headL_zero])
    by_cases h0 : s = []
    · subst h0
      obtain rfl : n = 0 := by simpa using hn.symm
      clear hn
      go_enter Tryd.func28, Tryd.ntmps28
      go_wp2_with fail
      go_loop [1, 5] (fun m i => m = .int .i64 z ∧ i = .int .i64 0) (fun _ i => 0)
      case atStart => exact ⟨rfl, rfl⟩
      case round =>
        obtain ⟨rfl, rfl⟩ := hrel
        go_wp2_with fail
        go_ret
        rw [HR.out]
        exact ⟨rfl, rfl⟩
    · have hpos : 0 < n := by rw [← hn]; exact List.length_pos_iff.2 h0
      have q1 : (s == []) = false := by simp [h0]
      have q2 : s.isEmpty = false := by simp [h0]
      have HT0 := Lib.hid (show s.take 0 = [] from rfl)
      clear h0
      go_enter Tryd.func28, Tryd.ntmps28
      go_wp2_with fail
      go_loop [1, 5] (fun m i => m = .int .i64 z ∧ i = .int .i64 0) (fun _ i => 0)
      case atStart => exact ⟨rfl, rfl⟩
      case round =>
        obtain ⟨rfl, rfl⟩ := hrel
        go_wp2_with fail
        go_ret
        rw [HR.out]
        exact ⟨rfl, rfl⟩
  · obtain ⟨N, rfl⟩ : ∃ N : Nat, z = N := ⟨z.toNat, by omega⟩
    have HZ := Lib.hid (show ((N : Int)).toNat = N from rfl)
    obtain ⟨R, hR⟩ : ∃ R, headL s N = R := ⟨_, rfl⟩
    rw [show ((N : Int)).toNat = N from rfl, hR]
    have HR := Lib.hid hR
    clear hR
    go_enter Tryd.func28, Tryd.ntmps28
    go_wp2_with fail
    go_loop [1, 5] (fun mv i => ∃ k m : Nat, k ≤ n ∧ i = .int .i64 k ∧ mv = .int .i64 m ∧ m ≤ N ∧ Hid (R = s.take k ++ headL (s.drop k) m) ∧ Hid (m = 0 → 0 < k ∧ s[k - 1]? = some 10)) (fun _ i => n - (intOf i).toNat)
    case atStart => exact ⟨0, N, by omega, rfl, rfl, by omega, Lib.hid (by rw [← HR.out]; simp), Lib.hid (fun h => by omega)⟩
    case round =>
      obtain ⟨k, m, hk, rfl, rfl, hmN, HS, H0⟩ := hrel
      by_cases hkn : k < n
      · by_cases hm : m = 0
        · subst hm
          have HR2 := Lib.hid (show R = s.take k by rw [HS.out, headL_zero, List.append_nil])
          go_wp2_with fail
          go_ret
          rw [HR2.out]
          exact ⟨rfl, rfl⟩
        · obtain ⟨c, _, hg, hc⟩ := str_at s k (by omega)
          obtain ⟨p, rfl⟩ : ∃ p, m = p + 1 := ⟨m - 1, by omega⟩
          have hd := drop_cons hc
          have htk : s.take (k + 1) = s.take k ++ [c] := by rw [List.take_add_one, hc]; rfl
          by_cases h10 : c = 10
          · subst h10
            have HS2 := Lib.hid (show R = s.take (k + 1) ++ headL (s.drop (k + 1)) p by rw [HS.out, hd, headL_feed, htk]; simp)
            have H02 := Lib.hid (show p = 0 → 0 < k + 1 ∧ s[k + 1 - 1]? = some 10 from fun _ => ⟨by omega, hc⟩)
            clear hd htk hc hm
            go_wp2_with fail
            go_round
            case rel => exact ⟨k + 1, p, by omega, by go_num, by go_num, by omega, HS2, H02⟩
            case measure => simp [intOf]; omega
          · have HS2 := Lib.hid (show R = s.take (k + 1) ++ headL (s.drop (k + 1)) (p + 1) by rw [HS.out, hd, headL_other _ _ _ h10, htk]; simp)
            have n10 := ne_int (k := 10) (by omega) h10
            have m10 : ((c.toNat : Int) == 10) = false := by rw [beq_eq_false_iff_ne]; exact n10
            clear hd htk hc hm h10
            go_wp2_with fail
            go_round
            case rel => exact ⟨k + 1, p + 1, by omega, by go_num, by go_num, by omega, HS2, Lib.hid (fun h => by omega)⟩
            case measure => simp [intOf]; omega
      · obtain rfl : k = n := by omega
        have hs2 := HS.out
        rw [← HN.out, List.drop_length, headL_nil, List.take_length, List.append_nil] at hs2
        have HR2 := Lib.hid hs2
        by_cases hm : m = 0
        · obtain ⟨hk0, hlast⟩ := H0.out hm
          obtain ⟨k1, hk1⟩ : ∃ k1, k - 1 = k1 := ⟨_, rfl⟩
          rw [hk1] at hlast
          obtain ⟨c, _, hg, hc⟩ := str_at s k1 (by omega)
          rw [hlast] at hc
          cases hc
          subst hm
          have hne : s ≠ [] := fun e => by rw [e] at hn; simp at hn; omega
          have q1 : (s == []) = false := by simp [hne]
          have q2 : s.isEmpty = false := by simp [hne]
          have hi : (k : Int) - 1 = (k1 : Int) := by omega
          have hk2 : k1 < k := by omega
          clear hs2 hne hlast hk1
          go_wp2_with fail
          go_ret
          rw [HR2.out]
          exact ⟨rfl, rfl⟩
        · clear hs2
          go_wp2_with fail
          go_ret
          rw [HR2.out]
          exact ⟨rfl, rfl⟩
set_option maxRecDepth 100000 in
theorem rtail_any (s : List UInt8) (z : Int) (hz : -9223372036854775808 ≤ z ∧ z ≤ 9223372036854775807) (hs : s.length ≤ 500) (w : World) : Calls Tryd.prog 30 #[.string ⟨s.toArray⟩, .int .i64 z] w fun e w' => e = .returned (.string ⟨(tailL s z.toNat).toArray⟩) ∧ Below w.heap.size w w' := by
  have HL := Lib.hid (rlines_any s (by omega) w)
  have HLl := Lib.hid (lines_len s)
  have HT1 := Lib.hid (fun k h => tail_all s k h)
  have HT2 := Lib.hid (fun k h => tail_some s k h)
  obtain ⟨n, hn⟩ : ∃ n, (linesL s).length = n := ⟨_, rfl⟩
  have HN := Lib.hid hn
  rw [hn] at HLl HT1 HT2
  have hn5 : n ≤ 500 := by have := HLl.out; omega
  clear hn
  go_enter Tryd.func30, Tryd.ntmps30
  go_wp2_with fail
  refine HL.out.mono ?_
  rintro e w1 ⟨v, rfl, hO, hB⟩
  obtain ⟨a0, cap, hv0⟩ := hO.len
  rw [HN.out] at hv0
  subst hv0
  clear hO
  rcases Int.lt_or_le z 1 with h1 | h1
  · have HR := Lib.hid (show tailL s z.toNat = [] by rw [show z.toNat = 0 by omega, tailL_zero])
    go_wp2_with fail
    go_ret
    rw [HR.out]
    exact ⟨rfl, hB⟩
  · obtain ⟨k, rfl⟩ : ∃ k : Nat, z = k := ⟨z.toNat, by omega⟩
    by_cases hkn : n ≤ k
    · have HR := Lib.hid (show tailL s ((k : Int)).toNat = s from HT1.out k hkn)
      have hkn2 : (n : Int) ≤ k := by omega
      go_wp2_with fail
      go_ret
      rw [HR.out]
      exact ⟨rfl, hB⟩
    · obtain ⟨lo, hlo⟩ : ∃ lo, n - k = lo := ⟨_, rfl⟩
      have hR := show tailL s ((k : Int)).toNat = s.drop (headL s (n - k)).length from HT2.out k (by omega)
      rw [hlo] at hR
      have hll := headL_len s lo
      have HH := Lib.hid (rhead_any s (lo : Int) (by omega) hs w1)
      rw [show ((lo : Int)).toNat = lo from rfl] at HH
      obtain ⟨H, hH⟩ : ∃ H, headL s lo = H := ⟨_, rfl⟩
      rw [hH] at hR hll HH
      have HR := Lib.hid hR
      have e1 : (n : Int) - k = lo := by omega
      have hkn2 : ¬ (n : Int) ≤ k := by omega
      clear hR hlo hH
      go_wp2_with fail
      refine HH.out.mono ?_
      rintro e w' ⟨rfl, rfl⟩
      go_wp2_with fail
      go_ret
      rw [HR.out]
      exact ⟨rfl, hB⟩
set_option maxRecDepth 100000 in
theorem ends_any (s : List UInt8) (hs : s.length ≤ maxLen) (z : Int) (hz : -9223372036854775808 ≤ z ∧ z ≤ 9223372036854775807) (w : World) (hE : Env w) :
    Calls Tryd.prog 9 #[.string ⟨s.toArray⟩, .int .i64 z] w fun e w' => e = .returned (.bool true) ∧ Below w.heap.size w w' := by
  have HF := Lib.hid (few_any (.slice (some ⟨w.heap.size, 0, none⟩) 1 1) [s] (w.alloc (.cells #[.string ⟨s.toArray⟩] 9)) (strs_lit w [s] _ 1 rfl (by simp) (mem1 hs) rfl _) (by simp))
  have hA := below_alloc w (.cells #[.string ⟨s.toArray⟩] 9)
  have hE1 := hE.below hA
  cases hfew : fewL [s] with
  | false =>
    rw [hfew] at HF
    clear hfew
    go_enter Tryd.func9, Tryd.ntmps9
    go_wp2_with fail
    refine HF.out.mono ?_
    rintro e w1' ⟨rfl, rfl⟩
    go_wp2_with fail
    refine (awake_any _ hE1).mono ?_
    rintro e w2 ⟨rfl, hB2⟩
    go_wp2_with fail
    go_ret
    exact ⟨rfl, below_tr hA hB2⟩
  | true =>
    rw [hfew] at HF
    have s5 := ((few_iff _).1 hfew).1 s (by simp)
    have H1 := Lib.hid (head_any s z s5)
    have H2 := Lib.hid (rhead_any s z hz s5)
    have H3 := Lib.hid (tail_any s z s5)
    have H4 := Lib.hid (rtail_any s z hz s5)
    clear hfew
    generalize headL s z.toNat = g1 at *
    generalize tailL s z.toNat = g2 at *
    have q1 : (g1 == g1) = true := by simp
    have q2 : (g2 == g2) = true := by simp
    go_enter Tryd.func9, Tryd.ntmps9
    go_wp2_with fail
    refine HF.out.mono ?_
    rintro e w1' ⟨rfl, rfl⟩
    go_wp2_with fail
    refine (H1.out _ hE1).mono ?_
    rintro e w2 ⟨rfl, hB2⟩
    have hB12 := below_tr hA hB2
    go_wp2_with fail
    refine (H2.out _).mono ?_
    rintro e w3 ⟨rfl, rfl⟩
    have hE2 := hE.below hB12
    go_wp2_with fail
    refine (H3.out _ hE2).mono ?_
    rintro e w3 ⟨rfl, hB3⟩
    go_wp2_with fail
    refine (H4.out _).mono ?_
    rintro e w4 ⟨rfl, hB4⟩
    have hBB := below_tr (below_tr hB12 hB3) hB4
    have hE5 := hE.below hBB
    go_wp2_with fail
    refine (awake_any _ hE5).mono ?_
    rintro e w6 ⟨rfl, hB6⟩
    go_wp2_with fail
    go_ret
    exact ⟨rfl, below_tr hBB hB6⟩
end Go.Proofs.YtmhgehnkhhlbkaaDoor
