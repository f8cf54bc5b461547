/- Texts: the first lines and the others are all of a text. -/
import Derived.Test.YtmhgehnkhhlbkaaDoorTxHr
namespace Go.Proofs.YtmhgehnkhhlbkaaDoor
open Go.RowKit

theorem grep_all (s : List UInt8) : grepL s [] false = joinL (linesL s) := by
  unfold grepL
  have : (linesL s).filter (fun x => !gone [] false x) = linesL s := by
    rw [List.filter_eq_self]
    intro x _
    have : Lib.contains x [] = true := contains_hit (by cases x <;> rfl)
    simp [gone, this]
  rw [this]
set_option maxRecDepth 100000 in
set_option maxHeartbeats 3200000 in
theorem parts_any (s : List UInt8) (hs : s.length ≤ maxLen) (z : Int) (hz : -9223372036854775808 ≤ z ∧ z ≤ 9223372036854775807) (w : World) (hE : Env w) :
    Calls Tryd.prog 10 #[.string ⟨s.toArray⟩, .int .i64 z] w fun e w' => e = .returned (.bool true) ∧ Below w.heap.size w w' := by
  have HF := Lib.hid (few_any (.slice (some ⟨w.heap.size, 0, none⟩) 1 1) [s] (w.alloc (.cells #[.string ⟨s.toArray⟩] 9)) (strs_lit w [s] _ 1 rfl (by simp) (mem1 hs) rfl _) (by simp))
  have hA := below_alloc w (.cells #[.string ⟨s.toArray⟩] 9)
  have hE1 := hE.below hA
  cases hfew : fewL [s] with
  | false =>
    rw [hfew] at HF
    clear hfew
    go_enter Tryd.func10, Tryd.ntmps10
    go_wp2_with fail
    refine HF.out.mono ?_
    rintro e w1' ⟨rfl, rfl⟩
    go_wp2_with fail
    refine (awake_any _ hE1).mono ?_
    rintro e w2 ⟨rfl, hB2⟩
    go_wp2_with fail
    go_ret
    exact ⟨rfl, below_tr hA hB2⟩
  | true =>
    rw [hfew] at HF
    have s5 := ((few_iff _).1 hfew).1 s (by simp)
    clear hfew
    have HG0 := fun w1 hE => grep_any s [] false s5 w1 hE
    rw [grep_all] at HG0
    have hcnt := joinL_count (linesL s) (fun x hx => lines_no s x hx)
    have hJl := joinL_lines_len s
    have hll := lines_len s
    obtain ⟨n, hn⟩ : ∃ n, (linesL s).length = n := ⟨_, rfl⟩
    rw [hn] at hcnt hll
    obtain ⟨y, hy⟩ : ∃ y, max z 0 = y := ⟨_, rfl⟩
    obtain ⟨k, hk⟩ : ∃ k : Nat, min y (n : Int) = k := ⟨(min y (n : Int)).toNat, by omega⟩
    have hkn : k ≤ n := by omega
    obtain ⟨m, hm⟩ : ∃ m, n - k = m := ⟨_, rfl⟩
    have hnk : (n : Int) - k = m := by omega
    have hHT := head_tail s k (by rw [hn]; exact hkn)
    rw [hn, hm] at hHT
    have hH3 := head_all s (n + 1) (by rw [hn]; omega)
    have hT4 := tail_all s (n + 5) (by rw [hn]; omega)
    have H1 := Lib.hid (head_any s (k : Int) s5)
    have H2 := Lib.hid (tail_any s (m : Int) s5)
    have H3 := Lib.hid (head_any s ((n : Int) + 1) s5)
    have H4 := Lib.hid (tail_any s ((n : Int) + 5) s5)
    rw [show ((k : Int)).toNat = k from rfl] at H1
    rw [show ((m : Int)).toNat = m from rfl] at H2
    rw [show ((n : Int) + 1).toNat = n + 1 by omega, hH3] at H3
    rw [show ((n : Int) + 5).toNat = n + 5 by omega, hT4] at H4
    obtain ⟨a, ha⟩ : ∃ a, headL s k = a := ⟨_, rfl⟩
    obtain ⟨b, hb⟩ : ∃ b, tailL s m = b := ⟨_, rfl⟩
    rw [ha] at H1 hHT
    rw [hb] at H2 hHT
    have q1 : (a ++ b == s) = true := by rw [hHT]; simp
    have q2 : (s == s) = true := by simp
    have hal : a.length + b.length ≤ 500 := by have := congrArg List.length hHT; rw [List.length_append] at this; omega
    obtain ⟨J, hJ⟩ : ∃ J, joinL (linesL s) = J := ⟨_, rfl⟩
    rw [hJ] at HG0 hcnt hJl
    obtain ⟨jl, hjl⟩ : ∃ jl, J.length = jl := ⟨_, rfl⟩
    have hjl2 : jl ≤ 1000 := by rw [hjl] at hJl; split at hJl <;> omega
    have HW0 := fun w1 => wc_any J (by rw [hjl]; omega) w1
    rw [hcnt, hjl] at HW0
    have HG := Lib.hid HG0
    have HW := Lib.hid HW0
    rw [hjl] at hJl
    obtain ⟨sl, hsl⟩ : ∃ sl, s.length = sl := ⟨_, rfl⟩
    have hsl5 : sl ≤ 500 := by omega
    have hn5 : n ≤ 501 := by rw [hsl] at hll; omega
    rw [hsl] at hJl
    clear HG0 HW0 hJ hcnt hHT hH3 hT4 hn ha hb hm hll
    by_cases h0 : s = []
    · have hjs : jl = sl := by rw [hJl, if_pos (.inl h0)]; rfl
      subst h0
      obtain rfl : sl = 0 := by simpa using hsl.symm
      subst hjs
      have q3 : (J == []) = true ∨ True := .inr trivial
      clear hJl hsl
      go_enter Tryd.func10, Tryd.ntmps10
      go_wp2_with fail
      refine HF.out.mono ?_
      rintro e w1' ⟨rfl, rfl⟩
      go_wp2_with fail
      refine (HG.out _ hE1).mono ?_
      rintro e w2 ⟨rfl, hB2⟩
      have hB12 := below_tr hA hB2
      have hE2 := hE.below hB12
      go_wp2_with fail
      refine (HG.out _ hE2).mono ?_
      rintro e w3 ⟨rfl, hB3⟩
      have hB13 := below_tr hB12 hB3
      have hE3 := hE.below hB13
      go_wp2_with fail
      refine (HW.out w3).mono ?_
      rintro e w4 ⟨rfl, hB4⟩
      have hB14 := below_tr hB13 hB4
      have hE4 := hE.below hB14
      go_wp2_with fail
      refine (H1.out w4 hE4).mono ?_
      rintro e w5 ⟨rfl, hB5⟩
      have hB15 := below_tr hB14 hB5
      have hE5 := hE.below hB15
      go_wp2_with fail
      refine (H2.out w5 hE5).mono ?_
      rintro e w6 ⟨rfl, hB6⟩
      have hB16 := below_tr hB15 hB6
      have hE6 := hE.below hB16
      go_wp2_with fail
      refine (H3.out w6 hE6).mono ?_
      rintro e w7 ⟨rfl, hB7⟩
      have hB17 := below_tr hB16 hB7
      have hE7 := hE.below hB17
      go_wp2_with fail
      refine (H4.out w7 hE7).mono ?_
      rintro e w8 ⟨rfl, hB8⟩
      have hB18 := below_tr hB17 hB8
      have hE8 := hE.below hB18
      go_wp2_with fail
      refine (awake_any _ hE8).mono ?_
      rintro e w9 ⟨rfl, hB9⟩
      go_wp2_with fail
      go_ret
      exact ⟨rfl, below_tr hB18 hB9⟩
    · obtain ⟨l1, hl1⟩ : ∃ l1, sl - 1 = l1 := ⟨_, rfl⟩
      have hpos : 0 < sl := by rw [← hsl]; exact List.length_pos_iff.2 h0
      have hl2 : (sl : Int) - 1 = l1 := by omega
      have hl3 : l1 < sl := by omega
      obtain ⟨c, _, hg, hc⟩ := str_at s l1 (by omega)
      have hlast : s.getLast? = some c := by rw [List.getLast?_eq_getElem?, hsl, hl1]; exact hc
      have p1 : (s == []) = false := by simp [h0]
      have p2 : s.isEmpty = false := by simp [h0]
      rw [hlast] at hJl
      by_cases h10 : c = 10
      · subst h10
        have hjs : jl = sl := by rw [hJl, if_pos (.inr rfl)]; rfl
        subst hjs
        have q4 : ((jl : Int) == (jl : Int)) = true := by simp
        clear hJl h0 hlast hc hl1
        have hjl3 : (J.length : Int) = (jl : Int) := by rw [hjl]
        go_enter Tryd.func10, Tryd.ntmps10
        go_wp2_with fail
        refine HF.out.mono ?_
        rintro e w1' ⟨rfl, rfl⟩
        go_wp2_with fail
        refine (HG.out _ hE1).mono ?_
        rintro e w2 ⟨rfl, hB2⟩
        have hB12 := below_tr hA hB2
        have hE2 := hE.below hB12
        go_wp2_with fail
        refine (HG.out _ hE2).mono ?_
        rintro e w3 ⟨rfl, hB3⟩
        have hB13 := below_tr hB12 hB3
        have hE3 := hE.below hB13
        go_wp2_with fail
        refine (HW.out w3).mono ?_
        rintro e w4 ⟨rfl, hB4⟩
        have hB14 := below_tr hB13 hB4
        have hE4 := hE.below hB14
        go_wp2_with fail
        refine (H1.out w4 hE4).mono ?_
        rintro e w5 ⟨rfl, hB5⟩
        have hB15 := below_tr hB14 hB5
        have hE5 := hE.below hB15
        go_wp2_with fail
        refine (H2.out w5 hE5).mono ?_
        rintro e w6 ⟨rfl, hB6⟩
        have hB16 := below_tr hB15 hB6
        have hE6 := hE.below hB16
        go_wp2_with fail
        refine (H3.out w6 hE6).mono ?_
        rintro e w7 ⟨rfl, hB7⟩
        have hB17 := below_tr hB16 hB7
        have hE7 := hE.below hB17
        go_wp2_with fail
        refine (H4.out w7 hE7).mono ?_
        rintro e w8 ⟨rfl, hB8⟩
        have hB18 := below_tr hB17 hB8
        have hE8 := hE.below hB18
        go_wp2_with fail
        refine (awake_any _ hE8).mono ?_
        rintro e w9 ⟨rfl, hB9⟩
        go_wp2_with fail
        go_ret
        exact ⟨rfl, below_tr hB18 hB9⟩
      · have hjs : jl = sl + 1 := by rw [hJl, if_neg (fun h => h.elim h0 (fun h => h10 (Option.some.inj h)))]
        have n10 := ne_int (k := 10) (by omega) h10
        have m10 : ((c.toNat : Int) != 10) = true := by rw [bne_iff_ne]; exact n10
        have m11 : ((c.toNat : Int) == 10) = false := by rw [beq_eq_false_iff_ne]; exact n10
        have hjs2 : (jl : Int) = (sl : Int) + 1 := by omega
        have q4 : ((jl : Int) == (sl : Int) + 1) = true := by rw [beq_iff_eq]; exact hjs2
        clear hJl h0 hlast hc hl1 h10 hjs hjs2
        go_enter Tryd.func10, Tryd.ntmps10
        go_wp2_with fail
        refine HF.out.mono ?_
        rintro e w1' ⟨rfl, rfl⟩
        go_wp2_with fail
        refine (HG.out _ hE1).mono ?_
        rintro e w2 ⟨rfl, hB2⟩
        have hB12 := below_tr hA hB2
        have hE2 := hE.below hB12
        go_wp2_with fail
        refine (HG.out _ hE2).mono ?_
        rintro e w3 ⟨rfl, hB3⟩
        have hB13 := below_tr hB12 hB3
        have hE3 := hE.below hB13
        go_wp2_with fail
        refine (HW.out w3).mono ?_
        rintro e w4 ⟨rfl, hB4⟩
        have hB14 := below_tr hB13 hB4
        have hE4 := hE.below hB14
        go_wp2_with fail
        refine (H1.out w4 hE4).mono ?_
        rintro e w5 ⟨rfl, hB5⟩
        have hB15 := below_tr hB14 hB5
        have hE5 := hE.below hB15
        go_wp2_with fail
        refine (H2.out w5 hE5).mono ?_
        rintro e w6 ⟨rfl, hB6⟩
        have hB16 := below_tr hB15 hB6
        have hE6 := hE.below hB16
        go_wp2_with fail
        refine (H3.out w6 hE6).mono ?_
        rintro e w7 ⟨rfl, hB7⟩
        have hB17 := below_tr hB16 hB7
        have hE7 := hE.below hB17
        go_wp2_with fail
        refine (H4.out w7 hE7).mono ?_
        rintro e w8 ⟨rfl, hB8⟩
        have hB18 := below_tr hB17 hB8
        have hE8 := hE.below hB18
        go_wp2_with fail
        refine (awake_any _ hE8).mono ?_
        rintro e w9 ⟨rfl, hB9⟩
        go_wp2_with fail
        go_ret
        exact ⟨rfl, below_tr hB18 hB9⟩
end Go.Proofs.YtmhgehnkhhlbkaaDoor
