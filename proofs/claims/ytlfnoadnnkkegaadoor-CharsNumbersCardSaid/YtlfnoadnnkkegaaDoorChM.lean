/- Chars: the law CharsBack. -/
import Derived.Test.YtlfnoadnnkkegaaDoorChC
import Derived.Test.YtlfnoadnnkkegaaDoorPlainB
namespace Go.Proofs.YtlfnoadnnkkegaaDoor
open Go.RowKit

theorem quoteL_len (s : List UInt8) : (quoteL s).length ≤ 4 * s.length + 2 := by
  have := flat_len s
  simp only [quoteL, List.length_append, List.length_cons, List.length_nil]; omega
theorem awake_at (w : World) (hE : Env w) : RowKit.Hid (Calls Tryd.prog 13 #[] w fun e w' => e = .returned (.bool true) ∧ Below w.heap.size w w') := awake_any w hE
set_option maxRecDepth 100000 in
set_option maxHeartbeats 3200000 in
theorem cback_any (s : List UInt8) (hs : s.length ≤ maxLen) (q : List UInt8) (hq : q.length ≤ maxLen) (n : Int) (hn : -9223372036854775808 ≤ n ∧ n ≤ 9223372036854775807) (w : World) (hE : Env w) :
    Calls Tryd.prog 7 #[.string ⟨s.toArray⟩, .string ⟨q.toArray⟩, .int .i64 n] w fun e w' => e = .returned (.bool true) ∧ Below w.heap.size w w' := by
  unfold maxLen at hs hq
  by_cases hbig : (2000 : Int) < s.length ∨ (2000 : Int) < q.length
  · have ha := Lib.hid (awake_any w hE)
    rcases hbig with hbig | hbig
    · go_enter Tryd.func7, Tryd.ntmps7
      go_wp2_with (go_at_call 13; refine ha.out.mono ?_; rintro e w' ⟨rfl, hB⟩)
      go_ret
      exact ⟨rfl, hB⟩
    · by_cases hb2 : (2000 : Int) < s.length
      all_goals
        go_enter Tryd.func7, Tryd.ntmps7
        go_wp2_with (go_at_call 13; refine ha.out.mono ?_; rintro e w' ⟨rfl, hB⟩)
        go_ret
        exact ⟨rfl, hB⟩
  have hb1 : ¬ (2000 : Int) < s.length := fun h => hbig (.inl h)
  have hb2 : ¬ (2000 : Int) < q.length := fun h => hbig (.inr h)
  clear hbig
  have hql := quoteL_len s
  have hUQ := Lib.hid (fun W (hE : Env W) => unquote_at W hE (unq_quote s) (by omega))
  have hUq := Lib.hid (fun W (hE : Env W) => unquote_any q (by omega) W hE)
  have hun := Lib.hid (unq_cases q)
  go_enter Tryd.func7, Tryd.ntmps7
  go_wp2_with fail
  refine (quote_any s (by omega) w hE).mono ?_
  rintro e w1 ⟨rfl, hB1⟩
  have hE1 := hE.below hB1
  go_wp2_with fail
  refine (hUQ.out w1 hE1).mono ?_
  rintro e w2 ⟨rfl, hB2'⟩
  have hB2 := hB1.trans (hB2'.mono hB1.size)
  have hE2 := hE.below hB2
  clear hB2' hE1 hB1 hUQ
  go_wp2_with fail
  rcases hun.out with ⟨u, hu⟩ | hu
  · have hq2 := unq_some hu
    have hul := unq_len hu
    have hu' := Lib.hid hu
    have hQ := Lib.hid (fun W (hE : Env W) => (hq2 ▸ quote_any u (by omega) W hE : Calls Tryd.prog 20 #[.string ⟨u.toArray⟩] W fun e w' => e = .returned (.string ⟨q.toArray⟩) ∧ Below W.heap.size W w'))
    clear hu hq2 hun hUq
    refine (unquote_at w2 hE2 hu'.out (by omega)).mono ?_
    rintro e w3 ⟨rfl, hB3'⟩
    have hB3 := hB2.trans (hB3'.mono hB2.size)
    have hE3 := hE.below hB3
    clear hB3' hE2 hB2
    go_wp2_with fail
    refine (hQ.out w3 hE3).mono ?_
    rintro e w4 ⟨rfl, hB4'⟩
    have hB4 := hB3.trans (hB4'.mono hB3.size)
    have hE4 := hE.below hB4
    clear hB4' hE3 hB3 hQ
    go_wp2_with fail
    refine (text_any n hn _ hE4).mono ?_
    rintro e w5 ⟨rfl, hB5'⟩
    have hB5 := hB4.trans (hB5'.mono hB4.size)
    have hE5 := hE.below hB5
    clear hB5'
    by_cases hneg : n < 0
    · have hnum := Lib.hid (num_neg n 4611686018427387904 hneg)
      go_wp2_with fail
      refine (number_at w5 hE5 hnum.out (by have := itoa_len n hn; omega) (by omega)).mono ?_
      rintro e w6 ⟨rfl, hB6'⟩
      have hB6 := hB5.trans (hB6'.mono hB5.size)
      have ha := awake_at w6 (hE.below hB6)
      clear hB6' hB5 hE5
      go_wp2_with fail
      refine ha.out.mono ?_
      rintro e w7 ⟨rfl, hB7⟩
      go_wp2_with fail
      go_ret
      exact ⟨rfl, hB6.trans (hB7.mono hB6.size)⟩
    by_cases hbg : (4611686018427387904 : Int) < n
    · have hnum := Lib.hid (show numRes (Lib.itoa n) 4611686018427387904 = (0, 3) by rw [num_nat n _ (by omega), if_pos hbg])
      go_wp2_with fail
      refine (number_at w5 hE5 hnum.out (by have := itoa_len n hn; omega) (by omega)).mono ?_
      rintro e w6 ⟨rfl, hB6'⟩
      have hB6 := hB5.trans (hB6'.mono hB5.size)
      have ha := awake_at w6 (hE.below hB6)
      clear hB6' hB5 hE5
      go_wp2_with fail
      refine ha.out.mono ?_
      rintro e w7 ⟨rfl, hB7⟩
      go_wp2_with fail
      go_ret
      exact ⟨rfl, hB6.trans (hB7.mono hB6.size)⟩
    · have hnum := Lib.hid (show numRes (Lib.itoa n) 4611686018427387904 = (n, 0) by rw [num_nat n _ (by omega), if_neg hbg])
      go_wp2_with fail
      refine (number_at w5 hE5 hnum.out (by have := itoa_len n hn; omega) (by omega)).mono ?_
      rintro e w6 ⟨rfl, hB6'⟩
      have hB6 := hB5.trans (hB6'.mono hB5.size)
      have ha := awake_at w6 (hE.below hB6)
      clear hB6' hB5 hE5
      go_wp2_with fail
      refine ha.out.mono ?_
      rintro e w7 ⟨rfl, hB7⟩
      go_wp2_with fail
      go_ret
      exact ⟨rfl, hB6.trans (hB7.mono hB6.size)⟩
  · have hu' := Lib.hid hu
    clear hu hun hUq
    refine (unquote_at w2 hE2 hu'.out (by omega)).mono ?_
    rintro e w3 ⟨rfl, hB3'⟩
    have hB3 := hB2.trans (hB3'.mono hB2.size)
    have hE3 := hE.below hB3
    clear hB3' hE2 hB2
    go_wp2_with fail
    refine (text_any n hn _ hE3).mono ?_
    rintro e w5 ⟨rfl, hB5'⟩
    have hB5 := hB3.trans (hB5'.mono hB3.size)
    have hE5 := hE.below hB5
    clear hB5'
    by_cases hneg : n < 0
    · have hnum := Lib.hid (num_neg n 4611686018427387904 hneg)
      go_wp2_with fail
      refine (number_at w5 hE5 hnum.out (by have := itoa_len n hn; omega) (by omega)).mono ?_
      rintro e w6 ⟨rfl, hB6'⟩
      have hB6 := hB5.trans (hB6'.mono hB5.size)
      have ha := awake_at w6 (hE.below hB6)
      clear hB6' hB5 hE5
      go_wp2_with fail
      refine ha.out.mono ?_
      rintro e w7 ⟨rfl, hB7⟩
      go_wp2_with fail
      go_ret
      exact ⟨rfl, hB6.trans (hB7.mono hB6.size)⟩
    by_cases hbg : (4611686018427387904 : Int) < n
    · have hnum := Lib.hid (show numRes (Lib.itoa n) 4611686018427387904 = (0, 3) by rw [num_nat n _ (by omega), if_pos hbg])
      go_wp2_with fail
      refine (number_at w5 hE5 hnum.out (by have := itoa_len n hn; omega) (by omega)).mono ?_
      rintro e w6 ⟨rfl, hB6'⟩
      have hB6 := hB5.trans (hB6'.mono hB5.size)
      have ha := awake_at w6 (hE.below hB6)
      clear hB6' hB5 hE5
      go_wp2_with fail
      refine ha.out.mono ?_
      rintro e w7 ⟨rfl, hB7⟩
      go_wp2_with fail
      go_ret
      exact ⟨rfl, hB6.trans (hB7.mono hB6.size)⟩
    · have hnum := Lib.hid (show numRes (Lib.itoa n) 4611686018427387904 = (n, 0) by rw [num_nat n _ (by omega), if_neg hbg])
      go_wp2_with fail
      refine (number_at w5 hE5 hnum.out (by have := itoa_len n hn; omega) (by omega)).mono ?_
      rintro e w6 ⟨rfl, hB6'⟩
      have hB6 := hB5.trans (hB6'.mono hB5.size)
      have ha := awake_at w6 (hE.below hB6)
      clear hB6' hB5 hE5
      go_wp2_with fail
      refine ha.out.mono ?_
      rintro e w7 ⟨rfl, hB7⟩
      go_wp2_with fail
      go_ret
      exact ⟨rfl, hB6.trans (hB7.mono hB6.size)⟩
end Go.Proofs.YtlfnoadnnkkegaaDoor
