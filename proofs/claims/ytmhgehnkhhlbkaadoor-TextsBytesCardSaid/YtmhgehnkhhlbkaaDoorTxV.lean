/- Texts: the laws on counts, turns. -/
import Derived.Test.YtmhgehnkhhlbkaaDoorTxU
namespace Go.Proofs.YtmhgehnkhhlbkaaDoor
open Go.RowKit

theorem mem1 {p : List UInt8 → Prop} {a : List UInt8} (h : p a) : ∀ x, x ∈ [a] → p x := by intro x hx; simp at hx; subst hx; exact h
theorem mem2 {p : List UInt8 → Prop} {a b : List UInt8} (ha : p a) (hb : p b) : ∀ x, x ∈ [a, b] → p x := by intro x hx; simp at hx; rcases hx with rfl | rfl <;> assumption
theorem mem3 {p : List UInt8 → Prop} {a b c : List UInt8} (ha : p a) (hb : p b) (hc : p c) : ∀ x, x ∈ [a, b, c] → p x := by intro x hx; simp at hx; rcases hx with rfl | rfl | rfl <;> assumption
set_option maxRecDepth 100000 in
theorem counts_any (s : List UInt8) (hs : s.length ≤ maxLen) (w : World) (hE : Env w) (hl0 : s.length + 1 + 0 ≤ 1048576) :
    Calls Tryd.prog 3 #[.string ⟨s.toArray⟩] w fun e w' => e = .returned (.bool true) ∧ Below w.heap.size w w' := by
  have hl : s.length ≤ 1048576 := by omega
  clear hl0
  have H1 := Lib.hid (wc_any s hl w)
  have H2 := Lib.hid (rwc_any s hl)
  have HF := Lib.hid (fun w1 : World => few_any (.slice (some ⟨w1.heap.size, 0, none⟩) 1 1) [s] (w1.alloc (.cells #[.string ⟨s.toArray⟩] 9)) (strs_lit w1 [s] _ 1 rfl (by simp) (mem1 hs) rfl _) (by simp))
  generalize s.count 10 = n1 at *
  generalize wordsAt true s = n2 at *
  generalize s.length = n3 at *
  generalize fewL [s] = fb at *
  go_enter Tryd.func3, Tryd.ntmps3
  go_wp2_with fail
  refine H1.out.mono ?_
  rintro e w1 ⟨rfl, hB1⟩
  go_wp2_with fail
  refine (H2.out w1).mono ?_
  rintro e w1' ⟨rfl, rfl⟩
  go_wp2_with fail
  refine (HF.out w1).mono ?_
  rintro e w1' ⟨rfl, rfl⟩
  have hA := below_tr hB1 (below_alloc w1 (.cells #[.string ⟨s.toArray⟩] 9))
  have hE1 := hE.below hA
  have q1 : ((n1 : Int) == (n1 : Int)) = true := by simp
  have q2 : ((n2 : Int) == (n2 : Int)) = true := by simp
  have q3 : ((n3 : Int) == (n3 : Int)) = true := by simp
  cases fb with
  | true =>
    go_wp2_with fail
    refine (awake_any _ hE1).mono ?_
    rintro e w2 ⟨rfl, hB2⟩
    go_wp2_with fail
    go_ret
    exact ⟨rfl, below_tr hA hB2⟩
  | false =>
    go_wp2_with fail
    refine (awake_any _ hE1).mono ?_
    rintro e w2 ⟨rfl, hB2⟩
    go_wp2_with fail
    go_ret
    exact ⟨rfl, below_tr hA hB2⟩
set_option maxRecDepth 100000 in
theorem turns_any (s : List UInt8) (hs : s.length ≤ maxLen) (f : List UInt8) (hf : f.length ≤ maxLen) (t : List UInt8) (ht : t.length ≤ maxLen) (w : World) (hE : Env w) :
    Calls Tryd.prog 4 #[.string ⟨s.toArray⟩, .string ⟨f.toArray⟩, .string ⟨t.toArray⟩] w fun e w' => e = .returned (.bool true) ∧ Below w.heap.size w w' := by
  have HF := Lib.hid (few_any (.slice (some ⟨w.heap.size, 0, none⟩) 3 3) [s, f, t] (w.alloc (.cells #[.string ⟨s.toArray⟩, .string ⟨f.toArray⟩, .string ⟨t.toArray⟩] 9)) (strs_lit w [s, f, t] _ 3 rfl (by simp) (mem3 hs hf ht) rfl _) (by simp))
  have hA := below_alloc w (.cells #[.string ⟨s.toArray⟩, .string ⟨f.toArray⟩, .string ⟨t.toArray⟩] 9)
  have hE1 := hE.below hA
  cases hfew : fewL [s, f, t] with
  | false =>
    rw [hfew] at HF
    clear hfew
    go_enter Tryd.func4, Tryd.ntmps4
    go_wp2_with fail
    refine HF.out.mono ?_
    rintro e w1' ⟨rfl, rfl⟩
    go_wp2_with fail
    refine (awake_any _ hE1).mono ?_
    rintro e w2 ⟨rfl, hB2⟩
    go_wp2_with fail
    go_ret
    exact ⟨rfl, below_tr hA hB2⟩
  | true =>
    rw [hfew] at HF
    have h5 := ((few_iff _).1 hfew).1
    have s5 := h5 s (by simp)
    have f5 := h5 f (by simp)
    have t5 := h5 t (by simp)
    have H1 := Lib.hid (tr_any s f t f5 t5 s5)
    have H2 := Lib.hid (rtr_any s f t f5 t5 s5)
    have H3 := Lib.hid (drop_any s f f5 s5)
    have H4 := Lib.hid (rdrop_any s f f5 s5)
    clear hfew h5
    go_enter Tryd.func4, Tryd.ntmps4
    go_wp2_with fail
    refine HF.out.mono ?_
    rintro e w1' ⟨rfl, rfl⟩
    generalize trL s f t = r1 at *
    generalize dropL s f = r2 at *
    unfold TxtRes txtRet at H1 H2 H3 H4
    generalize (Option.getD r1 []) = g1 at *
    generalize (Option.getD r2 []) = g2 at *
    generalize (if r1.isSome = true then (0 : Int) else 1) = i1 at *
    generalize (if r2.isSome = true then (0 : Int) else 1) = i2 at *
    go_wp2_with fail
    refine (H1.out _).mono ?_
    rintro e w2 ⟨rfl, hB2⟩
    go_wp2_with fail
    refine (H2.out _).mono ?_
    rintro e w3 ⟨rfl, hB3⟩
    go_wp2_with fail
    refine (H3.out _).mono ?_
    rintro e w4 ⟨rfl, hB4⟩
    go_wp2_with fail
    refine (H4.out _).mono ?_
    rintro e w5 ⟨rfl, hB5⟩
    have hBB := below_tr (below_tr (below_tr (below_tr hA hB2) hB3) hB4) hB5
    have hE5 := hE.below hBB
    have q1 : (g1 == g1) = true := by simp
    have q2 : (g2 == g2) = true := by simp
    have q3 : (i1 == i1) = true := by simp
    have q4 : (i2 == i2) = true := by simp
    go_wp2_with fail
    refine (awake_any _ hE5).mono ?_
    rintro e w6 ⟨rfl, hB6⟩
    go_wp2_with fail
    go_ret
    exact ⟨rfl, below_tr hBB hB6⟩
end Go.Proofs.YtmhgehnkhhlbkaaDoor
