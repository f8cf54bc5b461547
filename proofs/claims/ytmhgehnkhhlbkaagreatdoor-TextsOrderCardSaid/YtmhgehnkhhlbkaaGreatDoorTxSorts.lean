/- Texts: lines in order, the law. -/
import Derived.Test.YtmhgehnkhhlbkaaGreatDoorTxKr
namespace Go.Proofs.YtmhgehnkhhlbkaaGreatDoor
open Go.RowKit

theorem one_mem {s : List UInt8} (h : s.length ≤ maxLen) : ∀ x, x ∈ [s] → x.length ≤ maxLen := fun x hx => by
  have : x = s := by simpa using hx
  rw [this]; exact h
set_option maxRecDepth 100000 in
theorem sorts_any (s : List UInt8) (hs : s.length ≤ maxLen) (back once : Bool) (w : World) (hE : Env w) :
    Calls Tryz.prog 3 #[.string ⟨s.toArray⟩, .bool back, .bool once] w fun e w' => e = .returned (.bool true) ∧ Below w.heap.size w w' := by
  have HF := Lib.hid (few_any (.slice (some ⟨w.heap.size, 0, none⟩) 1 1) [s] (w.alloc (.cells #[.string ⟨s.toArray⟩] 9)) (strs_lit w [s] _ 1 rfl (by simp) (one_mem hs) rfl _) (by simp))
  have hA := below_alloc w (.cells #[.string ⟨s.toArray⟩] 9)
  have hE1 := hE.below hA
  cases hfew : fewL [s] with
  | false =>
    rw [hfew] at HF
    clear hfew
    go_enter Tryz.func3, Tryz.ntmps3
    go_wp2_with fail
    refine HF.out.mono ?_
    rintro e w1' ⟨rfl, rfl⟩
    go_wp2_with fail
    refine (awake_any _ hE1).mono ?_
    rintro e w2 ⟨rfl, hB2⟩
    go_wp2_with fail
    go_ret
    exact ⟨rfl, below_tr hA hB2⟩
  | true =>
    rw [hfew] at HF
    have s5 := ((few_iff _).1 hfew).1 s (by simp)
    have H1 := Lib.hid (sort_any s back once (by omega))
    have H2 := Lib.hid (rsort_any s back once s5)
    clear hfew
    generalize joinL (libL back once (linesL s)) = g1 at *
    have q1 : (g1 == g1) = true := by simp
    go_enter Tryz.func3, Tryz.ntmps3
    go_wp2_with fail
    refine HF.out.mono ?_
    rintro e w1' ⟨rfl, rfl⟩
    go_wp2_with fail
    refine (H1.out _ hE1).mono ?_
    rintro e w2 ⟨rfl, hB2⟩
    have hB12 := below_tr hA hB2
    go_wp2_with fail
    refine (H2.out _).mono ?_
    rintro e w3 ⟨rfl, hB3⟩
    have hBB := below_tr hB12 hB3
    have hE5 := hE.below hBB
    go_wp2_with fail
    refine (awake_any _ hE5).mono ?_
    rintro e w6 ⟨rfl, hB6⟩
    go_wp2_with fail
    go_ret
    exact ⟨rfl, below_tr hBB hB6⟩
end Go.Proofs.YtmhgehnkhhlbkaaGreatDoor
