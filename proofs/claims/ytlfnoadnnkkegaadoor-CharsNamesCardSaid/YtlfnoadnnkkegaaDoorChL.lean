/- Chars: the law CharsNames. -/
import Derived.Test.YtlfnoadnnkkegaaDoorChC
import Derived.Test.YtlfnoadnnkkegaaDoorChR
namespace Go.Proofs.YtlfnoadnnkkegaaDoor
open Go.RowKit

theorem cnames_any (l : List UInt8) (hl : l.length ≤ maxLen) (w : World) (hE : Env w) : Calls Tryd.prog 3 #[.string ⟨l.toArray⟩] w fun e w' => e = .returned (.bool true) ∧ Below w.heap.size w w' := by
  have hl2 := hl
  unfold maxLen at hl2
  have haw := Lib.hid (awake_any w hE)
  by_cases hbig : (2000 : Int) < l.length
  · go_enter Tryd.func3, Tryd.ntmps3
    go_wp2_with fail
    go_ret
    exact ⟨rfl, Below.refl _ _⟩
  · go_enter Tryd.func3, Tryd.ntmps3
    go_wp2_with (first
      | (go_at_call 9; refine (front_any l hl _).mono ?_; rintro e w' ⟨rfl, rfl⟩)
      | (go_at_call 10; refine (rfront_any l hl _).mono ?_; rintro e w' ⟨rfl, rfl⟩)
      | (go_at_call 11; refine (name_any l hl _).mono ?_; rintro e w' ⟨rfl, rfl⟩)
      | (go_at_call 12; refine (rname_any l hl _).mono ?_; rintro e w' ⟨rfl, rfl⟩)
      | (go_at_call 13; refine haw.out.mono ?_; rintro e w' ⟨rfl, hB⟩))
    go_ret
    exact ⟨rfl, hB⟩
end Go.Proofs.YtlfnoadnnkkegaaDoor
