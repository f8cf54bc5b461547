/- Chars: bytes that are among some; the law CharsBytes. -/
import Derived.Test.YtlfnoadnnkkegaaDoorChC
import Derived.Test.YtlfnoadnnkkegaaDoorChR
namespace Go.Proofs.YtlfnoadnnkkegaaDoor
open Go.RowKit

theorem idxB_any (l : List UInt8) (c : UInt8) (w : World) : Calls Tryd.prog 53 #[.string ⟨l.toArray⟩, .int .u8 c.toNat] w fun e w' => e = .returned (.int .i64 (Lib.indexByte l c)) ∧ w = w' := by
  have := Tryd.strings_IndexByte ⟨l.toArray⟩ c.toNat w
  have e : (ByteArray.mk l.toArray).data.toList = l := by simp
  rw [e] at this
  have e2 : ((c.toNat : Int).toNat).toUInt8 = c := by simp
  rw [e2] at this
  exact this.mono fun _ _ h => ⟨h.1, h.2.symm⟩
def blankB (c : UInt8) : Bool := decide (0 ≤ Lib.indexByte [32, 9] c)
def metaB (c : UInt8) : Bool := decide (0 ≤ Lib.indexByte [32, 9, 10, 124, 38, 59, 60, 62, 40, 41] c)
theorem blank_any (c : UInt8) (w : World) : Calls Tryd.prog 24 #[.int .u8 c.toNat] w fun e w' => e = .returned (.bool (blankB c)) ∧ Below w.heap.size w w' := by
  go_enter Tryd.func24, Tryd.ntmps24
  go_wp2_with (first
    | (go_at_call 53; refine (idxB_any [32, 9] c _).mono ?_; rintro e w' ⟨rfl, rfl⟩)
    | go_in)
  go_ret
  exact ⟨rfl, (Below.refl _ _).alloc (Nat.le_refl _) _⟩
theorem meta_any (c : UInt8) (w : World) : Calls Tryd.prog 30 #[.int .u8 c.toNat] w fun e w' => e = .returned (.bool (metaB c)) ∧ Below w.heap.size w w' := by
  go_enter Tryd.func30, Tryd.ntmps30
  go_wp2_with (first
    | (go_at_call 53; refine (idxB_any [32, 9, 10, 124, 38, 59, 60, 62, 40, 41] c _).mono ?_; rintro e w' ⟨rfl, rfl⟩)
    | go_in)
  go_ret
  exact ⟨rfl, (Below.refl _ _).alloc (Nat.le_refl _) _⟩
theorem blankB_eq (c : UInt8) : blankB c = ((c.toNat : Int) == 32 || (c.toNat : Int) == 9) := by
  have h : ∀ n : Fin 256, blankB (UInt8.ofNat n) = (((n : Nat) : Int) == 32 || ((n : Nat) : Int) == 9) := by decide +kernel
  have := h ⟨c.toNat, c.toNat_lt⟩
  simpa using this
theorem metaB_eq (c : UInt8) : metaB c = ([32, 9, 10, 124, 38, 59, 60, 62, 40, 41] : List Int).contains (c.toNat : Int) := by
  have h : ∀ n : Fin 256, metaB (UInt8.ofNat n) = ([32, 9, 10, 124, 38, 59, 60, 62, 40, 41] : List Int).contains ((n : Nat) : Int) := by decide +kernel
  have := h ⟨c.toNat, c.toNat_lt⟩
  simpa using this
theorem rblank_any (c : UInt8) (w : World) : Calls Tryd.prog 25 #[.int .u8 c.toNat] w fun e w' => e = .returned (.bool (blankB c)) ∧ w = w' := by
  have hE := Lib.hid (blankB_eq c)
  go_enter Tryd.func25, Tryd.ntmps25
  go_wp2
  all_goals go_ret
  all_goals refine ⟨ret_bool ?_, rfl⟩
  all_goals rw [hE.out]
  all_goals first | (simp_all; done) | (simp_all <;> omega; done) | (rw [Bool.eq_iff_iff]; simp; omega)
theorem rmeta_any (c : UInt8) (w : World) : Calls Tryd.prog 31 #[.int .u8 c.toNat] w fun e w' => e = .returned (.bool (metaB c)) ∧ w = w' := by
  have hE := Lib.hid (metaB_eq c)
  go_enter Tryd.func31, Tryd.ntmps31
  go_wp2
  all_goals go_ret
  all_goals refine ⟨ret_bool ?_, rfl⟩
  all_goals rw [hE.out]
  all_goals first | (simp_all; done) | (simp_all <;> omega; done) | (rw [Bool.eq_iff_iff]; simp; omega)
theorem cbytes_any (n : Int) (hn : 0 ≤ n ∧ n ≤ 255) (w : World) (hE : Env w) : Calls Tryd.prog 8 #[.int .u8 n] w fun e w' => e = .returned (.bool true) ∧ Below w.heap.size w w' := by
  obtain ⟨c, rfl⟩ : ∃ c : UInt8, n = c.toNat := ⟨UInt8.ofNat n.toNat, by rw [UInt8.toNat_ofNat']; omega⟩
  clear hn
  go_enter Tryd.func8, Tryd.ntmps8
  go_wp2_with fail
  refine (blank_any c w).mono ?_
  rintro e w1 ⟨rfl, hB1⟩
  go_wp2_with (first
    | (go_at_call 25; refine (rblank_any c _).mono ?_; rintro e w' ⟨rfl, rfl⟩)
    | (go_at_call 26; refine (digit_any c _).mono ?_; rintro e w' ⟨rfl, rfl⟩)
    | (go_at_call 27; refine (rdigit_any c _).mono ?_; rintro e w' ⟨rfl, rfl⟩)
    | (go_at_call 28; refine (alpha_any c _).mono ?_; rintro e w' ⟨rfl, rfl⟩)
    | (go_at_call 29; refine (ralpha_any c _).mono ?_; rintro e w' ⟨rfl, rfl⟩))
  refine (meta_any c w1).mono ?_
  rintro e w2 ⟨rfl, hB2'⟩
  have hB2 := hB1.trans (hB2'.mono hB1.size)
  have ha := Lib.hid (awake_any w2 (hE.below hB2))
  clear hB2' hB1
  go_wp2_with (go_at_call 31; refine (rmeta_any c _).mono ?_; rintro e w' ⟨rfl, rfl⟩)
  refine ha.out.mono ?_
  rintro e w3 ⟨rfl, hB3⟩
  go_wp2_with fail
  go_ret
  exact ⟨rfl, hB2.trans (hB3.mono hB2.size)⟩
end Go.Proofs.YtlfnoadnnkkegaaDoor
