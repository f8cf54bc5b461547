/- Chars: the chapter's examples. -/
import Derived.Test.YtlfnoadnnkkegaaDoorChB
namespace Go.Proofs.YtlfnoadnnkkegaaDoor
open Go.RowKit

theorem aw1 : numRes [48, 48, 55] 9 = (7, 0) := by decide +kernel
theorem aw2 : numRes [49, 48] 9 = (0, 3) := by decide +kernel
theorem aw3 : numRes [45, 49] 9 = (0, 10) := by decide +kernel
theorem aw4 : unqRes (quoteL [105, 116, 39, 115]) = ([105, 116, 39, 115], 0) := by decide +kernel
theorem aw5 : frontN [97, 98, 49, 45, 99] = 3 := by decide +kernel
theorem aw6 : nameB [97, 95, 49] = true := by decide +kernel
theorem aw7 : nameB [49, 97] = false := by decide +kernel
theorem aw8 : Lib.itoa (-120) = [45, 49, 50, 48] := by
  simp [Lib.itoa, Lib.decDigits]
theorem aw9 : Lib.join [[97], [], [98]] [47] = [97, 47, 47, 98] := by decide +kernel
theorem number_at {l : List UInt8} {most : Int} {a b : Int} (w : World) (hE : Env w) (h : numRes l most = (a, b)) (hl : l.length ≤ 100000000) (hm : -9223372036854775808 ≤ most ∧ most ≤ 9223372036854775807) :
    Calls Tryd.prog 14 #[.string ⟨l.toArray⟩, .int .i64 most] w fun e w' => e = .returned (.tuple #[.int .i64 a, .int .i64 b]) ∧ Below w.heap.size w w' := by
  have := number_any l hl most hm w hE
  rw [h] at this; exact this
theorem unquote_at {q : List UInt8} {a : List UInt8} {b : Int} (w : World) (hE : Env w) (h : unqRes q = (a, b)) (hq : q.length ≤ 100000000) :
    Calls Tryd.prog 18 #[.string ⟨q.toArray⟩] w fun e w' => e = .returned (.tuple #[.string ⟨a.toArray⟩, .int .i64 b]) ∧ Below w.heap.size w w' := by
  have := unquote_any q hq w hE
  rw [h] at this; exact this
theorem front_at {l : List UInt8} {k : Nat} (w : World) (h : frontN l = k) (hl : l.length ≤ 100000000) :
    Calls Tryd.prog 9 #[.string ⟨l.toArray⟩] w fun e w' => e = .returned (.int .i64 k) ∧ w = w' := by
  have := front_any l (by simp only [maxLen]; omega) w
  rw [h] at this; exact this
theorem name_at {l : List UInt8} {b : Bool} (w : World) (h : nameB l = b) (hl : l.length ≤ 100000000) :
    Calls Tryd.prog 11 #[.string ⟨l.toArray⟩] w fun e w' => e = .returned (.bool b) ∧ w = w' := by
  have := name_any l (by simp only [maxLen]; omega) w
  rw [h] at this; exact this
theorem text_at {l : List UInt8} {n : Int} (w : World) (hE : Env w) (h : Lib.itoa n = l) (h0 : -9223372036854775808 ≤ n ∧ n ≤ 9223372036854775807) :
    Calls Tryd.prog 16 #[.int .i64 n] w fun e w' => e = .returned (.string ⟨l.toArray⟩) ∧ Below w.heap.size w w' := by
  have := text_any n h0 w hE
  rw [h] at this; exact this
theorem join_at {sep l : List UInt8} {v : Value} {L : List (List UInt8)} (w : World) (hS : Strs w v L) (h : Lib.join L sep = l) (hN : L.length ≤ 100000000) (hlen : l.length ≤ 100000000) :
    Calls Tryd.prog 22 #[.string ⟨sep.toArray⟩, v] w fun e w' => e = .returned (.string ⟨l.toArray⟩) ∧ Below w.heap.size w w' := by
  have := join_any sep v L w hS (by omega) (by rw [h]; omega)
  rw [h] at this; exact this
theorem strs_alloc (w : World) (L : List (List UInt8)) (t : TypeId) (hl : L.length ≤ maxLen) (hx : ∀ x ∈ L, x.length ≤ maxLen) :
    Strs (w.alloc (.cells (L.map fun x => Value.string ⟨x.toArray⟩).toArray t)) (.slice (some ⟨w.heap.size, 0, none⟩) L.length L.length) L :=
  ⟨hl, ⟨_, _, rfl, Nat.le_refl _, fun _ => ⟨_, _, rfl, by simp, fun i x h => by
    rw [World.cell?_alloc_new]; simp [h]⟩⟩, fun i x h => hx x (List.mem_of_getElem? h)⟩
set_option maxRecDepth 100000 in
set_option maxHeartbeats 1600000 in
theorem awake_any (w : World) (hE : Env w) : Calls Tryd.prog 13 #[] w fun e w' => e = .returned (.bool true) ∧ Below w.heap.size w w' := by
  go_enter Tryd.func13, Tryd.ntmps13
  go_wp2_with fail
  refine (number_at w hE aw1 (by simp) (by omega)).mono ?_
  rintro e w1 ⟨rfl, hB1⟩
  go_wp2_with fail
  refine (number_at w1 (hE.below hB1) aw2 (by simp) (by omega)).mono ?_
  rintro e w2 ⟨rfl, hB2'⟩
  have hB2 := hB1.trans (hB2'.mono hB1.size)
  clear hB2' hB1
  go_wp2_with fail
  refine (number_at w2 (hE.below hB2) aw3 (by simp) (by omega)).mono ?_
  rintro e w3 ⟨rfl, hB3'⟩
  have hB3 := hB2.trans (hB3'.mono hB2.size)
  clear hB3' hB2
  go_wp2_with fail
  refine (quote_any [105, 116, 39, 115] (by simp) w3 (hE.below hB3)).mono ?_
  rintro e w4 ⟨rfl, hB4'⟩
  have hB4 := hB3.trans (hB4'.mono hB3.size)
  clear hB4' hB3
  go_wp2_with fail
  refine (unquote_at w4 (hE.below hB4) aw4 (by decide)).mono ?_
  rintro e w5 ⟨rfl, hB5'⟩
  have hB5 := hB4.trans (hB5'.mono hB4.size)
  clear hB5' hB4
  go_wp2_with fail
  refine (front_at w5 aw5 (by simp)).mono ?_
  rintro e w6 ⟨rfl, rfl⟩
  go_wp2_with fail
  refine (name_at w5 aw6 (by simp)).mono ?_
  rintro e w6 ⟨rfl, rfl⟩
  go_wp2_with fail
  refine (name_at w5 aw7 (by simp)).mono ?_
  rintro e w6 ⟨rfl, rfl⟩
  go_wp2_with fail
  refine (text_at w5 (hE.below hB5) aw8 (by omega)).mono ?_
  rintro e w6 ⟨rfl, hB6'⟩
  have hB6 := hB5.trans (hB6'.mono hB5.size)
  clear hB6' hB5
  go_wp2_with fail
  have hS := strs_alloc w6 [[97], [], [98]] 9 (by simp [maxLen]) (by intro x hx; simp at hx; rcases hx with rfl | rfl | rfl <;> simp [maxLen])
  have hB7 := hB6.alloc hB6.size (.cells #[.string ⟨#[97]⟩, .string ⟨#[]⟩, .string ⟨#[98]⟩] 9)
  refine (join_at _ hS aw9 (by simp) (by simp)).mono ?_
  rintro e w8 ⟨rfl, hB8'⟩
  have hB8 := hB7.trans (hB8'.mono hB7.size)
  clear hB8' hB7 hS
  go_wp2_with fail
  go_ret
  exact ⟨rfl, hB8⟩

end Go.Proofs.YtlfnoadnnkkegaaDoor
