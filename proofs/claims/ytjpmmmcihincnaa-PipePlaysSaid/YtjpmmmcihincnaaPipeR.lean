/- Pipe: the reference's functions. -/
import Derived.Test.YtjpmmmcihincnaaPipeD
import Derived.BigRegion
namespace Go.Proofs.Ytjpmmmcihincnaa
open Go.RowKit

/-- the reference's pipe in block b -/
structure RefIs (w : World) (b : Nat) (l : List UInt8) (r wr : Nat) : Prop where
  s : w.cell? ⟨b, 0, none⟩ = some (.string ⟨l.toArray⟩)
  readers : w.cell? ⟨b, 1, none⟩ = some (.int .i64 r)
  writers : w.cell? ⟨b, 2, none⟩ = some (.int .i64 wr)
  free : ∀ i, w.frozen? ⟨b, i, none⟩ = false
theorem RefIs.keep {w w' : World} {b l r wr} (h : RefIs w b l r wr) (hb : w'.heap[b]? = w.heap[b]?) : RefIs w' b l r wr :=
  ⟨by rw [World.cell?_of_block (w := w) hb]; exact h.s, by rw [World.cell?_of_block (w := w) hb]; exact h.readers, by rw [World.cell?_of_block (w := w) hb]; exact h.writers,
   fun i => by rw [World.frozen?_of_block (w := w) hb]; exact h.free i⟩
theorem RefIs.lt {w : World} {b l r wr} (h : RefIs w b l r wr) : b < w.heap.size := World.block_lt_of_cell? _ _ h.s
theorem RefIs.set_s {w : World} {b l r wr} (h : RefIs w b l r wr) (l' : List UInt8) : RefIs (w.setCell ⟨b, 0, none⟩ (.string ⟨l'.toArray⟩)) b l' r wr :=
  ⟨cs_same h.s, by rw [cs_other (by simp)]; exact h.readers, by rw [cs_other (by simp)]; exact h.writers, fun i => by rw [fz_set]; exact h.free i⟩
theorem RefIs.set_r {w : World} {b l r wr} (h : RefIs w b l r wr) {z : Int} {r' : Nat} (hz : z = r') : RefIs (w.setCell ⟨b, 1, none⟩ (.int .i64 z)) b l r' wr :=
  ⟨by rw [cs_other (by simp)]; exact h.s, by rw [hz]; exact cs_same h.readers, by rw [cs_other (by simp)]; exact h.writers, fun i => by rw [fz_set]; exact h.free i⟩
theorem RefIs.set_w {w : World} {b l r wr} (h : RefIs w b l r wr) {z : Int} {r' : Nat} (hz : z = r') : RefIs (w.setCell ⟨b, 2, none⟩ (.int .i64 z)) b l r r' :=
  ⟨by rw [cs_other (by simp)]; exact h.s, by rw [cs_other (by simp)]; exact h.readers, by rw [hz]; exact cs_same h.writers, fun i => by rw [fz_set]; exact h.free i⟩

theorem rnew_any (w : World) : Calls Try.prog 13 #[] w fun e w' => e = .returned (.pointer (some ⟨w.heap.size, 0, none⟩)) ∧ Below w.heap.size w w' ∧ RefIs w' w.heap.size [] 1 1 := by
  go_enter Try.func13, Try.ntmps13
  go_wp2
  go_ret
  refine ⟨rfl, (Below.refl _ _).alloc (Nat.le_refl _) _, ?_⟩
  exact ⟨World.cell?_alloc_new .., World.cell?_alloc_new .., World.cell?_alloc_new .., fun i => World.frozen?_alloc_new ..⟩
theorem rread_any (n : Int) (b l r wr) (w : World) (hR : RefIs w b l r wr) (hl : l.length ≤ 64) :
    Calls Try.prog 14 #[.pointer (some ⟨b, 0, none⟩), .int .i64 n] w fun e w' => e = .returned (.tuple #[.string ⟨(readRes l r wr n).1.toArray⟩, .int .i64 (readRes l r wr n).2]) ∧ RefIs w' b (readLeft l r n) r wr ∧ w.grownBy w' (some b) := by
  have h1 := hR.readers
  have h2 := hR.writers
  have h3 := hR.s
  have h4 := hR.free 0
  unfold readRes readLeft
  by_cases hr : r = 0
  · subst hr
    go_enter Try.func14, Try.ntmps14
    go_wp2
    go_ret2
    exact ⟨rfl, hR, World.grownBy.refl _ _⟩
  have hc : ((r : Int) == 0) = false := by rw [beq_eq_false_iff_ne]; omega
  by_cases hn : n < 0
  · go_enter Try.func14, Try.ntmps14
    go_wp2
    go_ret2
    exact ⟨rfl, hR, World.grownBy.refl _ _⟩
  rw [if_neg hr, if_neg hn, if_neg (show ¬ (r = 0 ∨ n < 0) by simp [hr, hn])]
  obtain ⟨n', rfl⟩ := Int.eq_ofNat_of_zero_le (Int.not_lt.1 hn)
  by_cases hl0 : l = []
  · subst hl0
    by_cases hw : 0 < wr ∧ 0 < n'
    · obtain ⟨hw1, hw2⟩ := hw
      rw [if_pos (show [] = [] ∧ 0 < wr ∧ (0 : Int) < n' from ⟨rfl, hw1, by omega⟩)]
      have hw3 : (0 : Int) < wr := by omega
      have hw4 : (0 : Int) < n' := by omega
      go_enter Try.func14, Try.ntmps14
      go_wp2
      go_ret2
      exact ⟨rfl, by simpa using hR, World.grownBy.refl _ _⟩
    · rw [if_neg (show ¬ (([] : List UInt8) = [] ∧ 0 < wr ∧ (0 : Int) < n') by intro h; exact hw ⟨h.2.1, by omega⟩)]
      by_cases hn0 : n' = 0
      · subst hn0
        by_cases hw0 : wr = 0
        · subst hw0
          go_enter Try.func14, Try.ntmps14
          go_wp2
          go_ret2
          refine ⟨rfl, hR.set_s [], ?_⟩
          exact grown_at (World.grownBy.refl _ _)
        · have hw3 : (0 : Int) < wr := by omega
          go_enter Try.func14, Try.ntmps14
          go_wp2
          go_ret2
          refine ⟨rfl, hR.set_s [], ?_⟩
          exact grown_at (World.grownBy.refl _ _)
      · obtain rfl : wr = 0 := by omega
        have hn3 : (0 : Int) < n' := by omega
        go_enter Try.func14, Try.ntmps14
        go_wp2
        go_ret2
        refine ⟨rfl, hR.set_s [], ?_⟩
        exact grown_at (World.grownBy.refl _ _)
  · rw [if_neg (show ¬ (l = [] ∧ 0 < wr ∧ (0 : Int) < n') by intro h; exact hl0 h.1)]
    have hl1 : (l == []) = false := by simp [hl0]
    have hl2 : l.isEmpty = false := by simp [hl0]
    by_cases hlt : l.length < n'
    · have hlt' : (l.length : Int) < n' := by omega
      go_enter Try.func14, Try.ntmps14
      go_wp2
      go_ret2
      rw [List.take_of_length_le (by omega), List.drop_of_length_le (by omega)]
      refine ⟨rfl, hR.set_s [], ?_⟩
      exact grown_at (World.grownBy.refl _ _)
    · have hlt' : ¬ (l.length : Int) < n' := by omega
      go_enter Try.func14, Try.ntmps14
      go_wp2
      go_ret2
      refine ⟨rfl, hR.set_s _, ?_⟩
      exact grown_at (World.grownBy.refl _ _)
theorem rwrite_any (s : List UInt8) (hs : s.length ≤ maxLen) (b l r wr) (w : World) (hR : RefIs w b l r wr) (hl : l.length ≤ 64) :
    Calls Try.prog 15 #[.pointer (some ⟨b, 0, none⟩), .string ⟨s.toArray⟩] w fun e w' => e = .returned (.tuple #[.int .i64 (writeRes l r wr s).1, .int .i64 (writeRes l r wr s).2]) ∧ RefIs w' b (writeLeft l r wr s) r wr ∧ w.grownBy w' (some b) := by
  unfold maxLen at hs
  have h1 := hR.readers
  have h2 := hR.writers
  have h3 := hR.s
  have h4 := hR.free 0
  unfold writeRes writeLeft
  by_cases hw : wr = 0
  · subst hw
    go_enter Try.func15, Try.ntmps15
    go_wp2
    go_ret2
    exact ⟨rfl, by simpa using hR, World.grownBy.refl _ _⟩
  have hc : ((wr : Int) == 0) = false := by rw [beq_eq_false_iff_ne]; omega
  by_cases hr : r = 0
  · subst hr
    go_enter Try.func15, Try.ntmps15
    go_wp2
    go_ret2
    exact ⟨by simp, by simpa using hR, World.grownBy.refl _ _⟩
  have hc2 : ((r : Int) == 0) = false := by rw [beq_eq_false_iff_ne]; omega
  rw [if_neg hw, if_neg hr, if_neg (show ¬ (wr = 0 ∨ r = 0) by simp [hw, hr])]
  by_cases hlt : (64 : Int) - l.length < s.length
  · by_cases hfull : l.length = 64
    · have hs0 : s ≠ [] := by intro h; subst h; simp at hlt; omega
      have hs1 : s.isEmpty = false := by simp [hs0]
      rw [if_pos ⟨hfull, hs0⟩]
      have hc4 : ((64 : Int) - l.length == 0) = true := by rw [beq_iff_eq]; omega
      go_enter Try.func15, Try.ntmps15
      go_wp2
      go_ret2
      exact ⟨rfl, by simpa [hfull] using hR, World.grownBy.refl _ _⟩
    · rw [if_neg (show ¬ (l.length = 64 ∧ s ≠ []) from fun h => hfull h.1)]
      have hc4 : ((64 : Int) - l.length == 0) = false := by rw [beq_eq_false_iff_ne]; omega
      go_enter Try.func15, Try.ntmps15
      go_wp2
      go_region
      go_wp2
      go_ret2
      refine ⟨ret_int_v (by omega), (hR.set_s _).keep rfl, ?_⟩
      exact grown_drew (grown_at (World.grownBy.refl _ _))
  · rw [if_neg (show ¬ (l.length = 64 ∧ s ≠ []) from fun h => by
      have h2 : 0 < s.length := List.length_pos_iff.2 h.2
      omega)]
    have hlt' : (s.length : Int) ≤ 64 - l.length := by omega
    by_cases hs0 : s = []
    · subst hs0
      have hx : ¬ (64 : Int) - l.length < 0 := by omega
      go_enter Try.func15, Try.ntmps15
      go_wp2
      go_region
      go_wp2
      go_ret2
      refine ⟨ret_int_v (by simp), ?_, ?_⟩
      · have := (hR.set_s l)
        rw [List.take_nil, List.append_nil]
        exact this.keep rfl
      · exact grown_drew (grown_at (World.grownBy.refl _ _))
    · have hpos : 0 < s.length := List.length_pos_iff.2 hs0
      have hc5 : ((s.length : Int) == 0) = false := by rw [beq_eq_false_iff_ne]; omega
      go_enter Try.func15, Try.ntmps15
      go_wp2
      go_region
      go_wp2
      go_ret2
      refine ⟨ret_int_v (by omega), ?_, ?_⟩
      · have := (hR.set_s (l ++ s))
        rw [List.take_of_length_le (by omega)]
        exact this.keep rfl
      · exact grown_drew (grown_at (World.grownBy.refl _ _))
theorem rjoin_any (t : Bool) (b l r wr) (w : World) (hR : RefIs w b l r wr) (hr : r < 9223372036854775807) (hw : wr < 9223372036854775807) :
    Calls Try.prog 16 #[.pointer (some ⟨b, 0, none⟩), .bool t] w fun e w' => e = .returned (.tuple #[]) ∧ RefIs w' b l (if t then r else r + 1) (if t then wr + 1 else wr) ∧ w.grownBy w' (some b) := by
  have h1 := hR.readers
  have h2 := hR.writers
  have h4 := hR.free
  cases t
  · go_enter Try.func16, Try.ntmps16
    go_wp2
    go_end0
    refine ⟨rfl, hR.set_r (by omega), ?_⟩
    exact grown_at (World.grownBy.refl _ _)
  · go_enter Try.func16, Try.ntmps16
    go_wp2
    go_end0
    refine ⟨rfl, hR.set_w (by omega), ?_⟩
    exact grown_at (World.grownBy.refl _ _)
theorem rleave_w (b l r wr) (w : World) (hR : RefIs w b l r (wr + 1)) (hw : wr < 9223372036854775807) :
    Calls Try.prog 18 #[.pointer (some ⟨b, 0, none⟩), .bool true] w fun e w' => e = .returned (.int .i64 0) ∧ RefIs w' b l r wr ∧ w.grownBy w' (some b) := by
  have h2 := hR.writers
  have h4 := hR.free
  have hc : ((wr : Int) + 1 == 0) = false := by rw [beq_eq_false_iff_ne]; omega
  go_enter Try.func18, Try.ntmps18
  go_wp2
  go_ret
  refine ⟨rfl, hR.set_w (by omega), ?_⟩
  exact grown_at (World.grownBy.refl _ _)
theorem rleave_w0 (b l r) (w : World) (hR : RefIs w b l r 0) :
    Calls Try.prog 18 #[.pointer (some ⟨b, 0, none⟩), .bool true] w fun e w' => e = .returned (.int .i64 28) ∧ w = w' := by
  have h2 := hR.writers
  go_enter Try.func18, Try.ntmps18
  go_wp2
  go_ret
  exact ⟨rfl, rfl⟩
theorem rleave_r0 (b l wr) (w : World) (hR : RefIs w b l 0 wr) :
    Calls Try.prog 18 #[.pointer (some ⟨b, 0, none⟩), .bool false] w fun e w' => e = .returned (.int .i64 28) ∧ w = w' := by
  have h2 := hR.readers
  go_enter Try.func18, Try.ntmps18
  go_wp2
  go_ret
  exact ⟨rfl, rfl⟩
theorem rleave_r (b l r wr) (w : World) (hR : RefIs w b l (r + 1) wr) (hw : r < 9223372036854775807) :
    Calls Try.prog 18 #[.pointer (some ⟨b, 0, none⟩), .bool false] w fun e w' => e = .returned (.int .i64 0) ∧ RefIs w' b (if r = 0 then [] else l) r wr ∧ w.grownBy w' (some b) := by
  have h2 := hR.readers
  have h3 := hR.s
  have h4 := hR.free
  have hc : ((r : Int) + 1 == 0) = false := by rw [beq_eq_false_iff_ne]; omega
  by_cases hr : r = 0
  · subst hr
    go_enter Try.func18, Try.ntmps18
    go_wp2
    go_ret
    refine ⟨rfl, (hR.set_r (r' := 0) (by omega)).set_s [], ?_⟩
    exact grown_at (grown_at (World.grownBy.refl _ _))
  · have hc3 : ((r : Int) == 0) = false := by rw [beq_eq_false_iff_ne]; omega
    go_enter Try.func18, Try.ntmps18
    go_wp2
    go_ret
    refine ⟨rfl, ?_, ?_⟩
    · exact hR.set_r (by omega)
    · exact grown_at (World.grownBy.refl _ _)
end Go.Proofs.Ytjpmmmcihincnaa
