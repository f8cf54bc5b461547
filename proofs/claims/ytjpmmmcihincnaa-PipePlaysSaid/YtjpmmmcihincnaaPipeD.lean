/- Pipe: the chapter's examples (awake), PipeNil. -/
import Derived.Test.YtjpmmmcihincnaaPipeC
namespace Go.Proofs.Ytjpmmmcihincnaa
open Go.RowKit

def z70 : List UInt8 := List.replicate 70 0
theorem z70_len : z70.length = 70 := by simp [z70]
theorem conv70 (W : World) : (convert 47 9 (.slice (some ⟨W.heap.size, 0, none⟩) 70 70)).run Try.prog (W.alloc (.cells (madeCells #[.int .u8 0] 70) 5)) = .ok (.string ⟨z70.toArray⟩) (W.alloc (.cells (madeCells #[.int .u8 0] 70) 5)) := by
  have := conv_back (W.alloc (.cells (madeCells #[.int .u8 0] 70) 5)) W.heap.size 70 z70 (fun j hj => by
    rw [z70_len] at hj
    rw [World.cell?_alloc_new, madeCells_at _ _ _ hj]
    rw [show z70[j] = 0 from List.getElem_replicate ..]; rfl)
  rw [z70_len] at this
  exact this
theorem grownOwn {W0 w w' : World} {b : Nat} (h : Below W0.heap.size W0 w) (hg : w.grownBy w' (some b)) (hb : W0.heap.size ≤ b) : Below W0.heap.size W0 w' :=
  h.grown hg h.size (fun k e => by cases e; exact hb)

theorem write_at {s : List UInt8} {b l r wr} {w : World} {k : Nat} {er : Int} {l' : List UInt8} (h : PipeSt w b l r wr) (hs : s.length ≤ maxLen) (h1 : writeRes l r wr s = (k, er)) (h2 : writeLeft l r wr s = l') :
    Calls Try.prog 10 #[.pointer (some ⟨b, 0, none⟩), .string ⟨s.toArray⟩] w fun e w' => e = .returned (.tuple #[.int .i64 k, .int .i64 er]) ∧ PipeSt w' b l' r wr ∧ w.grownBy w' (some b) := by
  have := write_st s hs b l r wr w h
  rw [h1, h2] at this
  exact this
theorem read_at {n : Int} {b l r wr} {w : World} {k : List UInt8} {er : Int} {l' : List UInt8} (h : PipeSt w b l r wr) (h1 : readRes l r wr n = (k, er)) (h2 : readLeft l r n = l') :
    Calls Try.prog 9 #[.pointer (some ⟨b, 0, none⟩), .int .i64 n] w fun e w' => e = .returned (.tuple #[.string ⟨k.toArray⟩, .int .i64 er]) ∧ PipeSt w' b l' r wr ∧ w.grownBy w' (some b) := by
  have := read_st n b l r wr w h
  rw [h1, h2] at this
  exact this
theorem awake_w : writeRes [] 1 1 z70 = (64, 0) := by simp [writeRes, z70_len]
def z64 : List UInt8 := z70.take 64
theorem z64_len : z64.length = 64 := by simp [z64, z70_len]
def z61 : List UInt8 := z64.drop 3
def z3 : List UInt8 := z64.take 3
theorem z61_len : z61.length = 61 := by simp [z61, z64_len]
theorem z3_len : z3.length = 3 := by simp [z3, z64_len]
theorem z3_size : (ByteArray.mk z3.toArray).size = 3 := by simp [ByteArray.size, z3_len]

set_option maxHeartbeats 400000 in
theorem awake_any (w : World) : Calls Try.prog 8 #[] w fun e w' => e = .returned (.bool true) ∧ Below w.heap.size w w' := by
  have hm := fun w => make_u8 w 70 (by omega) (by omega)
  have hcv := conv70
  have hz3 := z3_size
  go_enter Try.func8, Try.ntmps8
  go_wp2_with fail
  refine (new_st w).mono ?_
  rintro e w1 ⟨rfl, hB1, hS1⟩
  go_wp2_with fail
  have hB2 : Below w.heap.size w (w1.alloc (.cells (madeCells #[.int .u8 0] 70) 5)) := hB1.alloc hB1.size _
  have hS2 : PipeSt (w1.alloc (.cells (madeCells #[.int .u8 0] 70) 5)) w.heap.size [] 1 1 := hS1.keep (Below.heap_alloc _ _ _ hS1.lt)
  refine (write_at hS2 (by rw [z70_len]; simp [maxLen]) awake_w (l' := z64) (by simp [writeLeft, z64])).mono ?_
  rintro e w3 ⟨rfl, hS3, hG3⟩
  have hB3 := grownOwn hB2 hG3 (Nat.le_refl _)
  go_wp2_with fail
  refine (write_at hS3 (by simp [maxLen]) (k := 0) (er := 30) (by simp [writeRes, z64_len]) (l' := z64) (by simp [writeLeft, z64_len])).mono ?_
  rintro e w4 ⟨rfl, hS4, hG4⟩
  have hB4 := grownOwn hB3 hG4 (Nat.le_refl _)
  go_wp2_with fail
  refine (read_at hS4 (k := z3) (er := 0) (by simp [readRes, z3]; intro h; have := z64_len; rw [h] at this; simp at this) (l' := z61) (by simp [readLeft, z61])).mono ?_
  rintro e w5 ⟨rfl, hS5, hG5⟩
  have hB5 := grownOwn hB4 hG5 (Nat.le_refl _)
  go_wp2_with fail
  refine (write_at hS5 (by simp [maxLen]) (k := 3) (er := 0) (by simp [writeRes, z61_len]) rfl).mono ?_
  rintro e w6 ⟨rfl, hS6, hG6⟩
  have hB6 := grownOwn hB5 hG6 (Nat.le_refl _)
  go_wp2_with fail
  go_ret
  exact ⟨rfl, hB6⟩

theorem pnil_any (s : List UInt8) (_hs : s.length ≤ maxLen) (n : Int) (_hn : -9223372036854775808 ≤ n ∧ n ≤ 9223372036854775807) (w : World) : Calls Try.prog 6 #[.string ⟨s.toArray⟩, .int .i64 n] w fun e w' => e = .returned (.bool true) ∧ Below w.heap.size w w' := by
  go_enter Try.func6, Try.ntmps6
  go_wp2_with (first
    | (go_at_call 9; refine (read_nil _ _).mono ?_; rintro e w' ⟨rfl, rfl⟩)
    | (go_at_call 10; refine (write_nil _ _).mono ?_; rintro e w' ⟨rfl, rfl⟩)
    | (go_at_call 19; refine (pusers_nil _).mono ?_; rintro e w' ⟨rfl, rfl⟩)
    | (go_at_call 17; refine (join_nil _ _).mono ?_; rintro e w' ⟨rfl, rfl⟩)
    | (go_at_call 12; refine (leave_nil _ _).mono ?_; rintro e w' ⟨rfl, rfl⟩)
    | (go_at_call 11; refine (len_nil _).mono ?_; rintro e w' ⟨rfl, rfl⟩)
    | (go_at_call 8; refine (awake_any _).mono ?_; rintro e w' ⟨rfl, hB⟩))
  go_ret
  exact ⟨rfl, hB⟩
set_option maxHeartbeats 400000 in
theorem plost_any (s : List UInt8) (hs : s.length ≤ maxLen) (n : Int) (hn : -9223372036854775808 ≤ n ∧ n ≤ 9223372036854775807) (w : World) : Calls Try.prog 4 #[.string ⟨s.toArray⟩, .int .i64 n] w fun e w' => e = .returned (.bool true) ∧ Below w.heap.size w w' := by
  have hsz : (ByteArray.mk s.toArray).size = s.length := by simp [ByteArray.size]
  have hsm := hs
  unfold maxLen at hsm
  by_cases hbig : 1000 < s.length
  · have hb : decide ((1000 : Int) < s.length) = true := by simp; omega
    go_enter Try.func4, Try.ntmps4
    go_wp2_with (go_at_call 8; refine (awake_any _).mono ?_; rintro e w' ⟨rfl, hB⟩)
    go_ret
    exact ⟨rfl, hB⟩
  obtain ⟨k1, e1, hw1⟩ : ∃ k er, writeRes [] 1 1 s = (k, er) := ⟨_, _, rfl⟩
  have hw2 : writeRes [] 0 1 s = (s.length, 0) := rfl
  have hw3 : writeRes [] 1 0 s = (0, 28) := rfl
  have hr1 : readRes [] 0 1 n = ([], 28) := rfl
  go_enter Try.func4, Try.ntmps4
  go_wp2_with fail
  refine (new_st w).mono ?_
  rintro e w1 ⟨rfl, hB1, hS1⟩
  go_wp2_with fail
  refine (write_at hS1 hs hw1 rfl).mono ?_
  rintro e w2 ⟨rfl, hS2, hG2⟩
  have hB2 := grownOwn hB1 hG2 (Nat.le_refl _)
  clear hw1
  go_wp2_with fail
  refine (leave_r_st _ _ 0 1 _ hS2 (by omega)).mono ?_
  rintro e w3 ⟨rfl, hS3, hG3⟩
  have hB3 := grownOwn hB2 hG3 (Nat.le_refl _)
  rw [if_pos rfl] at hS3
  go_wp2_with fail
  refine (len_st _ _ _ _ _ hS3).mono ?_
  rintro e w4 ⟨rfl, rfl⟩
  go_wp2_with fail
  refine (write_at hS3 hs hw2 rfl).mono ?_
  rintro e w4 ⟨rfl, hS4, hG4⟩
  have hB4 := grownOwn hB3 hG4 (Nat.le_refl _)
  go_wp2_with fail
  refine (read_at hS4 hr1 rfl).mono ?_
  rintro e w5 ⟨rfl, hS5, hG5⟩
  have hB5 := grownOwn hB4 hG5 (Nat.le_refl _)
  go_wp2_with fail
  have hS6 : PipeSt w5 w.heap.size [] 0 1 := hS5
  refine (len_st _ _ _ _ _ hS6).mono ?_
  rintro e w6 ⟨rfl, rfl⟩
  go_wp2_with fail
  refine (leave_r0_st _ _ _ _ hS6).mono ?_
  rintro e w6 ⟨rfl, rfl⟩
  go_wp2_with fail
  refine (new_st w5).mono ?_
  rintro e w6 ⟨rfl, hB6, hT1⟩
  have hC1 := hB5.trans (hB6.mono hB5.size)
  have hsz5 : w.heap.size ≤ w5.heap.size := hB5.size
  clear hB6
  go_wp2_with fail
  refine (leave_w_st _ _ _ 0 _ hT1 (by omega)).mono ?_
  rintro e w7 ⟨rfl, hT2, hG7⟩
  have hC2 := grownOwn hC1 hG7 hsz5
  rw [if_neg (by omega)] at hT2
  have hr0 : ∀ z : Int, 0 ≤ z → readRes [] 1 0 z = ([], 0) := fun z hz => by simp [readRes]; omega
  by_cases hn0 : (0 : Int) ≤ n
  · have hr2 := hr0 n (by omega)
    clear hr0
    go_wp2_with fail
    refine (read_at hT2 hr2 rfl).mono ?_
    rintro e w8 ⟨rfl, hT3, hG8⟩
    have hC3 := grownOwn hC2 hG8 hsz5
    have hT4 : PipeSt w8 w5.heap.size [] 1 0 := by simpa [readLeft] using hT3
    go_wp2_with fail
    refine (write_at hT4 hs hw3 rfl).mono ?_
    rintro e w9 ⟨rfl, hT5, hG9⟩
    have hC4 := grownOwn hC3 hG9 hsz5
    go_wp2_with fail
    refine (awake_any _).mono ?_
    rintro e w10 ⟨rfl, hB10⟩
    have hC5 := hC4.trans (hB10.mono hC4.size)
    go_wp2_with fail
    go_ret
    exact ⟨rfl, hC5⟩
  · have hr2 := hr0 0 (by omega)
    clear hr0
    go_wp2_with fail
    refine (read_at hT2 hr2 rfl).mono ?_
    rintro e w8 ⟨rfl, hT3, hG8⟩
    have hC3 := grownOwn hC2 hG8 hsz5
    have hT4 : PipeSt w8 w5.heap.size [] 1 0 := by simpa [readLeft] using hT3
    go_wp2_with fail
    refine (write_at hT4 hs hw3 rfl).mono ?_
    rintro e w9 ⟨rfl, hT5, hG9⟩
    have hC4 := grownOwn hC3 hG9 hsz5
    go_wp2_with fail
    refine (awake_any _).mono ?_
    rintro e w10 ⟨rfl, hB10⟩
    have hC5 := hC4.trans (hB10.mono hC4.size)
    go_wp2_with fail
    go_ret
    exact ⟨rfl, hC5⟩
end Go.Proofs.Ytjpmmmcihincnaa
