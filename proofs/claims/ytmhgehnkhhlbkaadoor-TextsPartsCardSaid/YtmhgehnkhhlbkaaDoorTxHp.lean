/- Texts, plain law: first and last lines. -/
import Derived.Test.YtmhgehnkhhlbkaaDoorTxL
namespace Go.Proofs.YtmhgehnkhhlbkaaDoor
open Go.Lib

def headL (l : List UInt8) (n : Nat) : List UInt8 := ((cutL [10] l).take n).flatten
/-- the pieces, each with its feed, without an empty one at the end -/
def cutA (l : List UInt8) : List (List UInt8) := if (cutL [10] l).getLast? = some [] then (cutL [10] l).dropLast else cutL [10] l
def tailL (l : List UInt8) (n : Nat) : List UInt8 := ((cutA l).drop ((cutA l).length - n)).flatten
theorem headL_zero (l : List UInt8) : headL l 0 = [] := by simp [headL]
theorem headL_nil (n : Nat) : headL [] n = [] := by cases n <;> simp [headL, cutL]
theorem headL_feed (t : List UInt8) (n : Nat) : headL (10 :: t) (n + 1) = 10 :: headL t n := by
  rw [headL, cutL, if_pos rfl, List.take_succ_cons, List.flatten_cons]; rfl
theorem headL_other (c : UInt8) (t : List UInt8) (n : Nat) (h : c ≠ 10) : headL (c :: t) (n + 1) = c :: headL t (n + 1) := by
  rw [headL, cutL, if_neg h, headL]
  cases hc : cutL [10] t with
  | nil => exact absurd hc (cutL_ne _ _)
  | cons x r => simp [onto]
/-- the lines' feeds: the pieces with feeds are the pieces without them, each (but the last) with one -/
theorem cut_len (f : List UInt8) : ∀ l, (cutL f l).length = (cutL [] l).length
  | [] => rfl
  | c :: t => by
    have ih := cut_len f t
    rw [cutL, cutL]
    split
    · simp [ih]
    · cases h1 : cutL f t with
      | nil => exact absurd h1 (cutL_ne _ _)
      | cons x r =>
        cases h2 : cutL [] t with
        | nil => exact absurd h2 (cutL_ne _ _)
        | cons y q => rw [h1, h2] at ih; simpa [onto] using ih
theorem onto_last (c : UInt8) (L : List (List UInt8)) (h : 2 ≤ L.length) : (onto c L).getLast? = L.getLast? := by
  match L, h with
  | x :: y :: r, _ => rfl
/-- the last piece is the same, with feeds or without -/
theorem cut_last (f : List UInt8) : ∀ l, (cutL f l).getLast? = (cutL [] l).getLast?
  | [] => rfl
  | c :: t => by
    have ih := cut_last f t
    have hl := cut_len f t
    rw [cutL, cutL]
    cases h1 : cutL f t with
    | nil => exact absurd h1 (cutL_ne _ _)
    | cons x r =>
      cases h2 : cutL [] t with
      | nil => exact absurd h2 (cutL_ne _ _)
      | cons y q =>
        rw [h1, h2] at ih hl
        split
        · simpa using ih
        · cases r with
          | nil =>
            cases q with
            | nil => simp at ih; simp [onto, ih]
            | cons _ _ => simp at hl
          | cons x2 r2 =>
            cases q with
            | nil => simp at hl
            | cons y2 q2 => rw [onto_last _ _ (by simp), onto_last _ _ (by simp)]; exact ih
theorem cutA_len (l : List UInt8) : (cutA l).length = (linesL l).length := by
  have hl := cut_len [10] l
  have hlast := cut_last [10] l
  unfold cutA
  rcases cut_lines l with ⟨r, h1, h2⟩ | ⟨h1, r, x, h2, h3⟩
  · rw [h1] at hlast hl
    rw [if_pos (by rw [hlast]; simp), h2, List.length_dropLast, hl]; simp
  · rw [h2] at hlast hl
    rw [if_neg (by rw [hlast]; simp [h3]), h1, h2, hl]
theorem cutA_flat (l : List UInt8) : (cutA l).flatten = l := by
  have hf := cut_flat l
  unfold cutA
  split
  · rename_i h
    obtain ⟨r, hr⟩ : ∃ r, cutL [10] l = r ++ [[]] := by
      refine ⟨(cutL [10] l).dropLast, ?_⟩
      have hne := cutL_ne [10] l
      have := List.dropLast_concat_getLast hne
      rw [List.getLast?_eq_some_getLast hne] at h
      rw [Option.some.inj h] at this; exact this.symm
    rw [hr] at hf ⊢
    simpa using hf
  · exact hf
theorem cutA_take (l : List UInt8) (k : Nat) (hk : k ≤ (cutA l).length) : (cutL [10] l).take k = (cutA l).take k := by
  unfold cutA at hk ⊢
  split
  · rename_i h
    rw [if_pos h, List.length_dropLast] at hk
    rw [List.dropLast_eq_take, List.take_take, Nat.min_eq_left hk]
  · rfl
theorem head_cut (l : List UInt8) (k : Nat) (hk : k ≤ (linesL l).length) : headL l k = ((cutA l).take k).flatten := by
  rw [headL, cutA_take l k (by rw [cutA_len]; exact hk)]
theorem head_tail (l : List UInt8) (k : Nat) (hk : k ≤ (linesL l).length) : headL l k ++ tailL l ((linesL l).length - k) = l := by
  rw [head_cut l k hk, tailL, cutA_len, show (linesL l).length - ((linesL l).length - k) = k by omega, ← List.flatten_append, List.take_append_drop, cutA_flat]
theorem head_all (l : List UInt8) (n : Nat) (h : (linesL l).length < n) : headL l n = l := by
  rw [headL, List.take_of_length_le, cut_flat]
  have h1 := cut_len [10] l
  rcases cut_lines l with ⟨r, h2, h3⟩ | ⟨h2, _⟩
  · rw [h1, h2]; rw [h3] at h; simp; omega
  · rw [h1, ← h2]; omega
theorem tail_all (l : List UInt8) (n : Nat) (h : (linesL l).length ≤ n) : tailL l n = l := by
  rw [tailL, cutA_len, show (linesL l).length - n = 0 by omega, List.drop_zero, cutA_flat]
theorem tail_some (l : List UInt8) (n : Nat) (h : n ≤ (linesL l).length) : tailL l n = l.drop (headL l ((linesL l).length - n)).length := by
  have h2 := head_tail l ((linesL l).length - n) (by omega)
  rw [show (linesL l).length - ((linesL l).length - n) = n by omega] at h2
  conv => rhs; rw [← h2]
  rw [List.drop_left']
  rw [h2]
theorem tailL_zero (l : List UInt8) : tailL l 0 = [] := by simp [tailL]
theorem headL_len (l : List UInt8) (n : Nat) : (headL l n).length ≤ l.length := by
  have h := cut_flat l
  have : headL l n ++ ((cutL [10] l).drop n).flatten = l := by
    rw [headL, ← List.flatten_append, List.take_append_drop, h]
  have := congrArg List.length this
  rw [List.length_append] at this; omega
theorem joinL_count : ∀ (L : List (List UInt8)), (∀ x, x ∈ L → (10 : UInt8) ∉ x) → (joinL L).count 10 = L.length
  | [], _ => by simp [joinL]
  | x :: r, h => by
    have ih := joinL_count r (fun y hy => h y (List.mem_cons_of_mem _ hy))
    have hx := List.count_eq_zero.2 (h x (by simp))
    simp only [joinL, List.map_cons, List.flatten_cons, List.count_append] at ih ⊢
    rw [ih, hx]; simp; omega
/-- a text's lines, each with a feed: as long as the text, or one longer where the last line lacks its feed -/
theorem joinL_lines_len : ∀ l : List UInt8, (joinL (linesL l)).length = l.length + (if l = [] ∨ l.getLast? = some 10 then 0 else 1)
  | [] => by simp [joinL, linesL]
  | c :: t => by
    have ih := joinL_lines_len t
    by_cases hc : c = 10
    · subst hc
      rw [linesL, if_pos rfl]
      have e : joinL ([] :: linesL t) = 10 :: joinL (linesL t) := by simp [joinL]
      rw [e, List.length_cons, ih]
      cases t with
      | nil => simp
      | cons d r => simp <;> omega
    · rw [linesL, if_neg hc]
      cases t with
      | nil => simp [linesL, onto, joinL, hc]
      | cons d r =>
        have hne : linesL (d :: r) ≠ [] := by
          rw [linesL]; split
          · simp
          · cases linesL r <;> simp [onto]
        have e : (joinL (onto c (linesL (d :: r)))).length = (joinL (linesL (d :: r))).length + 1 := by
          cases h : linesL (d :: r) with
          | nil => exact absurd h hne
          | cons x q => simp [onto, joinL]
        rw [e, ih]
        simp; omega
end Go.Proofs.YtmhgehnkhhlbkaaDoor
