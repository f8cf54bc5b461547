/- Texts, plain law: the lines of a text, and what the library's Split makes of it. -/
import Derived.Lib.SplitLaws
import Derived.Lib.Join
namespace Go.Proofs.YtmhgehnkhhlbkaaGreatDoor
open Go.Lib

/-- the first piece grows at its front -/
def onto (c : UInt8) : List (List UInt8) → List (List UInt8)
  | [] => [[c]]
  | x :: r => (c :: x) :: r
/-- a text's lines, without their line feeds -/
def linesL : List UInt8 → List (List UInt8)
  | [] => []
  | c :: t => if c = 10 then [] :: linesL t else onto c (linesL t)
/-- a text cut at each line feed; k bytes of the feed stay -/
def cutL (f : List UInt8) : List UInt8 → List (List UInt8)
  | [] => [[]]
  | c :: t => if c = 10 then f :: cutL f t else onto c (cutL f t)
/-- lines, each with a line feed -/
def joinL (l : List (List UInt8)) : List UInt8 := (l.map (· ++ [10])).flatten
theorem cutL_ne (f : List UInt8) : ∀ l, cutL f l ≠ []
  | [] => by simp [cutL]
  | c :: t => by
    unfold cutL; split
    · simp
    · cases h : cutL f t <;> simp [onto]
theorem onto_append (c : UInt8) (a b : List (List UInt8)) (h : a ≠ []) : onto c (a ++ b) = onto c a ++ b := by
  cases a with
  | nil => exact absurd rfl h
  | cons x r => rfl
/-- the pieces are the lines, and the last piece is empty where the text ends with a feed (or is empty) -/
theorem cut_lines : ∀ l : List UInt8, (∃ r, cutL [] l = r ++ [[]] ∧ linesL l = r) ∨ (linesL l = cutL [] l ∧ ∃ r x, cutL [] l = r ++ [x] ∧ x ≠ [])
  | [] => .inl ⟨[], rfl, rfl⟩
  | c :: t => by
    by_cases h : c = 10
    · rw [cutL, if_pos h, linesL, if_pos h]
      rcases cut_lines t with ⟨r, h1, h2⟩ | ⟨h1, r, x, h2, h3⟩
      · exact .inl ⟨[] :: r, by rw [h1]; rfl, by rw [h2]⟩
      · exact .inr ⟨by rw [h1], [] :: r, x, by rw [h2]; rfl, h3⟩
    · rw [cutL, if_neg h, linesL, if_neg h]
      rcases cut_lines t with ⟨r, h1, h2⟩ | ⟨h1, r, x, h2, h3⟩
      · cases r with
        | nil => exact .inr ⟨by rw [h1, h2]; rfl, [], [c], by rw [h1]; rfl, by simp⟩
        | cons y r => exact .inl ⟨(c :: y) :: r, by rw [h1]; rfl, by rw [h2]; rfl⟩
      · refine .inr ⟨by rw [h1], ?_⟩
        cases r with
        | nil => exact ⟨[], c :: x, by rw [h2]; rfl, by simp⟩
        | cons y r => exact ⟨(c :: y) :: r, x, by rw [h2]; rfl, h3⟩
theorem cutL_none (f : List UInt8) : ∀ l, (10 : UInt8) ∉ l → cutL f l = [l]
  | [], _ => rfl
  | c :: t, h => by
    rw [cutL, if_neg (fun e => h (by rw [e]; simp)), cutL_none f t (fun e => h (List.mem_cons_of_mem _ e))]; rfl
theorem cutL_some (f : List UInt8) : ∀ (a t : List UInt8), (10 : UInt8) ∉ a → cutL f (a ++ 10 :: t) = (a ++ f) :: cutL f t
  | [], t, _ => by rw [List.nil_append, cutL, if_pos rfl]; rfl
  | c :: a, t, h => by
    rw [List.cons_append, cutL, if_neg (fun e => h (by rw [e]; simp)), cutL_some f a t (fun e => h (List.mem_cons_of_mem _ e))]; rfl
theorem index_ten : ∀ (a t : List UInt8), (10 : UInt8) ∉ a → index (a ++ 10 :: t) [10] = a.length
  | [], t, _ => by rw [index_one]; simp [indexByte]
  | c :: a, t, h => by
    have ih := index_ten a t (fun e => h (List.mem_cons_of_mem _ e))
    rw [index_one] at ih ⊢
    have hc : (c == 10) = false := by rw [beq_eq_false_iff_ne]; exact fun e => h (by rw [e]; simp)
    rw [List.cons_append, indexByte, hc, ih]
    have : ((a.length : Int) == -1) = false := by rw [beq_eq_false_iff_ne]; omega
    rw [this]; simp
theorem splitK_cut (sv : Nat) (hsv : sv ≤ 1) : ∀ (k : Nat) (l : List UInt8), l.length ≤ k → splitK [10] sv (l.count 10) l = cutL (List.replicate sv 10) l := by
  intro k
  induction k with
  | zero => intro l hl; obtain rfl := List.eq_nil_of_length_eq_zero (Nat.le_zero.1 hl); rfl
  | succ k ih =>
    intro l hl
    by_cases hm : (10 : UInt8) ∈ l
    · obtain ⟨a, t, rfl, ha⟩ := List.eq_append_cons_of_mem hm
      have hc : (a ++ 10 :: t).count 10 = t.count 10 + 1 := by rw [List.count_append, List.count_eq_zero.2 ha, List.count_cons_self]; omega
      have hi := index_ten a t ha
      have hne : (((a.length : Nat) : Int) == -1) = false := by rw [beq_eq_false_iff_ne]; omega
      rw [hc, splitK, hi, hne, cutL_some _ _ _ ha]
      have hd : (a ++ 10 :: t).drop (a.length + 1) = t := by rw [← List.drop_drop]; simp
      have ht : (a ++ 10 :: t).take (a.length + sv) = a ++ List.replicate sv 10 := by
        rw [List.take_length_add_append]
        rcases (show sv = 0 ∨ sv = 1 by omega) with rfl | rfl <;> simp
      simp only [Int.toNat_natCast, List.length_singleton, hd, ht]
      rw [ih t (by simp at hl; omega)]; simp
    · have hc : l.count 10 = 0 := List.count_eq_zero.2 hm
      rw [hc, cutL_none _ _ hm]; rfl
theorem splitB_cut (sv : Nat) (hsv : sv ≤ 1) (l : List UInt8) : (splitB ⟨#[10]⟩ sv (l.count 10) ⟨l.toArray⟩).map (·.data.toList) = cutL (List.replicate sv 10) l := by
  have := splitB_data ⟨#[10]⟩ sv (l.count 10) ⟨l.toArray⟩
  rw [this]; exact splitK_cut sv hsv _ l (Nat.le_refl _)
theorem join_flat (l : List (List UInt8)) : join l [] = l.flatten := by
  cases l with
  | nil => rfl
  | cons x r => rw [join_cons, joinTail]; simp
theorem cut_flat : ∀ l : List UInt8, (cutL [10] l).flatten = l
  | [] => rfl
  | c :: t => by
    have ih := cut_flat t
    rw [cutL]; split
    · rename_i h; rw [h]; simp [ih]
    · cases h : cutL [10] t with
      | nil => exact absurd h (cutL_ne _ _)
      | cons x r => rw [h] at ih; simp only [onto, List.flatten_cons] at ih ⊢; rw [List.cons_append, ih]
theorem lines_no : ∀ (l x : List UInt8), x ∈ linesL l → (10 : UInt8) ∉ x
  | [], x, h => by simp [linesL] at h
  | c :: t, x, h => by
    rw [linesL] at h
    split at h
    · rcases List.mem_cons.1 h with rfl | h
      · simp
      · exact lines_no t x h
    · rename_i hc
      have ih := lines_no t
      cases ht : linesL t with
      | nil =>
        rw [ht] at h; simp only [onto, List.mem_singleton] at h; subst h
        simp; exact fun e => hc e.symm
      | cons y r =>
        rw [ht] at h ih
        simp only [onto] at h
        rcases List.mem_cons.1 h with rfl | h
        · have := ih y (by simp)
          simp only [List.mem_cons, not_or]; exact ⟨fun e => hc e.symm, this⟩
        · exact ih x (List.mem_cons_of_mem _ h)
theorem lines_len : ∀ l : List UInt8, (linesL l).length ≤ l.length
  | [] => by simp [linesL]
  | c :: t => by
    have ih := lines_len t
    rw [linesL]; split
    · simp; exact ih
    · cases ht : linesL t <;> rw [ht] at ih <;> simp [onto] at ih ⊢ <;> omega
theorem lines_sum : ∀ l : List UInt8, (linesL l).flatten.length ≤ l.length
  | [] => by simp [linesL]
  | c :: t => by
    have ih := lines_sum t
    rw [linesL]; split
    · simp at ih ⊢; omega
    · cases ht : linesL t <;> rw [ht] at ih <;> simp [onto] at ih ⊢ <;> omega
theorem joinL_len (l : List (List UInt8)) : (joinL l).length = l.flatten.length + l.length := by
  induction l with
  | nil => rfl
  | cons x r ih => simp [joinL] at ih ⊢; omega
theorem mem_flat_len : ∀ (l : List (List UInt8)) (x : List UInt8), x ∈ l → x.length ≤ l.flatten.length
  | y :: r, x, h => by
    rcases List.mem_cons.1 h with rfl | h
    · simp
    · have := mem_flat_len r x h; simp at this ⊢; omega
end Go.Proofs.YtmhgehnkhhlbkaaGreatDoor
