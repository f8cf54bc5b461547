/- Texts, plain law: how many fields a text has, by its bytes. -/
import Derived.Test.YtmhgehnkhhlbkaaGreatDoorChecked
import Derived.Lib.FieldsP
import Derived.Lib.TrimUEq
import Derived.Lib.TrimU
namespace Go.Proofs.YtmhgehnkhhlbkaaGreatDoor
open Go.Lib

def blankB (c : UInt8) : Bool := (9 ≤ c.toNat && c.toNat ≤ 13) || c.toNat == 32
def blankR (r : Nat) : Bool := (9 ≤ r && r ≤ 13) || r == 32
/-- how many words begin, behind a blank or not -/
def wordsAt : Bool → List UInt8 → Nat
  | _, [] => 0
  | pb, c :: t => if blankB c then wordsAt true t else (if pb then 1 else 0) + wordsAt false t
theorem words_run : ∀ (r : List UInt8) (pb : Bool) (t : List UInt8), r ≠ [] → (∀ c ∈ r, blankB c = false) → wordsAt pb (r ++ t) = (if pb then 1 else 0) + wordsAt false t
  | [], _, _, h, _ => absurd rfl h
  | [c], pb, t, _, hb => by
    simp only [List.singleton_append, wordsAt, hb c (by simp)]; simp
  | c :: d :: r, pb, t, _, hb => by
    have ih := words_run (d :: r) false t (by simp) (fun x hx => hb x (List.mem_cons_of_mem _ hx))
    rw [List.cons_append]
    simp only [wordsAt, hb c (by simp)]
    simp at ih ⊢
    simpa [wordsAt] using ih
theorem decode_run (s : ByteArray) (pos : Nat) (h : pos < s.size) (h8 : 128 ≤ (s.data.toList.getD pos 0).toNat) :
    128 ≤ (Utf8.decode s pos).1 ∧ 1 ≤ (Utf8.decode s pos).2 ∧ pos + (Utf8.decode s pos).2 ≤ s.size ∧ ∀ j, j < (Utf8.decode s pos).2 → 128 ≤ (s.data.toList.getD (pos + j) 0).toNat := by
  have hl : s.data.toList.length = s.size := Array.length_toList
  rw [decode_N, hl]
  generalize e0 : (s.data.toList.getD pos 0).toNat = b0 at *
  generalize e1 : (s.data.toList.getD (pos + 1) 0).toNat = b1
  generalize e2 : (s.data.toList.getD (pos + 2) 0).toNat = b2
  generalize e3 : (s.data.toList.getD (pos + 3) 0).toNat = b3
  have key : 128 ≤ (decodeN (s.size - pos) b0 b1 b2 b3).1 ∧ 1 ≤ (decodeN (s.size - pos) b0 b1 b2 b3).2 ∧ (decodeN (s.size - pos) b0 b1 b2 b3).2 ≤ s.size - pos ∧ (decodeN (s.size - pos) b0 b1 b2 b3).2 ≤ 4 ∧
      (2 ≤ (decodeN (s.size - pos) b0 b1 b2 b3).2 → 128 ≤ b1) ∧ (3 ≤ (decodeN (s.size - pos) b0 b1 b2 b3).2 → 128 ≤ b2) ∧ (4 ≤ (decodeN (s.size - pos) b0 b1 b2 b3).2 → 128 ≤ b3) := by
    unfold decodeN
    rw [if_neg (by omega)]
    repeat' split
    all_goals (refine ⟨?_, ?_, ?_, ?_, ?_, ?_, ?_⟩ <;> simp only <;> omega)
  obtain ⟨k1, k2, k3, k4, k5, k6, k7⟩ := key
  refine ⟨k1, k2, by omega, fun j hj => ?_⟩
  rcases (show j = 0 ∨ j = 1 ∨ j = 2 ∨ j = 3 by omega) with rfl | rfl | rfl | rfl
  · rw [Nat.add_zero, e0]; exact h8
  · rw [e1]; exact k5 (by omega)
  · rw [e2]; exact k6 (by omega)
  · rw [e3]; exact k7 (by omega)
theorem high_nb (c : UInt8) (h : 128 ≤ c.toNat) : blankB c = false := by
  simp [blankB]; omega
theorem spans_count (s : ByteArray) : ∀ (f pos : Nat) (st : Option Nat) (acc : List (Nat × Nat)), s.size ≤ pos + f → pos ≤ s.size →
    (closeSpans s (spansFromP blankR s f pos st acc)).length = acc.length + (if st.isSome then 1 else 0) + wordsAt st.isNone (s.data.toList.drop pos) := by
  have hl : s.data.toList.length = s.size := Array.length_toList
  have hend : ∀ (st : Option Nat) (acc : List (Nat × Nat)), (closeSpans s (acc, st)).length = acc.length + (if st.isSome then 1 else 0) := by
    intro st acc; cases st <;> simp [closeSpans]
  intro f
  induction f with
  | zero =>
    intro pos st acc h1 h2
    rw [List.drop_eq_nil_of_le (by omega)]
    exact hend st acc
  | succ f ih =>
    intro pos st acc h1 h2
    by_cases hp : pos < s.size
    · have hcons : s.data.toList.drop pos = s.data.toList.getD pos 0 :: s.data.toList.drop (pos + 1) := by
        rw [List.drop_eq_getElem_cons (by omega)]; simp [List.getD, hl, hp]
      by_cases h8 : 128 ≤ (s.data.toList.getD pos 0).toNat
      · obtain ⟨g1, g2, g3, g4⟩ := decode_run s pos hp h8
        have hbr : blankR (Utf8.decode s pos).1 = false := by simp [blankR]; omega
        generalize hk : (Utf8.decode s pos).2 = k at *
        have hsplit : s.data.toList.drop pos = (s.data.toList.drop pos).take k ++ s.data.toList.drop (pos + k) := by
          rw [← List.drop_drop]; exact (List.take_append_drop k _).symm
        have hrun : ∀ c ∈ (s.data.toList.drop pos).take k, blankB c = false := by
          intro c hc
          obtain ⟨j, hj, rfl⟩ := List.getElem_of_mem hc
          apply high_nb
          rw [List.length_take, List.length_drop] at hj
          have := g4 j (by omega)
          rw [show s.data.toList.getD (pos + j) 0 = s.data.toList[pos + j]'(by omega) by unfold List.getD; rw [List.getElem?_eq_getElem (by omega)]; rfl] at this
          simpa using this
        have hne : (s.data.toList.drop pos).take k ≠ [] := by
          intro e; have := congrArg List.length e; simp at this; omega
        rw [hsplit, words_run _ _ _ hne hrun]
        unfold spansFromP
        rw [if_pos hp, hbr]
        simp only [hk]
        cases st with
        | some a =>
          show (closeSpans s (spansFromP blankR s f (pos + k) (some a) acc)).length = _
          rw [ih (pos + k) (some a) acc (by omega) (by omega)]; simp
        | none =>
          show (closeSpans s (spansFromP blankR s f (pos + k) (some pos) acc)).length = _
          rw [ih (pos + k) (some pos) acc (by omega) (by omega)]; simp; omega
      · have hd : Utf8.decode s pos = ((s.data.toList.getD pos 0).toNat, 1) := by
          rw [decode_N]; unfold decodeN; rw [if_pos (by omega)]
        have hbr : blankR (Utf8.decode s pos).1 = blankB (s.data.toList.getD pos 0) := by rw [hd]; rfl
        rw [hcons]
        unfold spansFromP
        rw [if_pos hp, hbr]
        have hd2 : (Utf8.decode s pos).2 = 1 := by rw [hd]
        rw [hd2]
        generalize s.data.toList.getD pos 0 = c
        cases hb : blankB c
        · cases st with
          | some a =>
            show (closeSpans s (spansFromP blankR s f (pos + 1) (some a) acc)).length = _
            rw [ih (pos + 1) (some a) acc (by omega) (by omega)]; simp [wordsAt, hb]
          | none =>
            show (closeSpans s (spansFromP blankR s f (pos + 1) (some pos) acc)).length = _
            rw [ih (pos + 1) (some pos) acc (by omega) (by omega)]; simp [wordsAt, hb]; omega
        · cases st with
          | some a =>
            show (closeSpans s (spansFromP blankR s f (pos + 1) none (acc ++ [(a, pos)]))).length = _
            rw [ih (pos + 1) none _ (by omega) (by omega)]; simp [wordsAt, hb]
          | none =>
            show (closeSpans s (spansFromP blankR s f (pos + 1) none acc)).length = _
            rw [ih (pos + 1) none acc (by omega) (by omega)]; simp [wordsAt, hb]
    · rw [spansFromP_end _ _ _ _ _ _ hp, List.drop_eq_nil_of_le (by omega)]
      exact hend st acc
theorem fields_count (l : List UInt8) : (goFieldsP blankR ⟨l.toArray⟩).length = wordsAt true l := by
  unfold goFieldsP spansOfP
  rw [List.length_map, spans_count _ _ 0 none [] (by omega) (by omega)]
  simp
end Go.Proofs.YtmhgehnkhhlbkaaGreatDoor
