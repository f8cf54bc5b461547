/- Texts, plain law: lines that follow one another and are the same. -/
import Derived.Lib.ItoaNum
namespace Go.Proofs.YtmhgehnkhhlbkaaGreatDoor
open Go.Lib

/-- rows of the same, each with how many there are -/
def grp : List (List UInt8) → List (Nat × List UInt8)
  | [] => []
  | x :: r => match grp r with
    | [] => [(1, x)]
    | (n, y) :: t => if y = x then (n + 1, x) :: t else (1, x) :: (n, y) :: t
theorem grp_head : ∀ (x : List UInt8) (r : List (List UInt8)), ∃ n t, grp (x :: r) = (n + 1, x) :: t ∧ (r.head? ≠ some x → n = 0 ∧ t = grp r) ∧ (r.head? = some x → ∃ m, grp r = (m, x) :: t ∧ n = m)
  | x, [] => ⟨0, [], rfl, fun _ => ⟨rfl, rfl⟩, fun h => by cases h⟩
  | x, y :: r => by
    obtain ⟨n, t, h1, _, _⟩ := grp_head y r
    by_cases hyx : y = x
    · subst hyx
      refine ⟨n + 1, t, ?_, fun h => absurd rfl h, fun _ => ⟨n + 1, h1, rfl⟩⟩
      rw [grp, h1]; simp
    · refine ⟨0, grp (y :: r), ?_, fun _ => ⟨rfl, rfl⟩, fun h => absurd (Option.some.inj h) hyx⟩
      rw [grp, h1]; simp [hyx]
theorem grp_new (x : List UInt8) (r : List (List UInt8)) (h : r.head? ≠ some x) : grp (x :: r) = (1, x) :: grp r := by
  obtain ⟨n, t, h1, h2, _⟩ := grp_head x r
  obtain ⟨rfl, rfl⟩ := h2 h
  exact h1
theorem grp_run (x : List UInt8) (r : List (List UInt8)) (h : r.head? ≠ some x) : ∀ n : Nat, grp (List.replicate (n + 1) x ++ r) = (n + 1, x) :: grp r
  | 0 => grp_new x r h
  | n + 1 => by
    have ih := grp_run x r h n
    rw [List.replicate_succ, List.cons_append]
    obtain ⟨m, t, h1, _, h3⟩ := grp_head x (List.replicate (n + 1) x ++ r)
    obtain ⟨m2, h4, h5⟩ := h3 (by rw [List.replicate_succ]; rfl)
    rw [ih] at h4
    cases h4
    rw [h1, h5]
/-- some more in the first row -/
def addTo (c : Nat) : List (Nat × List UInt8) → List (Nat × List UInt8)
  | [] => []
  | (m, x) :: t => (m + c, x) :: t
theorem addTo_zero (l : List (Nat × List UInt8)) : addTo 0 l = l := by
  cases l with
  | nil => rfl
  | cons a t => obtain ⟨m, x⟩ := a; rfl
theorem addTo_same (c : Nat) (x : List UInt8) (r : List (List UInt8)) (h : r.head? = some x) : addTo c (grp (x :: r)) = addTo (c + 1) (grp r) := by
  obtain ⟨n, t, h1, _, h3⟩ := grp_head x r
  obtain ⟨m, h4, rfl⟩ := h3 h
  rw [h1, h4]
  show (_, _) :: t = (_, _) :: t
  rw [show n + 1 + c = n + (c + 1) by omega]
theorem addTo_new (c : Nat) (x : List UInt8) (r : List (List UInt8)) (h : r.head? ≠ some x) : addTo c (grp (x :: r)) = (c + 1, x) :: grp r := by
  rw [grp_new x r h]
  show (1 + c, x) :: _ = _
  rw [Nat.add_comm]
/-- a row's line -/
def lineU (cnt : Bool) (p : Nat × List UInt8) : List UInt8 := if cnt = true then decDigits p.1 ++ [32] ++ p.2 else p.2
theorem dec_short : ∀ (n : Nat), n < 1000 → (decDigits n).length ≤ 3 := by
  intro n hn
  rw [decDigits]
  split
  · simp
  · rw [decDigits]
    split
    · simp
    · rw [decDigits, dif_pos (by omega)]
      simp
theorem grp_len : ∀ l : List (List UInt8), (grp l).length ≤ l.length
  | [] => by simp [grp]
  | x :: r => by
    have ih := grp_len r
    obtain ⟨n, t, h1, h2, h3⟩ := grp_head x r
    rw [h1]
    by_cases h : r.head? = some x
    · obtain ⟨m, h4, _⟩ := h3 h
      rw [h4] at ih; simp at ih ⊢; omega
    · obtain ⟨_, rfl⟩ := h2 h
      simp; exact ih
theorem grp_mem : ∀ (l : List (List UInt8)) (p : Nat × List UInt8), p ∈ grp l → p.1 ≤ l.length ∧ p.2 ∈ l
  | [], p, h => by simp [grp] at h
  | x :: r, p, h => by
    have ih := grp_mem r
    obtain ⟨n, t, h1, h2, h3⟩ := grp_head x r
    rw [h1] at h
    by_cases hh : r.head? = some x
    · obtain ⟨m, h4, rfl⟩ := h3 hh
      rw [h4] at ih
      rcases List.mem_cons.1 h with rfl | h
      · have := ih (n, x) (by simp)
        exact ⟨by simp; exact this.1, by simp⟩
      · have := ih p (List.mem_cons_of_mem _ h)
        exact ⟨by have := this.1; simp; omega, List.mem_cons_of_mem _ this.2⟩
    · obtain ⟨rfl, rfl⟩ := h2 hh
      rcases List.mem_cons.1 h with rfl | h
      · exact ⟨by simp, by simp⟩
      · have := ih p h
        exact ⟨by have := this.1; simp; omega, List.mem_cons_of_mem _ this.2⟩
end Go.Proofs.YtmhgehnkhhlbkaaGreatDoor
