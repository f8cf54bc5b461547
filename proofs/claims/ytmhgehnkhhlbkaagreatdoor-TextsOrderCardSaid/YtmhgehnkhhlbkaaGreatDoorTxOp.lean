/- Texts, plain law: sorted lines, and what is like the one ahead in them. -/
import Derived.Test.YtmhgehnkhhlbkaaGreatDoorTxSp
import Derived.Test.YtmhgehnkhhlbkaaGreatDoorTxGp
namespace Go.Proofs.YtmhgehnkhhlbkaaGreatDoor

theorem lines_more (x t : List UInt8) (h : (10 : UInt8) ∉ x) : linesL (x ++ 10 :: t) = x :: linesL t := by
  induction x with
  | nil => rw [List.nil_append, linesL, if_pos rfl]
  | cons c r ih =>
    rw [List.cons_append, linesL, if_neg (fun e => h (by rw [e]; simp)), ih (fun e => h (List.mem_cons_of_mem _ e))]; rfl
theorem lines_join : ∀ (M : List (List UInt8)), (∀ x, x ∈ M → (10 : UInt8) ∉ x) → linesL (joinL M) = M
  | [], _ => rfl
  | x :: t, h => by
    have : joinL (x :: t) = x ++ 10 :: joinL t := by simp [joinL]
    rw [this, lines_more _ _ (h x (by simp)), lines_join t (fun y hy => h y (List.mem_cons_of_mem _ hy))]
theorem join_lines_len : ∀ s : List UInt8, (joinL (linesL s)).length ≤ s.length + 1
  | [] => by simp [linesL, joinL]
  | c :: t => by
    have ih := join_lines_len t
    rw [linesL]; split
    · simp [joinL] at ih ⊢; omega
    · cases ht : linesL t with
      | nil => simp [onto, joinL]
      | cons a r => rw [ht] at ih; simp [onto, joinL] at ih ⊢; omega
theorem join_perm {a b : List (List UInt8)} (h : a.Perm b) : (joinL a).length = (joinL b).length := by
  induction h with
  | nil => rfl
  | cons x _ ih => simp [joinL] at ih ⊢; omega
  | swap x y l => simp [joinL]; omega
  | trans _ _ h1 h2 => rw [h1, h2]
theorem join_sub {a b : List (List UInt8)} (h : a.Sublist b) : (joinL a).length ≤ (joinL b).length := by
  induction h with
  | slnil => simp
  | cons x _ ih => simp [joinL] at ih ⊢; omega
  | cons_cons x _ ih => simp [joinL] at ih ⊢; omega
theorem grp_sorted : ∀ M : List (List UInt8), M.Pairwise (leB false · · = true) → (∀ y, y ∈ (grp M).map (·.2) ↔ y ∈ M) ∧ ((grp M).map (·.2)).Pairwise (ltB false) ∧ ((grp M).map (·.2)).Sublist M
  | [], _ => by simp [grp]
  | x :: r, h => by
    obtain ⟨h1, h2⟩ := List.pairwise_cons.1 h
    obtain ⟨i1, i2, i3⟩ := grp_sorted r h2
    obtain ⟨n, t, g1, g2, g3⟩ := grp_head x r
    rw [g1]
    by_cases hh : r.head? = some x
    · obtain ⟨m, g4, rfl⟩ := g3 hh
      rw [g4] at i1 i2 i3
      refine ⟨fun y => ?_, i2, i3.trans (List.sublist_cons_self _ _)⟩
      have := i1 y
      simp only [List.map_cons, List.mem_cons] at this ⊢
      rw [this]
      constructor
      · exact .inr
      · rintro (rfl | h)
        · exact List.mem_of_head? hh
        · exact h
    · obtain ⟨rfl, rfl⟩ := g2 hh
      refine ⟨fun y => ?_, ?_, ?_⟩
      · have := i1 y
        simp only [List.map_cons, List.mem_cons] at this ⊢
        rw [this]
      · rw [List.map_cons, List.pairwise_cons]
        refine ⟨fun b hb => ?_, i2⟩
        have hbr := (i1 b).1 hb
        refine ⟨h1 b hbr, fun e => hh ?_⟩
        have e : x = b := e
        subst e
        cases r with
        | nil => simp at hbr
        | cons y r' =>
          have hy := h1 y (by simp)
          rcases List.mem_cons.1 hbr with e | e
          · rw [e]; rfl
          · have := (List.pairwise_cons.1 h2).1 x e
            rw [leB_anti false hy this]; rfl
      · rw [List.map_cons]; exact i3.cons_cons x
def uniqG (M : List (List UInt8)) : List (List UInt8) := (grp M).map (·.2)
/-- what is said of sorted lines -/
theorem order_facts (s : List UInt8) : ∃ M C : List (List UInt8), libL false false (linesL s) = M ∧ libL false true (linesL s) = C ∧ linesL (joinL M) = M ∧ linesL (joinL C) = C ∧ libL false false M = M ∧ (∀ x, M.count x = (linesL s).count x) ∧ M.Pairwise (leB false · · = true) ∧ uniqG M = C ∧ uniqG C = C ∧ (joinL M).length ≤ s.length + 1 ∧ (joinL C).length ≤ s.length + 1 := by
  have hM := lib_sorted false false (linesL s)
  have hC := lib_sorted false true (linesL s)
  simp only [Sorted, Bool.false_eq_true, if_false] at hM
  have hC' := hC
  simp only [Sorted, if_true] at hC
  have hp : (libL false true (linesL s)).Pairwise (leB false · · = true) := hC.2.imp fun h => h.1
  obtain ⟨u1, u2, u3⟩ := grp_sorted _ hM.2
  obtain ⟨v1, v2, v3⟩ := grp_sorted _ hp
  have e1 : uniqG (libL false false (linesL s)) = libL false true (linesL s) :=
    sorted_unique (back := false) (once := true) (l := linesL s) (by simp only [Sorted, if_true]; exact ⟨fun y => (u1 y).trans hM.1.mem_iff, u2⟩) hC'
  refine ⟨_, _, rfl, rfl, lines_join _ fun x hx => lines_no s x (hM.1.mem_iff.1 hx), lines_join _ fun x hx => lines_no s x ((hC.1 x).1 hx), ?_, fun x => hM.1.count_eq x, hM.2, e1, ?_, ?_, ?_⟩
  · exact sorted_unique (back := false) (once := false) (lib_sorted false false _) (by simp only [Sorted, Bool.false_eq_true, if_false]; exact ⟨List.Perm.refl _, hM.2⟩)
  · exact sorted_unique (back := false) (once := true) (l := libL false true (linesL s)) (by simp only [Sorted, if_true]; exact ⟨v1, v2⟩) (by simp only [Sorted, if_true]; exact ⟨fun _ => by simp, hC.2⟩)
  · rw [join_perm hM.1]; exact join_lines_len s
  · rw [← e1]; exact Nat.le_trans (join_sub u3) (by rw [join_perm hM.1]; exact join_lines_len s)
end Go.Proofs.YtmhgehnkhhlbkaaGreatDoor
