/- Texts: lines in order (plain). -/
import Derived.Lib.SlicesCompact
import Derived.Test.YtmhgehnkhhlbkaaGreatDoorTxL
namespace Go.Proofs.YtmhgehnkhhlbkaaGreatDoor
open Go.Sort

def lineLe (x y : List UInt8) : Bool := decide (x ≤ y)
theorem lineLe_total (a b : List UInt8) : lineLe a b = true ∨ lineLe b a = true := by
  simp only [lineLe, decide_eq_true_eq]; exact Std.le_total
theorem lineLe_trans {a b c : List UInt8} (h1 : lineLe a b = true) (h2 : lineLe b c = true) : lineLe a c = true := by
  simp only [lineLe, decide_eq_true_eq] at *; exact Std.le_trans h1 h2
theorem lineLe_anti {a b : List UInt8} (h1 : lineLe a b = true) (h2 : lineLe b a = true) : a = b := by
  simp only [lineLe, decide_eq_true_eq] at *; exact Std.le_antisymm h1 h2
/-- the order of the reference's search -/
def leB (back : Bool) (y x : List UInt8) : Bool := if back then lineLe x y else lineLe y x
theorem leB_total (back : Bool) (a b : List UInt8) : leB back a b = true ∨ leB back b a = true := by
  cases back
  · exact lineLe_total a b
  · exact lineLe_total b a
theorem leB_trans (back : Bool) {a b c : List UInt8} (h1 : leB back a b = true) (h2 : leB back b c = true) : leB back a c = true := by
  cases back
  · exact lineLe_trans h1 h2
  · exact lineLe_trans h2 h1
theorem leB_anti (back : Bool) {a b : List UInt8} (h1 : leB back a b = true) (h2 : leB back b a = true) : a = b := by
  cases back
  · exact lineLe_anti h1 h2
  · exact lineLe_anti h2 h1
theorem leB_refl (back : Bool) (a : List UInt8) : leB back a a = true := (leB_total back a a).elim id id
def ltB (back : Bool) (y x : List UInt8) : Prop := leB back y x = true ∧ y ≠ x
/-- one line put into its place -/
def insL (back once : Bool) (out : List (List UInt8)) (x : List UInt8) : List (List UInt8) :=
  if once = true ∧ (out.takeWhile (leB back · x)).getLast? = some x then out
  else out.takeWhile (leB back · x) ++ x :: out.dropWhile (leB back · x)
theorem ins_mem (p : List UInt8 → Bool) (l : List (List UInt8)) (x y : List UInt8) : y ∈ l.takeWhile p ++ x :: l.dropWhile p ↔ y = x ∨ y ∈ l := by
  have h : y ∈ l ↔ y ∈ l.takeWhile p ++ l.dropWhile p := by rw [List.takeWhile_append_dropWhile]
  rw [h]; simp only [List.mem_append, List.mem_cons]; exact or_left_comm
theorem ins_perm (p : List UInt8 → Bool) (l : List (List UInt8)) (x : List UInt8) : (l.takeWhile p ++ x :: l.dropWhile p).Perm (x :: l) := by
  have := List.perm_middle (a := x) (l₁ := l.takeWhile p) (l₂ := l.dropWhile p)
  rwa [List.takeWhile_append_dropWhile] at this
theorem ins_pw (back : Bool) (x : List UInt8) : ∀ l : List (List UInt8), l.Pairwise (leB back · · = true) → (l.takeWhile (leB back · x) ++ x :: l.dropWhile (leB back · x)).Pairwise (leB back · · = true)
  | [], _ => by simp
  | a :: t, h => by
    obtain ⟨h1, h2⟩ := List.pairwise_cons.1 h
    by_cases ha : leB back a x = true
    · rw [List.takeWhile_cons_of_pos (p := fun y => leB back y x) ha, List.dropWhile_cons_of_pos (p := fun y => leB back y x) ha, List.cons_append, List.pairwise_cons]
      refine ⟨fun b hb => ?_, ins_pw back x t h2⟩
      rcases (ins_mem _ _ _ _).1 hb with rfl | hb
      · exact ha
      · exact h1 b hb
    · rw [List.takeWhile_cons_of_neg (p := fun y => leB back y x) ha, List.dropWhile_cons_of_neg (p := fun y => leB back y x) ha, List.nil_append, List.pairwise_cons]
      have hx := (leB_total back x a).resolve_right ha
      refine ⟨fun b hb => ?_, h⟩
      rcases List.mem_cons.1 hb with rfl | hb
      · exact hx
      · exact leB_trans back hx (h1 b hb)
theorem ins_strict (back : Bool) (x : List UInt8) : ∀ l : List (List UInt8), l.Pairwise (ltB back) → (l.takeWhile (leB back · x)).getLast? ≠ some x → (l.takeWhile (leB back · x) ++ x :: l.dropWhile (leB back · x)).Pairwise (ltB back)
  | [], _, _ => by simp
  | a :: t, h, hl => by
    obtain ⟨h1, h2⟩ := List.pairwise_cons.1 h
    by_cases ha : leB back a x = true
    · rw [List.takeWhile_cons_of_pos (p := fun y => leB back y x) ha] at hl
      rw [List.takeWhile_cons_of_pos (p := fun y => leB back y x) ha, List.dropWhile_cons_of_pos (p := fun y => leB back y x) ha, List.cons_append, List.pairwise_cons]
      have hax : a ≠ x := by
        rintro rfl
        have : t.takeWhile (leB back · a) = [] := by
          cases t with
          | nil => rfl
          | cons b r =>
            have hb := h1 b (by simp)
            rw [List.takeWhile_cons_of_neg (p := fun y => leB back y a) (fun e => hb.2 (leB_anti back hb.1 e))]
        rw [this] at hl; exact hl rfl
      have hl' : (t.takeWhile (leB back · x)).getLast? ≠ some x := by
        cases htw : t.takeWhile (leB back · x) with
        | nil => simp
        | cons b r => rw [htw, List.getLast?_cons_cons] at hl; exact hl
      refine ⟨fun b hb => ?_, ins_strict back x t h2 hl'⟩
      rcases (ins_mem _ _ _ _).1 hb with rfl | hb
      · exact ⟨ha, hax⟩
      · exact h1 b hb
    · rw [List.takeWhile_cons_of_neg (p := fun y => leB back y x) ha, List.dropWhile_cons_of_neg (p := fun y => leB back y x) ha, List.nil_append, List.pairwise_cons]
      have hx := (leB_total back x a).resolve_right ha
      refine ⟨fun b hb => ?_, h⟩
      rcases List.mem_cons.1 hb with rfl | hb
      · exact ⟨hx, fun e => ha (by rw [e]; exact leB_refl back _)⟩
      · exact ⟨leB_trans back hx (h1 b hb).1, fun e => ha (by rw [e]; exact (h1 b hb).1)⟩
/-- what stands after the lines of l have been put in -/
def Sorted (back once : Bool) (out l : List (List UInt8)) : Prop :=
  if once then (∀ y, y ∈ out ↔ y ∈ l) ∧ out.Pairwise (ltB back) else out.Perm l ∧ out.Pairwise (leB back · · = true)
theorem sorted_step {back once : Bool} {out l : List (List UInt8)} (x : List UInt8) (h : Sorted back once out l) : Sorted back once (insL back once out x) (l ++ [x]) := by
  cases once with
  | false =>
    simp only [Sorted, insL, Bool.false_eq_true, if_false, false_and] at h ⊢
    exact ⟨(ins_perm _ _ _).trans ((h.1.cons x).trans (List.perm_append_comm (l₁ := [x]) (l₂ := l))), ins_pw back x out h.2⟩
  | true =>
    simp only [Sorted, insL, if_true, true_and] at h ⊢
    split
    · next hx =>
      have hm : x ∈ out := (List.takeWhile_sublist _).subset (List.mem_of_getLast? hx)
      refine ⟨fun y => ?_, h.2⟩
      rw [h.1 y, List.mem_append, List.mem_singleton]
      exact ⟨.inl, fun e => e.elim id (fun e => e ▸ (h.1 x).1 hm)⟩
    · next hx =>
      refine ⟨fun y => ?_, ins_strict back x out h.2 hx⟩
      rw [ins_mem, h.1 y, List.mem_append, List.mem_singleton]; exact or_comm
theorem sorted_unique {back once : Bool} {a b l : List (List UInt8)} (ha : Sorted back once a l) (hb : Sorted back once b l) : a = b := by
  cases once with
  | false =>
    simp only [Sorted, Bool.false_eq_true, if_false] at ha hb
    exact List.Perm.eq_of_pairwise (fun x y _ _ h1 h2 => leB_anti back h1 h2) ha.2 hb.2 (ha.1.trans hb.1.symm)
  | true =>
    simp only [Sorted, if_true] at ha hb
    have na : a.Nodup := ha.2.imp fun h => h.2
    have nb : b.Nodup := hb.2.imp fun h => h.2
    exact List.Perm.eq_of_pairwise (fun x y _ _ h1 h2 => leB_anti back h1.1 h2.1) ha.2 hb.2 ((List.perm_ext_iff_of_nodup na nb).2 fun y => (ha.1 y).trans (hb.1 y).symm)
theorem compact_sorted (z : List (List UInt8)) (hz : z.Pairwise (leB false · · = true)) : (∀ y, y ∈ Lib.compact z ↔ y ∈ z) ∧ (Lib.compact z).Pairwise (ltB false) := by
  have hd : ∀ j, j < z.length → z[j]? = some (z.toArray[j]!) := fun j hj => by simp [hj]
  have hle : ∀ i j, i ≤ j → j < z.length → leB false (z.toArray[i]!) (z.toArray[j]!) = true := by
    intro i j hij hj
    rcases Nat.lt_or_eq_of_le hij with h | rfl
    · have := List.pairwise_iff_getElem.1 hz i j (by omega) hj h
      simpa [hj, show i < z.length by omega] using this
    · exact leB_refl _ _
  have key : ∀ m, m ≤ z.length → (∀ y, y ∈ Lib.compactUpTo z.toArray m ↔ ∃ j, j < m ∧ z.toArray[j]! = y) ∧ (Lib.compactUpTo z.toArray m).Pairwise (ltB false) := by
    intro m
    induction m with
    | zero => intro _; simp [Lib.compactUpTo]
    | succ m ih =>
      intro hm
      obtain ⟨i1, i2⟩ := ih (by omega)
      rw [Lib.compactUpTo_succ]
      by_cases hk : Lib.keeps z.toArray m = true
      · rw [if_pos hk]
        constructor
        · intro y
          rw [List.mem_append, i1, List.mem_singleton]
          constructor
          · rintro (⟨j, hj, e⟩ | rfl)
            · exact ⟨j, by omega, e⟩
            · exact ⟨m, by omega, rfl⟩
          · rintro ⟨j, hj, e⟩
            rcases Nat.lt_or_eq_of_le (Nat.le_of_lt_succ hj) with h | rfl
            · exact .inl ⟨j, h, e⟩
            · exact .inr e.symm
        · rw [List.pairwise_append]
          refine ⟨i2, by simp, fun a ha b hb => ?_⟩
          obtain rfl := List.mem_singleton.1 hb
          obtain ⟨j, hj, rfl⟩ := (i1 a).1 ha
          refine ⟨hle j m (by omega) (by omega), fun e => ?_⟩
          have h0 : m ≠ 0 := by omega
          have hne : z.toArray[m]! ≠ z.toArray[m - 1]! := by
            simp only [Lib.keeps, decide_eq_true_eq] at hk; exact hk.resolve_left h0
          have h1 := hle j (m - 1) (by omega) (by omega)
          rw [e] at h1
          exact hne (leB_anti false h1 (hle (m - 1) m (by omega) (by omega)))
      · rw [if_neg hk, List.append_nil]
        refine ⟨fun y => ?_, i2⟩
        rw [i1]
        constructor
        · rintro ⟨j, hj, e⟩; exact ⟨j, by omega, e⟩
        · rintro ⟨j, hj, e⟩
          rcases Nat.lt_or_eq_of_le (Nat.le_of_lt_succ hj) with h | rfl
          · exact ⟨j, h, e⟩
          · simp only [Lib.keeps, decide_eq_true_eq, not_or, Decidable.not_not] at hk
            exact ⟨j - 1, by omega, hk.2 ▸ e⟩
  obtain ⟨k1, k2⟩ := key z.length (Nat.le_refl _)
  refine ⟨fun y => ?_, k2⟩
  show y ∈ Lib.compactUpTo z.toArray z.length ↔ _
  rw [k1]
  constructor
  · rintro ⟨j, hj, rfl⟩; exact List.mem_of_getElem? (hd j hj)
  · intro hy
    obtain ⟨j, hj, e⟩ := List.getElem_of_mem hy
    exact ⟨j, hj, by simpa [hj] using e⟩
/-- the library's way: sorted, each once, turned round -/
def libL (back once : Bool) (l : List (List UInt8)) : List (List UInt8) :=
  let m := l.mergeSort fun x y => decide (x ≤ y)
  let c := if once then Lib.compact m else m
  if back then c.reverse else c
theorem lib_sorted (back once : Bool) (l : List (List UInt8)) : Sorted back once (libL back once l) l := by
  have hs : (l.mergeSort fun x y => decide (x ≤ y)).Pairwise (leB false · · = true) :=
    List.pairwise_mergeSort (le := fun x y => decide (x ≤ y)) (fun a b c h1 h2 => lineLe_trans h1 h2) (fun a b => by have := lineLe_total a b; simpa [lineLe] using this) l
  have hp : (l.mergeSort fun x y => decide (x ≤ y)).Perm l := List.mergeSort_perm _ _
  obtain ⟨c1, c2⟩ := compact_sorted _ hs
  cases once with
  | false =>
    cases back with
    | false => exact ⟨hp, hs⟩
    | true => exact ⟨(List.reverse_perm _).trans hp, List.pairwise_reverse.2 hs⟩
  | true =>
    cases back with
    | false => exact ⟨fun y => (c1 y).trans hp.mem_iff, c2⟩
    | true => exact ⟨fun y => List.mem_reverse.trans ((c1 y).trans hp.mem_iff), List.pairwise_reverse.2 (c2.imp fun h => ⟨h.1, h.2.symm⟩)⟩
theorem fold_sorted (back once : Bool) : ∀ (l out p : List (List UInt8)), Sorted back once out p → Sorted back once (l.foldl (insL back once) out) (p ++ l)
  | [], out, p, h => by simpa using h
  | x :: t, out, p, h => by
    have := fold_sorted back once t (insL back once out x) (p ++ [x]) (sorted_step x h)
    simpa using this
theorem sorted_nil (back once : Bool) : Sorted back once [] [] := by cases once <;> simp [Sorted]
theorem fold_lib (back once : Bool) (l : List (List UInt8)) : l.foldl (insL back once) [] = libL back once l :=
  sorted_unique (by simpa using fold_sorted back once l [] [] (sorted_nil back once)) (lib_sorted back once l)
end Go.Proofs.YtmhgehnkhhlbkaaGreatDoor
