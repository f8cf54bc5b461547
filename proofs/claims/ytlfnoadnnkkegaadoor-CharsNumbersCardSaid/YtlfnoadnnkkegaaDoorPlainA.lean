/- Plain laws: what the library's ReplaceAll computes, by recursion. -/
import Derived.Test.YtlfnoadnnkkegaaDoorChecked
import Derived.Lib.Replace
import Derived.Lib.CountLaws
import Derived.Lib.AtoiAll
import Derived.Lib.SlTrimSet
import Derived.Lib.ItoaNum
namespace Go.Proofs.YtlfnoadnnkkegaaDoor
open Go.Lib

/-- replacing all, by recursion; f: at least the length -/
def repL (old new : List UInt8) : Nat → List UInt8 → List UInt8
  | 0, s => s
  | _ + 1, [] => []
  | f + 1, c :: t => if old.isPrefixOf (c :: t) then new ++ repL old new f ((c :: t).drop old.length) else c :: repL old new f t
theorem rep_eq (old new : List UInt8) (ho : old ≠ []) : ∀ (f : Nat) (s : List UInt8), s.length ≤ f → replaceK old new (count s old) s = repL old new f s := by
  have hlen : 0 < old.length := List.length_pos_iff.2 ho
  have hnil : index [] old = -1 := by cases old with | nil => exact absurd rfl ho | cons a b => rfl
  intro f
  induction f with
  | zero =>
    intro s hs
    have : s = [] := List.eq_nil_of_length_eq_zero (by omega)
    subst this
    rw [count_miss hnil]; rfl
  | succ f ih =>
    intro s hs
    cases s with
    | nil => rw [count_miss hnil]; rfl
    | cons c t =>
      have hs' : t.length ≤ f := by simpa using hs
      by_cases hp : old.isPrefixOf (c :: t) = true
      · have hi : index (c :: t) old = (0 : Nat) := by unfold index; rw [if_pos hp]; rfl
        rw [count_hit ho hi, Nat.add_comm 1, replaceK_hit _ _ _ _ 0 hi]
        simp only [repL, hp, if_true, List.take_zero, List.nil_append, Nat.zero_add]
        rw [ih _ (by simp; omega)]
      · have hp' : old.isPrefixOf (c :: t) = false := Bool.eq_false_iff.2 hp
        by_cases hm : index t old = -1
        · have hi : index (c :: t) old = -1 := by unfold index; rw [hp']; simp [hm]
          have h1 := ih t hs'
          rw [count_miss hm] at h1
          rw [count_miss hi]
          simp only [repL, hp']
          rw [← h1]; rfl
        · obtain ⟨i, hi⟩ : ∃ i : Nat, index t old = i := ⟨(index t old).toNat, by have := index_ge t old; omega⟩
          have hi2 : index (c :: t) old = (i + 1 : Nat) := by unfold index; rw [hp', hi]; simp <;> omega
          have h1 := ih t hs'
          rw [count_hit ho hi, Nat.add_comm 1, replaceK_hit _ _ _ _ i hi] at h1
          rw [count_hit ho hi2, Nat.add_comm 1, replaceK_hit _ _ _ _ (i + 1) hi2]
          have e1 : i + 1 + old.length = (i + old.length) + 1 := by omega
          simp only [repL, hp', e1, List.take_succ_cons, List.drop_succ_cons, List.cons_append]
          rw [← h1]; rfl
theorem replaceAll_eq (s old new : List UInt8) (ho : old ≠ []) (hne : old ≠ new) : replaceAll s old new = repL old new s.length s := by
  have h0 : replaceNum s old (-1) = count s old := by simp [replaceNum]
  unfold replaceAll replace
  rw [if_neg (by simpa using hne), h0, rep_eq old new ho _ s (Nat.le_refl _)]
theorem repL_one (c : UInt8) (new : List UInt8) : ∀ (f : Nat) (s : List UInt8), s.length ≤ f → repL [c] new f s = s.flatMap fun x => if x = c then new else [x]
  | 0, s, h => by have : s = [] := List.eq_nil_of_length_eq_zero (by omega); subst this; rfl
  | f + 1, [], _ => rfl
  | f + 1, x :: t, h => by
    simp only [repL, List.isPrefixOf, List.flatMap_cons, Bool.and_true]
    have ih := repL_one c new f t (by simpa using h)
    by_cases e : c = x
    · subst e; simp [ih]
    · have e2 : (c == x) = false := by simpa using e
      have e3 : ¬ x = c := fun h => e h.symm
      simp [e2, e3, ih]
theorem repL_len (old new : List UInt8) (h : new.length ≤ old.length) : ∀ (f : Nat) (s : List UInt8), (repL old new f s).length ≤ s.length
  | 0, s => Nat.le_refl _
  | f + 1, [] => Nat.le_refl _
  | f + 1, c :: t => by
    unfold repL
    split
    · rename_i hp
      have h1 := repL_len old new h f ((c :: t).drop old.length)
      have h2 : old.length ≤ (c :: t).length := (List.isPrefixOf_iff_prefix.1 hp).length_le
      rw [List.length_append]
      rw [List.length_drop] at h1
      omega
    · have := repL_len old new h f t
      simp; omega
/-! ### numbers -/
def digB (c : UInt8) : Bool := 48 ≤ c && c ≤ 57
theorem digB_iff (c : UInt8) : digB c = true ↔ 48 ≤ c.toNat ∧ c.toNat ≤ 57 := by
  simp [digB, UInt8.le_iff_toNat_le]
/-- the number of digits, behind what was before -/
def decFrom : Nat → List UInt8 → Nat
  | a, [] => a
  | a, c :: r => decFrom (a * 10 + (c.toNat - 48)) r
def decVal (l : List UInt8) : Nat := decFrom 0 l
theorem decFrom_ge : ∀ (l : List UInt8) (a : Nat), a ≤ decFrom a l
  | [], a => Nat.le_refl _
  | c :: r, a => Nat.le_trans (by omega) (decFrom_ge r (a * 10 + (c.toNat - 48)))
theorem parse_eq : ∀ (l : List UInt8) (acc : Nat), l.all digB = true → acc < 18446744073709551616 → parseUint10 acc l = if decFrom acc l < 18446744073709551616 then .ok (decFrom acc l) else .range
  | [], acc, _, h => by show NumEnd.ok acc = if acc < _ then .ok acc else .range; rw [if_pos h]
  | c :: r, acc, hd, h => by
    simp only [List.all_cons, Bool.and_eq_true] at hd
    have hc := (digB_iff c).1 hd.1
    have hge := decFrom_ge r (acc * 10 + (c.toNat - 48))
    show parseUint10 acc (c :: r) = if decFrom (acc * 10 + (c.toNat - 48)) r < _ then .ok (decFrom (acc * 10 + (c.toNat - 48)) r) else .range
    rw [parseUint10, if_pos hc]
    by_cases h1 : 1844674407370955162 ≤ acc
    · rw [if_pos h1, if_neg (by omega)]
    · rw [if_neg h1]
      by_cases h2 : 18446744073709551616 ≤ acc * 10 + (c.toNat - 48)
      · rw [if_pos h2, if_neg (by omega)]
      · rw [if_neg h2, parse_eq r _ hd.2 (by omega)]
theorem atoi_digits (l : List UInt8) (hl : l ≠ []) (hd : l.all digB = true) : atoiAll l = if decVal l < 9223372036854775808 then .ok (decVal l : Int) else .range := by
  cases l with
  | nil => exact absurd rfl hl
  | cons c r =>
    have hc := (digB_iff c).1 (by simp only [List.all_cons, Bool.and_eq_true] at hd; exact hd.1)
    have h1 : ¬ (c.toNat = 43 ∨ c.toNat = 45) := by omega
    have h2 : ¬ c.toNat = 45 := by omega
    unfold atoiAll
    simp only [h1, if_false]
    unfold parseMag
    rw [if_neg hl, parse_eq (c :: r) 0 hd (by omega)]
    show _ = if decFrom 0 (c :: r) < 9223372036854775808 then NumEnd.ok (decFrom 0 (c :: r) : Int) else NumEnd.range
    generalize decFrom 0 (c :: r) = v
    by_cases hv : v < 18446744073709551616
    · rw [if_pos hv]
      simp only [h2, not_false_eq_true, true_and, false_and, if_false]
      by_cases hv2 : 9223372036854775808 ≤ v
      · rw [if_pos hv2, if_neg (by omega)]
      · rw [if_neg hv2, if_pos (by omega)]
    · rw [if_neg hv, if_neg (by omega)]
def digs : List UInt8 := [48, 49, 50, 51, 52, 53, 54, 55, 56, 57]
theorem digs_contains (c : UInt8) : digs.contains c = digB c := by
  have h : ∀ n : Fin 256, digs.contains (UInt8.ofNat n) = digB (UInt8.ofNat n) := by decide +kernel
  have := h ⟨c.toNat, c.toNat_lt⟩
  simpa using this
theorem dropWhile_nil_iff (p : UInt8 → Bool) : ∀ l : List UInt8, l.dropWhile p = [] ↔ l.all p = true
  | [] => by simp
  | c :: t => by
    rw [List.dropWhile_cons]
    cases h : p c <;> simp [h, dropWhile_nil_iff p t]
theorem trim_nil_iff (l : List UInt8) : trimS l digs = [] ↔ l.all digB = true := by
  have hp : (fun c => digs.contains c) = digB := funext digs_contains
  unfold trimS trimLeftS trimRightS
  rw [hp]
  constructor
  · intro h
    rw [dropWhile_nil_iff, List.all_reverse] at h
    -- what is left at the end of a dropWhile begins with a byte that is no digit
    cases hr : l.reverse.dropWhile digB with
    | nil => rw [dropWhile_nil_iff, List.all_reverse] at hr; exact hr
    | cons c t =>
      rw [hr] at h
      simp only [List.all_cons, Bool.and_eq_true] at h
      have : digB c = false := by
        have := List.head_dropWhile_not digB (l := l.reverse) (by rw [hr]; simp)
        simpa [hr] using this
      rw [h.1] at this; cases this
  · intro h
    rw [(dropWhile_nil_iff digB l.reverse).2 (by rw [List.all_reverse]; exact h)]; rfl
end Go.Proofs.YtlfnoadnnkkegaaDoor
