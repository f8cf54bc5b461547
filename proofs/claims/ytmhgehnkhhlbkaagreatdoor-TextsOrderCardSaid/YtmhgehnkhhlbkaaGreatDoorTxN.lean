/- Texts, plain law: numbers without noughts ahead. -/
import Derived.Lib.AtoiAll
import Derived.Lib.SlTrimSet
import Derived.Lib.ItoaNum
namespace Go.Proofs.YtmhgehnkhhlbkaaGreatDoor
open Go.Lib

def digB (c : UInt8) : Bool := 48 ≤ c && c ≤ 57
theorem digB_iff (c : UInt8) : digB c = true ↔ 48 ≤ c.toNat ∧ c.toNat ≤ 57 := by
  simp [digB, UInt8.le_iff_toNat_le]
/-- the number of digits, behind what was before -/
def decFrom : Nat → List UInt8 → Nat
  | a, [] => a
  | a, c :: r => decFrom (a * 10 + (c.toNat - 48)) r
def decVal (l : List UInt8) : Nat := decFrom 0 l
theorem decFrom_ge : ∀ (l : List UInt8) (a : Nat), a ≤ decFrom a l
  | [], a => Nat.le_refl _
  | c :: r, a => Nat.le_trans (by omega) (decFrom_ge r (a * 10 + (c.toNat - 48)))
theorem parse_eq : ∀ (l : List UInt8) (acc : Nat), l.all digB = true → acc < 18446744073709551616 → parseUint10 acc l = if decFrom acc l < 18446744073709551616 then .ok (decFrom acc l) else .range
  | [], acc, _, h => by show NumEnd.ok acc = if acc < _ then .ok acc else .range; rw [if_pos h]
  | c :: r, acc, hd, h => by
    simp only [List.all_cons, Bool.and_eq_true] at hd
    have hc := (digB_iff c).1 hd.1
    have hge := decFrom_ge r (acc * 10 + (c.toNat - 48))
    show parseUint10 acc (c :: r) = if decFrom (acc * 10 + (c.toNat - 48)) r < _ then .ok (decFrom (acc * 10 + (c.toNat - 48)) r) else .range
    rw [parseUint10, if_pos hc]
    by_cases h1 : 1844674407370955162 ≤ acc
    · rw [if_pos h1, if_neg (by omega)]
    · rw [if_neg h1]
      by_cases h2 : 18446744073709551616 ≤ acc * 10 + (c.toNat - 48)
      · rw [if_pos h2, if_neg (by omega)]
      · rw [if_neg h2, parse_eq r _ hd.2 (by omega)]
theorem atoi_digits (l : List UInt8) (hl : l ≠ []) (hd : l.all digB = true) : atoiAll l = if decVal l < 9223372036854775808 then .ok (decVal l : Int) else .range := by
  cases l with
  | nil => exact absurd rfl hl
  | cons c r =>
    have hc := (digB_iff c).1 (by simp only [List.all_cons, Bool.and_eq_true] at hd; exact hd.1)
    have h1 : ¬ (c.toNat = 43 ∨ c.toNat = 45) := by omega
    have h2 : ¬ c.toNat = 45 := by omega
    unfold atoiAll
    simp only [h1, if_false]
    unfold parseMag
    rw [if_neg hl, parse_eq (c :: r) 0 hd (by omega)]
    show _ = if decFrom 0 (c :: r) < 9223372036854775808 then NumEnd.ok (decFrom 0 (c :: r) : Int) else NumEnd.range
    generalize decFrom 0 (c :: r) = v
    by_cases hv : v < 18446744073709551616
    · rw [if_pos hv]
      simp only [h2, not_false_eq_true, true_and, false_and, if_false]
      by_cases hv2 : 9223372036854775808 ≤ v
      · rw [if_pos hv2, if_neg (by omega)]
      · rw [if_neg hv2, if_pos (by omega)]
    · rw [if_neg hv, if_neg (by omega)]
def digs : List UInt8 := [48, 49, 50, 51, 52, 53, 54, 55, 56, 57]
theorem digs_contains (c : UInt8) : digs.contains c = digB c := by
  have h : ∀ n : Fin 256, digs.contains (UInt8.ofNat n) = digB (UInt8.ofNat n) := by decide +kernel
  have := h ⟨c.toNat, c.toNat_lt⟩
  simpa using this
theorem dropWhile_nil_iff (p : UInt8 → Bool) : ∀ l : List UInt8, l.dropWhile p = [] ↔ l.all p = true
  | [] => by simp
  | c :: t => by
    rw [List.dropWhile_cons]
    cases h : p c <;> simp [h, dropWhile_nil_iff p t]
theorem trim_nil_iff (l : List UInt8) : trimS l digs = [] ↔ l.all digB = true := by
  have hp : (fun c => digs.contains c) = digB := funext digs_contains
  unfold trimS trimLeftS trimRightS
  rw [hp]
  constructor
  · intro h
    rw [dropWhile_nil_iff, List.all_reverse] at h
    -- what is left at the end of a dropWhile begins with a byte that is no digit
    cases hr : l.reverse.dropWhile digB with
    | nil => rw [dropWhile_nil_iff, List.all_reverse] at hr; exact hr
    | cons c t =>
      rw [hr] at h
      simp only [List.all_cons, Bool.and_eq_true] at h
      have : digB c = false := by
        have := List.head_dropWhile_not digB (l := l.reverse) (by rw [hr]; simp)
        simpa [hr] using this
      rw [h.1] at this; cases this
  · intro h
    rw [(dropWhile_nil_iff digB l.reverse).2 (by rw [List.all_reverse]; exact h)]; rfl
theorem digit_of (d : Nat) (h : d < 10) : (UInt8.ofNat (48 + d)).toNat = 48 + d := by
  rw [UInt8.toNat_ofNat']; omega
/-- decimals without the noughts ahead -/
def strip : List UInt8 → List UInt8
  | [] => []
  | [c] => [c]
  | c :: d :: t => if c = 48 then strip (d :: t) else c :: d :: t
theorem dec_pos : ∀ (r : List UInt8) (a : Nat), 0 < a → r.all digB = true → decDigits (decFrom a r) = decDigits a ++ r
  | [], a, _, _ => by rw [show decFrom a [] = a from rfl, List.append_nil]
  | c :: t, a, ha, hd => by
    simp only [List.all_cons, Bool.and_eq_true] at hd
    have hc := (digB_iff c).1 hd.1
    have e : decDigits (a * 10 + (c.toNat - 48)) = decDigits a ++ [c] := by
      rw [decDigits, dif_neg (by omega)]
      have h1 : (a * 10 + (c.toNat - 48)) / 10 = a := by omega
      have h2 : 48 + (a * 10 + (c.toNat - 48)) % 10 = c.toNat := by omega
      rw [h1, h2]; simp
    have := dec_pos t (a * 10 + (c.toNat - 48)) (by omega) hd.2
    rw [show decFrom a (c :: t) = decFrom (a * 10 + (c.toNat - 48)) t from rfl, this, e]; simp
theorem dec_one (c : UInt8) (hc : 48 ≤ c.toNat ∧ c.toNat ≤ 57) : decDigits (c.toNat - 48) = [c] := by
  rw [decDigits, dif_pos (by omega)]
  have : 48 + (c.toNat - 48) = c.toNat := by omega
  rw [this]; simp
theorem dec_strip : ∀ r : List UInt8, r ≠ [] → r.all digB = true → decDigits (decVal r) = strip r
  | [], h, _ => absurd rfl h
  | [c], _, hd => by
    simp only [List.all_cons, List.all_nil, Bool.and_true] at hd
    have hc := (digB_iff c).1 hd
    rw [strip, show decVal [c] = c.toNat - 48 by show 0 * 10 + (c.toNat - 48) = _; omega]
    exact dec_one c hc
  | c :: d :: t, _, hd => by
    simp only [List.all_cons, Bool.and_eq_true] at hd
    have hc := (digB_iff c).1 hd.1
    have hdt : (d :: t).all digB = true := by simp [hd.2]
    show decDigits (decFrom (0 * 10 + (c.toNat - 48)) (d :: t)) = _
    rw [strip]
    by_cases h0 : c = 48
    · subst h0
      rw [if_pos rfl]
      exact dec_strip (d :: t) (by simp) hdt
    · have hne : c.toNat ≠ 48 := fun e => h0 (UInt8.toNat_inj.1 e)
      rw [if_neg h0, dec_pos _ _ (by omega) hdt, show 0 * 10 + (c.toNat - 48) = c.toNat - 48 by omega, dec_one c hc]; simp
theorem decFrom_lt : ∀ (r : List UInt8) (a k : Nat), r.all digB = true → a < 10 ^ k → decFrom a r < 10 ^ (k + r.length)
  | [], _, _, _, h => h
  | c :: t, a, k, hd, h => by
    simp only [List.all_cons, Bool.and_eq_true] at hd
    have hc := (digB_iff c).1 hd.1
    have h2 : a * 10 + (c.toNat - 48) < 10 ^ (k + 1) := by rw [Nat.pow_succ]; omega
    have := decFrom_lt t _ (k + 1) hd.2 h2
    rw [show k + (c :: t).length = k + 1 + t.length by simp; omega]
    exact this
theorem decVal_lt (r : List UInt8) (hd : r.all digB = true) (hl : r.length ≤ 18) : decVal r < 1000000000000000000 := by
  have h := decFrom_lt r 0 0 hd (by decide)
  have h2 : 10 ^ (0 + r.length) ≤ 10 ^ 18 := Nat.pow_le_pow_right (by decide) (by omega)
  show decFrom 0 r < _
  omega
theorem dec0 : decDigits 0 = [48] := by rw [decDigits, dif_pos (by decide)]; rfl
theorem strip_zero : ∀ r : List UInt8, r ≠ [] → r.all digB = true → (strip r = [48] ↔ decVal r = 0) := by
  intro r h hd
  rw [← dec_strip r h hd]
  constructor
  · intro e
    rcases Nat.eq_zero_or_pos (decVal r) with h0 | h0
    · exact h0
    · have : (decDigits (decVal r)).length = 1 := by rw [e]; rfl
      rw [decDigits] at e this
      split at e
      · rename_i hlt
        rw [List.cons.injEq] at e
        have := congrArg UInt8.toNat e.1
        rw [UInt8.toNat_ofNat'] at this
        have h48 : (48 : UInt8).toNat = 48 := rfl
        omega
      · rename_i hlt
        rw [dif_neg hlt] at this
        have hne : (decDigits (decVal r / 10)).length ≠ 0 := by
          rw [decDigits]; split <;> simp
        simp at this
        exact absurd (by rw [this]; rfl) hne
  · intro e; rw [e]; exact dec0
/-- a sign ahead, but of nought -/
def sg (neg : Bool) (z : List UInt8) : List UInt8 := if neg = true ∧ z ≠ [48] then 45 :: z else z
/-- a text without its sign -/
def unsg (x : List UInt8) : List UInt8 := if x.head? = some 45 then x.tail else x
def badNum (r : List UInt8) : Bool := r.isEmpty || decide (18 < r.length) || !r.all digB
/-- decimals, in their shortest form; none: it is no number -/
def numL (x : List UInt8) : Option (List UInt8) :=
  if x = [] then some [48] else if badNum (unsg x) then none else some (sg (x.head? == some 45) (strip (unsg x)))
theorem num_atoi (x : List UInt8) (hx : x ≠ []) (hb : badNum (unsg x) = false) : ∃ v : Int, atoiAll x = .ok v ∧ -9223372036854775808 ≤ v ∧ v ≤ 9223372036854775807 ∧ itoa v = sg (x.head? == some 45) (strip (unsg x)) := by
  simp only [badNum, Bool.or_eq_false_iff, decide_eq_false_iff_not, Bool.not_eq_false'] at hb
  obtain ⟨⟨h1, h2⟩, h3⟩ := hb
  have hne : unsg x ≠ [] := by simpa using h1
  have hlt := decVal_lt _ h3 (by omega)
  have hstr := dec_strip _ hne h3
  have hz := strip_zero _ hne h3
  cases x with
  | nil => exact absurd rfl hx
  | cons c t =>
    by_cases h45 : c = 45
    · subst h45
      have hu : unsg (45 :: t) = t := by simp [unsg]
      rw [hu] at h1 h2 h3 hne hlt hstr hz ⊢
      refine ⟨-(decVal t : Int), ?_, by omega, by omega, ?_⟩
      · have ha := atoi_digits t hne h3
        rw [if_pos (by omega)] at ha
        have hp := parse_eq t 0 h3 (by decide)
        have hv : decFrom 0 t = decVal t := rfl
        rw [hv, if_pos (by omega)] at hp
        have hm : parseMag t = .ok (decVal t) := by
          unfold parseMag; cases t with
          | nil => exact absurd rfl hne
          | cons d r => exact hp
        have e : (if (45 : UInt8).toNat = 43 ∨ (45 : UInt8).toNat = 45 then t else 45 :: t) = t := if_pos (.inr rfl)
        have h45 : (45 : UInt8).toNat = 45 := rfl
        unfold atoiAll
        simp only [e, hm]
        rw [if_neg (fun h => h.1 h45), if_neg (by omega), if_pos h45]
      · rw [show ((45 :: t).head? == some (45 : UInt8)) = true by rfl]
        by_cases h0 : decVal t = 0
        · have hs := hz.2 h0
          rw [h0, hs]; show itoa (-(0:Int)) = [48]; rw [itoa, if_neg (by decide)]; exact dec0
        · have hs : strip t ≠ [48] := fun e => h0 (hz.1 e)
          rw [sg, if_pos ⟨rfl, hs⟩, ← hstr, itoa, if_pos (by omega)]
          congr 2
          omega
    · have hu : unsg (c :: t) = c :: t := by simp [unsg, h45]
      rw [hu] at h1 h2 h3 hne hlt hstr hz ⊢
      refine ⟨(decVal (c :: t) : Int), ?_, by omega, by omega, ?_⟩
      · have ha := atoi_digits (c :: t) hne h3
        rw [if_pos (by omega)] at ha
        exact ha
      · have hn : ((c :: t).head? == some (45 : UInt8)) = false := by simp [h45]
        rw [hn, sg, if_neg (by simp), ← hstr, itoa, if_neg (by omega)]
        congr 1
theorem trimPrefix_unsg (x : List UInt8) : trimPrefix x [45] = unsg x := by
  cases x with
  | nil => rfl
  | cons c t =>
    by_cases h : c = 45
    · subst h; simp [trimPrefix, hasPrefix, unsg, List.isPrefixOf]
    · simp [trimPrefix, hasPrefix, unsg, List.isPrefixOf, h, Ne.symm h]
theorem strip_len : ∀ r : List UInt8, (strip r).length ≤ r.length
  | [] => by simp [strip]
  | [c] => by simp [strip]
  | c :: d :: t => by
    have := strip_len (d :: t)
    rw [strip]; split
    · simp at this ⊢; omega
    · simp
theorem numL_len {x y : List UInt8} (h : numL x = some y) : y.length ≤ 20 := by
  unfold numL at h
  split at h
  · cases h; simp
  · split at h
    · cases h
    · rename_i hb
      cases h
      simp only [badNum, Bool.or_eq_true, decide_eq_true_eq, not_or] at hb
      have := strip_len (unsg x)
      unfold sg; split <;> simp <;> omega
end Go.Proofs.YtmhgehnkhhlbkaaGreatDoor
