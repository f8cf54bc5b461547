/- Plain laws: what is quoted is unquoted; a number's text is its number. -/
import Derived.Test.YtlfnoadnnkkegaaDoorChB
namespace Go.Proofs.YtlfnoadnnkkegaaDoor
open Go.Lib

theorem repL_back : ∀ (s : List UInt8) (f : Nat), (s.flatMap esc).length ≤ f → repL [39, 92, 39, 39] [39] f (s.flatMap esc) = s
  | [], 0, _ => rfl
  | [], _ + 1, _ => rfl
  | c :: t, f, h => by
    rw [List.flatMap_cons] at h ⊢
    by_cases hc : c = 39
    · subst hc
      have e : esc 39 = [39, 92, 39, 39] := rfl
      rw [e] at h ⊢
      cases f with
      | zero => simp at h
      | succ f =>
        have ih := repL_back t f (by rw [List.length_append] at h; simp only [List.length_cons, List.length_nil] at h; omega)
        have hp : ([39, 92, 39, 39] : List UInt8).isPrefixOf (39 :: ([92, 39, 39] ++ t.flatMap esc)) = true := by simp
        show repL [39, 92, 39, 39] [39] (f + 1) (39 :: ([92, 39, 39] ++ t.flatMap esc)) = _
        rw [repL, if_pos hp]
        simpa using ih
    · have e : esc c = [c] := by simp [esc, hc]
      rw [e] at h ⊢
      cases f with
      | zero => simp at h
      | succ f =>
        have ih := repL_back t f (by simpa using h)
        have hp : ([39, 92, 39, 39] : List UInt8).isPrefixOf (c :: t.flatMap esc) = false := by
          have : (39 == c) = false := by simpa using fun h => hc h.symm
          simp [List.isPrefixOf, this]
        show repL [39, 92, 39, 39] [39] (f + 1) (c :: t.flatMap esc) = _
        rw [repL, hp]
        simpa using ih
theorem unq_quote (s : List UInt8) : unqRes (quoteL s) = (s, 0) := by
  have hmid : midU (quoteL s) = s.flatMap esc := by
    simp [midU, quoteL]
  have hu : unqM (midU (quoteL s)) = s := by
    rw [hmid]; exact repL_back s _ (Nat.le_refl _)
  simp only [unqRes, unquoteL]
  rw [if_pos ⟨by simp [quoteL], by simp [quoteL], by simp [quoteL], by rw [hu]⟩, hu]
theorem unq_some {q u : List UInt8} (h : unqRes q = (u, 0)) : quoteL u = q := by
  simp only [unqRes, unquoteL] at h
  split at h
  · rename_i s hs
    split at hs
    · rename_i hc
      cases hs
      cases h
      exact hc.2.2.2
    · cases hs
  · cases h
theorem unq_cases (q : List UInt8) : (∃ u, unqRes q = (u, 0)) ∨ unqRes q = ([], 11) := by
  simp only [unqRes]
  split
  · exact .inl ⟨_, rfl⟩
  · exact .inr rfl
theorem unq_len {q u : List UInt8} (h : unqRes q = (u, 0)) : u.length ≤ q.length := by
  have := unq_some h
  rw [← this]
  simp only [quoteL, List.length_append, List.length_cons, List.length_nil]
  have : ∀ l : List UInt8, l.length ≤ (l.flatMap esc).length := by
    intro l
    induction l with
    | nil => simp
    | cons c t ih =>
      rw [List.flatMap_cons, List.length_append, List.length_cons]
      have : 1 ≤ (esc c).length := by unfold esc; split <;> simp
      omega
  have := this u
  omega

theorem decFrom_app : ∀ (l r : List UInt8) (a : Nat), decFrom a (l ++ r) = decFrom (decFrom a l) r
  | [], _, _ => rfl
  | _ :: t, r, _ => decFrom_app t r _
theorem digit_of (d : Nat) (h : d < 10) : (UInt8.ofNat (48 + d)).toNat = 48 + d := by
  rw [UInt8.toNat_ofNat']; omega
theorem dec_of (u : Nat) : (decDigits u).all digB = true ∧ decVal (decDigits u) = u ∧ decDigits u ≠ [] := by
  induction u using Nat.strongRecOn with
  | _ u ih =>
    rw [decDigits]
    split
    · rename_i h
      have := digit_of u h
      refine ⟨by rw [List.all_cons, (digB_iff _).2 (by omega)]; rfl, ?_, by simp⟩
      show 0 * 10 + ((UInt8.ofNat (48 + u)).toNat - 48) = u
      rw [this]; omega
    · rename_i h
      obtain ⟨h1, h2, h3⟩ := ih (u / 10) (by omega)
      have hd := digit_of (u % 10) (Nat.mod_lt _ (by omega))
      refine ⟨?_, ?_, by simp⟩
      · rw [List.all_append, h1]
        rw [List.all_cons, (digB_iff _).2 (by omega)]; rfl
      · unfold decVal at h2 ⊢
        rw [decFrom_app, h2]
        show u / 10 * 10 + ((UInt8.ofNat (48 + u % 10)).toNat - 48) = u
        rw [hd]; omega
theorem num_neg (n most : Int) (h : n < 0) : numRes (itoa n) most = (0, 10) := by
  unfold itoa
  rw [if_pos h]
  simp only [numRes]
  rw [if_pos (.inr (by simp [digB]))]
theorem num_nat (n most : Int) (h : 0 ≤ n) : numRes (itoa n) most = if most < n then (0, 3) else (n, 0) := by
  unfold itoa
  rw [if_neg (by omega)]
  obtain ⟨h1, h2, h3⟩ := dec_of n.toNat
  simp only [numRes]
  rw [if_neg (by simp [h1, h3]), h2, Int.toNat_of_nonneg h]
theorem dec_len : ∀ (k u : Nat), u < 10 ^ k → 0 < k → (decDigits u).length ≤ k
  | 0, _, _, h => by omega
  | k + 1, u, hu, _ => by
    rw [decDigits]
    split
    · simp
    · rename_i h
      have hk : 0 < k := by
        rcases Nat.eq_zero_or_pos k with rfl | h'
        · simp at hu; omega
        · exact h'
      have := dec_len k (u / 10) (by rw [Nat.pow_succ] at hu; omega) hk
      simp; omega
theorem itoa_len (n : Int) (h : -9223372036854775808 ≤ n ∧ n ≤ 9223372036854775807) : (itoa n).length ≤ 20 := by
  unfold itoa
  split
  · have := dec_len 19 n.natAbs (by omega) (by omega)
    simp; omega
  · have := dec_len 19 n.toNat (by omega) (by omega)
    omega
end Go.Proofs.YtlfnoadnnkkegaaDoor
