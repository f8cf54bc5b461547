/- The executor: code, calls. -/
import Derived.Test.YtncnbmmmdfekeaaGreatDoorExT
set_option linter.unusedVariables false
set_option linter.unusedSimpArgs false
set_option linter.deprecated false
namespace Go.Proofs.YtncnbmmmdfekeaaGreatDoor.Zz
open Go Go.RowKit

section
variable {P : Program} {ρ : Nat → Value} {w0 : World} {base : Nat} {m : BMap}
theorem Dom.trans {a b c : BMap} {l k h : Nat} (h1 : Dom a b l k) (h2 : Dom b c k h) (hl : l ≤ k) (hk : k ≤ h) : Dom a c l h := fun A e1 e2 => by
  cases hb : b A with
  | none => have := h2 A hb e2; omega
  | some p => have := h1 A e1 (by rw [hb]; simp); omega
theorem Fresh.rest {a b : BMap} {l k h : Nat} (hf : Fresh a l h) (hd : Dom a b l k) (hl : l ≤ k) : Fresh b k h := fun A e1 e2 => by
  have := hf A (by omega) e2
  cases hb : b A with
  | none => rfl
  | some p => have := hd A this (by rw [hb]; simp); omega
/-- the state of a walk -/
structure At (ρ : Nat → Value) (w0 : World) (base N : Nat) (m : BMap) (st : ASt) (tm : Tm) (a : Act) (w : World) : Prop where
  rel : Rel ρ w0 base m st.heap.get w
  tmr : TmR ρ m tm a
  size : a.tmps.size = N
  defers : a.defers = []
/-- what is to be shown behind a piece of code -/
def Post (ρ : Nat → Value) (w0 : World) (base N : Nat) (m : BMap) (st st' : ASt) (tm' : Tm) (K : Act → World → Prop) : Prop :=
  ∀ a' w' m', Ext m m' → Dom m m' st.next st'.next → At ρ w0 base N m' st' tm' a' w' → K a' w'
theorem fr_next {α : Type} {x : M α} (hx : Fr x) {st st' : ASt} {a : α} (h : x st = some (a, st')) : st.next ≤ st'.next := by
  obtain ⟨L, q⟩ := hx st a st' h
  exact q.next
theorem ops_ok {H : Hooks} {e : Ex} {N : Nat} {ops : Array Oper} (hq : Opq ρ) (hc : CallOk P ρ w0 base e.call) (hH : HookOk P ρ w0 base H) (hFH : FrH H) (hFE : FrE e) {Q : Exit → Act → World → Prop} :
    ∀ (l : List Nat) (os : List Oper) (m : BMap) (st st' : ASt) (tm tm' : Tm) (a : Act) (w : World), (∀ k : Nat, l[k]?.bind (ops[·]?) = os[k]?) → l.length = os.length → opsA P H e N ops os tm st = some (tm', st') → At ρ w0 base N m st tm a w → Fresh m st.next st'.next →
      Post ρ w0 base N m st st' tm' (Q .normal) → wpOps P ops Q l a w
  | [], [], m, st, st', tm, tm', a, w, _, _, h, hA, hf, hP => by
    cases h
    exact hP a w m (Ext.refl m) (fun A h1 h2 => absurd h1 h2) hA
  | [], _ :: _, _, _, _, _, _, _, _, _, h, _, _, _, _ => by cases h
  | _ :: _, [], _, _, _, _, _, _, _, _, h, _, _, _, _ => by cases h
  | i :: l, o :: os, m, st, st', tm, tm', a, w, hi, hl, h, hA, hf, hP => by
    unfold opsA at h
    obtain ⟨tm1, st1, h1, h2⟩ := bnd_eq h
    have h0 := hi 0
    simp only [List.getElem?_cons_zero, Option.bind_some] at h0
    have n1 := fr_next (Fr.operA P hFH hFE N ops o tm) h1
    have n2 := fr_next (Fr.opsA P hFH hFE N ops os tm1) h2
    have := oper_ok hq hc hH h1 hA.rel (fun A e1 e2 => hf A e1 (by omega)) hA.tmr hA.size hA.defers (wpOps P ops Q l) Q (fun a' w' m' e1 e2 e3 e4 e5 e6 => by
      refine ops_ok hq hc hH hFH hFE l os m' st1 st' tm1 tm' a' w' (fun k => by simpa using hi (k + 1)) (by simpa using hl) h2 ⟨e3, e4, e5, e6⟩ (hf.rest e2 n1) ?_
      intro a2 w2 m2 f1 f2 f3
      exact hP a2 w2 m2 (e1.trans f1) (e2.trans f2 n1 n2) f3)
    unfold wpOps
    rw [h0]
    exact this
/-- what a drawn region is to show -/
def DrawOk (P : Program) (ρ : Nat → Value) (w0 : World) (base : Nat) (H : Hooks) (e : Ex) : Prop :=
  ∀ (N id : Nat) (ops : Array Oper) (m : BMap) (st st' : ASt) (tm tm' : Tm) (logs : List (List Nat)) (a : Act) (w : World) (Q : Exit → Act → World → Prop),
    drawA P H e N ops ops.toList tm st = some ((tm', logs), st') → allOk ops ops.toList logs 0 ops.toList (ancs ops.toList) logs = true → At ρ w0 base N m st tm a w → Fresh m st.next st'.next →
      Post ρ w0 base N m st st' tm' (Q .normal) → (Code.region id ops true).wp P Q a w
theorem exists_least (p : Nat → Prop) (h : ∃ k, p k) : ∃ k, p k ∧ ∀ j, p j → k ≤ j := by
  obtain ⟨k, hk⟩ := h
  induction k using Nat.strongRecOn with
  | _ k ih =>
    by_cases hj : ∃ j, j < k ∧ p j
    · obtain ⟨j, h1, h2⟩ := hj
      exact ih j h1 h2
    · exact ⟨k, hk, fun j hpj => by
        rcases Nat.lt_or_ge j k with h | h
        · exact absurd ⟨j, h, hpj⟩ hj
        · exact h⟩
theorem code_ok {H : Hooks} (hq : Opq ρ) (hH : HookOk P ρ w0 base H) (hFH : FrH H) (c : Code) : ∀ (n : Nat), (∀ k, k ≤ n → CallOk P ρ w0 base (exec P H k).call ∧ DrawOk P ρ w0 base H (exec P H k)) →
    ∀ (N : Nat) (m : BMap) (st st' : ASt) (tm tm' : Tm) (x : Exit) (a : Act) (w : World) (Q : Exit → Act → World → Prop), codeA P H (exec P H n) N c tm st = some ((x, tm'), st') → At ρ w0 base N m st tm a w → Fresh m st.next st'.next →
      Post ρ w0 base N m st st' tm' (Q x) → c.wp P Q a w := by
  induction c with
  | skip =>
    intro n hn N m st st' tm tm' x a w Q h hA hf hP
    cases h
    exact wp_skip (hP a w m (Ext.refl m) (fun A h1 h2 => absurd h1 h2) hA)
  | label l =>
    intro n hn N m st st' tm tm' x a w Q h hA hf hP
    cases h
    exact wp_label (hP a w m (Ext.refl m) (fun A h1 h2 => absurd h1 h2) hA)
  | exit id =>
    intro n hn N m st st' tm tm' x a w Q h hA hf hP
    cases h
    exact wp_exit (hP a w m (Ext.refl m) (fun A h1 h2 => absurd h1 h2) hA)
  | ret =>
    intro n hn N m st st' tm tm' x a w Q h hA hf hP
    cases h
    exact wp_ret (hP a w m (Ext.refl m) (fun A h1 h2 => absurd h1 h2) hA)
  | region id ops d =>
    intro n hn N m st st' tm tm' x a w Q h hA hf hP
    cases d with
    | false =>
      simp only [codeA] at h
      obtain ⟨tm1, st1, h1, h2⟩ := bnd_eq h
      cases h2
      refine wp_region (ops_ok hq (hn n (Nat.le_refl n)).1 hH hFH (FrE.exec P hFH n) _ ops.toList m st st' tm tm' a w (fun k => ?_) (by simp) h1 hA hf hP)
      rw [Array.getElem?_toList]
      rcases Nat.lt_or_ge k ops.size with hk | hk
      · simp [hk]
      · simp [hk]
    | true =>
      simp only [codeA] at h
      obtain ⟨⟨tm1, logs⟩, st1, h1, h2⟩ := bnd_eq h
      dsimp only at h2
      cases hok : allOk ops ops.toList logs 0 ops.toList (ancs ops.toList) logs with
      | false => rw [hok] at h2; cases h2
      | true =>
        rw [hok] at h2
        cases h2
        exact (hn n (Nat.le_refl n)).2 N id ops m st st' tm tm' logs a w Q h1 hok hA hf hP
  | seq c1 c2 ih1 ih2 =>
    intro n hn N m st st' tm tm' x a w Q h hA hf hP
    simp only [codeA] at h
    obtain ⟨⟨x1, tm1⟩, st1, h1, h2⟩ := bnd_eq h
    dsimp only at h2
    have n1 := fr_next (Fr.codeA P hFH (FrE.exec P hFH n) N c1 tm) h1
    refine wp_seq (ih1 n hn N m st st1 tm tm1 x1 a w _ h1 hA (fun A e1 e2 => hf A e1 (by
      have n2 : st1.next ≤ st'.next := by
        cases x1 <;> first | exact fr_next (Fr.codeA P hFH (FrE.exec P hFH n) N c2 tm1) h2 | (cases h2; exact Nat.le_refl _)
      omega)) ?_)
    intro a1 w1 m1 e1 e2 e3
    cases x1 with
    | normal =>
      have n2 := fr_next (Fr.codeA P hFH (FrE.exec P hFH n) N c2 tm1) h2
      refine ih2 n hn N m1 st1 st' tm1 tm' x a1 w1 Q h2 e3 (hf.rest e2 n1) ?_
      intro a2 w2 m2 f1 f2 f3
      exact hP a2 w2 m2 (e1.trans f1) (e2.trans f2 n1 n2) f3
    | _ =>
      cases h2
      exact hP a1 w1 m1 e1 e2 e3
  | cond c t f iht ihf =>
    intro n hn N m st st' tm tm' x a w Q h hA hf hP
    simp only [codeA] at h
    obtain ⟨v, hv, h⟩ := optb_eq h
    have hvr := aval_ok hv hA.tmr
    cases v with
    | bool b =>
      generalize hev : a.eval c = ev at hvr
      cases hvr
      cases b with
      | true => exact wp_cond hev (iht n hn N m st st' tm tm' x a w Q h hA hf hP)
      | false => exact wp_cond hev (ihf n hn N m st st' tm tm' x a w Q h hA hf hP)
    | _ => cases h
  | block id b ih =>
    intro n hn N m st st' tm tm' x a w Q h hA hf hP
    simp only [codeA] at h
    obtain ⟨⟨x1, tm1⟩, st1, h1, h2⟩ := bnd_eq h
    dsimp only at h2
    have hst : st1 = st' ∧ tm1 = tm' := by
      cases x1 with
      | exit id' =>
        dsimp only at h2
        cases hb : Nat.beq id' id with
        | true => rw [hb] at h2; cases h2; exact ⟨rfl, rfl⟩
        | false => rw [hb] at h2; cases h2; exact ⟨rfl, rfl⟩
      | _ => cases h2; exact ⟨rfl, rfl⟩
    obtain ⟨rfl, rfl⟩ := hst
    refine wp_block (ih n hn N m st st1 tm tm1 x1 a w _ h1 hA hf ?_)
    intro a1 w1 m1 e1 e2 e3
    have hPx := hP a1 w1 m1 e1 e2 e3
    cases x1 with
    | exit id' =>
      dsimp only at h2
      cases hb : Nat.beq id' id with
      | true =>
        rw [hb] at h2; cases h2
        have hid : id' = id := by simpa using hb
        show (if id' = id then Q .normal a1 w1 else Q (.exit id') a1 w1)
        rw [if_pos hid]; exact hPx
      | false =>
        rw [hb] at h2; cases h2
        have hid : id' ≠ id := by intro e; subst e; simp at hb
        show (if id' = id then Q .normal a1 w1 else Q (.exit id') a1 w1)
        rw [if_neg hid]; exact hPx
    | _ => cases h2; exact hPx
  | scope b ih =>
    intro n hn N m st st' tm tm' x a w Q h hA hf hP
    simp only [codeA] at h
    obtain ⟨⟨x1, tm1⟩, st1, h1, h2⟩ := bnd_eq h
    cases x1 with
    | goto l => cases h2
    | _ =>
      cases h2
      refine wp_scope_straight (ih n hn N m st _ tm _ _ a w _ h1 hA hf ?_)
      intro a1 w1 m1 e1 e2 e3
      exact hP a1 w1 m1 e1 e2 e3
  | loop b ih =>
    intro n hn N m st st' tm tm' x a w Q h hA hf hP
    let J : Nat → Act → World → Prop := fun k a w => k ≤ n ∧ ∃ m st tm stF tmF xF, codeA P H (exec P H k) N (.loop b) tm st = some ((xF, tmF), stF) ∧ At ρ w0 base N m st tm a w ∧ Fresh m st.next stF.next ∧ Post ρ w0 base N m st stF tmF (Q xF)
    haveI : ∀ a w, DecidablePred fun k => J k a w := fun a w k => Classical.propDecidable _
    have hdec : ∀ a w, Decidable (∃ k, J k a w) := fun a w => Classical.propDecidable _
    let μ : Act → World → Nat := fun a w => @dite _ (∃ k, J k a w) (hdec a w) (fun h => Classical.choose (exists_least (fun k => J k a w) h)) (fun _ => 0)
    refine wp_loop (fun a w => ∃ k, J k a w) μ ⟨n, Nat.le_refl n, m, st, tm, st', tm', x, h, hA, hf, hP⟩ ?_
    intro a w hI
    have hμ : J (μ a w) a w ∧ ∀ k, J k a w → μ a w ≤ k := by
      have hs := Classical.choose_spec (exists_least (fun k => J k a w) hI)
      have : μ a w = Classical.choose (exists_least (fun k => J k a w) hI) := by
        show @dite _ _ (hdec a w) _ _ = _
        rw [dif_pos hI]
      rw [this]; exact hs
    obtain ⟨k, hk⟩ : ∃ k, μ a w = k := ⟨_, rfl⟩
    rw [hk] at hμ
    rw [hk]
    obtain ⟨⟨hkn, m1, st1, tm1, stF, tmF, xF, hc, hA1, hf1, hP1⟩, hmin⟩ := hμ
    simp only [codeA] at hc
    obtain ⟨⟨x2, tm2⟩, st2, g1, g2⟩ := bnd_eq hc
    dsimp only at g2
    have n1 := fr_next (Fr.codeA P hFH (FrE.exec P hFH k) N b tm1) g1
    have n2 : st2.next ≤ stF.next := by
      cases x2 <;> first | exact fr_next ((FrE.exec P hFH k).2 _ _ _) g2 | (cases g2; exact Nat.le_refl _)
    refine ih k (fun k' hk' => hn k' (by omega)) N m1 st1 st2 tm1 tm2 x2 a w _ g1 hA1 (fun A e1 e2 => hf1 A e1 (by omega)) ?_
    intro a2 w2 m2 e1 e2 e3
    cases x2 with
    | normal =>
      cases k with
      | zero => cases g2
      | succ k' =>
        have hJ : J k' a2 w2 := ⟨by omega, m2, st2, tm2, stF, tmF, xF, g2, e3, hf1.rest e2 n1, fun a3 w3 m3 f1 f2 f3 => hP1 a3 w3 m3 (e1.trans f1) (e2.trans f2 n1 n2) f3⟩
        refine ⟨⟨k', hJ⟩, ?_⟩
        have hs := Classical.choose_spec (exists_least (fun k => J k a2 w2) ⟨k', hJ⟩)
        have hμ2 : μ a2 w2 = Classical.choose (exists_least (fun k => J k a2 w2) ⟨k', hJ⟩) := by
          show @dite _ _ (hdec a2 w2) _ _ = _
          rw [dif_pos ⟨k', hJ⟩]
        have := hs.2 k' hJ
        rw [hμ2]
        omega
    | _ =>
      cases g2
      exact hP1 a2 w2 m2 e1 e2 e3
  | _ =>
    intro n hn N m st st' tm tm' x a w Q h hA hf hP
    cases h
end
end Go.Proofs.YtncnbmmmdfekeaaGreatDoor.Zz
