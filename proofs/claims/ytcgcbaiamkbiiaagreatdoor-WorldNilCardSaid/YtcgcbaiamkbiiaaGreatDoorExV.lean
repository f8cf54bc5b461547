/- The executor: results, whole calls. -/
import Derived.Test.YtcgcbaiamkbiiaaGreatDoorExU
set_option linter.unusedVariables false
set_option linter.unusedSimpArgs false
set_option linter.deprecated false
namespace Go.Proofs.YtcgcbaiamkbiiaaGreatDoor.Zz
open Go Go.RowKit

section
variable {P : Program} {ρ : Nat → Value} {w0 : World} {base : Nat} {m : BMap}
/-- reading one result -/
def resM (tmps : Array Value) (x : ResultVar) : Sem Value :=
  match x with
  | .tmp t => pure (tmps.getD t undef)
  | .cell b t => do loadVar t (← asAddr (tmps.getD b undef))
theorem resM_tmp {tmps : Array Value} {t : Nat} {w : World} : (resM tmps (.tmp t)).run P w = .ok (tmps.getD t undef) w := Sem.run_pure ..
theorem resM_cell {tmps : Array Value} {b : Nat} {t : TypeId} {w : World} {ad : Addr} {v : Value} (h : tmps.getD b undef = .pointer (some ad)) (hl : (loadVar t ad).run P w = .ok v w) : (resM tmps (.cell b t)).run P w = .ok v w := by
  show ((asAddr (tmps.getD b undef)) >>= fun x => loadVar t x).run P w = _
  rw [h, Sem.run_bind]
  exact hl
theorem results_eq {fn : Func} {tmps : Array Value} : results fn tmps = (fn.results.mapM (resM tmps) >>= fun vs => pure (if h : vs.size = 1 then vs[0] else .tuple vs)) := rfl
theorem mapM_cons_ok {α : Type} {f : α → Sem Value} {x : α} {l : List α} {v : Value} {vs : List Value} {w : World} (h1 : (f x).run P w = .ok v w) (h2 : (l.mapM f).run P w = .ok vs w) : ((x :: l).mapM f).run P w = .ok (v :: vs) w := by
  rw [List.mapM_cons, Sem.run_bind, h1, Result.andThen_ok, Sem.run_bind, h2, Result.andThen_ok, Sem.run_pure]
theorem resultA_ok {tm : Tm} {a : Act} {w : World} (ht : TmR ρ m tm a) : ∀ (l : List ResultVar) (st st' : ASt) (r : List AV), resultA P tm l st = some (r, st') → Rel ρ w0 base m st.heap.get w →
    ∃ vs : List Value, (l.mapM (resM a.tmps)).run P w = .ok vs w ∧ LR ρ m r vs ∧ st'.heap = st.heap ∧ st'.next = st.next
  | [], st, st', r, h, hr => by
    cases h
    exact ⟨[], by rw [List.mapM_nil]; exact Sem.run_pure .., .nil, rfl, rfl⟩
  | .tmp t :: l, st, st', r, h, hr => by
    unfold resultA at h
    obtain ⟨v, hv, h⟩ := optb_eq h
    obtain ⟨r', s1, h1, h2⟩ := bnd_eq h
    cases h2
    obtain ⟨vs, g1, g2, g3, g4⟩ := resultA_ok ht l st st' r' h1 hr
    exact ⟨a.tmps.getD t undef :: vs, mapM_cons_ok resM_tmp g1, .cons _ _ _ _ (aval_ok (x := .tmp t) hv ht) g2, g3, g4⟩
  | .cell b t :: l, st, st', r, h, hr => by
    unfold resultA at h
    obtain ⟨v, hv, h⟩ := optb_eq h
    have hvr := aval_ok (x := .tmp b) hv ht
    have hev' : a.eval (.tmp b) = a.tmps.getD b undef := rfl
    rw [hev'] at hvr
    generalize hev : a.tmps.getD b undef = ev at hvr
    cases hvr with
    | ptr A i bb d z hA =>
      dsimp only at h
      obtain ⟨x, s1, h1, h⟩ := bnd_eq h
      obtain ⟨r', s2, h2, h3⟩ := bnd_eq h
      cases h3
      obtain ⟨xv, f1, f2, f3, f4⟩ := loadT_same h1 hr hA
      obtain ⟨vs, g1, g2, g3, g4⟩ := resultA_ok ht l s1 st' r' h2 (by rw [f3]; exact hr)
      exact ⟨xv :: vs, mapM_cons_ok (resM_cell hev f1) g1, .cons _ _ _ _ f2 g2, by rw [g3, f3], by rw [g4, f4]⟩
    | _ => cases h
theorem tmOf_get : ∀ (l : List AV) (i : Nat) (tm : Tm) (k : Nat), (tmOf i l tm).get k = if i ≤ k ∧ k < i + l.length then (l[k - i]?).map some else tm.get k
  | [], i, tm, k => by simp [tmOf]; intro h1 h2; omega
  | v :: l, i, tm, k => by
    rw [tmOf, tmOf_get l, Tr.get_put]
    simp only [List.length_cons]
    by_cases h1 : k = i
    · subst h1
      rw [if_neg (by omega), if_pos rfl, if_pos (by omega)]; simp
    · by_cases h2 : i + 1 ≤ k ∧ k < i + 1 + l.length
      · rw [if_pos h2, if_pos (by omega), show k - i = (k - (i + 1)) + 1 by omega]; simp
      · rw [if_neg h2, if_neg h1, if_neg (by omega)]
theorem start_tm {args : List AV} {us : Array Value} (n : Nat) (hl : LR ρ m args us.toList) : TmR ρ m (tmOf 0 args .lf) { tmps := us ++ Array.replicate (n - us.size) undef, defers := [] } := fun t => by
  have hlen := hl.length
  simp only [Array.length_toList] at hlen
  rw [tmOf_get]
  by_cases h : 0 ≤ t ∧ t < 0 + args.length
  · rw [if_pos h]
    cases hx : args[t - 0]? with
    | none => rw [List.getElem?_eq_none_iff] at hx; omega
    | some x =>
      obtain ⟨v, h1, h2⟩ := hl.get hx
      refine ⟨v, ?_, h2⟩
      rw [Nat.sub_zero, Array.getElem?_toList] at h1
      show (us ++ Array.replicate (n - us.size) undef)[t]? = some v
      rw [Array.getElem?_append_left (by omega)]; exact h1
  · rw [if_neg h, Tr.get_lf]
    show (us ++ Array.replicate (n - us.size) undef).getD t undef = undef
    rw [Array.getD_eq_getD_getElem?, Array.getElem?_append_right (by omega)]
    simp only [Array.getElem?_replicate]
    split <;> rfl
theorem exec_ok {H : Hooks} (hq : Opq ρ) (hH : HookOk P ρ w0 base H) (hFH : FrH H) (hdraw : ∀ e, FrE e → CallOk P ρ w0 base e.call → DrawOk P ρ w0 base H e) : ∀ n, CallOk P ρ w0 base (exec P H n).call := by
  intro n
  induction n using Nat.strongRecOn with
  | _ n ih =>
    cases n with
    | zero => exact fun f args us m st w v st' h => by cases h
    | succ n =>
      intro f args us m st w v st' h hr hf hl
      show Calls P f us w _
      unfold exec at h
      dsimp only at h
      unfold callA at h
      cases hfn : P.funcs[f]? with
      | none => rw [hfn] at h; cases h
      | some fn =>
        rw [hfn] at h
        dsimp only at h
        cases hb : fn.body with
        | none => rw [hb] at h; cases h
        | some c =>
          rw [hb] at h
          dsimp only at h
          obtain ⟨⟨x, tm⟩, st1, h1, h2⟩ := bnd_eq h
          have hlen := hl.length
          simp only [Array.length_toList] at hlen
          have n1 := fr_next (Fr.codeA P hFH (FrE.exec P hFH n) _ c _) h1
          refine calls_of_wp hfn hb (code_ok hq hH hFH c n (fun k hk => ⟨ih k (by omega), hdraw _ (FrE.exec P hFH k) (ih k (by omega))⟩) _ m st st1 _ tm x _ w _ h1 ⟨hr, start_tm fn.ntmps hl, by simp [hlen], rfl⟩ (fun A e1 e2 => hf A e1 (by
            have n2 : st1.next ≤ st'.next := by
              cases x <;> first | (cases h2; done) | (obtain ⟨l, s3, g1, g2⟩ := bnd_eq h2; have n3 := fr_next (Fr.resultA P tm _) g1; split at g2 <;> (cases g2; exact n3))
            omega)) ?_)
          intro a1 w1 m1 e1 e2 e3
          have hres : ∀ l s3, resultA P tm fn.results.toList st1 = some (l, s3) → (match l with | [v] => Zz.ret v | l => Zz.ret (.tup l)) s3 = some (v, st') → ∃ v', (results fn a1.tmps).run P w1 = .ok v' w1 ∧ VR ρ m1 v v' ∧ st'.heap = st1.heap ∧ st'.next = st1.next := by
            intro l s3 g1 g2
            obtain ⟨vs, f1, f2, f3, f4⟩ := resultA_ok e3.tmr fn.results.toList st1 s3 l g1 e3.rel
            have hrun : (fn.results.mapM (resM a1.tmps)).run P w1 = .ok vs.toArray w1 := by
              rw [Array.mapM_eq_mapM_toList]
              simp only [Sem.run_map, f1, Result.andThen_ok]
            have hll := f2.length
            split at g2
            · rename_i v0
              cases g2
              cases f2 with | cons _ u _ r hv hrr => _
              cases hrr
              refine ⟨u, ?_, hv, f3, f4⟩
              rw [results_eq, Sem.run_bind, hrun, Result.andThen_ok]
              exact Sem.run_pure ..
            · rename_i l' hne
              cases g2
              refine ⟨.tuple vs.toArray, ?_, .tup _ _ f2, f3, f4⟩
              rw [results_eq, Sem.run_bind, hrun]
              have : ¬ vs.toArray.size = 1 := by
                intro h1
                simp only [List.size_toArray] at h1
                rw [← hll] at h1
                match l, h1 with
                | [y], _ => exact hne y rfl
              rw [Result.andThen_ok, Sem.run_pure, dif_neg this]
          have fin : ∀ l s3, resultA P tm fn.results.toList st1 = some (l, s3) → (match l with | [v] => Zz.ret v | l => Zz.ret (.tup l)) s3 = some (v, st') → a1.defers = [] ∧ ∃ v', (results fn a1.tmps).run P w1 = .ok v' w1 ∧ ∃ v'' m', Ending.returned v' = .returned v'' ∧ Ext m m' ∧ Dom m m' st.next st'.next ∧ Rel ρ w0 base m' st'.heap.get w1 ∧ VR ρ m' v v'' := by
            intro l s3 g1 g2
            obtain ⟨v', q1, q2, q3, q4⟩ := hres l s3 g1 g2
            exact ⟨e3.defers, v', q1, v', m1, rfl, e1, by rw [q4]; exact e2, by rw [q3]; exact e3.rel, q2⟩
          cases x with
          | normal => obtain ⟨l, s3, g1, g2⟩ := bnd_eq h2; exact fin l s3 g1 g2
          | ret => obtain ⟨l, s3, g1, g2⟩ := bnd_eq h2; exact fin l s3 g1 g2
          | _ => cases h2
end
end Go.Proofs.YtcgcbaiamkbiiaaGreatDoor.Zz
