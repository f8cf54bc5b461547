/- Texts of one proof, packed: ExV, ExW, ExH, ExX, ExZ, WyA, WyB -/
import Derived.Test.YtelohloaoocoaaaGreatDoorM10
import Derived.Recover
import Derived.Test.YtelohloaoocoaaaGreatDoorM07
import Derived.Lib.Bytealg
import Derived.Laws.Externs
set_option linter.unusedVariables false
set_option linter.unusedSimpArgs false
set_option linter.deprecated false
set_option linter.unnecessarySimpa false
/- The executor: results, whole calls. -/
set_option linter.unusedVariables false
set_option linter.unusedSimpArgs false
set_option linter.deprecated false
namespace Go.Proofs.YtelohloaoocoaaaGreatDoor.Zz
open Go Go.RowKit

section
variable {P : Program} {ρ : Nat → Value} {w0 : World} {base : Nat} {m : BMap}
/-- reading one result -/
def resM (tmps : Array Value) (x : ResultVar) : Sem Value :=
  match x with
  | .tmp t => pure (tmps.getD t undef)
  | .cell b t => do loadVar t (← asAddr (tmps.getD b undef))
theorem resM_tmp {tmps : Array Value} {t : Nat} {w : World} : (resM tmps (.tmp t)).run P w = .ok (tmps.getD t undef) w := Sem.run_pure ..
theorem resM_cell {tmps : Array Value} {b : Nat} {t : TypeId} {w : World} {ad : Addr} {v : Value} (h : tmps.getD b undef = .pointer (some ad)) (hl : (loadVar t ad).run P w = .ok v w) : (resM tmps (.cell b t)).run P w = .ok v w := by
  show ((asAddr (tmps.getD b undef)) >>= fun x => loadVar t x).run P w = _
  rw [h, Sem.run_bind]
  exact hl
theorem results_eq {fn : Func} {tmps : Array Value} : results fn tmps = (fn.results.mapM (resM tmps) >>= fun vs => pure (if h : vs.size = 1 then vs[0] else .tuple vs)) := rfl
theorem mapM_cons_ok {α : Type} {f : α → Sem Value} {x : α} {l : List α} {v : Value} {vs : List Value} {w : World} (h1 : (f x).run P w = .ok v w) (h2 : (l.mapM f).run P w = .ok vs w) : ((x :: l).mapM f).run P w = .ok (v :: vs) w := by
  rw [List.mapM_cons, Sem.run_bind, h1, Result.andThen_ok, Sem.run_bind, h2, Result.andThen_ok, Sem.run_pure]
theorem resultA_ok {tm : Tm} {a : Act} {w : World} (ht : TmR ρ m tm a) : ∀ (l : List ResultVar) (st st' : ASt) (r : List AV), resultA P tm l st = some (r, st') → Rel ρ w0 base m st.heap.get w →
    ∃ vs : List Value, (l.mapM (resM a.tmps)).run P w = .ok vs w ∧ LR ρ m r vs ∧ st'.heap = st.heap ∧ st'.next = st.next
  | [], st, st', r, h, hr => by
    cases h
    exact ⟨[], by rw [List.mapM_nil]; exact Sem.run_pure .., .nil, rfl, rfl⟩
  | .tmp t :: l, st, st', r, h, hr => by
    unfold resultA at h
    obtain ⟨v, hv, h⟩ := optb_eq h
    obtain ⟨r', s1, h1, h2⟩ := bnd_eq h
    cases h2
    obtain ⟨vs, g1, g2, g3, g4⟩ := resultA_ok ht l st st' r' h1 hr
    exact ⟨a.tmps.getD t undef :: vs, mapM_cons_ok resM_tmp g1, .cons _ _ _ _ (aval_ok (x := .tmp t) hv ht) g2, g3, g4⟩
  | .cell b t :: l, st, st', r, h, hr => by
    unfold resultA at h
    obtain ⟨v, hv, h⟩ := optb_eq h
    have hvr := aval_ok (x := .tmp b) hv ht
    have hev' : a.eval (.tmp b) = a.tmps.getD b undef := rfl
    rw [hev'] at hvr
    generalize hev : a.tmps.getD b undef = ev at hvr
    cases hvr with
    | ptr A i bb d z hA =>
      dsimp only at h
      obtain ⟨x, s1, h1, h⟩ := bnd_eq h
      obtain ⟨r', s2, h2, h3⟩ := bnd_eq h
      cases h3
      obtain ⟨xv, f1, f2, f3, f4⟩ := loadT_same h1 hr hA
      obtain ⟨vs, g1, g2, g3, g4⟩ := resultA_ok ht l s1 st' r' h2 (by rw [f3]; exact hr)
      exact ⟨xv :: vs, mapM_cons_ok (resM_cell hev f1) g1, .cons _ _ _ _ f2 g2, by rw [g3, f3], by rw [g4, f4]⟩
    | _ => cases h
theorem tmOf_get : ∀ (l : List AV) (i : Nat) (tm : Tm) (k : Nat), (tmOf i l tm).get k = if i ≤ k ∧ k < i + l.length then (l[k - i]?).map some else tm.get k
  | [], i, tm, k => by simp [tmOf]; intro h1 h2; omega
  | v :: l, i, tm, k => by
    rw [tmOf, tmOf_get l, Tm.get_put]
    simp only [List.length_cons]
    by_cases h1 : k = i
    · subst h1
      rw [if_neg (by omega), if_pos rfl, if_pos (by omega)]; simp
    · by_cases h2 : i + 1 ≤ k ∧ k < i + 1 + l.length
      · rw [if_pos h2, if_pos (by omega), show k - i = (k - (i + 1)) + 1 by omega]; simp
      · rw [if_neg h2, if_neg h1, if_neg (by omega)]
theorem start_tm {args : List AV} {us : Array Value} (n : Nat) (hl : LR ρ m args us.toList) : TmR ρ m (tmOf 0 args Tm.nil) { tmps := us ++ Array.replicate (n - us.size) undef, defers := [] } := fun t => by
  have hlen := hl.length
  simp only [Array.length_toList] at hlen
  rw [tmOf_get]
  by_cases h : 0 ≤ t ∧ t < 0 + args.length
  · rw [if_pos h]
    cases hx : args[t - 0]? with
    | none => rw [List.getElem?_eq_none_iff] at hx; omega
    | some x =>
      obtain ⟨v, h1, h2⟩ := hl.get hx
      refine ⟨v, ?_, h2⟩
      rw [Nat.sub_zero, Array.getElem?_toList] at h1
      show (us ++ Array.replicate (n - us.size) undef)[t]? = some v
      rw [Array.getElem?_append_left (by omega)]; exact h1
  · rw [if_neg h]
    show (us ++ Array.replicate (n - us.size) undef).getD t undef = undef
    rw [Array.getD_eq_getD_getElem?, Array.getElem?_append_right (by omega)]
    simp only [Array.getElem?_replicate]
    split <;> rfl
theorem tmOf_d : ∀ (l : List AV) (i : Nat) (tm : Tm), (tmOf i l tm).d = tm.d ∧ (tmOf i l tm).p = tm.p
  | [], _, _ => ⟨rfl, rfl⟩
  | v :: l, i, tm => by rw [tmOf]; exact tmOf_d l (i + 1) (tm.put i (some v))
/-- what a call's results are as one value -/
def oneRes : List AV → AV
  | [v] => v
  | l => .tup l
theorem results_ok {fn : Func} {tm : Tm} {a : Act} {w : World} {st s3 : ASt} {l : List AV} (ht : TmR ρ m tm a) (hr : Rel ρ w0 base m st.heap.get w) (h : resultA P tm fn.results.toList st = some (l, s3)) :
    ∃ v', (results fn a.tmps).run P w = .ok v' w ∧ VR ρ m (oneRes l) v' ∧ s3.heap = st.heap ∧ s3.next = st.next := by
  obtain ⟨vs, f1, f2, f3, f4⟩ := resultA_ok ht fn.results.toList st s3 l h hr
  have hrun : (fn.results.mapM (resM a.tmps)).run P w = .ok vs.toArray w := by
    rw [Array.mapM_eq_mapM_toList]
    simp only [Sem.run_map, f1, Result.andThen_ok]
  have hll := f2.length
  unfold oneRes
  split
  · rename_i v0
    cases f2 with | cons _ u _ r hv hrr => _
    cases hrr
    refine ⟨u, ?_, hv, f3, f4⟩
    rw [results_eq, Sem.run_bind, hrun, Result.andThen_ok]
    exact Sem.run_pure ..
  · rename_i hne
    refine ⟨.tuple vs.toArray, ?_, .tup _ _ f2, f3, f4⟩
    rw [results_eq, Sem.run_bind, hrun]
    have : ¬ vs.toArray.size = 1 := by
      intro h1
      simp only [List.size_toArray] at h1
      rw [← hll] at h1
      match l, h1 with
      | [y], _ => exact hne y rfl
    rw [Result.andThen_ok, Sem.run_pure, dif_neg this]

/-! ### deferred calls -/
/-- how the frame below stands -/
def MR (ρ : Nat → Value) (m : BMap) : MA → FrameMode → Prop
  | .rtn, mode => mode = .returning
  | .pan v b, mode => ∃ u, mode = .panicking [{ v := u, recovered := b }] ∧ VR ρ m v u
theorem MR.ext {m' : BMap} {u : MA} {mode : FrameMode} (h : MR ρ m u mode) (he : Ext m m') : MR ρ m' u mode := by
  cases u with
  | rtn => exact h
  | pan v b => obtain ⟨y, h1, h2⟩ := h; exact ⟨y, h1, h2.ext he⟩
theorem MR.run {u : MA} {mode : FrameMode} (h : MR ρ m u mode) : mode ≠ .run := by
  cases u with
  | rtn => intro e; rw [show mode = .returning from h] at e; cases e
  | pan v b => obtain ⟨y, h1, h2⟩ := h; intro e; rw [h1] at e; cases e
theorem MR.settle {u : MA} {mode : FrameMode} (h : MR ρ m u mode) : MR ρ m (settleA u) (Go.settle mode) := by
  cases u with
  | rtn => rw [show mode = .returning from h]; rfl
  | pan v b =>
    obtain ⟨y, h1, h2⟩ := h
    rw [h1]
    cases b with
    | true => rfl
    | false => exact ⟨y, rfl, h2⟩
def CallDOk (P : Program) (ρ : Nat → Value) (w0 : World) (base : Nat) (callD : FuncId → List AV → MA → M MA) : Prop :=
  ∀ f args us u mode m st w u' st', callD f args u st = some (u', st') → Rel ρ w0 base m st.heap.get w → Fresh m st.next st'.next → LR ρ m args us.toList → MR ρ m u mode →
    CallsD P f us mode w fun en mode' w' => ∃ v' m', en = .returned v' ∧ Ext m m' ∧ Dom m m' st.next st'.next ∧ Rel ρ w0 base m' st'.heap.get w' ∧ MR ρ m' u' mode'
theorem leave_ok {e : Ex} {fn : Func} {tm : Tm} {tmps : Array Value} {v : AV} {R : Ending → World → Prop} (hFE : FrE e) (hcd : CallDOk P ρ w0 base e.callD) :
    ∀ (ds : List AV) (u : MA) (m : BMap) (st st' : ASt) (w : World) (a : Act) (es : List Deferred) (mode : FrameMode), leaveA P e fn tm ds u st = some (v, st') → a.tmps = tmps → TmR ρ m tm a → Rel ρ w0 base m st.heap.get w → DfR P ρ m ds es → MR ρ m u mode → Fresh m st.next st'.next →
      (∀ en w' m', Ext m m' → Dom m m' st.next st'.next → Rel ρ w0 base m' st'.heap.get w' → EndR ρ m' v en → R en w') → Leaves P fn tmps R es mode w := by
  intro ds
  induction ds with
  | nil =>
    intro u m st st' w a es mode h ha ht hr hd hu hf hR
    cases hd
    subst ha
    cases u with
    | rtn =>
      rw [show mode = .returning from hu]
      unfold leaveA at h
      obtain ⟨l, s3, h1, h2⟩ := bnd_eq h
      obtain ⟨v', e1, e2, e3, e4⟩ := results_ok ht hr h1
      have hv : v = oneRes l ∧ st' = s3 := by
        match l, h2 with
        | [], h2 => cases h2; exact ⟨rfl, rfl⟩
        | [_], h2 => cases h2; exact ⟨rfl, rfl⟩
        | _ :: _ :: _, h2 => cases h2; exact ⟨rfl, rfl⟩
      obtain ⟨rfl, rfl⟩ := hv
      exact ⟨v', e1, hR _ w m (Ext.refl m) (fun A h1 h2 => absurd h1 h2) (by rw [e3]; exact hr) (.inl ⟨v', rfl, e2⟩)⟩
    | pan x b =>
      obtain ⟨y, h1, h2⟩ := hu
      rw [h1]
      cases b with
      | true => cases h
      | false =>
        cases h
        exact hR _ w m (Ext.refl m) (fun A h1 h2 => absurd h1 h2) hr (.inr ⟨x, y, rfl, rfl, h2⟩)
  | cons d ds ih =>
    intro u m st st' w a es mode h ha ht hr hd hu hf hR
    cases hd with | cons f l fv cap dargs us _ es hi hl hds => _
    have h' : (Zz.bnd (e.callD f l u) fun u' => leaveA P e fn tm ds (settleA u')) st = some (v, st') := h
    obtain ⟨u1, s1, h1, h2⟩ := bnd_eq h'
    have n1 := fr_next (hFE.2.2 f l u) h1
    have n2 := fr_next (Fr.leaveA P hFE fn tm ds (settleA u1)) h2
    refine leaves_cons hu.run (hi w) ?_
    refine (hcd f l us u mode m st w u1 s1 h1 hr (fun A e1 e2 => hf A e1 (by omega)) hl hu).mono ?_
    rintro en mode' w' ⟨v', m', rfl, e1, e2, e3, e4⟩
    refine ih (settleA u1) m' s1 st' w' a es _ h2 ha (ht.ext e1) e3 (hds.ext e1) e4.settle (hf.rest e2 n1) (fun en w2 m2 f1 f2 f3 f4 => hR en w2 m2 (e1.trans f1) (e2.trans f2 n1 n2) f3 f4)
/-- behind a deferred call's code -/
def PostS (P : Program) (ρ : Nat → Value) (w0 : World) (base N : Nat) (m : BMap) (st st' : ASt) (tm' : Tm) (u' : MA) (K : Act → FrameMode → World → Prop) : Prop :=
  ∀ a' w' m' mode', Ext m m' → Dom m m' st.next st'.next → At P ρ w0 base N m' st' tm' a' w' → MR ρ m' u' mode' → K a' mode' w'
theorem isRecover_run {o : Oper} {a : Act} {w : World} (h : isRecover o.op = true) : (execOp a.eval o).run P w = .ok .recover w := by
  unfold isRecover at h
  split at h
  · rename_i c ho
    split at h
    · rename_i hc
      have : execOp a.eval o = (resolve a.eval c o.type >>= fun d => invoke d.target d.args) := by unfold execOp; rw [ho]
      rw [this, Sem.run_bind]
      simp only [resolve, hc, Sem.run_pure, Result.andThen_ok, invoke]
      exact Sem.run_pure ..
    · cases h
  · cases h
theorem opsS_ok {H : Hooks} {e : Ex} {N : Nat} {ops : Array Oper} (hq : Opq ρ) (hc : CallOk P ρ w0 base e.call) (hH : HookOk P ρ w0 base H) (hFH : FrH H) (hFE : FrE e) {Q : Exit → Act → List Frame → World → Prop} {cs : List Frame} :
    ∀ (l : List Nat) (os : List Oper) (m : BMap) (st st' : ASt) (tm tm' : Tm) (u u' : MA) (a : Act) (w : World) (c0 : Frame), (∀ k : Nat, l[k]?.bind (ops[·]?) = os[k]?) → l.length = os.length → opsS P H e N ops os tm u st = some ((tm', u'), st') → At P ρ w0 base N m st tm a w → MR ρ m u c0.mode → Fresh m st.next st'.next →
      PostS P ρ w0 base N m st st' tm' u' (fun a' mode' w' => Q .normal a' ({ c0 with mode := mode' } :: cs) w') → wpOpsS P ops Q l a (c0 :: cs) w
  | [], [], m, st, st', tm, tm', u, u', a, w, c0, _, _, h, hA, hu, hf, hP => by
    cases h
    exact hP a w m c0.mode (Ext.refl m) (fun A h1 h2 => absurd h1 h2) hA hu
  | [], _ :: _, _, _, _, _, _, _, _, _, _, _, _, h, _, _, _, _, _ => by cases h
  | _ :: _, [], _, _, _, _, _, _, _, _, _, _, _, h, _, _, _, _, _ => by cases h
  | i :: l, o :: os, m, st, st', tm, tm', u, u', a, w, c0, hi, hl, h, hA, hu, hf, hP => by
    unfold opsS at h
    obtain ⟨⟨tm1, u1⟩, st1, h1, h2⟩ := bnd_eq h
    dsimp only at h2
    have h0 := hi 0
    simp only [List.getElem?_cons_zero, Option.bind_some] at h0
    have n1 := fr_next (Fr.operS P hFH hFE N ops o tm u) h1
    have n2 := fr_next (Fr.opsS P hFH hFE N ops os tm1 u1) h2
    -- on with the others
    have go : ∀ (a1 : Act) (w1 : World) (m1 : BMap) (mode1 : FrameMode), Ext m m1 → Dom m m1 st.next st1.next → At P ρ w0 base N m1 st1 tm1 a1 w1 → MR ρ m1 u1 mode1 → wpOpsS P ops Q l a1 ({ c0 with mode := mode1 } :: cs) w1 := fun a1 w1 m1 mode1 e1 e2 e3 e4 =>
      opsS_ok hq hc hH hFH hFE l os m1 st1 st' tm1 tm' u1 u' a1 w1 { c0 with mode := mode1 } (fun k => by simpa using hi (k + 1)) (by simpa using hl) h2 e3 e4 (hf.rest e2 n1) (fun a2 w2 m2 mode2 f1 f2 f3 f4 => hP a2 w2 m2 mode2 (e1.trans f1) (e2.trans f2 n1 n2) f3 f4)
    simp only [wpOpsS, h0]
    unfold operS at h1
    cases hrec : isRecover o.op with
    | false =>
      rw [hrec, cond_false] at h1
      obtain ⟨tm2, s2, g1, g2⟩ := bnd_eq h1
      cases g2
      have hw := operW_ok hq hc hH g1 hA.rel (fun A e1 e2 => hf A e1 (by omega)) hA.tmr hA.size rfl (fun a' w' => wpOpsS P ops Q l a' (c0 :: cs) w') (fun x a' w' => Q x a' (c0 :: cs) w')
        (fun a' w' m' e1 e2 e3 e4 e5 e6 e7 e8 => go a' w' m' c0.mode e1 e2 ⟨e3, e4, e5, by rw [e6, e7]; exact hA.defers.ext e1⟩ (hu.ext e1))
      split
      · rename_i hwt
        rw [if_pos hwt] at hw
        unfold Oper.wp at hw
        split
        · rename_i w' heq
          rw [heq] at hw
          exact hw.elim
        · exact hw
      · rename_i hwt
        rw [if_neg hwt] at hw
        exact hw
    | true =>
      rw [hrec, cond_true] at h1
      cases hw : wantA ops o tm with
      | none => rw [hw] at h1; cases h1
      | some b =>
        rw [hw] at h1
        rw [want_ok hA.tmr b hw]
        -- a value that is put
        have put : ∀ {x : AV} {y : Value} {u2 : MA} {mode2 : FrameMode}, (Zz.bnd (putA N tm o.dst x) fun tm' => Zz.ret (tm', u2)) st = some ((tm1, u1), st1) → VR ρ m x y → MR ρ m u2 mode2 → wpOpsS P ops Q l (a.put o.dst y) ({ c0 with mode := mode2 } :: cs) w := by
          intro x y u2 mode2 g hx hu2
          obtain ⟨tm2, s2, g1, g2⟩ := bnd_eq g
          cases g2
          have hst := put_same g1
          subst hst
          obtain ⟨q1, q2, q3, q4, q5⟩ := put_ok hA.tmr hA.size rfl (Ext.refl m) hx ⟨_, _, g1⟩
          exact go _ w m mode2 (Ext.refl m) (fun A h1 h2 => absurd h1 h2) ⟨hA.rel, q1, q2, by rw [q3, q4]; exact hA.defers⟩ hu2
        cases b with
        | false =>
          rw [if_neg (by simp)]
          exact put (mode2 := c0.mode) h1 (.tup _ _ .nil : VR ρ m undefA undef) hu
        | true =>
          rw [if_pos rfl, isRecover_run hrec]
          dsimp only
          cases u with
          | rtn =>
            have hm : c0.mode = .returning := hu
            simp only [recoverD, hm]
            exact put (mode2 := c0.mode) h1 .ifc0 hu
          | pan v r =>
            obtain ⟨y, hm, hy⟩ := hu
            cases r with
            | false =>
              simp only [recoverD, hm]
              exact put h1 hy ⟨y, rfl, hy⟩
            | true =>
              simp only [recoverD, hm]
              exact put (mode2 := c0.mode) h1 .ifc0 ⟨y, hm, hy⟩
theorem codeS_ok {H : Hooks} (hq : Opq ρ) (hH : HookOk P ρ w0 base H) (hFH : FrH H) (c : Code) : ∀ (n : Nat), (∀ k, k ≤ n → CallOk P ρ w0 base (exec P H k).call ∧ DrawOk P ρ w0 base H (exec P H k)) →
    ∀ (N : Nat) (m : BMap) (st st' : ASt) (tm tm' : Tm) (u u' : MA) (x : Exit) (a : Act) (w : World) (c0 : Frame) (cs : List Frame) (Q : Exit → Act → List Frame → World → Prop), codeS P H (exec P H n) N c tm u st = some ((x, tm', u'), st') → At P ρ w0 base N m st tm a w → MR ρ m u c0.mode → Fresh m st.next st'.next →
      PostS P ρ w0 base N m st st' tm' u' (fun a' mode' w' => Q x a' ({ c0 with mode := mode' } :: cs) w') → c.wpS P Q a (c0 :: cs) w := by
  have other : ∀ (c : Code) (n : Nat), (∀ k, k ≤ n → CallOk P ρ w0 base (exec P H k).call ∧ DrawOk P ρ w0 base H (exec P H k)) →
      ∀ (N : Nat) (m : BMap) (st st' : ASt) (tm tm' : Tm) (u u' : MA) (x : Exit) (a : Act) (w : World) (c0 : Frame) (cs : List Frame) (Q : Exit → Act → List Frame → World → Prop), (Zz.bnd (Zz.codeA P H (exec P H n) N c tm) fun (x, tm') => (match x with
      | .panic _ => Zz.fail
      | x => Zz.ret (x, tm', u))) st = some ((x, tm', u'), st') → At P ρ w0 base N m st tm a w → MR ρ m u c0.mode → Fresh m st.next st'.next →
      PostS P ρ w0 base N m st st' tm' u' (fun a' mode' w' => Q x a' ({ c0 with mode := mode' } :: cs) w') → c.wpS P Q a (c0 :: cs) w := by
    intro c n hn N m st st' tm tm' u u' x a w c0 cs Q h hA hu hf hP
    obtain ⟨⟨x1, tm1⟩, st1, h1, h2⟩ := bnd_eq h
    dsimp only at h2
    have hx : x1 = x ∧ tm1 = tm' ∧ u = u' ∧ st1 = st' ∧ ∀ ch, x1 ≠ .panic ch := by
      cases x1 with
      | panic ch => cases h2
      | _ => cases h2; exact ⟨rfl, rfl, rfl, rfl, fun ch e => by cases e⟩
    obtain ⟨rfl, rfl, rfl, rfl, hnp⟩ := hx
    refine wpS_of_wp (code_ok hq hH hFH c n hn N m st st1 tm tm1 x1 a w _ h1 hA hf ?_)
    intro a1 w1 m1 e1 e2 e3
    have := hP a1 w1 m1 c0.mode e1 e2 e3 (hu.ext e1)
    cases x1 with
    | panic ch => exact absurd rfl (hnp ch)
    | _ => exact this
  induction c with
  | region id ops d =>
    intro n hn N m st st' tm tm' u u' x a w c0 cs Q h hA hu hf hP
    cases d with
    | true => exact other _ n hn N m st st' tm tm' u u' x a w c0 cs Q h hA hu hf hP
    | false =>
      simp only [codeS] at h
      obtain ⟨⟨tm1, u1⟩, st1, h1, h2⟩ := bnd_eq h
      cases h2
      refine wpS_region (opsS_ok hq (hn n (Nat.le_refl n)).1 hH hFH (FrE.exec P hFH n) _ ops.toList m st _ tm _ u _ a w c0 (fun k => ?_) (by simp) h1 hA hu hf hP)
      rw [Array.getElem?_toList]
      rcases Nat.lt_or_ge k ops.size with hk | hk
      · simp [hk]
      · simp [hk]
  | seq c1 c2 ih1 ih2 =>
    intro n hn N m st st' tm tm' u u' x a w c0 cs Q h hA hu hf hP
    simp only [codeS] at h
    obtain ⟨⟨x1, tm1, u1⟩, st1, h1, h2⟩ := bnd_eq h
    dsimp only at h2
    have n1 := fr_next (Fr.codeS P hFH (FrE.exec P hFH n) N c1 tm u) h1
    have n2 : st1.next ≤ st'.next := by
      cases x1 <;> first | exact fr_next (Fr.codeS P hFH (FrE.exec P hFH n) N c2 tm1 u1) h2 | (cases h2; exact Nat.le_refl _)
    refine wpS_seq (ih1 n hn N m st st1 tm tm1 u u1 x1 a w c0 cs _ h1 hA hu (fun A e1 e2 => hf A e1 (by omega)) ?_)
    intro a1 w1 m1 mode1 e1 e2 e3 e4
    cases x1 with
    | normal =>
      exact ih2 n hn N m1 st1 st' tm1 tm' u1 u' x a1 w1 { c0 with mode := mode1 } cs Q h2 e3 e4 (hf.rest e2 n1) (fun a2 w2 m2 mode2 f1 f2 f3 f4 => hP a2 w2 m2 mode2 (e1.trans f1) (e2.trans f2 n1 n2) f3 f4)
    | _ =>
      cases h2
      exact hP a1 w1 m1 mode1 e1 e2 e3 e4
  | cond c t f iht ihf =>
    intro n hn N m st st' tm tm' u u' x a w c0 cs Q h hA hu hf hP
    simp only [codeS] at h
    obtain ⟨v, hv, h⟩ := optb_eq h
    have hvr := aval_ok hv hA.tmr
    cases v with
    | bool b =>
      generalize hev : a.eval c = ev at hvr
      cases hvr
      cases b with
      | true => exact wpS_cond hev (iht n hn N m st st' tm tm' u u' x a w c0 cs Q h hA hu hf hP)
      | false => exact wpS_cond hev (ihf n hn N m st st' tm tm' u u' x a w c0 cs Q h hA hu hf hP)
    | _ => cases h
  | _ => exact fun n hn N m st st' tm tm' u u' x a w c0 cs Q h hA hu hf hP => other _ n hn N m st st' tm tm' u u' x a w c0 cs Q h hA hu hf hP
theorem DfR.none {l : List Deferred} (h : DfR P ρ m [] l) : l = [] := by cases h; rfl
theorem exec_ok {H : Hooks} (hq : Opq ρ) (hH : HookOk P ρ w0 base H) (hFH : FrH H) (hdraw : ∀ e, FrE e → CallOk P ρ w0 base e.call → DrawOk P ρ w0 base H e) : ∀ n, CallOk P ρ w0 base (exec P H n).call ∧ CallDOk P ρ w0 base (exec P H n).callD := by
  intro n
  induction n using Nat.strongRecOn with
  | _ n ih =>
    cases n with
    | zero =>
      constructor
      · intro f args us m st w v st' h; cases h
      · intro f args us u mode m st w u' st' h; cases h
    | succ n =>
      have hn : ∀ k, k ≤ n → CallOk P ρ w0 base (exec P H k).call ∧ DrawOk P ρ w0 base H (exec P H k) := fun k hk => ⟨(ih k (by omega)).1, hdraw _ (FrE.exec P hFH k) (ih k (by omega)).1⟩
      constructor
      · intro f args us m st w v st' h hr hf hl
        show Calls P f us w _
        unfold exec at h
        dsimp only at h
        unfold callA at h
        cases hfn : P.funcs[f]? with
        | none => rw [hfn] at h; cases h
        | some fn =>
          rw [hfn] at h
          dsimp only at h
          cases hb : fn.body with
          | none => rw [hb] at h; cases h
          | some c =>
            rw [hb] at h
            dsimp only at h
            obtain ⟨⟨x, tm⟩, st1, h1, h2⟩ := bnd_eq h
            dsimp only at h2
            have hlen := hl.length
            simp only [Array.length_toList] at hlen
            have n1 := fr_next (Fr.codeA P hFH (FrE.exec P hFH n) _ c _) h1
            have n2 : st1.next ≤ st'.next := by
              cases x <;> first
                | exact fr_next (Fr.leaveA P (FrE.exec P hFH n) fn tm _ _) h2
                | (cases h2; done)
                | (cases hp : tm.p with
                  | none => rw [hp] at h2; cases h2
                  | some p => rw [hp] at h2; exact fr_next (Fr.leaveA P (FrE.exec P hFH n) fn tm _ _) h2)
            have hd0 : (tmOf 0 args Tm.nil).d = [] := (tmOf_d args 0 Tm.nil).1
            refine calls_of_wp_defers hfn hb (code_ok hq hH hFH c n hn _ m st st1 _ tm x _ w _ h1 ⟨hr, start_tm fn.ntmps hl, by simp [hlen], by rw [hd0]; exact .nil⟩ (fun A e1 e2 => hf A e1 (by omega)) ?_)
            intro a1 w1 m1 e1 e2 e3
            have fin : ∀ {u : MA} {mode : FrameMode}, leaveA P (exec P H n) fn tm tm.d u st1 = some (v, st') → MR ρ m1 u mode → Leaves P fn a1.tmps (fun en w' => ∃ m', Ext m m' ∧ Dom m m' st.next st'.next ∧ Rel ρ w0 base m' st'.heap.get w' ∧ EndR ρ m' v en) a1.defers mode w1 := fun h2 hu =>
              leave_ok (FrE.exec P hFH n) (ih n (by omega)).2 tm.d _ m1 st1 st' w1 a1 a1.defers _ h2 rfl e3.tmr e3.rel e3.defers hu (hf.rest e2 n1) (fun en w' m' f1 f2 f3 f4 => ⟨m', e1.trans f1, e2.trans f2 n1 n2, f3, f4⟩)
            cases x with
            | normal => exact fin h2 rfl
            | ret => exact fin h2 rfl
            | panic ch =>
              intro p u hp hu
              rw [hp] at h2
              exact fin h2 ⟨u, rfl, hu⟩
            | _ => cases h2
      · intro f args us u mode m st w u' st' h hr hf hl hu
        unfold exec at h
        dsimp only at h
        unfold callDA at h
        cases hfn : P.funcs[f]? with
        | none => rw [hfn] at h; cases h
        | some fn =>
          rw [hfn] at h
          dsimp only at h
          cases hb : fn.body with
          | none => rw [hb] at h; cases h
          | some c =>
            rw [hb] at h
            dsimp only at h
            obtain ⟨⟨x, tm, u1⟩, st1, h1, h2⟩ := bnd_eq h
            dsimp only at h2
            have hlen := hl.length
            simp only [Array.length_toList] at hlen
            have h2' : (x = .normal ∨ x = .ret) ∧ tm.d = [] ∧ ∃ l s3, resultA P tm fn.results.toList st1 = some (l, s3) ∧ u1 = u' ∧ s3 = st' := by
              cases x <;> first
                | (cases h2; done)
                | (dsimp only at h2
                   cases hd : tm.d with
                   | cons _ _ => rw [hd] at h2; cases h2
                   | nil =>
                     rw [hd] at h2
                     obtain ⟨l, s3, g1, g2⟩ := bnd_eq h2
                     cases g2
                     first | exact ⟨.inl rfl, rfl, l, _, g1, rfl, rfl⟩ | exact ⟨.inr rfl, rfl, l, _, g1, rfl, rfl⟩)
            obtain ⟨hx, htd, l, s3, g1, rfl, rfl⟩ := h2'
            have n1 := fr_next (Fr.codeS P hFH (FrE.exec P hFH n) _ c _ u) h1
            have n2 := fr_next (Fr.resultA P tm _) g1
            have hd0 : (tmOf 0 args Tm.nil).d = [] := (tmOf_d args 0 Tm.nil).1
            refine callsD_of_wpS hfn hb (fun c0 cs hc0 => ?_)
            refine codeS_ok hq hH hFH c n hn _ m st st1 _ tm u u1 x _ w c0 cs _ h1 ⟨hr, start_tm fn.ntmps hl, by simp [hlen], by rw [hd0]; exact .nil⟩ (by rw [hc0]; exact hu) (fun A e1 e2 => hf A e1 (by omega)) ?_
            intro a1 w1 m1 mode1 e1 e2 e3 e4
            obtain ⟨v', q1, q2, q3, q4⟩ := results_ok e3.tmr e3.rel g1
            have hde : a1.defers = [] := by have := e3.defers; rw [htd] at this; exact this.none
            have fin : a1.defers = [] ∧ ∃ u', ({ c0 with mode := mode1 } :: cs : List Frame) = { c0 with mode := u' } :: cs ∧ ∃ v, (results fn a1.tmps).run P w1 = .ok v w1 ∧ ∃ v' m', Ending.returned v = .returned v' ∧ Ext m m' ∧ Dom m m' st.next s3.next ∧ Rel ρ w0 base m' s3.heap.get w1 ∧ MR ρ m' u1 u' :=
              ⟨hde, mode1, rfl, v', q1, v', m1, rfl, e1, by rw [q4]; exact e2, by rw [q3]; exact e3.rel, e4⟩
            rcases hx with rfl | rfl <;> exact fin
end
end Go.Proofs.YtelohloaoocoaaaGreatDoor.Zz
/- The executor: regions in an order that the draw chooses. -/
set_option linter.unusedVariables false
set_option linter.unusedSimpArgs false
set_option linter.deprecated false
namespace Go.Proofs.YtelohloaoocoaaaGreatDoor.Zz
open Go Go.RowKit

/-! ### what an operation reads of the temporaries -/
theorem aval_congr {tm tm2 : Tm} {x : Operand} (h : ∀ t, x = .tmp t → tm2.get t = tm.get t) : aval tm2 x = aval tm x := by
  cases x with
  | tmp t => unfold aval; simp only [h t rfl]
  | _ => rfl
theorem avals_congr {tm tm2 : Tm} : ∀ {l : List Operand}, (∀ x ∈ l, aval tm2 x = aval tm x) → avals tm2 l = avals tm l
  | [], _ => rfl
  | x :: l, h => by
    unfold avals
    rw [h x (by simp), avals_congr (fun y hy => h y (by simp [hy]))]
theorem partsA_congr {tm tm2 : Tm} : ∀ {l : List (Nat × Nat × Operand)}, (∀ p ∈ l, aval tm2 p.2.2 = aval tm p.2.2) → partsA tm2 l = partsA tm l
  | [], _ => rfl
  | (off, z, x) :: l, h => by
    unfold partsA
    rw [h (off, z, x) (by simp), partsA_congr (fun y hy => h y (by simp [hy]))]
theorem arrPlaces_mem {n : Nat} : ∀ {ps : List (Nat × Operand)} {p : Nat × Nat × Operand}, p ∈ arrPlaces n ps → ∃ i, (i, p.2.2) ∈ ps
  | [], p, h => by cases h
  | (i, x) :: ps, p, h => by
    rcases List.mem_cons.1 h with e | e
    · exact ⟨i, by rw [e]; simp⟩
    · obtain ⟨k, hk⟩ := arrPlaces_mem e
      exact ⟨k, by simp [hk]⟩
theorem placesA_mem {pls : List (Nat × Nat)} : ∀ {ps : List (Nat × Operand)} {l : List (Nat × Nat × Operand)} {p : Nat × Nat × Operand}, placesA pls ps = some l → p ∈ l → ∃ i, (i, p.2.2) ∈ ps
  | [], l, p, h, hp => by
    cases h; cases hp
  | (i, x) :: ps, l, p, h, hp => by
    unfold placesA at h
    split at h
    · rename_i o z hq
      split at h
      · rename_i r hr
        cases h
        rcases List.mem_cons.1 hp with e | e
        · exact ⟨i, by rw [e]; simp⟩
        · obtain ⟨k, hk⟩ := placesA_mem hr e
          exact ⟨k, by simp [hk]⟩
      · cases h
    · cases h
theorem oAval_congr {tm tm2 : Tm} {x : Option Operand} (h : ∀ y, x = some y → aval tm2 y = aval tm y) : oAval tm2 x = oAval tm x := by
  cases x with
  | none => rfl
  | some y => unfold oAval; simp only [h y rfl]
theorem bnd_opt_congr {α β : Type} {x : Option α} {f g : α → M β} (h : ∀ a, x = some a → f a = g a) : bnd (opt x) f = bnd (opt x) g := by
  cases x with
  | none => rfl
  | some a =>
    funext s
    show (Zz.bnd (opt (some a)) f) s = (Zz.bnd (opt (some a)) g) s
    unfold Zz.bnd opt Zz.ret
    exact congrFun (h a rfl) s
theorem opA_congr {P : Program} {H : Hooks} {e : Ex} {o : Oper} {tm tm2 : Tm} (h : ∀ x ∈ o.op.operands, aval tm2 x = aval tm x) : opA P H e o tm2 = opA P H e o tm := by
  obtain ⟨dst, op, type, pos, after, guard⟩ := o
  cases op <;> simp only [Op.operands] at h <;> unfold opA <;> simp only
  case build t ps =>
    have hp : ∀ l : List (Nat × Nat × Operand), (∀ p ∈ l, ∃ i, (i, p.2.2) ∈ ps.toList) → partsA tm2 l = partsA tm l := fun l hl => partsA_congr fun p hp => by
      obtain ⟨i, hi⟩ := hl p hp
      exact h _ (by simp; exact ⟨i, by simpa using hi⟩)
    refine bnd_opt_congr fun z _ => ?_
    split
    · refine bnd_opt_congr fun pls _ => bnd_opt_congr fun pl hpl => ?_
      rw [hp pl (fun p hp => placesA_mem hpl hp)]
    · refine bnd_opt_congr fun n _ => ?_
      rw [hp _ (fun p hp => arrPlaces_mem hp)]
    · rfl
  case buildSlice t len ps =>
    have hp : ∀ n, partsA tm2 (arrPlaces n ps.toList) = partsA tm (arrPlaces n ps.toList) := fun n => partsA_congr fun p hp => by
      obtain ⟨i, hi⟩ := arrPlaces_mem hp
      exact h _ (by simp; exact ⟨i, by simpa using hi⟩)
    simp only [hp]
  case makeFunc fn first captured =>
    rw [avals_congr (l := first.toList) (fun x hx => h x (by simp at hx; simp [hx])), avals_congr (l := captured.toList) (fun x hx => h x (by simp at hx; simp [hx]))]
  case makeMap t r =>
    cases r with
    | none => rfl
    | some x => simp only; rw [h x (by simp)]
  case slice t x lo hi mx =>
    rw [h x (by simp), oAval_congr (x := lo) (fun y hy => h y (by simp [hy])), oAval_congr (x := hi) (fun y hy => h y (by simp [hy])), oAval_congr (x := mx) (fun y hy => h y (by simp [hy]))]
  case call c =>
    have ha : avals tm2 c.args.toList = avals tm c.args.toList := avals_congr fun x hx => h x (by simp at hx; simp [Call.operands, hx])
    rw [ha]
    refine bnd_opt_congr fun args _ => ?_
    cases hc : c.callee with
    | builtin b => rfl
    | invoke r name => simp only; rw [h r (by simp [Call.operands, hc])]
    | value f => simp only; rw [h f (by simp [Call.operands, hc])]
  case pick c a b => rw [h c (by simp), h a (by simp), h b (by simp)]
  case store t x y => rw [h x (by simp), h y (by simp)]
  case binOp op t x y q => rw [h x (by simp), h y (by simp)]
  case makeSlice t x y => rw [h x (by simp), h y (by simp)]
  case indexAddr t x y => rw [h x (by simp), h y (by simp)]
  case index t x y => rw [h x (by simp), h y (by simp)]
  case lookup t x y q => rw [h x (by simp), h y (by simp)]
  case mapUpdate t x y z => rw [h x (by simp), h y (by simp), h z (by simp)]
  case insert t x y z => rw [h x (by simp), h y (by simp), h z (by simp)]
  case next x b =>
    cases b
    · simp only; rw [h x (by simp)]
    · simp only; rw [h x (by simp)]
  all_goals first | rfl | (rename_i x; rw [h x (by simp)]; done) | (rename_i x _; rw [h x (by simp)]; done) | (rename_i x _ _; rw [h x (by simp)]; done) | (rename_i x _ _ _; rw [h x (by simp)]; done)
theorem askA_congr {H : Hooks} {op : Op} {tm tm2 : Tm} {x : M AV} (h : ∀ x ∈ op.operands, aval tm2 x = aval tm x) : askA H tm2 op x = askA H tm op x := by
  have : oraKey tm2 op = oraKey tm op := by
    unfold oraKey
    cases op <;> simp only [Op.operands] at h <;> simp only
    case call c =>
      cases hc : c.callee with
      | builtin b =>
        cases b <;> try rfl
        cases ha : c.args.toList with
        | nil => rfl
        | cons y l =>
          cases l with
          | cons _ _ => rfl
          | nil =>
            cases hat : c.argTypes.toList with
            | nil => rfl
            | cons t ts =>
            dsimp only
            rw [h y (by
              have : y ∈ c.args := by
                have : y ∈ c.args.toList := by rw [ha]; simp
                simpa using this
              simp [Call.operands, this])]
      | _ => rfl
    case binOp op t x y q => rw [h x (by simp), h y (by simp)]
    case indexAddr t x y => rw [h x (by simp), h y (by simp)]
    case load t x => rw [h x (by simp)]
  unfold askA
  rw [this]
theorem wantA_congr {ops : Array Oper} {o : Oper} {tm tm2 : Tm} (h : ∀ x ∈ o.looksAt ops, tm2.get x = tm.get x) : wantA ops o tm2 = wantA ops o tm := by
  unfold wantA
  cases hg : o.guard with
  | none => rfl
  | some gw =>
    obtain ⟨j, want⟩ := gw
    cases hj : ops[j]? with
    | none => simp only [hj]
    | some g =>
      simp only [hj]
      cases hd : g.dst with
      | none => rfl
      | some d =>
        simp only
        rw [h d (by simp [Oper.looksAt, hg, hj, hd])]
theorem aval_looks {ops : Array Oper} {o : Oper} {tm tm2 : Tm} (h : ∀ x ∈ o.looksAt ops, tm2.get x = tm.get x) : ∀ x ∈ o.op.operands, aval tm2 x = aval tm x := fun x hx => aval_congr fun t ht => h t (by
  subst ht
  exact List.mem_append_left _ (List.mem_filterMap.2 ⟨.tmp t, by simpa using hx, rfl⟩))
theorem putA_tm {N : Nat} {tm tm2 tm' : Tm} {dst : Option Tmp} {v : AV} {s s' : ASt} (h : putA N tm dst v s = some (tm', s')) :
    ∃ tm2', putA N tm2 dst v s = some (tm2', s') ∧ (∀ x, tm2'.get x = if dst = some x then tm'.get x else tm2.get x) ∧ ∀ x, dst ≠ some x → tm'.get x = tm.get x := by
  unfold putA at h ⊢
  cases dst with
  | none => cases h; exact ⟨tm2, rfl, fun x => by simp, fun x _ => rfl⟩
  | some d =>
    simp only at h ⊢
    cases hb : Nat.blt d N with
    | false => rw [hb] at h; cases h
    | true =>
      rw [hb] at h
      cases h
      refine ⟨tm2.put d v, rfl, fun x => ?_, fun x hx => ?_⟩
      · rw [Tm.get_put, Tm.get_put]
        by_cases e : x = d
        · simp [e]
        · rw [if_neg e, if_neg (by intro q; cases q; exact e rfl)]
      · rw [Tm.get_put, if_neg (by intro e; exact hx (by rw [e]))]
theorem operA_tm {P : Program} {H : Hooks} {e : Ex} {N : Nat} {ops : Array Oper} {o : Oper} {tm tm2 tm' : Tm} {s s' : ASt} (h : operA P H e N ops o tm s = some (tm', s')) (hl : ∀ x ∈ o.looksAt ops, tm2.get x = tm.get x) :
    ∃ tm2', operA P H e N ops o tm2 s = some (tm2', s') ∧ (∀ x, tm2'.get x = if o.dst = some x then tm'.get x else tm2.get x) ∧ ∀ x, o.dst ≠ some x → tm'.get x = tm.get x := by
  unfold operA at h ⊢
  rw [wantA_congr hl]
  cases hw : wantA ops o tm with
  | none => rw [hw] at h; cases h
  | some b =>
    rw [hw] at h
    cases b with
    | false => exact putA_tm h
    | true =>
      simp only at h ⊢
      obtain ⟨v, s1, h1, h2⟩ := bnd_eq h
      have h2' : putA N tm o.dst v s1 = some (tm', s') := by
        cases v with
        | pan x => cases h2
        | _ => exact h2
      obtain ⟨tm2', g1, g2, g3⟩ := putA_tm (tm2 := tm2) h2'
      refine ⟨tm2', ?_, g2, g3⟩
      unfold Zz.bnd
      rw [opA_congr (aval_looks hl), askA_congr (aval_looks hl), h1]
      dsimp only
      cases v with
      | pan x => cases h2
      | _ => exact g1
theorem operA_d {P : Program} {H : Hooks} {e : Ex} {N : Nat} {ops : Array Oper} {o : Oper} {tm tm' : Tm} {s s' : ASt} (h : operA P H e N ops o tm s = some (tm', s')) : tm'.d = tm.d := by
  have hput : ∀ {v : AV} {s1 s2 : ASt} {t2 : Tm}, putA N tm o.dst v s1 = some (t2, s2) → t2.d = tm.d := by
    intro v s1 s2 t2 g
    unfold putA at g
    cases hd : o.dst with
    | none => rw [hd] at g; cases g; rfl
    | some d =>
      rw [hd] at g
      simp only at g
      cases hb : Nat.blt d N with
      | false => rw [hb] at g; cases g
      | true => rw [hb] at g; cases g; rfl
  unfold operA at h
  cases hw : wantA ops o tm with
  | none => rw [hw] at h; cases h
  | some b =>
    rw [hw] at h
    cases b with
    | false => exact hput h
    | true =>
      simp only at h
      obtain ⟨v, s1, h1, h2⟩ := bnd_eq h
      cases v with
      | pan x => cases h2
      | _ => exact hput h2

/-! ### the checks -/
theorem elemN_mem {x : Nat} : ∀ {l : List Nat}, elemN x l = true → x ∈ l
  | [], h => by cases h
  | y :: l, h => by
    unfold elemN at h
    rcases Bool.or_eq_true _ _ |>.mp h with e | e
    · have : x = y := by simpa using e
      simp [this]
    · exact List.mem_cons_of_mem _ (elemN_mem e)
theorem wrote_get : ∀ (l : List Nat) (A : Nat), 2 * A + 1 ∈ l → (wrote l).get A = some ()
  | [], A, h => by cases h
  | x :: l, A, h => by
    show (bif Nat.beq (x % 2) 1 then (wrote l).put (x / 2) () else wrote l).get A = some ()
    rcases List.mem_cons.1 h with e | e
    · have h1 : Nat.beq (x % 2) 1 = true := by rw [← e]; simp
      rw [h1, cond_true, Tr.get_put, if_pos (by omega)]
    · have := wrote_get l A e
      cases Nat.beq (x % 2) 1 with
      | false => exact this
      | true =>
        rw [cond_true, Tr.get_put]
        split
        · rfl
        · exact this
theorem meets_none {t : Tr Unit} : ∀ {l : List Nat}, meets t l = false → ∀ x ∈ l, t.get (x / 2) = none
  | [], _, x, h => by cases h
  | y :: l, h, x, hx => by
    unfold meets at h
    obtain ⟨h1, h2⟩ := Bool.or_eq_false_iff.1 h
    rcases List.mem_cons.1 hx with e | e
    · rw [e]
      cases hg : t.get (y / 2) with
      | none => rfl
      | some u => rw [hg] at h1; cases h1
    · exact meets_none h2 x e
theorem meets_wrote {a b : List Nat} (h : meets (wrote a) b = false) {A : Nat} (hA : 2 * A + 1 ∈ a) : ¬ Tch b A := by
  intro ht
  have hw := wrote_get a A hA
  rcases ht with e | e
  · have := meets_none h _ e
    rw [show 2 * A / 2 = A by omega, hw] at this; cases this
  · have := meets_none h _ e
    rw [show (2 * A + 1) / 2 = A by omega, hw] at this; cases this
theorem hits_no {x : Nat} : ∀ {l : List Nat}, hits x l = false → ∀ y ∈ l, x / 2 = y / 2 → x % 2 ≠ 1 ∧ y % 2 ≠ 1
  | [], _, y, hy, _ => by cases hy
  | z :: l, h, y, hy, he => by
    unfold hits at h
    cases hc : (Nat.beq (x / 2) (z / 2) && (Nat.beq (x % 2) 1 || Nat.beq (z % 2) 1)) with
    | true => rw [hc] at h; cases h
    | false =>
      rw [hc, cond_false] at h
      rcases List.mem_cons.1 hy with e | e
      · subst e
        have h1 : Nat.beq (x / 2) (y / 2) = true := by simpa using he
        rw [h1, Bool.true_and, Bool.or_eq_false_iff] at hc
        exact ⟨fun q => (by rw [q] at hc; cases hc.1), fun q => (by rw [q] at hc; cases hc.2)⟩
      · exact hits_no h y e he
theorem hitsAny_no : ∀ {a b : List Nat}, hitsAny a b = false → ∀ x ∈ a, hits x b = false
  | [], _, _, x, hx => by cases hx
  | z :: a, b, h, x, hx => by
    unfold hitsAny at h
    cases hc : hits z b with
    | true => rw [hc] at h; cases h
    | false =>
      rw [hc, cond_false] at h
      rcases List.mem_cons.1 hx with e | e
      · rw [e]; exact hc
      · exact hitsAny_no h x e
theorem noHits {a b : List Nat} (h : hitsAny a b = false) {A : Nat} : (2 * A + 1 ∈ a → ¬ Tch b A) ∧ (2 * A + 1 ∈ b → ¬ Tch a A) := by
  refine ⟨fun ha ht => ?_, fun hb ht => ?_⟩
  · have h1 := hitsAny_no h _ ha
    rcases ht with e | e
    · have := (hits_no h1 _ e (by omega)).1; omega
    · have := (hits_no h1 _ e (by omega)).1; omega
  · rcases ht with e | e
    · have := (hits_no (hitsAny_no h _ e) _ hb (by omega)).2; omega
    · have := (hits_no (hitsAny_no h _ e) _ hb (by omega)).2; omega
theorem noMeet_spec {a b : List Nat} (h : noMeet a b = true) {A : Nat} : (2 * A + 1 ∈ a → ¬ Tch b A) ∧ (2 * A + 1 ∈ b → ¬ Tch a A) := by
  unfold noMeet at h
  cases h1 : shortN 6 b with
  | true =>
    rw [h1, cond_true] at h
    have := noHits (A := A) (a := b) (b := a) (by simpa using h)
    exact ⟨this.2, this.1⟩
  | false =>
    rw [h1, cond_false] at h
    cases h2 : shortN 6 a with
    | true =>
      rw [h2, cond_true] at h
      exact noHits (by simpa using h)
    | false =>
      rw [h2, cond_false] at h
      obtain ⟨h1, h2⟩ := Bool.and_eq_true _ _ |>.mp h
      exact ⟨meets_wrote (by simpa using h1), meets_wrote (by simpa using h2)⟩
theorem rowOk_get {ops : Array Oper} {j : Nat} {y : Oper} {ay ly : List Nat} : ∀ {xs : List Oper} {lss : List (List Nat)} {i : Nat}, rowOk ops j y ay ly i xs lss = true →
    ∀ (k : Nat) (x : Oper) (lx : List Nat), xs[k]? = some x → lss[k]? = some lx → i + k < j → pairOk ops (i + k) j x y ay lx ly = true
  | [], _, _, _, k, x, lx, hx, _, _ => by cases hx
  | _ :: _, [], _, _, k, x, lx, _, hl, _ => by cases hl
  | x0 :: xs, l0 :: lss, i, h, k, x, lx, hx, hl, hk => by
    unfold rowOk at h
    have hb : Nat.blt i j = true := by simp; omega
    rw [hb, cond_true] at h
    obtain ⟨h1, h2⟩ := Bool.and_eq_true _ _ |>.mp h
    cases k with
    | zero => cases hx; cases hl; exact h1
    | succ k =>
      have := rowOk_get h2 k x lx (by simpa using hx) (by simpa using hl) (by omega)
      rwa [show i + 1 + k = i + (k + 1) by omega] at this
theorem allOk_get {ops : Array Oper} {all : List Oper} {logs : List (List Nat)} : ∀ {os : List Oper} {as0 ls : List (List Nat)} {j : Nat}, allOk ops all logs j os as0 ls = true →
    ∀ (k : Nat) (y : Oper), os[k]? = some y → ∃ ay ly, as0[k]? = some ay ∧ ls[k]? = some ly ∧ edgeOk (j + k) y = true ∧ rowOk ops (j + k) y ay ly 0 all logs = true
  | [], _, _, _, _, k, y, hy => by cases hy
  | _ :: _, [], _, _, h, _, _, _ => by cases h
  | _ :: _, _ :: _, [], _, h, _, _, _ => by cases h
  | y0 :: os, a0 :: as0, l0 :: ls, j, h, k, y, hy => by
    unfold allOk at h
    obtain ⟨h1, h3⟩ := Bool.and_eq_true _ _ |>.mp h
    obtain ⟨h1, h2⟩ := Bool.and_eq_true _ _ |>.mp h1
    cases k with
    | zero => cases hy; exact ⟨a0, l0, rfl, rfl, h1, h2⟩
    | succ k =>
      have := allOk_get h3 k y (by simpa using hy)
      rw [show j + 1 + k = j + (k + 1) by omega] at this
      simpa using this
/-- all that a listed one waits for is listed -/
def Closed (os : List Oper) (S : Nat → Bool) : Prop := ∀ j y, os[j]? = some y → S j = true → ∀ ed ∈ y.after.toList, Region.binds .any ed = true → S ed.on = true
theorem ancs_go (os : List Oper) : ∀ (r pre : List Oper) (acc : List (List Nat)), os = pre ++ r → acc.length = pre.length →
    (∀ (j : Nat) (y : Oper) (ay : List Nat), os[j]? = some y → acc[j]? = some ay → ∀ S, Closed os S → (∀ ed ∈ y.after.toList, Region.binds .any ed = true → S ed.on = true) → ∀ i ∈ ay, S i = true) →
    ∀ (j : Nat) (y : Oper) (ay : List Nat), os[j]? = some y → (r.foldl (fun acc o => acc ++ [o.after.toList.foldr (fun ed l => bif Region.binds .any ed then ed.on :: ((acc[ed.on]?).getD [] ++ l) else l) []]) acc)[j]? = some ay →
      ∀ S, Closed os S → (∀ ed ∈ y.after.toList, Region.binds .any ed = true → S ed.on = true) → ∀ i ∈ ay, S i = true
  | [], pre, acc, _, _, hg => hg
  | o :: r, pre, acc, ho, hl, hg => by
    refine ancs_go os r (pre ++ [o]) _ (by rw [ho]; simp) (by simp [hl]) ?_
    intro j y ay hy hay S hc hed
    rcases Nat.lt_or_ge j acc.length with hj | hj
    · rw [List.getElem?_append_left hj] at hay
      exact hg j y ay hy hay S hc hed
    · rw [List.getElem?_append_right hj] at hay
      have hj0 : j - acc.length = 0 := by
        rcases Nat.eq_zero_or_pos (j - acc.length) with e | e
        · exact e
        · rw [List.getElem?_eq_none (by simp; omega)] at hay; cases hay
      rw [hj0] at hay
      cases hay
      have hyo : y = o := by
        have : j = pre.length := by omega
        rw [ho, this] at hy
        simp at hy
        exact hy.symm
      subst hyo
      clear hj0 hj hy
      generalize y.after.toList = es at hed
      induction es with
      | nil => intro i hi; cases hi
      | cons ed es ih =>
        intro i hi
        rw [List.foldr_cons] at hi
        have ih' := ih (fun e he => hed e (by simp [he]))
        cases hb : Region.binds .any ed with
        | false => rw [hb] at hi; exact ih' i hi
        | true =>
          rw [hb, cond_true] at hi
          have hS := hed ed (by simp) hb
          rcases List.mem_cons.1 hi with e | hi
          · rw [e]; exact hS
          · rcases List.mem_append.1 hi with hi | hi
            · cases ha : acc[ed.on]? with
              | none => rw [ha] at hi; cases hi
              | some a1 =>
                rw [ha] at hi
                have hlt : ed.on < acc.length := (List.getElem?_eq_some_iff.1 ha).1
                have ho1 : os[ed.on]? = some (pre[ed.on]'(by omega)) := by
                  rw [ho, List.getElem?_append_left (by omega)]; simp
                exact hg ed.on _ a1 ho1 ha S hc (hc ed.on _ ho1 hS) i hi
            · exact ih' i hi
theorem ancs_spec {os : List Oper} {S : Nat → Bool} (hc : Closed os S) {j : Nat} {y : Oper} {ay : List Nat} (hy : os[j]? = some y) (ha : (ancs os)[j]? = some ay) (hed : ∀ ed ∈ y.after.toList, Region.binds .any ed = true → S ed.on = true) : ∀ i ∈ ay, S i = true :=
  ancs_go os os [] [] rfl rfl (fun _ _ _ _ h => by cases h) j y ay hy ha S hc hed

/-! ### what stands where, some of the operations done -/
def cur {X : Type} (S W : Nat → Bool) (val : Nat → X) : Nat → X
  | 0 => val 0
  | i + 1 => bif S i && W i then val (i + 1) else cur S W val i
theorem cur_above {X : Type} {S W : Nat → Bool} {val : Nat → X} {j : Nat} : ∀ d, (∀ k, j ≤ k → k < j + d → W k = true → S k = false) → cur S W val (j + d) = cur S W val j
  | 0, _ => rfl
  | d + 1, h => by
    show (bif S (j + d) && W (j + d) then val (j + d + 1) else cur S W val (j + d)) = _
    have : (S (j + d) && W (j + d)) = false := by
      cases hW : W (j + d) with
      | false => simp
      | true => rw [h _ (by omega) (by omega) hW]; rfl
    rw [this, cond_false]
    exact cur_above d (fun k h1 h2 => h k h1 (by omega))
theorem cur_upto {X : Type} {S W : Nat → Bool} {val : Nat → X} : ∀ j, (∀ i, i < j → W i = true → S i = true) → (∀ i, i < j → W i = false → val (i + 1) = val i) → cur S W val j = val j
  | 0, _, _ => rfl
  | j + 1, h, hs => by
    show (bif S j && W j then val (j + 1) else cur S W val j) = _
    have ih := cur_upto (S := S) j (fun i hi => h i (by omega)) (fun i hi => hs i (by omega))
    cases hW : W j with
    | true => rw [h j (by omega) hW]; rfl
    | false => rw [Bool.and_false, cond_false, ih, hs j (by omega) hW]
theorem cur_at {X : Type} {S W : Nat → Bool} {val : Nat → X} {j n : Nat} (hn : j ≤ n) (h1 : ∀ i, i < j → W i = true → S i = true) (h2 : ∀ k, j ≤ k → k < n → W k = true → S k = false) (hs : ∀ i, i < j → W i = false → val (i + 1) = val i) : cur S W val n = val j := by
  have := cur_above (S := S) (W := W) (val := val) (j := j) (n - j) (fun k e1 e2 => h2 k e1 (by omega))
  rw [show j + (n - j) = n by omega] at this
  rw [this, cur_upto j h1 hs]
theorem cur_congr {X : Type} {S S' W : Nat → Bool} {val : Nat → X} : ∀ n, (∀ k, k < n → W k = true → S' k = S k) → cur S' W val n = cur S W val n
  | 0, _ => rfl
  | n + 1, h => by
    show (bif S' n && W n then val (n + 1) else cur S' W val n) = (bif S n && W n then val (n + 1) else cur S W val n)
    rw [cur_congr n (fun k hk => h k (by omega))]
    cases hW : W n with
    | false => simp
    | true => rw [h n (by omega) hW]
theorem cur_step {X : Type} {S S' W : Nat → Bool} {val : Nat → X} {j n : Nat} (hj : j < n) (hS' : S' j = true) (hne : ∀ k, k ≠ j → S' k = S k) (h2 : W j = true → ∀ k, j < k → k < n → W k = true → S k = false) :
    cur S' W val n = if W j = true then val (j + 1) else cur S W val n := by
  by_cases hW : W j = true
  · rw [if_pos hW]
    have := cur_above (S := S') (W := W) (val := val) (j := j + 1) (n - (j + 1)) (fun k e1 e2 e3 => by rw [hne k (by omega)]; exact h2 hW k (by omega) (by omega) e3)
    rw [show j + 1 + (n - (j + 1)) = n by omega] at this
    rw [this]
    show (bif S' j && W j then val (j + 1) else cur S' W val j) = _
    rw [hS', hW]; rfl
  · rw [if_neg hW]
    exact cur_congr n (fun k _ hk => hne k (by intro e; rw [e] at hk; exact hW hk))
def cnt (S : Nat → Bool) : Nat → Nat
  | 0 => 0
  | n + 1 => cnt S n + (bif S n then 0 else 1)
theorem cnt_zero {S : Nat → Bool} : ∀ {n : Nat}, cnt S n = 0 → ∀ k, k < n → S k = true
  | n + 1, h, k, hk => by
    have h' : cnt S n + (bif S n then 0 else 1) = 0 := h
    cases hS : S n with
    | false => rw [hS, cond_false] at h'; omega
    | true =>
      rcases Nat.lt_or_ge k n with e | e
      · exact cnt_zero (by omega) k e
      · rw [show k = n by omega]; exact hS
theorem cnt_step {S S' : Nat → Bool} {j : Nat} (h0 : S j = false) (h1 : S' j = true) (hne : ∀ k, k ≠ j → S' k = S k) : ∀ n, cnt S n = cnt S' n + (if j < n then 1 else 0)
  | 0 => rfl
  | n + 1 => by
    show cnt S n + (bif S n then 0 else 1) = cnt S' n + (bif S' n then 0 else 1) + _
    have ih := cnt_step h0 h1 hne n
    by_cases e : n = j
    · subst e
      rw [h0, h1, if_pos (by omega), cond_true, cond_false]
      rw [if_neg (by omega)] at ih
      omega
    · rw [hne n e]
      by_cases e2 : j < n
      · rw [if_pos e2] at ih; rw [if_pos (by omega)]; omega
      · rw [if_neg e2] at ih; rw [if_neg (by omega)]; omega

section
variable {P : Program} {ρ : Nat → Value} {w0 : World} {base : Nat}
/-- one operation of the run in the text's order -/
def StepAt (P : Program) (H : Hooks) (e : Ex) (N : Nat) (ops : Array Oper) (o : Oper) (tm tm' : Tm) (s s' : ASt) (l : List Nat) : Prop :=
  ∃ s1, operA P H e N ops o tm s = some (tm', s1) ∧ Fro (operA P H e N ops o tm) s tm' s1 l ∧ s1.heap = s'.heap ∧ s1.next = s'.next
theorem draw_steps {H : Hooks} {e : Ex} {N : Nat} {ops : Array Oper} (hFH : FrH H) (hFE : FrE e) : ∀ (os : List Oper) (tm tm' : Tm) (logs : List (List Nat)) (st st' : ASt), drawA P H e N ops os tm st = some ((tm', logs), st') →
    ∃ (s : Nat → ASt) (t : Nat → Tm), (s 0).heap = st.heap ∧ (s 0).next = st.next ∧ (s 0).log = [] ∧ t 0 = tm ∧ t os.length = tm' ∧ (s os.length).heap = st'.heap ∧ (s os.length).next = st'.next ∧ logs.length = os.length ∧
      ∀ i o l, os[i]? = some o → logs[i]? = some l → StepAt P H e N ops o (t i) (t (i + 1)) (s i) (s (i + 1)) l
  | [], tm, tm', logs, st, st', h => by
    cases h
    exact ⟨fun _ => ⟨st.heap, st.next, []⟩, fun _ => tm, rfl, rfl, rfl, rfl, rfl, rfl, rfl, rfl, fun i o l h => by cases h⟩
  | o :: os, tm, tm', logs, st, st', h => by
    unfold drawA at h
    obtain ⟨⟨tm1, l⟩, st1, h1, h⟩ := bnd_eq h
    obtain ⟨⟨tm2, ls⟩, st2, h2, h3⟩ := bnd_eq h
    cases h3
    obtain ⟨s1, g1, g2, g3, g4⟩ := capt_log (Fr.operA P hFH hFE N ops o tm) h1
    obtain ⟨s, t, e1, e2, e3, e4, e5, e6, e7, e8, e9⟩ := draw_steps hFH hFE os tm1 _ ls st1 _ h2
    refine ⟨fun i => match i with | 0 => ⟨st.heap, st.next, []⟩ | i + 1 => s i, fun i => match i with | 0 => tm | i + 1 => t i, rfl, rfl, rfl, rfl, e5, e6, e7, by simp [e8], ?_⟩
    intro i o' l' ho hl
    cases i with
    | zero =>
      cases ho; cases hl
      exact ⟨s1, by show operA _ _ _ _ _ _ _ _ = some (t 0, s1); rw [e4]; exact g1, by show Fro _ _ (t 0) _ _; rw [e4]; exact g2, by rw [e1, g3], by rw [e2, g4]⟩
    | succ i => exact e9 i o' l' (by simpa using ho) (by simpa using hl)
theorem draw_ok {H : Hooks} {e : Ex} (hm : P.follows .mixedOrders = true) (hq : Opq ρ) (hH : HookOk P ρ w0 base H) (hFH : FrH H) (hFE : FrE e) (hc : CallOk P ρ w0 base e.call) : DrawOk P ρ w0 base H e := by
  intro N id ops m st st' tm tm' logs a w Q h hok hA hf hP
  obtain ⟨s, t, s0, n0, _, t0, tn, sn, nn, hll, hst⟩ := draw_steps hFH hFE ops.toList tm tm' logs st st' h
  have hsize : ops.toList.length = ops.size := by simp
  rw [hsize] at tn sn nn hll
  generalize hn : ops.size = n at *
  have hto : ∀ i, ops.toList[i]? = ops[i]? := fun i => Array.getElem?_toList ..
  -- the numbers' own facts
  let lg : Nat → List Nat := fun i => (logs[i]?).getD []
  let dst : Nat → Option Tmp := fun i => (ops[i]?).bind (·.dst)
  have hop : ∀ i, i < n → ∃ o, ops[i]? = some o := fun i hi => ⟨ops[i]'(by omega), by simp [hn, hi]⟩
  have hlog : ∀ i, i < n → logs[i]? = some (lg i) := fun i hi => by
    show logs[i]? = some ((logs[i]?).getD [])
    rw [List.getElem?_eq_getElem (by omega)]; rfl
  have hstep : ∀ i o, i < n → ops[i]? = some o → StepAt P H e N ops o (t i) (t (i + 1)) (s i) (s (i + 1)) (lg i) := fun i o hi ho => hst i o (lg i) (by rw [hto]; exact ho) (hlog i hi)
  have hmono1 : ∀ i, i < n → (s i).next ≤ (s (i + 1)).next := fun i hi => by
    obtain ⟨o, ho⟩ := hop i hi
    obtain ⟨s1, g1, g2, g3, g4⟩ := hstep i o hi ho
    rw [← g4]; exact g2.next
  have hmono : ∀ d i, i + d ≤ n → (s i).next ≤ (s (i + d)).next := fun d => by
    induction d with
    | zero => intro i _; exact Nat.le_refl _
    | succ d ih => intro i hi; exact Nat.le_trans (ih i (by omega)) (hmono1 (i + d) (by omega))
  have hle : ∀ i k, i ≤ k → k ≤ n → (s i).next ≤ (s k).next := fun i k h1 h2 => by
    have := hmono (k - i) i (by omega)
    rwa [show i + (k - i) = k by omega] at this
  have halloc : ∀ i, i < n → ∀ A, (s i).next ≤ A → A < (s (i + 1)).next → 2 * A + 1 ∈ lg i := fun i hi A h1 h2 => by
    obtain ⟨o, ho⟩ := hop i hi
    obtain ⟨s1, g1, g2, g3, g4⟩ := hstep i o hi ho
    exact g2.alloc A h1 (by rw [g4]; exact h2)
  have hsame : ∀ i, i < n → ∀ A, 2 * A + 1 ∉ lg i → (s (i + 1)).heap.get A = (s i).heap.get A := fun i hi A h1 => by
    obtain ⟨o, ho⟩ := hop i hi
    obtain ⟨s1, g1, g2, g3, g4⟩ := hstep i o hi ho
    rw [← g3]
    exact g2.same A h1 (fun hh => h1 (g2.alloc A hh.1 hh.2))
  have hsamet : ∀ i, i < n → ∀ x, dst i ≠ some x → (t (i + 1)).get x = (t i).get x := fun i hi x h1 => by
    obtain ⟨o, ho⟩ := hop i hi
    obtain ⟨s1, g1, g2, g3, g4⟩ := hstep i o hi ho
    obtain ⟨_, _, _, q⟩ := operA_tm (tm2 := t i) g1 (fun _ _ => rfl)
    exact q x (by
      have hd : dst i = o.dst := by show (ops[i]?).bind (·.dst) = _; rw [ho]; rfl
      rw [← hd]; exact h1)
  have hdd : ∀ i, i ≤ n → (t i).d = tm.d := fun i => by
    induction i with
    | zero => intro _; rw [t0]
    | succ i ih =>
      intro hi
      obtain ⟨o, ho⟩ := hop i (by omega)
      obtain ⟨s1, g1, _⟩ := hstep i o (by omega) ho
      rw [operA_d g1]; exact ih (by omega)
  have hchk : ∀ k y, k < n → ops[k]? = some y → ∃ ay, (ancs ops.toList)[k]? = some ay ∧ edgeOk k y = true ∧ ∀ i x, i < k → ops[i]? = some x → i ∈ ay ∨ (noMeet (lg i) (lg k) = true ∧ Oper.apart ops x y = true) := fun k y hk hy => by
    obtain ⟨ay, ly, q1, q2, q3, q4⟩ := allOk_get hok k y (by rw [hto]; exact hy)
    rw [Nat.zero_add] at q3 q4
    have hly : ly = lg k := by have := hlog k hk; rw [q2] at this; exact Option.some.inj this
    subst hly
    refine ⟨ay, q1, q3, fun i x hi hx => ?_⟩
    have := rowOk_get q4 i x (lg i) (by rw [hto]; exact hx) (hlog i (by omega)) (by omega)
    rw [Nat.zero_add] at this
    unfold pairOk at this
    rcases Bool.or_eq_true _ _ |>.mp this with h1 | h1
    · exact .inl (elemN_mem h1)
    · exact .inr (Bool.and_eq_true _ _ |>.mp h1)
  have hedge : ∀ k y, k < n → ops[k]? = some y → ∀ ed ∈ y.after.toList, Region.binds .any ed = true → ed.on < k := fun k y hk hy ed he hb => by
    obtain ⟨_, _, q, _⟩ := hchk k y hk hy
    have := (List.all_eq_true.1 q) ed he
    rw [hb] at this
    simpa using this
  refine wp_region_any hm ?_
  rw [hn]
  have main : ∀ (fuel : Nat) (listed : Array Bool) (a1 : Act) (w1 : World) (m1 : BMap) (hp : Tr ABlk) (tmS : Tm), listed.size = n → Closed ops.toList (fun i => listed.getD i false) → cnt (fun i => listed.getD i false) n ≤ fuel →
      (∀ A, hp.get A = cur (fun i => listed.getD i false) (fun i => decide (2 * A + 1 ∈ lg i)) (fun i => (s i).heap.get A) n) →
      (∀ x, tmS.get x = cur (fun i => listed.getD i false) (fun i => decide (dst i = some x)) (fun i => (t i).get x) n) →
      Rel ρ w0 base m1 hp.get w1 → TmR ρ m1 tmS a1 → a1.tmps.size = N → a1.defers = a.defers → Ext m m1 → Dom m m1 st.next st'.next →
      (∀ j, j < n → listed.getD j false = false → Fresh m1 (s j).next (s (j + 1)).next) → wpAny P .any ops Q fuel listed a1 w1 := by
    have hfin : ∀ (listed : Array Bool) (a1 : Act) (w1 : World) (m1 : BMap) (hp : Tr ABlk) (tmS : Tm), (∀ j, j < n → listed.getD j false = true) →
        (∀ A, hp.get A = cur (fun i => listed.getD i false) (fun i => decide (2 * A + 1 ∈ lg i)) (fun i => (s i).heap.get A) n) →
        (∀ x, tmS.get x = cur (fun i => listed.getD i false) (fun i => decide (dst i = some x)) (fun i => (t i).get x) n) →
        Rel ρ w0 base m1 hp.get w1 → TmR ρ m1 tmS a1 → a1.tmps.size = N → a1.defers = a.defers → Ext m m1 → Dom m m1 st.next st'.next → Q .normal a1 w1 := by
      intro listed a1 w1 m1 hp tmS hall hhp htm hrel htr hsz hdf hext hdom
      refine hP a1 w1 m1 hext hdom ⟨?_, ?_, hsz, by rw [hdf, ← tn, hdd n (Nat.le_refl n)]; exact hA.defers.ext hext⟩
      · have : hp.get = st'.heap.get := by
          funext A
          rw [hhp A, cur_upto n (fun i hi _ => hall i hi) (fun i hi hW => hsame i hi A (by simpa using hW)), sn]
        rw [← this]; exact hrel
      · intro x
        have : tm'.get x = tmS.get x := by
          rw [htm x, cur_upto n (fun i hi _ => hall i hi) (fun i hi hW => hsamet i hi x (by simpa using hW)), tn]
        rw [this]; exact htr x
    intro fuel
    induction fuel with
    | zero =>
      intro listed a1 w1 m1 hp tmS hls hcl hcnt hhp htm hrel htr hsz hdf hext hdom hfr
      have hall := cnt_zero (Nat.le_zero.1 hcnt)
      have hr : Region.ready .any ops listed = [] := by
        rw [List.eq_nil_iff_forall_not_mem]
        intro j hj
        obtain ⟨q1, o, q2, _⟩ := mem_ready.1 hj
        have hj' : j < n := by rw [← hn]; exact (Array.getElem?_eq_some_iff.1 q2).1
        have := hall j hj'
        rw [Array.getD_eq_getD_getElem?, Array.getElem?_eq_getElem (by omega)] at this q1
        rw [Option.getD_some] at this q1
        rw [this] at q1; cases q1
      exact ⟨hr, hfin listed a1 w1 m1 hp tmS hall hhp htm hrel htr hsz hdf hext hdom⟩
    | succ fuel ih =>
      intro listed a1 w1 m1 hp tmS hls hcl hcnt hhp htm hrel htr hsz hdf hext hdom hfr
      have hget : ∀ j, j < n → listed.getD j true = listed.getD j false := fun j hj => by
        rw [Array.getD_eq_getD_getElem?, Array.getD_eq_getD_getElem?, Array.getElem?_eq_getElem (by omega)]; rfl
      refine ⟨fun hr => hfin listed a1 w1 m1 hp tmS ?_ hhp htm hrel htr hsz hdf hext hdom, fun j hj => ?_⟩
      · intro j
        induction j using Nat.strongRecOn with
        | _ j ihj =>
          intro hj
          cases hb : listed.getD j false with
          | true => rfl
          | false =>
            obtain ⟨o, ho⟩ := hop j hj
            have : j ∈ Region.ready .any ops listed := mem_ready.2 ⟨by rw [hget j hj]; exact hb, o, ho, fun ed he hbd => by
              have := hedge j o hj ho ed (by simpa using he) hbd
              exact ihj _ this (by omega)⟩
            rw [hr] at this; cases this
      · obtain ⟨q1, o, ho, q3⟩ := mem_ready.1 hj
        have hjn : j < n := by rw [← hn]; exact (Array.getElem?_eq_some_iff.1 ho).1
        rw [hget j hjn] at q1
        obtain ⟨ay, hay, _, hpair⟩ := hchk j o hjn ho
        have hanc : ∀ i ∈ ay, listed.getD i false = true := ancs_spec hcl (by rw [hto]; exact ho) hay (fun ed he hb => q3 ed (by simpa using he) hb)
        -- one ahead of it: done, or apart from it
        have hlow : ∀ i x, i < j → ops[i]? = some x → listed.getD i false = true ∨ (noMeet (lg i) (lg j) = true ∧ Oper.apart ops x o = true) := fun i x hi hx => (hpair i x hi hx).imp (hanc i) (fun q => q)
        -- one behind it that is done: apart from it
        have hhigh : ∀ k y, j < k → k < n → ops[k]? = some y → listed.getD k false = true → noMeet (lg j) (lg k) = true ∧ Oper.apart ops o y = true := fun k y hjk hk hy hS => by
          obtain ⟨ay', hay', _, hpair'⟩ := hchk k y hk hy
          rcases hpair' j o hjk ho with hin | hap
          · have := ancs_spec hcl (by rw [hto]; exact hy) hay' (hcl k y (by rw [hto]; exact hy) hS) j hin
            rw [q1] at this; cases this
          · exact hap
        obtain ⟨s1, g1, g2, g3, g4⟩ := hstep j o hjn ho
        have hdj : dst j = o.dst := by show (ops[j]?).bind (·.dst) = _; rw [ho]; rfl
        have hdi : ∀ i x, ops[i]? = some x → dst i = x.dst := fun i x hx => by show (ops[i]?).bind (·.dst) = _; rw [hx]; rfl
        -- what it touches stands as0 in the text's order
        have htouch : ∀ A, Tch (lg j) A → hp.get A = (s j).heap.get A := fun A hA => by
          rw [hhp A]
          refine cur_at (by omega) (fun i hi hW => ?_) (fun k hk1 hk2 hW => ?_) (fun i hi hW => hsame i (by omega) A (by simpa using hW))
          · obtain ⟨x, hx⟩ := hop i (by omega)
            rcases hlow i x hi hx with h1 | ⟨h1, _⟩
            · exact h1
            · exact absurd hA ((noMeet_spec h1).1 (by simpa using hW))
          · rcases Nat.lt_or_ge j k with hlt | hge
            · obtain ⟨y, hy⟩ := hop k hk2
              cases hb : listed.getD k false with
              | false => rfl
              | true => exact absurd hA ((noMeet_spec (hhigh k y hlt hk2 hy hb).1).2 (by simpa using hW))
            · rw [show k = j by omega]; exact q1
        have hlook : ∀ x ∈ o.looksAt ops, tmS.get x = (t j).get x := fun x hx => by
          rw [htm x]
          refine cur_at (by omega) (fun i hi hW => ?_) (fun k hk1 hk2 hW => ?_) (fun i hi hW => hsamet i (by omega) x (by simpa using hW))
          · obtain ⟨y, hy⟩ := hop i (by omega)
            rcases hlow i y hi hy with h1 | ⟨_, h1⟩
            · exact h1
            · have hd : y.dst = some x := by rw [← hdi i y hy]; simpa using hW
              exact absurd hx ((Oper.apart_spec h1).1 x hd)
          · rcases Nat.lt_or_ge j k with hlt | hge
            · obtain ⟨y, hy⟩ := hop k hk2
              cases hb : listed.getD k false with
              | false => rfl
              | true =>
                have hd : y.dst = some x := by rw [← hdi k y hy]; simpa using hW
                exact absurd hx ((Oper.apart_spec (hhigh k y hlt hk2 hy hb).2).2.2 x hd)
            · rw [show k = j by omega]; exact q1
        obtain ⟨s2, k1, k2, k3, k4, k5⟩ := g2.other ⟨hp, (s j).next, []⟩ rfl (fun A hA => by
          rcases hA with hA | hA
          · exact htouch A hA
          · exact htouch A (.inr (g2.alloc A hA.1 hA.2)))
        obtain ⟨tm2, p1, p2, p3⟩ := operA_tm k1 hlook
        have hs2 : s2.next = (s (j + 1)).next := by rw [k3, g4]
        unfold wpOp
        rw [ho]
        refine oper_ok hq hc hH p1 hrel (by show Fresh m1 (s j).next s2.next; rw [hs2]; exact hfr j hjn q1) htr hsz hdf _ Q (fun a2 w2 m2 e1 e2 e3 e4 e5 e6 _ _ => ?_)
        have e2' : Dom m1 m2 (s j).next (s (j + 1)).next := by rw [← hs2]; exact e2
        have hin : (listed.setIfInBounds j true).getD j false = true := by
          rw [Array.getD_eq_getD_getElem?, Array.getElem?_setIfInBounds_self_of_lt (by omega)]; rfl
        have hne : ∀ k, k ≠ j → (listed.setIfInBounds j true).getD k false = listed.getD k false := fun k hk => getD_set_ne false (Ne.symm hk)
        refine ih (listed.setIfInBounds j true) a2 w2 m2 s2.heap tm2 (by simp [hls]) ?_ ?_ ?_ ?_ e3 e4 e5 e6 (hext.trans e1) ?_ ?_
        · intro k y hy hS ed he hb
          by_cases hkj : k = j
          · subst hkj
            rw [hto, ho] at hy
            cases hy
            exact getD_set_true (q3 ed (by simpa using he) hb)
          · exact getD_set_true (hcl k y hy ((hne k hkj).symm.trans hS) ed he hb)
        · have := cnt_step (S := fun i => listed.getD i false) (S' := fun i => (listed.setIfInBounds j true).getD i false) (j := j) q1 hin hne n
          rw [if_pos hjn] at this
          omega
        · intro A
          rw [cur_step (S := fun i => listed.getD i false) hjn hin hne (fun hW k hk1 hk2 hWk => by
            obtain ⟨y, hy⟩ := hop k hk2
            cases hb : listed.getD k false with
            | false => rfl
            | true => exact absurd (Or.inr (by simpa using hWk)) ((noMeet_spec (hhigh k y hk1 hk2 hy hb).1).1 (by simpa using hW)))]
          by_cases hW : 2 * A + 1 ∈ lg j
          · rw [if_pos (by simpa using hW), k4 A (.inl hW), g3]
          · rw [if_neg (by simpa using hW), ← hhp A]
            exact k5 A hW (fun hh => hW (g2.alloc A hh.1 hh.2))
        · intro x
          rw [cur_step (S := fun i => listed.getD i false) hjn hin hne (fun hW k hk1 hk2 hWk => by
            obtain ⟨y, hy⟩ := hop k hk2
            cases hb : listed.getD k false with
            | false => rfl
            | true =>
              have hd : y.dst = some x := by rw [← hdi k y hy]; simpa using hWk
              have hd0 : o.dst = some x := by rw [← hdj]; simpa using hW
              exact absurd hd ((Oper.apart_spec (hhigh k y hk1 hk2 hy hb).2).2.1 x hd0))]
          rw [p2 x]
          by_cases hW : o.dst = some x
          · rw [if_pos hW, if_pos (by simpa [hdj] using hW)]
          · rw [if_neg hW, if_neg (by simpa [hdj] using hW), ← htm x]
        · intro A h1 h2
          cases hb : m1 A with
          | none =>
            have := e2' A hb h2
            have l1 := hle 0 j (by omega) (by omega)
            have l2 := hle (j + 1) n (by omega) (by omega)
            rw [n0] at l1; rw [nn] at l2
            omega
          | some p => exact hdom A h1 (by rw [hb]; simp)
        · intro k hk hS A h1 h2
          have hkj : k ≠ j := by intro e; rw [e, hin] at hS; cases hS
          rw [hne k hkj] at hS
          have := hfr k hk hS A h1 h2
          cases hb : m2 A with
          | none => rfl
          | some p =>
            exfalso
            have := e2' A this (by rw [hb]; simp)
            rcases Nat.lt_or_ge k j with hlt | hge
            · have := hle (k + 1) j (by omega) (by omega); omega
            · have := hle (j + 1) k (by omega) (by omega); omega
  have hnil : ∀ i, (Array.replicate n false).getD i false = false := fun i => by
    rw [Array.getD_eq_getD_getElem?, Array.getElem?_replicate]; split <;> rfl
  refine main n (Array.replicate n false) a _ m st.heap tm (by simp) ?_ ?_ ?_ ?_ (hA.rel.same_heap rfl rfl rfl rfl) hA.tmr hA.size rfl (Ext.refl m) (fun A h1 h2 => absurd h1 h2) ?_
  · intro k y _ hS
    have := (hnil k).symm.trans hS; cases this
  · have hcn : ∀ k, cnt (fun i => (Array.replicate n false).getD i false) k ≤ k := fun k => by
      induction k with
      | zero => exact Nat.le_refl _
      | succ k ih =>
        show cnt _ k + (bif (Array.replicate n false).getD k false then 0 else 1) ≤ k + 1
        rw [hnil, cond_false]; omega
    exact hcn n
  · intro A
    have h0 : ∀ k, cur (fun i => (Array.replicate n false).getD i false) (fun i => decide (2 * A + 1 ∈ lg i)) (fun i => (s i).heap.get A) k = (s 0).heap.get A := fun k => by
      induction k with
      | zero => rfl
      | succ k ih =>
        show (bif (Array.replicate n false).getD k false && decide (2 * A + 1 ∈ lg k) then (s (k + 1)).heap.get A else cur _ _ _ k) = _
        rw [hnil, Bool.false_and, cond_false]; exact ih
    rw [h0, s0]
  · intro x
    have h0 : ∀ k, cur (fun i => (Array.replicate n false).getD i false) (fun i => decide (dst i = some x)) (fun i => (t i).get x) k = (t 0).get x := fun k => by
      induction k with
      | zero => rfl
      | succ k ih =>
        show (bif (Array.replicate n false).getD k false && decide (dst k = some x) then (t (k + 1)).get x else cur _ _ _ k) = _
        rw [hnil, Bool.false_and, cond_false]; exact ih
    rw [h0, t0]
  · intro j hj _ A h1 h2
    refine hf A ?_ ?_
    · have := hle 0 j (by omega) (by omega); rw [n0] at this; omega
    · have := hle (j + 1) n (by omega) (by omega); rw [nn] at this; omega
/-- the executor's calls, whatever the draw -/
theorem exec_calls {H : Hooks} (hm : P.follows .mixedOrders = true) (hq : Opq ρ) (hH : HookOk P ρ w0 base H) (hFH : FrH H) (n : Nat) : CallOk P ρ w0 base (exec P H n).call :=
  (exec_ok hq hH hFH (fun _ hFE hc => draw_ok hm hq hH hFH hFE hc) n).1
end
end Go.Proofs.YtelohloaoocoaaaGreatDoor.Zz
/- The executor: what stands in for functions without a Go body. -/
set_option linter.unusedVariables false
set_option linter.unusedSimpArgs false
set_option linter.deprecated false
namespace Go.Proofs.YtelohloaoocoaaaGreatDoor.Zz
open Go

def countB (c : Nat) : List UInt8 → Nat
  | [] => 0
  | x :: l => bif Nat.beq x.toNat c then countB c l + 1 else countB c l
def indexB (c : Nat) : List UInt8 → Nat → Option Nat
  | [], _ => none
  | x :: l, i => bif Nat.beq x.toNat c then some i else indexB c l (i + 1)
def orNeg : Option Nat → Int
  | some i => .ofNat i
  | none => -1
def hCount : List AV → M AV
  | [.str s, .int .u8 (.ofNat c)] => bif Nat.blt c 256 then ret (.int .i64 (countB c s)) else fail
  | _ => fail
def hIndexByte : List AV → M AV
  | [.str s, .int .u8 (.ofNat c)] => bif Nat.blt c 256 then ret (.int .i64 (orNeg (indexB c s 0))) else fail
  | _ => fail
def hookOf : List (FuncId × (List AV → M AV)) → FuncId → Option (List AV → M AV)
  | [], _ => none
  | (g, h) :: l, f => bif Nat.beq g f then some h else hookOf l f
end Go.Proofs.YtelohloaoocoaaaGreatDoor.Zz
/- The executor: hooks, and a whole call. -/
set_option linter.unusedVariables false
set_option linter.unusedSimpArgs false
set_option linter.deprecated false
namespace Go.Proofs.YtelohloaoocoaaaGreatDoor.Zz
open Go Go.RowKit

section
variable {P : Program} {ρ : Nat → Value} {w0 : World} {base : Nat}
theorem hookOf_get {l : List (FuncId × (List AV → M AV))} {f : FuncId} {h : List AV → M AV} (e : hookOf l f = some h) : (f, h) ∈ l := by
  induction l with
  | nil => cases e
  | cons p l ih =>
    obtain ⟨g, k⟩ := p
    unfold hookOf at e
    cases hb : Nat.beq g f with
    | true =>
      rw [hb] at e
      cases e
      have : g = f := by simpa using hb
      simp [this]
    | false => rw [hb] at e; exact List.mem_cons_of_mem _ (ih e)
theorem hooks_ok {l : List (FuncId × (List AV → M AV))} {or : Q → Option AV} (h : ∀ p ∈ l, (∀ args, Fr (p.2 args)) ∧ HookFn P ρ w0 base p.1 p.2) (ho : ∀ q r, or q = some r → OraOk P ρ w0 base q r) : HookOk P ρ w0 base ⟨hookOf l, or⟩ ∧ FrH ⟨hookOf l, or⟩ :=
  ⟨⟨fun _ _ e => (h _ (hookOf_get e)).2, ho⟩, fun _ _ e => (h _ (hookOf_get e)).1⟩
/-- the function f is the entry e -/
def IsExtern (P : Program) (f : FuncId) (e : Array Value → Sem Value) : Prop :=
  ∃ fn, P.funcs[f]? = some fn ∧ (fn.name == "runtime.NumGoroutine") = false ∧ fn.body.isNone = true ∧ Extern.findNext fn = none ∧ Extern.find fn = some e
theorem toNat_of (x : UInt8) {c : Nat} (hc : c < 256) : x.toNat = c ↔ x = c.toUInt8 := by
  constructor
  · intro h; apply UInt8.toNat_inj.1; rw [h]; simp [Nat.toUInt8, UInt8.toNat_ofNat']; omega
  · intro h; rw [h]; simp [Nat.toUInt8, UInt8.toNat_ofNat']; omega
theorem countB_eq {c : Nat} (hc : c < 256) : ∀ l, countB c l = Lib.countByte l c.toUInt8
  | [] => rfl
  | x :: l => by
    unfold countB Lib.countByte
    rw [List.count_cons, countB_eq hc l]
    by_cases h : x.toNat = c
    · have h1 : x = c.toUInt8 := (toNat_of x hc).1 h
      have h2 : Nat.beq x.toNat c = true := by simpa using h
      rw [h2, cond_true, if_pos (by simpa using h1)]; rfl
    · have h1 : ¬ x = c.toUInt8 := fun e => h ((toNat_of x hc).2 e)
      have h2 : Nat.beq x.toNat c = false := by cases hb : Nat.beq x.toNat c with | false => rfl | true => exact absurd (by simpa using hb) h
      rw [h2, cond_false, if_neg (by simpa using h1)]; rfl
theorem indexB_eq {c : Nat} : ∀ (l : List UInt8) (i : Nat), indexB c l i = (indexB c l 0).map (· + i)
  | [], i => rfl
  | x :: l, i => by
    unfold indexB
    cases Nat.beq x.toNat c with
    | true => simp
    | false =>
      rw [cond_false, cond_false, indexB_eq l (i + 1), indexB_eq l (0 + 1)]
      cases indexB c l 0 with
      | none => rfl
      | some k => simp; omega
theorem indexByte_eq {c : Nat} (hc : c < 256) : ∀ l, orNeg (indexB c l 0) = Lib.indexByte l c.toUInt8
  | [] => rfl
  | x :: l => by
    have ih := indexByte_eq hc l
    unfold indexB Lib.indexByte
    by_cases h : x.toNat = c
    · have h1 : x = c.toUInt8 := (toNat_of x hc).1 h
      have h2 : Nat.beq x.toNat c = true := by simpa using h
      rw [h2, cond_true, if_pos (by simpa using h1)]; rfl
    · have h1 : ¬ x = c.toUInt8 := fun e => h ((toNat_of x hc).2 e)
      have h2 : Nat.beq x.toNat c = false := by cases hb : Nat.beq x.toNat c with | false => rfl | true => exact absurd (by simpa using hb) h
      rw [h2, cond_false, indexB_eq l (0 + 1), if_neg (by simpa using h1), ← ih]
      cases indexB c l 0 with
      | none => rfl
      | some k =>
        have : ¬ ((orNeg (some k) == -1) = true) := by
          unfold orNeg; simp
        rw [if_neg this]
        unfold orNeg; simp
theorem upon_pure {o : Oper} {a : Act} {K : Act → World → Prop} {Q : Exit → Act → World → Prop} {v : Value} {w : World} (h : K (a.put o.dst v) w) : o.upon P a K Q (.ok (.value v) w) := by
  rw [Oper.upon_value]; exact h
theorem hCount_ok {f : FuncId} (he : IsExtern P f Extern.BytealgCount.count) : (∀ args, Fr (hCount args)) ∧ HookFn P ρ w0 base f hCount := by
  obtain ⟨fn, h1, h2, h3, h4, h5⟩ := he
  refine ⟨fun args => ?_, fun args us m st w v st' h hr hf hl o a K Q hK => ?_⟩
  · unfold hCount
    split
    · exact Fr.cond (Fr.ret _) Fr.fail
    · exact Fr.fail
  · unfold hCount at h
    split at h
    · rename_i s c
      cases hb : Nat.blt c 256 with
      | false => rw [hb] at h; cases h
      | true =>
        rw [hb, cond_true] at h
        cases h
        have hc : c < 256 := by simpa using hb
        have hus : us = #[.string ⟨s.toArray⟩, .int .u8 (Int.ofNat c)] := by
          obtain ⟨l⟩ := us
          cases hl with | cons _ v1 _ r1 q1 hl => _
          cases hl with | cons _ v2 _ r2 q2 hl => _
          cases hl
          cases q1
          cases q2
          rfl
        rw [hus, run_callFunc_extern h1 h2 h3 h4 h5, Lib.run_countString]
        simp only [Result.andThen]
        refine upon_pure (hK _ w m (Ext.refl m) (fun A e1 e2 => absurd e1 e2) hr ?_)
        have : (Int.ofNat c).toNat = c := rfl
        rw [this, countB_eq hc]
        exact .int _ _
    · cases h
theorem hIndexByte_ok {f : FuncId} (he : IsExtern P f Extern.BytealgIndexByte.indexByte) : (∀ args, Fr (hIndexByte args)) ∧ HookFn P ρ w0 base f hIndexByte := by
  obtain ⟨fn, h1, h2, h3, h4, h5⟩ := he
  refine ⟨fun args => ?_, fun args us m st w v st' h hr hf hl o a K Q hK => ?_⟩
  · unfold hIndexByte
    split
    · exact Fr.cond (Fr.ret _) Fr.fail
    · exact Fr.fail
  · unfold hIndexByte at h
    split at h
    · rename_i s c
      cases hb : Nat.blt c 256 with
      | false => rw [hb] at h; cases h
      | true =>
        rw [hb, cond_true] at h
        cases h
        have hc : c < 256 := by simpa using hb
        have hus : us = #[.string ⟨s.toArray⟩, .int .u8 (Int.ofNat c)] := by
          obtain ⟨l⟩ := us
          cases hl with | cons _ v1 _ r1 q1 hl => _
          cases hl with | cons _ v2 _ r2 q2 hl => _
          cases hl
          cases q1
          cases q2
          rfl
        rw [hus, run_callFunc_extern h1 h2 h3 h4 h5, Lib.run_indexByteString]
        simp only [Result.andThen]
        refine upon_pure (hK _ w m (Ext.refl m) (fun A e1 e2 => absurd e1 e2) hr ?_)
        have : (Int.ofNat c).toNat = c := rfl
        rw [this, indexByte_eq hc]
        exact .int _ _
    · cases h
/-- no block yet, the counter at 1000 -/
def st0 : ASt := ⟨.lf, 1000, []⟩
/-- did the run give 'true'? -/
def saysTrue (r : Option (AV × ASt)) : Bool := match r with
  | some (.bool true, _) => true
  | _ => false
/-- what the executor says holds in every world -/
theorem exec_top_ora {l : List (FuncId × (List AV → M AV))} {or : Q → Option AV} (hm : P.follows .mixedOrders = true) (hq : Opq ρ) (w : World) (hk : ∀ p ∈ l, (∀ args, Fr (p.2 args)) ∧ HookFn P ρ w w.heap.size p.1 p.2) (ho : ∀ q r, or q = some r → OraOk P ρ w w.heap.size q r) (n : Nat)
    {f : FuncId} {args : List AV} {us : Array Value} (hl : LR ρ (fun _ => none) args us.toList)
    (h : saysTrue ((exec P ⟨hookOf l, or⟩ n).call f args st0) = true) : Calls P f us w fun e w' => e = .returned (.bool true) ∧ Below w.heap.size w w' := by
  obtain ⟨hH, hF⟩ := hooks_ok hk ho
  cases hc : (exec P ⟨hookOf l, or⟩ n).call f args st0 with
  | none => rw [hc] at h; cases h
  | some r =>
    obtain ⟨v, st'⟩ := r
    rw [hc] at h
    have hv : v = .bool true := by
      unfold saysTrue at h
      split at h
      · rename_i s e; cases e; rfl
      · cases h
    subst hv
    refine Calls.mono (exec_calls hm hq hH hF n f args us (fun _ => none) st0 w _ st' hc ⟨fun A b hb => (by rw [show st0.heap.get A = none from rfl] at hb; cases hb), fun A B a b p q ha => (by rw [show st0.heap.get A = none from rfl] at ha; cases ha), Below.refl _ _, Nat.le_refl _⟩ (fun _ _ _ => rfl) hl) ?_
    rintro e w' ⟨m', _, _, e4, ⟨v', rfl, e5⟩ | ⟨x, u, e5, _⟩⟩
    · cases e5
      exact ⟨rfl, e4.old⟩
    · cases e5
/-- nothing is said -/
def noOra : Q → Option AV := fun _ => none
theorem exec_top {l : List (FuncId × (List AV → M AV))} (hm : P.follows .mixedOrders = true) (hq : Opq ρ) (w : World) (hk : ∀ p ∈ l, (∀ args, Fr (p.2 args)) ∧ HookFn P ρ w w.heap.size p.1 p.2) (n : Nat) {f : FuncId} {args : List AV} {us : Array Value} (hl : LR ρ (fun _ => none) args us.toList)
    (h : saysTrue ((exec P ⟨hookOf l, noOra⟩ n).call f args st0) = true) : Calls P f us w fun e w' => e = .returned (.bool true) ∧ Below w.heap.size w w' :=
  exec_top_ora hm hq w hk (fun _ _ e => by cases e) n hl h
end
end Go.Proofs.YtelohloaoocoaaaGreatDoor.Zz
/- The executor: from its states to a world's objects. -/
set_option linter.unusedVariables false
set_option linter.unusedSimpArgs false
set_option linter.deprecated false
namespace Go.Proofs.YtelohloaoocoaaaGreatDoor.Zz
open Go Go.RowKit

/-- the block of the world in which an executor's block lies -/
def bm (m : BMap) (A : Nat) : Nat := match m A with
  | some p => p.1
  | none => 0
/-- a value, its places known -/
def conc (ρ : Nat → Value) (b : Nat → Nat) : AV → Value
  | .int k n => .int k n
  | .bool x => .bool x
  | .str s => .string ⟨s.toArray⟩
  | .ptr0 => .pointer none
  | .ptr A i => .pointer (some ⟨b A, i, none⟩)
  | .sl0 => .slice none 0 0
  | .sl A i len cap _ _ => .slice (some ⟨b A, i, none⟩) len cap
  | .map0 => .map none
  | .map A => .map (some (b A))
  | .ifc t (.ptr A i) => .iface t (.pointer (some ⟨b A, i, none⟩))
  | .ifc0 => .nilIface
  | .opq k => ρ k
  | _ => .nilFunc
/-- which values have such a one; E: the blocks that lie as they are -/
def plainA (E : Nat → Bool) : AV → Bool
  | .int _ _ | .bool _ | .str _ | .ptr0 | .sl0 | .map0 | .ifc0 | .opq _ => true
  | .ptr A _ => E A
  | .sl A _ _ cap _ ex => E A && ex && Nat.blt 0 cap
  | .map _ => true
  | .ifc _ (.ptr A _) => E A
  | _ => false
def exactB : Option ABlk → Bool
  | some (.cells _ _ _ 0 false) => true
  | _ => false
section
variable {P : Program} {ρ : Nat → Value} {w0 : World} {base : Nat} {m : BMap} {g : Nat → Option ABlk} {w : World}
theorem Rel.exact (h : Rel ρ w0 base m g w) {A : Nat} (hE : exactB (g A) = true) : ∃ z, m A = some (bm m A, 0, z) := by
  unfold exactB at hE
  split at hE
  · rename_i c n e hg
    obtain ⟨p, e1, _, arr, lo, hi, _, _, _, _, _, h6⟩ := h.blk A _ hg
    obtain ⟨b, d, z⟩ := p
    have := (h6 rfl rfl).2.1
    have hd : d = 0 := this
    subst hd
    refine ⟨z, ?_⟩
    unfold bm
    rw [e1]
  · cases hE
theorem conc_of (h : Rel ρ w0 base m g w) {a : AV} {v : Value} (hv : VR ρ m a v) (hp : plainA (fun A => exactB (g A)) a = true) : v = conc ρ (bm m) a := by
  cases hv with
  | ptr A i b d z hm =>
    obtain ⟨z', e⟩ := h.exact (A := A) hp
    rw [hm] at e; cases e
    simp [conc]
  | sl A i len cap sz ex b d z off cap' hm hc hex ho hz hl hd =>
    simp only [plainA, Bool.and_eq_true] at hp
    obtain ⟨z', e⟩ := h.exact (A := A) hp.1.1
    rw [hm] at e; cases e
    have h0 : 0 < cap := by simpa using hp.2
    rw [hex hp.1.2, ho h0]
    simp [conc]
  | map A b d z hm => simp [conc, bm, hm]
  | ifc t x v h' =>
    cases h' with
    | ptr A i b d z hm =>
      obtain ⟨z', e⟩ := h.exact (A := A) hp
      rw [hm] at e; cases e
      simp [conc]
    | _ => cases hp
  | fn f x y u v h1 h2 => cases hp
  | fn0 => cases hp
  | agg l u h => cases hp
  | tup l u h => cases hp
  | _ => rfl
/-- a block's cells -/
def rowA (st : ASt) (A : Nat) : Option (List AV × TypeId) := match st.heap.get A with
  | some (.cells c n e 0 false) => (getN c 0 n).bind fun l => bif l.all (plainA fun B => exactB (st.heap.get B)) then some (l, e) else none
  | _ => none
def mapA (st : ASt) (A : Nat) : Option (List (AV × AV × Nat) × Nat) := match st.heap.get A with
  | some (.map es clk) => bif es.all (fun e => plainA (fun B => exactB (st.heap.get B)) e.1 && plainA (fun B => exactB (st.heap.get B)) e.2.1) then some (es, clk) else none
  | _ => none
def liveA (st : ASt) (A : Nat) : Bool := match st.heap.get A with
  | some b => !isDead b
  | none => false
theorem rowA_at {st : ASt} (h : Rel ρ w0 base m st.heap.get w) {A : Nat} {l : List AV} {e : TypeId} (hA : rowA st A = some (l, e)) :
    w.heap[bm m A]? = some (.cells (l.map (conc ρ (bm m))).toArray e (0, 0)) ∧ base ≤ bm m A ∧ liveA st A = true := by
  unfold rowA at hA
  split at hA
  · rename_i c n e' hg
    cases hl : getN c 0 n with
    | none => rw [hl] at hA; cases hA
    | some l' =>
      rw [hl] at hA
      simp only [Option.bind_some] at hA
      cases hp : l'.all (plainA fun B => exactB (st.heap.get B)) with
      | false => rw [hp] at hA; cases hA
      | true =>
        rw [hp] at hA
        cases hA
        obtain ⟨⟨b, d, z⟩, e1, hb, arr, lo, hi, h1, h2, h3, h4, _, h6⟩ := h.blk A _ hg
        obtain ⟨⟨rfl, rfl⟩, hd, hz⟩ := h6 rfl rfl
        simp only at hd hz h1 h2 hb
        subst hd hz
        obtain ⟨g1, g2⟩ := getN_get hl
        have hbm : bm m A = b := by unfold bm; rw [e1]
        refine ⟨?_, by rw [hbm]; exact hb, by unfold liveA; rw [hg]; rfl⟩
        rw [hbm, h1]
        congr 2
        apply Array.ext'
        apply List.ext_getElem?
        intro j
        rw [Array.getElem?_toList, List.getElem?_map]
        cases hj : l[j]? with
        | none =>
          rw [List.getElem?_eq_none_iff] at hj
          simp only [Option.map_none]
          rw [Array.getElem?_eq_none_iff]; omega
        | some a =>
          have := g2 j a hj
          obtain ⟨_, _, v, q3, q4⟩ := h4 (0 + j) a this
          simp only [Nat.zero_add] at q3
          rw [q3]
          have hpa := List.all_eq_true.1 hp a (List.mem_of_getElem? hj)
          rw [conc_of h q4 hpa]; rfl
  · cases hA
theorem mapA_at {st : ASt} (h : Rel ρ w0 base m st.heap.get w) {A : Nat} {l : List (AV × AV × Nat)} {clk : Nat} (hA : mapA st A = some (l, clk)) :
    w.heap[bm m A]? = some (.map (l.map fun e => { key := conc ρ (bm m) e.1, val := conc ρ (bm m) e.2.1, born := e.2.2 }).toArray clk) ∧ base ≤ bm m A ∧ liveA st A = true := by
  unfold mapA at hA
  split at hA
  · rename_i es clk' hg
    cases hp : es.all (fun e => plainA (fun B => exactB (st.heap.get B)) e.1 && plainA (fun B => exactB (st.heap.get B)) e.2.1) with
    | false => rw [hp] at hA; cases hA
    | true =>
      rw [hp] at hA
      cases hA
      obtain ⟨⟨b, d, z⟩, e1, hb, es', h1, h2, h3⟩ := h.blk A _ hg
      have hbm : bm m A = b := by unfold bm; rw [e1]
      refine ⟨?_, by rw [hbm]; exact hb, by unfold liveA; rw [hg]; rfl⟩
      simp only at h1
      rw [hbm, h1]
      congr 2
      apply Array.ext'
      apply List.ext_getElem?
      intro j
      rw [Array.getElem?_toList, List.getElem?_map]
      cases hj : l[j]? with
      | none =>
        rw [List.getElem?_eq_none_iff] at hj
        simp only [Option.map_none]
        rw [Array.getElem?_eq_none_iff]; omega
      | some a =>
        obtain ⟨en, q1, q2, q3, q4⟩ := h3 j a.1 a.2.1 a.2.2 hj
        rw [q1]
        have hpa := List.all_eq_true.1 hp a (List.mem_of_getElem? hj)
        simp only [Bool.and_eq_true] at hpa
        have e1 := conc_of h q3 hpa.1
        have e2 := conc_of h q4 hpa.2
        show some en = some { key := conc ρ (bm m) a.1, val := conc ρ (bm m) a.2.1, born := a.2.2 }
        rw [← e1, ← e2, ← q2]
  · cases hA
theorem bm_inj {st : ASt} (h : Rel ρ w0 base m st.heap.get w) {A B : Nat} (hA : liveA st A = true) (hB : liveA st B = true) (he : bm m A = bm m B) : A = B := by
  unfold liveA at hA hB
  cases ha : st.heap.get A with
  | none => rw [ha] at hA; cases hA
  | some a =>
    cases hb : st.heap.get B with
    | none => rw [hb] at hB; cases hB
    | some b =>
      rw [ha] at hA
      rw [hb] at hB
      obtain ⟨p, p1, _, _⟩ := h.blk A a ha
      obtain ⟨q, q1, _, _⟩ := h.blk B b hb
      refine Classical.byContradiction fun hne => ?_
      refine h.sep A B a b p q ha hb (by simpa using hA) (by simpa using hB) hne p1 q1 ?_
      unfold bm at he
      rw [p1, q1] at he
      exact he
/-- one call behind others: the blocks go on -/
structure Stands (ρ : Nat → Value) (w0 : World) (base : Nat) (st : ASt) (m : BMap) (w : World) : Prop where
  rel : Rel ρ w0 base m st.heap.get w
  new : ∀ A, st.next ≤ A → m A = none
end
end Go.Proofs.YtelohloaoocoaaaGreatDoor.Zz
/- A world of families begins: the tree and the kernel, by the executor. -/
namespace Go.Proofs.YtelohloaoocoaaaGreatDoor
open Go.RowKit IntWalk
set_option linter.unusedVariables false
set_option linter.unusedSimpArgs false

/-- one call behind others -/
def notPan : Zz.AV → Bool
  | .pan _ => false
  | _ => true
/-- the numbers go on -/
def leA (a b : Zz.ASt) : Bool := Nat.ble a.next b.next
theorem stands_call {P : Program} {ρ : Nat → Value} {w0 : World} {base : Nat} {H : Zz.Hooks} (hm : P.follows .mixedOrders = true) (hq : Zz.Opq ρ) (hH : Zz.HookOk P ρ w0 base H) (hFH : Zz.FrH H) (n : Nat) {f : FuncId} {args : List Zz.AV} {us : Array Value} {st st' : Zz.ASt} {m : Zz.BMap} {w : World} {v : Zz.AV}
    (hs : Zz.Stands ρ w0 base st m w) (hc : (Zz.exec P H n).call f args st = some (v, st')) (hle : leA st st' = true) (hl : Zz.LR ρ m args us.toList) (hp : notPan v = true) :
    Calls P f us w fun e w' => ∃ m' v', e = .returned v' ∧ Zz.VR ρ m' v v' ∧ Zz.Ext m m' ∧ Zz.Stands ρ w0 base st' m' w' := by
  have hle' : st.next ≤ st'.next := by simpa [leA] using hle
  refine (Zz.exec_calls hm hq hH hFH n f args us m st w v st' hc hs.rel (fun A h1 _ => hs.new A h1) hl).mono ?_
  rintro e w' ⟨m', hE, hD, hR, he⟩
  rcases he with ⟨v', rfl, hv⟩ | ⟨x, u, rfl, _⟩
  · refine ⟨m', v', rfl, hv, hE, hR, fun A hA => ?_⟩
    cases hmA : m' A with
    | none => rfl
    | some p =>
      have := (hD A (hs.new A (by omega)) (by rw [hmA]; simp)).2
      omega
  · cases hp
theorem stands_zero (ρ : Nat → Value) (w : World) : Zz.Stands ρ w w.heap.size Zz.st0 (fun _ => none) w :=
  ⟨⟨fun A b hb => (by rw [show Zz.st0.heap.get A = none from rfl] at hb; cases hb), fun A B a b p q ha => (by rw [show Zz.st0.heap.get A = none from rfl] at ha; cases ha), Below.refl _ _, Nat.le_refl _⟩, fun _ _ => rfl⟩
/-- a pointer that is told -/
theorem vr_ptr {ρ : Nat → Value} {w0 w : World} {base : Nat} {st : Zz.ASt} {m : Zz.BMap} {A : Nat} {v : Value} (h : Zz.Stands ρ w0 base st m w) (hx : Zz.exactB (st.heap.get A) = true) (hv : Zz.VR ρ m (.ptr A 0) v) : v = ptrOf (Zz.bm m A) ∧ ∃ z, m A = some (Zz.bm m A, 0, z) := by
  obtain ⟨z, hz⟩ := h.rel.exact hx
  refine ⟨?_, z, hz⟩
  cases hv with
  | ptr A i b d z' hm =>
    rw [hz] at hm
    cases hm
    rfl
theorem bm_ext {m m' : Zz.BMap} (h : Zz.Ext m m') {A : Nat} {p : Nat × Nat × Nat} (hm : m A = some p) : Zz.bm m' A = Zz.bm m A := by
  unfold Zz.bm
  rw [hm, h _ _ hm]
theorem lr_ptr {ρ : Nat → Value} {m : Zz.BMap} {A b z : Nat} (hm : m A = some (b, 0, z)) : Zz.VR ρ m (.ptr A 0) (ptrOf b) := Zz.VR.ptr A 0 b 0 z hm
/-- a row, a map of the executor's: what it is -/
def rowIs (st : Zz.ASt) (A : Nat) (l : List Zz.AV) (e : TypeId) : Bool := match Zz.rowA st A with
  | some (l', e') => Zz.eqAVs l' l && Nat.beq e' e
  | none => false
def eqEs : List (Zz.AV × Zz.AV × Nat) → List (Zz.AV × Zz.AV × Nat) → Bool
  | [], [] => true
  | (a, b, n) :: l, (c, d, k) :: r => Zz.eqAV a c && (Zz.eqAV b d && (Nat.beq n k && eqEs l r))
  | _, _ => false
def mapIs (st : Zz.ASt) (A : Nat) (l : List (Zz.AV × Zz.AV × Nat)) (c : Nat) : Bool := match Zz.mapA st A with
  | some (l', c') => eqEs l' l && Nat.beq c' c
  | none => false
theorem eqEs_eq : ∀ {l r : List (Zz.AV × Zz.AV × Nat)}, eqEs l r = true → l = r
  | [], [], _ => rfl
  | [], _ :: _, h => by cases h
  | _ :: _, [], h => by cases h
  | (a, b, n) :: l, (c, d, k) :: r, h => by
    simp only [eqEs, Bool.and_eq_true] at h
    obtain ⟨h1, h2, h3, h4⟩ := h
    rw [Zz.eqAV_eq h1, Zz.eqAV_eq h2, Nat.eq_of_beq_eq_true h3, eqEs_eq h4]
theorem row_of {st : Zz.ASt} {A : Nat} {l : List Zz.AV} {e : TypeId} (h : rowIs st A l e = true) : Zz.rowA st A = some (l, e) := by
  unfold rowIs at h
  split at h
  · rename_i l' e' he
    simp only [Bool.and_eq_true] at h
    rw [he, Zz.eqAVs_eq h.1, Nat.eq_of_beq_eq_true h.2]
  · cases h
theorem map_of {st : Zz.ASt} {A : Nat} {l : List (Zz.AV × Zz.AV × Nat)} {c : Nat} (h : mapIs st A l c = true) : Zz.mapA st A = some (l, c) := by
  unfold mapIs at h
  split at h
  · rename_i l' e' he
    simp only [Bool.and_eq_true] at h
    rw [he, eqEs_eq h.1, Nat.eq_of_beq_eq_true h.2]
  · cases h
/-- a row of which the values are known by VR -/
def rowW (st : Zz.ASt) (A : Nat) (l : List Zz.AV) (e : TypeId) (o : Bool) : Bool := match st.heap.get A with
  | some (.cells c n e' 0 o') => (o == o') && ((match Zz.getN c 0 n with
    | some l' => Zz.eqAVs l' l
    | none => false) && Nat.beq e' e)
  | _ => false
theorem rowW_at {ρ : Nat → Value} {w0 w : World} {base : Nat} {st : Zz.ASt} {m : Zz.BMap} {A : Nat} {l : List Zz.AV} {e : TypeId} {o : Bool} (h : Zz.Rel ρ w0 base m st.heap.get w) (hA : rowW st A l e o = true) :
    ∃ b d z arr fz, m A = some (b, d, z) ∧ Zz.bm m A = b ∧ base ≤ b ∧ Zz.liveA st A = true ∧ w.heap[b]? = some (.cells arr e fz) ∧ arr.size = z ∧ (o = false → fz = (0, 0) ∧ d = 0 ∧ z = l.length) ∧ ∀ (j : Nat) (a : Zz.AV), l[j]? = some a → ∃ v, arr[d + j]? = some v ∧ Zz.VR ρ m a v := by
  unfold rowW at hA
  split at hA
  · rename_i c n e' o' hg
    simp only [Bool.and_eq_true, beq_iff_eq] at hA
    obtain ⟨rfl, h2, h3⟩ := hA
    have he := Nat.eq_of_beq_eq_true h3
    subst he
    split at h2
    · rename_i l' hl
      have := Zz.eqAVs_eq h2
      subst this
      obtain ⟨⟨b, d, z⟩, e1, hb, arr, lo, hi, q1, q2, q3, q4, q5, q6⟩ := h.blk A _ hg
      obtain ⟨g1, g2⟩ := Zz.getN_get hl
      refine ⟨b, d, z, arr, (lo, hi), e1, by unfold Zz.bm; rw [e1], hb, by unfold Zz.liveA; rw [hg]; rfl, q1, q2, fun ho => ?_, fun j a hj => ?_⟩
      · obtain ⟨⟨r1, r2⟩, r3, r4⟩ := q6 ho rfl
        exact ⟨by rw [r1, r2], r3, by rw [g1]; exact r4⟩
      · have := g2 j a hj
        obtain ⟨_, _, v, r3, r4⟩ := q4 (0 + j) a this
        exact ⟨v, by simpa using r3, r4⟩
    · cases h2
  · cases hA

/-! ### the two calls -/
noncomputable def wyH : Zz.Hooks := ⟨Zz.hookOf [(252, Zz.hCount), (228, Zz.hIndexByte)], Zz.noOra⟩
noncomputable def wyE := (Zz.exec Tryz.prog wyH 400).call
def stOf (r : Option (Zz.AV × Zz.ASt)) : Zz.ASt := match r with
  | some (_, s) => s
  | none => Zz.st0
def isV (r : Option (Zz.AV × Zz.ASt)) (v : Zz.AV) : Bool := match r with
  | some (x, _) => Zz.eqAV x v
  | none => false
theorem isV_eq {r : Option (Zz.AV × Zz.ASt)} {v : Zz.AV} (h : isV r v = true) : r = some (v, stOf r) := by
  unfold isV at h
  split at h
  · rename_i x s
    rw [Zz.eqAV_eq h]; rfl
  · cases h
noncomputable def wyR1 := wyE 18 [.int .i64 5, .int .i64 5] Zz.st0
noncomputable def wyR2 := wyE 19 [.ptr 1005 0, .int .i64 20, .str []] (stOf wyR1)
theorem wy_v1 : (isV wyR1 (.tup [.ptr 1005 0, .int .i64 0]) && (Zz.exactB ((stOf wyR1).heap.get 1005) && leA Zz.st0 (stOf wyR1))) = true := by kernel_rfl
theorem wy_v2 : (isV wyR2 (.tup [.ptr 1014 0, .int .i64 0]) && (leA (stOf wyR1) (stOf wyR2) && Zz.exactB ((stOf wyR2).heap.get 1014))) = true := by kernel_rfl
def ptrs (n : Nat) : List Zz.AV := List.replicate n .ptr0
theorem wy_sa : (rowIs (stOf wyR2) 1002 (.ptr 1007 0 :: ptrs 4) 151 && (rowIs (stOf wyR2) 1003 [.sl 1002 0 5 5 1 true, .ptr 1001 0] 150 && (rowIs (stOf wyR2) 1005 [.ptr 1003 0, .map 1004] 93 && rowIs (stOf wyR2) 1007 [.int .i64 1, .int .i64 1, .int .i64 2, .int .i64 0, .map 1006] 156))) = true := by kernel_rfl
theorem wy_sb : (mapIs (stOf wyR2) 1011 [(.int .i64 1, .ptr 1015 0, 0)] 1 && (rowIs (stOf wyR2) 1012 [.int .i64 20, .map 1011] 131 && (mapIs (stOf wyR2) 1013 [(.int .i64 1, .ptr 1027 0, 0)] 1 && (rowIs (stOf wyR2) 1014 [.ptr 1005 0, .ptr 1010 0, .ptr 1012 0, .map 1013, .int .i64 0, .bool false] 79 && rowIs (stOf wyR2) 1015 [.int .i64 1, .int .i64 0, .int .i64 0] 134)))) = true := by kernel_rfl
theorem wy_sc : (rowIs (stOf wyR2) 1016 ([.ptr 1010 0, .ptr 1018 0, .ptr 1022 0, .ptr 1026 0] ++ ptrs 13) 164 && (rowIs (stOf wyR2) 1018 [.ifc 166 (.ptr 1017 0), .int .i64 1] 198 && (rowIs (stOf wyR2) 1019 [.sl0] 143 && (rowIs (stOf wyR2) 1022 [.ifc 144 (.ptr 1019 0), .int .i64 1] 198 && (rowIs (stOf wyR2) 1023 [.sl0] 143 && (rowIs (stOf wyR2) 1026 [.ifc 144 (.ptr 1023 0), .int .i64 1] 198 && rowIs (stOf wyR2) 1027 [.ptr 1016 0, .int .i64 1, .bool false] 110)))))) = true := by kernel_rfl
theorem wy_sd : (rowW (stOf wyR2) 1010 [.ptr 1005 0, .int .i64 3, .sl 1025 0 2 2 1 false] 141 false && (rowW (stOf wyR2) 1025 [.ptr 1019 0, .ptr 1023 0] 144 true && (Zz.exactB ((stOf wyR2).heap.get 1005) && (Zz.exactB ((stOf wyR2).heap.get 1019) && Zz.exactB ((stOf wyR2).heap.get 1023))))) = true := by kernel_rfl
end Go.Proofs.YtelohloaoocoaaaGreatDoor
/- A world of families begins: what the kernel is. -/
namespace Go.Proofs.YtelohloaoocoaaaGreatDoor
open Go.RowKit IntWalk
set_option linter.unusedVariables false
set_option linter.unusedSimpArgs false

theorem hooks_count : Zz.IsExtern Tryz.prog 252 Extern.BytealgCount.count :=
  ⟨_, Tryz.func252, by kernel_rfl, by kernel_rfl, by kernel_rfl, by kernel_rfl⟩
theorem hooks_index : Zz.IsExtern Tryz.prog 228 Extern.BytealgIndexByte.indexByte :=
  ⟨_, Tryz.func228, by kernel_rfl, by kernel_rfl, by kernel_rfl, by kernel_rfl⟩
theorem follows_mixed : Tryz.prog.follows .mixedOrders = true := by kernel_rfl
theorem wy_hk (ρ : Nat → Value) (W : World) (base : Nat) : ∀ p ∈ ([(252, Zz.hCount), (228, Zz.hIndexByte)] : List (FuncId × (List Zz.AV → Zz.M Zz.AV))), (∀ args, Zz.Fr (p.2 args)) ∧ Zz.HookFn Tryz.prog ρ W base p.1 p.2 := fun p hp => by
  rcases List.mem_cons.1 hp with rfl | hp
  · exact Zz.hCount_ok hooks_count
  · rcases List.mem_cons.1 hp with rfl | hp
    · exact Zz.hIndexByte_ok hooks_index
    · cases hp
theorem wy_hooks (ρ : Nat → Value) (W : World) (base : Nat) : Zz.HookOk Tryz.prog ρ W base wyH ∧ Zz.FrH wyH := Zz.hooks_ok (wy_hk ρ W base) (fun q r h => by cases h)
def wyRho : Nat → Value := fun _ => .int .i64 0
theorem wy_opq : Zz.Opq wyRho := fun k => ⟨(fun _ h => by cases h), (fun _ h => by cases h)⟩
theorem stands_run {P : Program} {ρ : Nat → Value} {w0 : World} {base : Nat} {H : Zz.Hooks} (hm : P.follows .mixedOrders = true) (hq : Zz.Opq ρ) (hH : Zz.HookOk P ρ w0 base H) (hFH : Zz.FrH H) (n : Nat) {f : FuncId} {args : List Zz.AV} {us : Array Value} {st st' : Zz.ASt} {m : Zz.BMap} {w : World} {v : Zz.AV} {r : Option (Zz.AV × Zz.ASt)}
    (hs : Zz.Stands ρ w0 base st m w) (hr : r = (Zz.exec P H n).call f args st) (hc : r = some (v, st')) (hle : leA st st' = true) (hl : Zz.LR ρ m args us.toList) (hp : notPan v = true) :
    Calls P f us w fun e w' => ∃ m' v', e = .returned v' ∧ Zz.VR ρ m' v v' ∧ Zz.Ext m m' ∧ Zz.Stands ρ w0 base st' m' w' := stands_call hm hq hH hFH n hs (hr.symm.trans hc) hle hl hp
theorem wyR1_def : wyR1 = (Zz.exec Tryz.prog wyH 400).call 18 [.int .i64 5, .int .i64 5] Zz.st0 := by delta wyR1 wyE; rfl
theorem wyR2_def : wyR2 = (Zz.exec Tryz.prog wyH 400).call 19 [.ptr 1005 0, .int .i64 20, .str []] (stOf wyR1) := by delta wyR2 wyE; rfl
theorem newfs_c (W : World) : Calls Tryz.prog 18 #[.int .i64 5, .int .i64 5] W fun e w' => ∃ m, e = .returned (.tuple #[ptrOf (Zz.bm m 1005), .int .i64 0]) ∧ Zz.Stands wyRho W W.heap.size (stOf wyR1) m w' ∧ ∃ z, m 1005 = some (Zz.bm m 1005, 0, z) := by
  obtain ⟨hH, hF⟩ := wy_hooks wyRho W W.heap.size
  have hv := wy_v1
  simp only [Bool.and_eq_true] at hv
  obtain ⟨h1, h2, h3⟩ := hv
  refine (stands_run follows_mixed wy_opq hH hF 400 (stands_zero _ W) wyR1_def (isV_eq h1) h3 (.cons _ _ _ _ (.int _ _) (.cons _ _ _ _ (.int _ _) .nil)) rfl).mono ?_
  rintro e w' ⟨m, v, rfl, hv, _, hS⟩
  cases hv with
  | tup l u hl =>
    obtain ⟨u⟩ := u
    cases hl with | cons _ a _ r q1 hl => _
    cases hl with | cons _ b _ r q2 hl => _
    cases hl
    cases q2
    obtain ⟨rfl, e1⟩ := vr_ptr hS h2 q1
    exact ⟨m, rfl, hS, e1⟩
theorem newsys_c {W w : World} {m : Zz.BMap} (hS : Zz.Stands wyRho W W.heap.size (stOf wyR1) m w) (hm : ∃ z, m 1005 = some (Zz.bm m 1005, 0, z)) :
    Calls Tryz.prog 19 #[ptrOf (Zz.bm m 1005), .int .i64 20, .string ByteArray.empty] w fun e w' => ∃ m', e = .returned (.tuple #[ptrOf (Zz.bm m' 1014), .int .i64 0]) ∧ Zz.Stands wyRho W W.heap.size (stOf wyR2) m' w' := by
  obtain ⟨hH, hF⟩ := wy_hooks wyRho W W.heap.size
  have hv := wy_v2
  simp only [Bool.and_eq_true] at hv
  obtain ⟨h1, h2, h3⟩ := hv
  obtain ⟨z, hz⟩ := hm
  refine (stands_run follows_mixed wy_opq hH hF 400 hS wyR2_def (isV_eq h1) h2 (.cons _ _ _ _ (lr_ptr hz) (.cons _ _ _ _ (.int _ _) (.cons _ _ _ _ (.str []) .nil))) rfl).mono ?_
  rintro e w' ⟨m', v, rfl, hv, _, hS⟩
  cases hv with
  | tup l u hl =>
    obtain ⟨u⟩ := u
    cases hl with | cons _ a _ r q1 hl => _
    cases hl with | cons _ b _ r q2 hl => _
    cases hl
    cases q2
    obtain ⟨rfl, _⟩ := vr_ptr hS h3 q1
    exact ⟨m', rfl, hS⟩

/-! ### what the world holds then -/
def wyNumT : TId → Nat
  | .T => 1012
  | .M => 1011
  | .P _ => 1015
def wyNumX : XId → Nat
  | .X => 1010
  | .O 0 => 1018
  | .O 1 => 1022
  | .O _ => 1026
  | .Z _ => 1016
def wyNumK : KId → Nat
  | .K => 1014
  | .M => 1013
  | .R _ => 1027
def wyNumR : RId → Nat
  | .F => 1005
  | .T => 1003
  | .G => 1002
  | .N => 1007
def wyNumH : HId → Nat
  | .A => 1025
  | .S => 1019
  | .B => 0
def wyNum : KSId → Nat := Sum.elim wyNumT (Sum.elim wyNumX (Sum.elim wyNumK (Sum.elim wyNumR wyNumH)))
def wyIds : List KSId := [.inl .T, .inl .M, .inl (.P 1), .inr (.inl .X), .inr (.inl (.O 0)), .inr (.inl (.O 1)), .inr (.inl (.O 2)), .inr (.inl (.Z 1)),
  .inr (.inr (.inl .K)), .inr (.inr (.inl .M)), .inr (.inr (.inl (.R 1))), .inr (.inr (.inr (.inl .F))), .inr (.inr (.inr (.inl .T))), .inr (.inr (.inr (.inl .G))), .inr (.inr (.inr (.inl .N))),
  .inr (.inr (.inr (.inr .A))), .inr (.inr (.inr (.inr .S)))]
theorem wy_inj : ∀ i ∈ wyIds, ∀ j ∈ wyIds, wyNum i = wyNum j → i = j := by decide
def wyKs (m : Zz.BMap) (r : Hr) (cap : Nat) : Ks where
  t := ⟨20, ⟨[(1, 0)], 1⟩, fun _ => ⟨1, 0, 0⟩⟩
  x := { fs := Zz.bm m 1005, many := 3, sv := .slice (some ⟨Zz.bm m 1025, r.off, none⟩) 2 cap,
         op := fun k => match k with
           | 0 => some (.iface 166 (ptrOf (Zz.bm m 1017)), 1)
           | 1 => some (.iface 144 (ptrOf (Zz.bm m 1019)), 1)
           | 2 => some (.iface 144 (ptrOf (Zz.bm m 1023)), 1)
           | _ => none
         zs := fun i => if i = 1 then some stdSlots else none }
  k := ⟨Zz.bm m 1005, Zz.bm m 1010, Zz.bm m 1012, ⟨[(1, 0)], 1⟩, fun _ => ⟨Zz.bm m 1016, false⟩, 0, false⟩
  r := ⟨.map (some (Zz.bm m 1004)), ptrOf (Zz.bm m 1001), List.replicate 4 (.pointer none), 1, [.int .i64 2, .int .i64 0, .map (some (Zz.bm m 1006))]⟩
  h := ⟨[], none, r⟩
def wyLy (m : Zz.BMap) : Ly := ⟨fun i => Zz.bm m (wyNumT i), fun i => Zz.bm m (wyNumX i), fun i => Zz.bm m (wyNumK i), fun i => Zz.bm m (wyNumR i), fun i => Zz.bm m (wyNumH i)⟩
theorem wyLy_all (m : Zz.BMap) (i : KSId) : (wyLy m).all i = Zz.bm m (wyNum i) := by
  rcases i with i | i | i | i | i <;> rfl
theorem wy_live (m : Zz.BMap) (r : Hr) (cap : Nat) (i : KSId) (h : (wyKs m r cap).obj (wyLy m) i ≠ none) : i ∈ wyIds := by
  rcases i with i | i | i | i | i
  · cases i with
    | P k =>
      by_cases e : k = 1
      · subst e; simp [wyIds]
      · refine absurd ?_ h
        show (wyKs m r cap).t.obj (wyLy m).t (.P k) = none
        unfold Tab.obj
        exact if_neg (by simpa [wyKs, PMap.keys] using e)
    | _ => simp [wyIds]
  · cases i with
    | X => simp [wyIds]
    | O k =>
      match k with
      | 0 => simp [wyIds]
      | 1 => simp [wyIds]
      | 2 => simp [wyIds]
      | k + 3 => exact absurd rfl h
    | Z k =>
      by_cases e : k = 1
      · subst e; simp [wyIds]
      · refine absurd ?_ h
        show (wyKs m r cap).x.obj (wyLy m).x (.Z k) = none
        simp [Fx.obj, wyKs, e]
  · cases i with
    | R k =>
      by_cases e : k = 1
      · subst e; simp [wyIds]
      · refine absurd ?_ h
        show (wyKs m r cap).k.obj (wyLy m).k (.R k) = none
        unfold Kx.obj
        exact if_neg (by simpa [wyKs, PMap.keys] using e)
    | _ => simp [wyIds]
  · cases i <;> simp [wyIds]
  · cases i with
    | B => exact absurd rfl h
    | _ => simp [wyIds]
theorem one_ok : (⟨[(1, 0)], 1⟩ : PMap).Ok := ⟨by simp [PMap.keys], by simp, fun e he => by simp at he; subst he; simp⟩
section
variable {W w : World} {m : Zz.BMap}
theorem wy_row (hS : Zz.Stands wyRho W W.heap.size (stOf wyR2) m w) {A : Nat} {l : List Zz.AV} {e : TypeId} (h : rowIs (stOf wyR2) A l e = true) :
    w.heap[Zz.bm m A]? = some (.cells (l.map (Zz.conc wyRho (Zz.bm m))).toArray e (0, 0)) ∧ Zz.liveA (stOf wyR2) A = true ∧ W.heap.size ≤ Zz.bm m A :=
  have := Zz.rowA_at hS.rel (row_of h)
  ⟨this.1, this.2.2, this.2.1⟩
theorem wy_map (hS : Zz.Stands wyRho W W.heap.size (stOf wyR2) m w) {A : Nat} {l : List (Zz.AV × Zz.AV × Nat)} {c : Nat} (h : mapIs (stOf wyR2) A l c = true) :
    w.heap[Zz.bm m A]? = some (.map (l.map fun e => { key := Zz.conc wyRho (Zz.bm m) e.1, val := Zz.conc wyRho (Zz.bm m) e.2.1, born := e.2.2 }).toArray c) ∧ Zz.liveA (stOf wyR2) A = true ∧ W.heap.size ≤ Zz.bm m A :=
  have := Zz.mapA_at hS.rel (map_of h)
  ⟨this.1, this.2.2, this.2.1⟩
/-- what the kernel is when it begins -/
structure WyBegun (W w : World) (s : Ks) (l : Ly) (b0 b1 b2 : Nat) : Prop where
  is : KsIs s l w
  own : ∀ k, Owns (s.obj l) l.all k → W.heap.size ≤ k
  old : Below W.heap.size W w
  sink2 : w.heap[b2]? = some (.cells #[.slice none 0 0] 143 (0, 0))
  out2 : ¬ Owns (s.obj l) l.all b2
  row : s.h.gs.cells[s.h.gs.off + 1]? = some (ptrOf b2)
  new2 : W.heap.size ≤ b2
  F : ∀ n, FamK n 1 false false (fun _ => .unborn) b0 b1 b2 s
  h0 : s.h.out = []
theorem WyBegun.lift {W1 W w w' : World} {s : Ks} {l : Ly} {b0 b1 b2 : Nat} (h : WyBegun W1 w s l b0 b1 b2) (hB : Below W.heap.size W W1) (hb : Below w.heap.size w w') : WyBegun W w' s l b0 b1 b2 := by
  have h1 := hB.size
  have h2 : b2 < w.heap.size := (Array.getElem?_eq_some_iff.1 h.sink2).1
  have h3 := h.old.size
  refine ⟨h.is.below hb, fun k hk => Nat.le_trans h1 (h.own k hk), hB.trans ((h.old.mono h1).trans (hb.mono (by omega))), (hb.block _ h2).trans h.sink2, h.out2, h.row, Nat.le_trans h1 h.new2, h.F, h.h0⟩
theorem wy_begun (hS : Zz.Stands wyRho W W.heap.size (stOf wyR2) m w) : ∃ s l b0 b1 b2, WyBegun W w s l b0 b1 b2 ∧ l.k .K = Zz.bm m 1014 := by
  have ha := wy_sa
  have hb := wy_sb
  have hc := wy_sc
  have hd := wy_sd
  simp only [Bool.and_eq_true] at ha hb hc hd
  obtain ⟨a1, a2, a3, a4⟩ := ha
  obtain ⟨b1, b2, b3, b4, b5⟩ := hb
  obtain ⟨c1, c2, c3, c4, c5, c6, c7⟩ := hc
  obtain ⟨d1, d2, d3, d4, d5⟩ := hd
  obtain ⟨fb, fd, fz, farr, ffz, f1, f2, f3, f4, f5, f6, f7, f8⟩ := rowW_at hS.rel d1
  obtain ⟨gb, gd, gz, garr, gfz, g1, g2, g3, g4, g5, g6, g7, g8⟩ := rowW_at hS.rel d2
  obtain ⟨rfl, rfl, rfl⟩ := f7 rfl
  obtain ⟨v0, e0, q0⟩ := f8 0 _ rfl
  obtain ⟨v1, e1, q1⟩ := f8 1 _ rfl
  obtain ⟨v2, e2, q2⟩ := f8 2 _ rfl
  obtain ⟨u0, k0, p0⟩ := g8 0 _ rfl
  obtain ⟨u1, k1, p1⟩ := g8 1 _ rfl
  obtain ⟨rfl, _⟩ := vr_ptr hS d3 q0
  obtain ⟨rfl, _⟩ := vr_ptr hS d4 p0
  obtain ⟨rfl, _⟩ := vr_ptr hS d5 p1
  cases q1
  obtain ⟨cap, rfl⟩ : ∃ cap, v2 = .slice (some ⟨gb, gd, none⟩) 2 cap := by
    cases q2 with
    | sl A i len cap sz ex b d z off cap' hm hc hex ho hz hl hd =>
      rw [g1] at hm; cases hm
      exact ⟨cap', by rw [ho (by omega)]; rfl⟩
  have hfarr : farr = #[ptrOf (Zz.bm m 1005), .int .i64 3, .slice (some ⟨gb, gd, none⟩) 2 cap] := by
    apply Array.ext
    · simpa using f6
    · intro i h1 h2
      have hi : i = 0 ∨ i = 1 ∨ i = 2 := by simp at h2; omega
      simp only [Nat.zero_add] at e0 e1 e2
      rcases hi with rfl | rfl | rfl
      · exact Option.some.inj ((Array.getElem?_eq_getElem h1).symm.trans e0)
      · exact Option.some.inj ((Array.getElem?_eq_getElem h1).symm.trans e1)
      · exact Option.some.inj ((Array.getElem?_eq_getElem h1).symm.trans e2)
  subst hfarr
  subst f2 g2
  have hlive : ∀ i ∈ wyIds, Zz.liveA (stOf wyR2) (wyNum i) = true := by
    intro i hi
    simp only [wyIds, List.mem_cons, List.not_mem_nil, or_false] at hi
    rcases hi with rfl | rfl | rfl | rfl | rfl | rfl | rfl | rfl | rfl | rfl | rfl | rfl | rfl | rfl | rfl | rfl | rfl
    · exact (wy_row hS b2).2.1
    · exact (wy_map hS b1).2.1
    · exact (wy_row hS b5).2.1
    · exact f4
    · exact (wy_row hS c2).2.1
    · exact (wy_row hS c4).2.1
    · exact (wy_row hS c6).2.1
    · exact (wy_row hS c1).2.1
    · exact (wy_row hS b4).2.1
    · exact (wy_map hS b3).2.1
    · exact (wy_row hS c7).2.1
    · exact (wy_row hS a3).2.1
    · exact (wy_row hS a2).2.1
    · exact (wy_row hS a1).2.1
    · exact (wy_row hS a4).2.1
    · exact g4
    · exact (wy_row hS c3).2.1
  have hlies : Lies ((wyKs m ⟨garr, gd, gfz⟩ cap).obj (wyLy m)) (wyLy m).all w := by
    refine ⟨fun i o ho => ?_, fun i j hi hj e => ?_⟩
    · have hi := wy_live m _ _ i (by rw [ho]; simp)
      rw [wyLy_all]
      simp only [wyIds, List.mem_cons, List.not_mem_nil, or_false] at hi
      rcases hi with rfl | rfl | rfl | rfl | rfl | rfl | rfl | rfl | rfl | rfl | rfl | rfl | rfl | rfl | rfl | rfl | rfl
      · exact (wy_row hS b2).1.trans ho
      · exact (wy_map hS b1).1.trans ho
      · exact (wy_row hS b5).1.trans ho
      · exact f5.trans ho
      · exact (wy_row hS c2).1.trans ho
      · exact (wy_row hS c4).1.trans ho
      · exact (wy_row hS c6).1.trans ho
      · exact (wy_row hS c1).1.trans ho
      · exact (wy_row hS b4).1.trans ho
      · exact (wy_map hS b3).1.trans ho
      · exact (wy_row hS c7).1.trans ho
      · exact (wy_row hS a3).1.trans ho
      · exact (wy_row hS a2).1.trans ho
      · exact (wy_row hS a1).1.trans ho
      · exact (wy_row hS a4).1.trans ho
      · exact g5.trans ho
      · exact (wy_row hS c3).1.trans ho
    · have hi' := wy_live m _ _ i hi
      have hj' := wy_live m _ _ j hj
      rw [wyLy_all, wyLy_all] at e
      exact wy_inj i hi' j hj' (Zz.bm_inj hS.rel (hlive i hi') (hlive j hj') e)
  have h23 := wy_row hS c5
  refine ⟨wyKs m ⟨garr, gd, gfz⟩ cap, wyLy m, Zz.bm m 1017, Zz.bm m 1019, Zz.bm m 1023, ⟨⟨hlies, ?_⟩, ?_, hS.rel.old, h23.1, ?_, k1, h23.2.2, fun n => ?_, rfl⟩, rfl⟩
  · refine ⟨one_ok, ⟨fun i l hi => ?_, fun i l k hi hk => ?_⟩, one_ok, rfl, rfl, rfl, rfl, fun i hi => rfl, ⟨_, rfl⟩, ⟨cap, rfl, k0⟩⟩
    · simp only [wyKs] at hi
      split at hi
      · cases hi; rfl
      · cases hi
    · simp only [wyKs] at hi
      split at hi
      · cases hi
        have hk3 : k = 0 ∨ k = 1 ∨ k = 2 := by simp [stdSlots] at hk; omega
        rcases hk3 with rfl | rfl | rfl
        · exact ⟨_, _, rfl⟩
        · exact ⟨_, _, rfl⟩
        · exact ⟨_, _, rfl⟩
      · cases hi
  · rintro k ⟨i, hi, rfl⟩
    have hi := wy_live m _ _ i hi
    rw [wyLy_all]
    simp only [wyIds, List.mem_cons, List.not_mem_nil, or_false] at hi
    rcases hi with rfl | rfl | rfl | rfl | rfl | rfl | rfl | rfl | rfl | rfl | rfl | rfl | rfl | rfl | rfl | rfl | rfl
    · exact (wy_row hS b2).2.2
    · exact (wy_map hS b1).2.2
    · exact (wy_row hS b5).2.2
    · exact f3
    · exact (wy_row hS c2).2.2
    · exact (wy_row hS c4).2.2
    · exact (wy_row hS c6).2.2
    · exact (wy_row hS c1).2.2
    · exact (wy_row hS b4).2.2
    · exact (wy_map hS b3).2.2
    · exact (wy_row hS c7).2.2
    · exact (wy_row hS a3).2.2
    · exact (wy_row hS a2).2.2
    · exact (wy_row hS a1).2.2
    · exact (wy_row hS a4).2.2
    · exact g3
    · exact (wy_row hS c3).2.2
  · rintro ⟨i, hi, e⟩
    have hi' := wy_live m _ _ i hi
    rw [wyLy_all] at e
    have := Zz.bm_inj hS.rel (hlive i hi') h23.2.1 e
    have hno : ∀ i ∈ wyIds, wyNum i ≠ 1023 := by decide
    exact hno i hi' this
  · have hL : liveN n (fun _ => Kid.unborn) = 0 := liveN_zero (by intro c h; cases h)
    have hkey : ∀ i, i ∈ (⟨[(1, 0)], 1⟩ : PMap).keys ↔ i = 1 := by intro i; simp [PMap.keys]
    have hal : ∀ i, alivePid false (fun _ => Kid.unborn) i ↔ i = 1 := fun i => by
      unfold alivePid
      constructor
      · rintro (⟨h, _⟩ | ⟨c, _, h⟩)
        · exact h
        · cases h
      · exact fun h => .inl ⟨h, rfl⟩
    exact {
      most := rfl
      tk := fun i => by
        show i ∈ (⟨[(1, 0)], 1⟩ : PMap).keys ↔ _
        rw [hkey]; unfold knownPid; rw [hal]
        constructor
        · exact .inl
        · rintro (h | ⟨c, _, h⟩)
          · exact h
          · cases h
      kk := fun i => by
        show i ∈ (⟨[(1, 0)], 1⟩ : PMap).keys ↔ _
        rw [hkey, hal]
      one := fun _ => ⟨rfl, rfl⟩
      waits := fun h => by cases h
      live := fun c h => by cases h
      dead := fun c h => by cases h
      z1 := fun _ => rfl
      zl := fun c h => by cases h
      zu := fun c _ => by
        show (if pidC c = 1 then some stdSlots else none) = none
        exact if_neg (by unfold pidC; omega)
      o0 := fun _ => by rw [hL]; rfl
      o1 := fun _ => by rw [hL]; rfl
      o2 := fun _ => by rw [hL]; rfl
      many := fun _ => rfl
      users := fun _ => by rw [hL]; rfl
      ended := fun _ => rfl
      small := fun _ _ => rfl }
end
end Go.Proofs.YtelohloaoocoaaaGreatDoor
