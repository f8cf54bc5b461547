/- The executor: results, whole calls. -/
import Derived.Test.YtckmcajnhobkpaaGreatDoorExU
import Derived.Recover
set_option linter.unusedVariables false
set_option linter.unusedSimpArgs false
set_option linter.deprecated false
namespace Go.Proofs.YtckmcajnhobkpaaGreatDoor.Zz
open Go Go.RowKit

section
variable {P : Program} {ρ : Nat → Value} {w0 : World} {base : Nat} {m : BMap}
/-- reading one result -/
def resM (tmps : Array Value) (x : ResultVar) : Sem Value :=
  match x with
  | .tmp t => pure (tmps.getD t undef)
  | .cell b t => do loadVar t (← asAddr (tmps.getD b undef))
theorem resM_tmp {tmps : Array Value} {t : Nat} {w : World} : (resM tmps (.tmp t)).run P w = .ok (tmps.getD t undef) w := Sem.run_pure ..
theorem resM_cell {tmps : Array Value} {b : Nat} {t : TypeId} {w : World} {ad : Addr} {v : Value} (h : tmps.getD b undef = .pointer (some ad)) (hl : (loadVar t ad).run P w = .ok v w) : (resM tmps (.cell b t)).run P w = .ok v w := by
  show ((asAddr (tmps.getD b undef)) >>= fun x => loadVar t x).run P w = _
  rw [h, Sem.run_bind]
  exact hl
theorem results_eq {fn : Func} {tmps : Array Value} : results fn tmps = (fn.results.mapM (resM tmps) >>= fun vs => pure (if h : vs.size = 1 then vs[0] else .tuple vs)) := rfl
theorem mapM_cons_ok {α : Type} {f : α → Sem Value} {x : α} {l : List α} {v : Value} {vs : List Value} {w : World} (h1 : (f x).run P w = .ok v w) (h2 : (l.mapM f).run P w = .ok vs w) : ((x :: l).mapM f).run P w = .ok (v :: vs) w := by
  rw [List.mapM_cons, Sem.run_bind, h1, Result.andThen_ok, Sem.run_bind, h2, Result.andThen_ok, Sem.run_pure]
theorem resultA_ok {tm : Tm} {a : Act} {w : World} (ht : TmR ρ m tm a) : ∀ (l : List ResultVar) (st st' : ASt) (r : List AV), resultA P tm l st = some (r, st') → Rel ρ w0 base m st.heap.get w →
    ∃ vs : List Value, (l.mapM (resM a.tmps)).run P w = .ok vs w ∧ LR ρ m r vs ∧ st'.heap = st.heap ∧ st'.next = st.next
  | [], st, st', r, h, hr => by
    cases h
    exact ⟨[], by rw [List.mapM_nil]; exact Sem.run_pure .., .nil, rfl, rfl⟩
  | .tmp t :: l, st, st', r, h, hr => by
    unfold resultA at h
    obtain ⟨v, hv, h⟩ := optb_eq h
    obtain ⟨r', s1, h1, h2⟩ := bnd_eq h
    cases h2
    obtain ⟨vs, g1, g2, g3, g4⟩ := resultA_ok ht l st st' r' h1 hr
    exact ⟨a.tmps.getD t undef :: vs, mapM_cons_ok resM_tmp g1, .cons _ _ _ _ (aval_ok (x := .tmp t) hv ht) g2, g3, g4⟩
  | .cell b t :: l, st, st', r, h, hr => by
    unfold resultA at h
    obtain ⟨v, hv, h⟩ := optb_eq h
    have hvr := aval_ok (x := .tmp b) hv ht
    have hev' : a.eval (.tmp b) = a.tmps.getD b undef := rfl
    rw [hev'] at hvr
    generalize hev : a.tmps.getD b undef = ev at hvr
    cases hvr with
    | ptr A i bb d z hA =>
      dsimp only at h
      obtain ⟨x, s1, h1, h⟩ := bnd_eq h
      obtain ⟨r', s2, h2, h3⟩ := bnd_eq h
      cases h3
      obtain ⟨xv, f1, f2, f3, f4⟩ := loadT_same h1 hr hA
      obtain ⟨vs, g1, g2, g3, g4⟩ := resultA_ok ht l s1 st' r' h2 (by rw [f3]; exact hr)
      exact ⟨xv :: vs, mapM_cons_ok (resM_cell hev f1) g1, .cons _ _ _ _ f2 g2, by rw [g3, f3], by rw [g4, f4]⟩
    | _ => cases h
theorem tmOf_get : ∀ (l : List AV) (i : Nat) (tm : Tm) (k : Nat), (tmOf i l tm).get k = if i ≤ k ∧ k < i + l.length then (l[k - i]?).map some else tm.get k
  | [], i, tm, k => by simp [tmOf]; intro h1 h2; omega
  | v :: l, i, tm, k => by
    rw [tmOf, tmOf_get l, Tm.get_put]
    simp only [List.length_cons]
    by_cases h1 : k = i
    · subst h1
      rw [if_neg (by omega), if_pos rfl, if_pos (by omega)]; simp
    · by_cases h2 : i + 1 ≤ k ∧ k < i + 1 + l.length
      · rw [if_pos h2, if_pos (by omega), show k - i = (k - (i + 1)) + 1 by omega]; simp
      · rw [if_neg h2, if_neg h1, if_neg (by omega)]
theorem start_tm {args : List AV} {us : Array Value} (n : Nat) (hl : LR ρ m args us.toList) : TmR ρ m (tmOf 0 args Tm.nil) { tmps := us ++ Array.replicate (n - us.size) undef, defers := [] } := fun t => by
  have hlen := hl.length
  simp only [Array.length_toList] at hlen
  rw [tmOf_get]
  by_cases h : 0 ≤ t ∧ t < 0 + args.length
  · rw [if_pos h]
    cases hx : args[t - 0]? with
    | none => rw [List.getElem?_eq_none_iff] at hx; omega
    | some x =>
      obtain ⟨v, h1, h2⟩ := hl.get hx
      refine ⟨v, ?_, h2⟩
      rw [Nat.sub_zero, Array.getElem?_toList] at h1
      show (us ++ Array.replicate (n - us.size) undef)[t]? = some v
      rw [Array.getElem?_append_left (by omega)]; exact h1
  · rw [if_neg h]
    show (us ++ Array.replicate (n - us.size) undef).getD t undef = undef
    rw [Array.getD_eq_getD_getElem?, Array.getElem?_append_right (by omega)]
    simp only [Array.getElem?_replicate]
    split <;> rfl
theorem tmOf_d : ∀ (l : List AV) (i : Nat) (tm : Tm), (tmOf i l tm).d = tm.d ∧ (tmOf i l tm).p = tm.p
  | [], _, _ => ⟨rfl, rfl⟩
  | v :: l, i, tm => by rw [tmOf]; exact tmOf_d l (i + 1) (tm.put i (some v))
/-- what a call's results are as one value -/
def oneRes : List AV → AV
  | [v] => v
  | l => .tup l
theorem results_ok {fn : Func} {tm : Tm} {a : Act} {w : World} {st s3 : ASt} {l : List AV} (ht : TmR ρ m tm a) (hr : Rel ρ w0 base m st.heap.get w) (h : resultA P tm fn.results.toList st = some (l, s3)) :
    ∃ v', (results fn a.tmps).run P w = .ok v' w ∧ VR ρ m (oneRes l) v' ∧ s3.heap = st.heap ∧ s3.next = st.next := by
  obtain ⟨vs, f1, f2, f3, f4⟩ := resultA_ok ht fn.results.toList st s3 l h hr
  have hrun : (fn.results.mapM (resM a.tmps)).run P w = .ok vs.toArray w := by
    rw [Array.mapM_eq_mapM_toList]
    simp only [Sem.run_map, f1, Result.andThen_ok]
  have hll := f2.length
  unfold oneRes
  split
  · rename_i v0
    cases f2 with | cons _ u _ r hv hrr => _
    cases hrr
    refine ⟨u, ?_, hv, f3, f4⟩
    rw [results_eq, Sem.run_bind, hrun, Result.andThen_ok]
    exact Sem.run_pure ..
  · rename_i hne
    refine ⟨.tuple vs.toArray, ?_, .tup _ _ f2, f3, f4⟩
    rw [results_eq, Sem.run_bind, hrun]
    have : ¬ vs.toArray.size = 1 := by
      intro h1
      simp only [List.size_toArray] at h1
      rw [← hll] at h1
      match l, h1 with
      | [y], _ => exact hne y rfl
    rw [Result.andThen_ok, Sem.run_pure, dif_neg this]

/-! ### deferred calls -/
/-- how the frame below stands -/
def MR (ρ : Nat → Value) (m : BMap) : MA → FrameMode → Prop
  | .rtn, mode => mode = .returning
  | .pan v b, mode => ∃ u, mode = .panicking [{ v := u, recovered := b }] ∧ VR ρ m v u
theorem MR.ext {m' : BMap} {u : MA} {mode : FrameMode} (h : MR ρ m u mode) (he : Ext m m') : MR ρ m' u mode := by
  cases u with
  | rtn => exact h
  | pan v b => obtain ⟨y, h1, h2⟩ := h; exact ⟨y, h1, h2.ext he⟩
theorem MR.run {u : MA} {mode : FrameMode} (h : MR ρ m u mode) : mode ≠ .run := by
  cases u with
  | rtn => intro e; rw [show mode = .returning from h] at e; cases e
  | pan v b => obtain ⟨y, h1, h2⟩ := h; intro e; rw [h1] at e; cases e
theorem MR.settle {u : MA} {mode : FrameMode} (h : MR ρ m u mode) : MR ρ m (settleA u) (Go.settle mode) := by
  cases u with
  | rtn => rw [show mode = .returning from h]; rfl
  | pan v b =>
    obtain ⟨y, h1, h2⟩ := h
    rw [h1]
    cases b with
    | true => rfl
    | false => exact ⟨y, rfl, h2⟩
def CallDOk (P : Program) (ρ : Nat → Value) (w0 : World) (base : Nat) (callD : FuncId → List AV → MA → M MA) : Prop :=
  ∀ f args us u mode m st w u' st', callD f args u st = some (u', st') → Rel ρ w0 base m st.heap.get w → Fresh m st.next st'.next → LR ρ m args us.toList → MR ρ m u mode →
    CallsD P f us mode w fun en mode' w' => ∃ v' m', en = .returned v' ∧ Ext m m' ∧ Dom m m' st.next st'.next ∧ Rel ρ w0 base m' st'.heap.get w' ∧ MR ρ m' u' mode'
theorem leave_ok {e : Ex} {fn : Func} {tm : Tm} {tmps : Array Value} {v : AV} {R : Ending → World → Prop} (hFE : FrE e) (hcd : CallDOk P ρ w0 base e.callD) :
    ∀ (ds : List AV) (u : MA) (m : BMap) (st st' : ASt) (w : World) (a : Act) (es : List Deferred) (mode : FrameMode), leaveA P e fn tm ds u st = some (v, st') → a.tmps = tmps → TmR ρ m tm a → Rel ρ w0 base m st.heap.get w → DfR P ρ m ds es → MR ρ m u mode → Fresh m st.next st'.next →
      (∀ en w' m', Ext m m' → Dom m m' st.next st'.next → Rel ρ w0 base m' st'.heap.get w' → EndR ρ m' v en → R en w') → Leaves P fn tmps R es mode w := by
  intro ds
  induction ds with
  | nil =>
    intro u m st st' w a es mode h ha ht hr hd hu hf hR
    cases hd
    subst ha
    cases u with
    | rtn =>
      rw [show mode = .returning from hu]
      unfold leaveA at h
      obtain ⟨l, s3, h1, h2⟩ := bnd_eq h
      obtain ⟨v', e1, e2, e3, e4⟩ := results_ok ht hr h1
      have hv : v = oneRes l ∧ st' = s3 := by
        match l, h2 with
        | [], h2 => cases h2; exact ⟨rfl, rfl⟩
        | [_], h2 => cases h2; exact ⟨rfl, rfl⟩
        | _ :: _ :: _, h2 => cases h2; exact ⟨rfl, rfl⟩
      obtain ⟨rfl, rfl⟩ := hv
      exact ⟨v', e1, hR _ w m (Ext.refl m) (fun A h1 h2 => absurd h1 h2) (by rw [e3]; exact hr) (.inl ⟨v', rfl, e2⟩)⟩
    | pan x b =>
      obtain ⟨y, h1, h2⟩ := hu
      rw [h1]
      cases b with
      | true => cases h
      | false =>
        cases h
        exact hR _ w m (Ext.refl m) (fun A h1 h2 => absurd h1 h2) hr (.inr ⟨x, y, rfl, rfl, h2⟩)
  | cons d ds ih =>
    intro u m st st' w a es mode h ha ht hr hd hu hf hR
    cases hd with | cons f l fv cap dargs us _ es hi hl hds => _
    have h' : (Zz.bnd (e.callD f l u) fun u' => leaveA P e fn tm ds (settleA u')) st = some (v, st') := h
    obtain ⟨u1, s1, h1, h2⟩ := bnd_eq h'
    have n1 := fr_next (hFE.2.2 f l u) h1
    have n2 := fr_next (Fr.leaveA P hFE fn tm ds (settleA u1)) h2
    refine leaves_cons hu.run (hi w) ?_
    refine (hcd f l us u mode m st w u1 s1 h1 hr (fun A e1 e2 => hf A e1 (by omega)) hl hu).mono ?_
    rintro en mode' w' ⟨v', m', rfl, e1, e2, e3, e4⟩
    refine ih (settleA u1) m' s1 st' w' a es _ h2 ha (ht.ext e1) e3 (hds.ext e1) e4.settle (hf.rest e2 n1) (fun en w2 m2 f1 f2 f3 f4 => hR en w2 m2 (e1.trans f1) (e2.trans f2 n1 n2) f3 f4)
/-- behind a deferred call's code -/
def PostS (P : Program) (ρ : Nat → Value) (w0 : World) (base N : Nat) (m : BMap) (st st' : ASt) (tm' : Tm) (u' : MA) (K : Act → FrameMode → World → Prop) : Prop :=
  ∀ a' w' m' mode', Ext m m' → Dom m m' st.next st'.next → At P ρ w0 base N m' st' tm' a' w' → MR ρ m' u' mode' → K a' mode' w'
theorem isRecover_run {o : Oper} {a : Act} {w : World} (h : isRecover o.op = true) : (execOp a.eval o).run P w = .ok .recover w := by
  unfold isRecover at h
  split at h
  · rename_i c ho
    split at h
    · rename_i hc
      have : execOp a.eval o = (resolve a.eval c o.type >>= fun d => invoke d.target d.args) := by unfold execOp; rw [ho]
      rw [this, Sem.run_bind]
      simp only [resolve, hc, Sem.run_pure, Result.andThen_ok, invoke]
      exact Sem.run_pure ..
    · cases h
  · cases h
theorem opsS_ok {H : Hooks} {e : Ex} {N : Nat} {ops : Array Oper} (hq : Opq ρ) (hc : CallOk P ρ w0 base e.call) (hH : HookOk P ρ w0 base H) (hFH : FrH H) (hFE : FrE e) {Q : Exit → Act → List Frame → World → Prop} {cs : List Frame} :
    ∀ (l : List Nat) (os : List Oper) (m : BMap) (st st' : ASt) (tm tm' : Tm) (u u' : MA) (a : Act) (w : World) (c0 : Frame), (∀ k : Nat, l[k]?.bind (ops[·]?) = os[k]?) → l.length = os.length → opsS P H e N ops os tm u st = some ((tm', u'), st') → At P ρ w0 base N m st tm a w → MR ρ m u c0.mode → Fresh m st.next st'.next →
      PostS P ρ w0 base N m st st' tm' u' (fun a' mode' w' => Q .normal a' ({ c0 with mode := mode' } :: cs) w') → wpOpsS P ops Q l a (c0 :: cs) w
  | [], [], m, st, st', tm, tm', u, u', a, w, c0, _, _, h, hA, hu, hf, hP => by
    cases h
    exact hP a w m c0.mode (Ext.refl m) (fun A h1 h2 => absurd h1 h2) hA hu
  | [], _ :: _, _, _, _, _, _, _, _, _, _, _, _, h, _, _, _, _, _ => by cases h
  | _ :: _, [], _, _, _, _, _, _, _, _, _, _, _, h, _, _, _, _, _ => by cases h
  | i :: l, o :: os, m, st, st', tm, tm', u, u', a, w, c0, hi, hl, h, hA, hu, hf, hP => by
    unfold opsS at h
    obtain ⟨⟨tm1, u1⟩, st1, h1, h2⟩ := bnd_eq h
    dsimp only at h2
    have h0 := hi 0
    simp only [List.getElem?_cons_zero, Option.bind_some] at h0
    have n1 := fr_next (Fr.operS P hFH hFE N ops o tm u) h1
    have n2 := fr_next (Fr.opsS P hFH hFE N ops os tm1 u1) h2
    -- on with the others
    have go : ∀ (a1 : Act) (w1 : World) (m1 : BMap) (mode1 : FrameMode), Ext m m1 → Dom m m1 st.next st1.next → At P ρ w0 base N m1 st1 tm1 a1 w1 → MR ρ m1 u1 mode1 → wpOpsS P ops Q l a1 ({ c0 with mode := mode1 } :: cs) w1 := fun a1 w1 m1 mode1 e1 e2 e3 e4 =>
      opsS_ok hq hc hH hFH hFE l os m1 st1 st' tm1 tm' u1 u' a1 w1 { c0 with mode := mode1 } (fun k => by simpa using hi (k + 1)) (by simpa using hl) h2 e3 e4 (hf.rest e2 n1) (fun a2 w2 m2 mode2 f1 f2 f3 f4 => hP a2 w2 m2 mode2 (e1.trans f1) (e2.trans f2 n1 n2) f3 f4)
    simp only [wpOpsS, h0]
    unfold operS at h1
    cases hrec : isRecover o.op with
    | false =>
      rw [hrec, cond_false] at h1
      obtain ⟨tm2, s2, g1, g2⟩ := bnd_eq h1
      cases g2
      have hw := operW_ok hq hc hH g1 hA.rel (fun A e1 e2 => hf A e1 (by omega)) hA.tmr hA.size rfl (fun a' w' => wpOpsS P ops Q l a' (c0 :: cs) w') (fun x a' w' => Q x a' (c0 :: cs) w')
        (fun a' w' m' e1 e2 e3 e4 e5 e6 e7 e8 => go a' w' m' c0.mode e1 e2 ⟨e3, e4, e5, by rw [e6, e7]; exact hA.defers.ext e1⟩ (hu.ext e1))
      split
      · rename_i hwt
        rw [if_pos hwt] at hw
        unfold Oper.wp at hw
        split
        · rename_i w' heq
          rw [heq] at hw
          exact hw.elim
        · exact hw
      · rename_i hwt
        rw [if_neg hwt] at hw
        exact hw
    | true =>
      rw [hrec, cond_true] at h1
      cases hw : wantA ops o tm with
      | none => rw [hw] at h1; cases h1
      | some b =>
        rw [hw] at h1
        rw [want_ok hA.tmr b hw]
        -- a value that is put
        have put : ∀ {x : AV} {y : Value} {u2 : MA} {mode2 : FrameMode}, (Zz.bnd (putA N tm o.dst x) fun tm' => Zz.ret (tm', u2)) st = some ((tm1, u1), st1) → VR ρ m x y → MR ρ m u2 mode2 → wpOpsS P ops Q l (a.put o.dst y) ({ c0 with mode := mode2 } :: cs) w := by
          intro x y u2 mode2 g hx hu2
          obtain ⟨tm2, s2, g1, g2⟩ := bnd_eq g
          cases g2
          have hst := put_same g1
          subst hst
          obtain ⟨q1, q2, q3, q4, q5⟩ := put_ok hA.tmr hA.size rfl (Ext.refl m) hx ⟨_, _, g1⟩
          exact go _ w m mode2 (Ext.refl m) (fun A h1 h2 => absurd h1 h2) ⟨hA.rel, q1, q2, by rw [q3, q4]; exact hA.defers⟩ hu2
        cases b with
        | false =>
          rw [if_neg (by simp)]
          exact put (mode2 := c0.mode) h1 (.tup _ _ .nil : VR ρ m undefA undef) hu
        | true =>
          rw [if_pos rfl, isRecover_run hrec]
          dsimp only
          cases u with
          | rtn =>
            have hm : c0.mode = .returning := hu
            simp only [recoverD, hm]
            exact put (mode2 := c0.mode) h1 .ifc0 hu
          | pan v r =>
            obtain ⟨y, hm, hy⟩ := hu
            cases r with
            | false =>
              simp only [recoverD, hm]
              exact put h1 hy ⟨y, rfl, hy⟩
            | true =>
              simp only [recoverD, hm]
              exact put (mode2 := c0.mode) h1 .ifc0 ⟨y, hm, hy⟩
theorem codeS_ok {H : Hooks} (hq : Opq ρ) (hH : HookOk P ρ w0 base H) (hFH : FrH H) (c : Code) : ∀ (n : Nat), (∀ k, k ≤ n → CallOk P ρ w0 base (exec P H k).call ∧ DrawOk P ρ w0 base H (exec P H k)) →
    ∀ (N : Nat) (m : BMap) (st st' : ASt) (tm tm' : Tm) (u u' : MA) (x : Exit) (a : Act) (w : World) (c0 : Frame) (cs : List Frame) (Q : Exit → Act → List Frame → World → Prop), codeS P H (exec P H n) N c tm u st = some ((x, tm', u'), st') → At P ρ w0 base N m st tm a w → MR ρ m u c0.mode → Fresh m st.next st'.next →
      PostS P ρ w0 base N m st st' tm' u' (fun a' mode' w' => Q x a' ({ c0 with mode := mode' } :: cs) w') → c.wpS P Q a (c0 :: cs) w := by
  have other : ∀ (c : Code) (n : Nat), (∀ k, k ≤ n → CallOk P ρ w0 base (exec P H k).call ∧ DrawOk P ρ w0 base H (exec P H k)) →
      ∀ (N : Nat) (m : BMap) (st st' : ASt) (tm tm' : Tm) (u u' : MA) (x : Exit) (a : Act) (w : World) (c0 : Frame) (cs : List Frame) (Q : Exit → Act → List Frame → World → Prop), (Zz.bnd (Zz.codeA P H (exec P H n) N c tm) fun (x, tm') => (match x with
      | .panic _ => Zz.fail
      | x => Zz.ret (x, tm', u))) st = some ((x, tm', u'), st') → At P ρ w0 base N m st tm a w → MR ρ m u c0.mode → Fresh m st.next st'.next →
      PostS P ρ w0 base N m st st' tm' u' (fun a' mode' w' => Q x a' ({ c0 with mode := mode' } :: cs) w') → c.wpS P Q a (c0 :: cs) w := by
    intro c n hn N m st st' tm tm' u u' x a w c0 cs Q h hA hu hf hP
    obtain ⟨⟨x1, tm1⟩, st1, h1, h2⟩ := bnd_eq h
    dsimp only at h2
    have hx : x1 = x ∧ tm1 = tm' ∧ u = u' ∧ st1 = st' ∧ ∀ ch, x1 ≠ .panic ch := by
      cases x1 with
      | panic ch => cases h2
      | _ => cases h2; exact ⟨rfl, rfl, rfl, rfl, fun ch e => by cases e⟩
    obtain ⟨rfl, rfl, rfl, rfl, hnp⟩ := hx
    refine wpS_of_wp (code_ok hq hH hFH c n hn N m st st1 tm tm1 x1 a w _ h1 hA hf ?_)
    intro a1 w1 m1 e1 e2 e3
    have := hP a1 w1 m1 c0.mode e1 e2 e3 (hu.ext e1)
    cases x1 with
    | panic ch => exact absurd rfl (hnp ch)
    | _ => exact this
  induction c with
  | region id ops d =>
    intro n hn N m st st' tm tm' u u' x a w c0 cs Q h hA hu hf hP
    cases d with
    | true => exact other _ n hn N m st st' tm tm' u u' x a w c0 cs Q h hA hu hf hP
    | false =>
      simp only [codeS] at h
      obtain ⟨⟨tm1, u1⟩, st1, h1, h2⟩ := bnd_eq h
      cases h2
      refine wpS_region (opsS_ok hq (hn n (Nat.le_refl n)).1 hH hFH (FrE.exec P hFH n) _ ops.toList m st _ tm _ u _ a w c0 (fun k => ?_) (by simp) h1 hA hu hf hP)
      rw [Array.getElem?_toList]
      rcases Nat.lt_or_ge k ops.size with hk | hk
      · simp [hk]
      · simp [hk]
  | seq c1 c2 ih1 ih2 =>
    intro n hn N m st st' tm tm' u u' x a w c0 cs Q h hA hu hf hP
    simp only [codeS] at h
    obtain ⟨⟨x1, tm1, u1⟩, st1, h1, h2⟩ := bnd_eq h
    dsimp only at h2
    have n1 := fr_next (Fr.codeS P hFH (FrE.exec P hFH n) N c1 tm u) h1
    have n2 : st1.next ≤ st'.next := by
      cases x1 <;> first | exact fr_next (Fr.codeS P hFH (FrE.exec P hFH n) N c2 tm1 u1) h2 | (cases h2; exact Nat.le_refl _)
    refine wpS_seq (ih1 n hn N m st st1 tm tm1 u u1 x1 a w c0 cs _ h1 hA hu (fun A e1 e2 => hf A e1 (by omega)) ?_)
    intro a1 w1 m1 mode1 e1 e2 e3 e4
    cases x1 with
    | normal =>
      exact ih2 n hn N m1 st1 st' tm1 tm' u1 u' x a1 w1 { c0 with mode := mode1 } cs Q h2 e3 e4 (hf.rest e2 n1) (fun a2 w2 m2 mode2 f1 f2 f3 f4 => hP a2 w2 m2 mode2 (e1.trans f1) (e2.trans f2 n1 n2) f3 f4)
    | _ =>
      cases h2
      exact hP a1 w1 m1 mode1 e1 e2 e3 e4
  | cond c t f iht ihf =>
    intro n hn N m st st' tm tm' u u' x a w c0 cs Q h hA hu hf hP
    simp only [codeS] at h
    obtain ⟨v, hv, h⟩ := optb_eq h
    have hvr := aval_ok hv hA.tmr
    cases v with
    | bool b =>
      generalize hev : a.eval c = ev at hvr
      cases hvr
      cases b with
      | true => exact wpS_cond hev (iht n hn N m st st' tm tm' u u' x a w c0 cs Q h hA hu hf hP)
      | false => exact wpS_cond hev (ihf n hn N m st st' tm tm' u u' x a w c0 cs Q h hA hu hf hP)
    | _ => cases h
  | _ => exact fun n hn N m st st' tm tm' u u' x a w c0 cs Q h hA hu hf hP => other _ n hn N m st st' tm tm' u u' x a w c0 cs Q h hA hu hf hP
theorem DfR.none {l : List Deferred} (h : DfR P ρ m [] l) : l = [] := by cases h; rfl
theorem exec_ok {H : Hooks} (hq : Opq ρ) (hH : HookOk P ρ w0 base H) (hFH : FrH H) (hdraw : ∀ e, FrE e → CallOk P ρ w0 base e.call → DrawOk P ρ w0 base H e) : ∀ n, CallOk P ρ w0 base (exec P H n).call ∧ CallDOk P ρ w0 base (exec P H n).callD := by
  intro n
  induction n using Nat.strongRecOn with
  | _ n ih =>
    cases n with
    | zero =>
      constructor
      · intro f args us m st w v st' h; cases h
      · intro f args us u mode m st w u' st' h; cases h
    | succ n =>
      have hn : ∀ k, k ≤ n → CallOk P ρ w0 base (exec P H k).call ∧ DrawOk P ρ w0 base H (exec P H k) := fun k hk => ⟨(ih k (by omega)).1, hdraw _ (FrE.exec P hFH k) (ih k (by omega)).1⟩
      constructor
      · intro f args us m st w v st' h hr hf hl
        show Calls P f us w _
        unfold exec at h
        dsimp only at h
        unfold callA at h
        cases hfn : P.funcs[f]? with
        | none => rw [hfn] at h; cases h
        | some fn =>
          rw [hfn] at h
          dsimp only at h
          cases hb : fn.body with
          | none => rw [hb] at h; cases h
          | some c =>
            rw [hb] at h
            dsimp only at h
            obtain ⟨⟨x, tm⟩, st1, h1, h2⟩ := bnd_eq h
            dsimp only at h2
            have hlen := hl.length
            simp only [Array.length_toList] at hlen
            have n1 := fr_next (Fr.codeA P hFH (FrE.exec P hFH n) _ c _) h1
            have n2 : st1.next ≤ st'.next := by
              cases x <;> first
                | exact fr_next (Fr.leaveA P (FrE.exec P hFH n) fn tm _ _) h2
                | (cases h2; done)
                | (cases hp : tm.p with
                  | none => rw [hp] at h2; cases h2
                  | some p => rw [hp] at h2; exact fr_next (Fr.leaveA P (FrE.exec P hFH n) fn tm _ _) h2)
            have hd0 : (tmOf 0 args Tm.nil).d = [] := (tmOf_d args 0 Tm.nil).1
            refine calls_of_wp_defers hfn hb (code_ok hq hH hFH c n hn _ m st st1 _ tm x _ w _ h1 ⟨hr, start_tm fn.ntmps hl, by simp [hlen], by rw [hd0]; exact .nil⟩ (fun A e1 e2 => hf A e1 (by omega)) ?_)
            intro a1 w1 m1 e1 e2 e3
            have fin : ∀ {u : MA} {mode : FrameMode}, leaveA P (exec P H n) fn tm tm.d u st1 = some (v, st') → MR ρ m1 u mode → Leaves P fn a1.tmps (fun en w' => ∃ m', Ext m m' ∧ Dom m m' st.next st'.next ∧ Rel ρ w0 base m' st'.heap.get w' ∧ EndR ρ m' v en) a1.defers mode w1 := fun h2 hu =>
              leave_ok (FrE.exec P hFH n) (ih n (by omega)).2 tm.d _ m1 st1 st' w1 a1 a1.defers _ h2 rfl e3.tmr e3.rel e3.defers hu (hf.rest e2 n1) (fun en w' m' f1 f2 f3 f4 => ⟨m', e1.trans f1, e2.trans f2 n1 n2, f3, f4⟩)
            cases x with
            | normal => exact fin h2 rfl
            | ret => exact fin h2 rfl
            | panic ch =>
              intro p u hp hu
              rw [hp] at h2
              exact fin h2 ⟨u, rfl, hu⟩
            | _ => cases h2
      · intro f args us u mode m st w u' st' h hr hf hl hu
        unfold exec at h
        dsimp only at h
        unfold callDA at h
        cases hfn : P.funcs[f]? with
        | none => rw [hfn] at h; cases h
        | some fn =>
          rw [hfn] at h
          dsimp only at h
          cases hb : fn.body with
          | none => rw [hb] at h; cases h
          | some c =>
            rw [hb] at h
            dsimp only at h
            obtain ⟨⟨x, tm, u1⟩, st1, h1, h2⟩ := bnd_eq h
            dsimp only at h2
            have hlen := hl.length
            simp only [Array.length_toList] at hlen
            have h2' : (x = .normal ∨ x = .ret) ∧ tm.d = [] ∧ ∃ l s3, resultA P tm fn.results.toList st1 = some (l, s3) ∧ u1 = u' ∧ s3 = st' := by
              cases x <;> first
                | (cases h2; done)
                | (dsimp only at h2
                   cases hd : tm.d with
                   | cons _ _ => rw [hd] at h2; cases h2
                   | nil =>
                     rw [hd] at h2
                     obtain ⟨l, s3, g1, g2⟩ := bnd_eq h2
                     cases g2
                     first | exact ⟨.inl rfl, rfl, l, _, g1, rfl, rfl⟩ | exact ⟨.inr rfl, rfl, l, _, g1, rfl, rfl⟩)
            obtain ⟨hx, htd, l, s3, g1, rfl, rfl⟩ := h2'
            have n1 := fr_next (Fr.codeS P hFH (FrE.exec P hFH n) _ c _ u) h1
            have n2 := fr_next (Fr.resultA P tm _) g1
            have hd0 : (tmOf 0 args Tm.nil).d = [] := (tmOf_d args 0 Tm.nil).1
            refine callsD_of_wpS hfn hb (fun c0 cs hc0 => ?_)
            refine codeS_ok hq hH hFH c n hn _ m st st1 _ tm u u1 x _ w c0 cs _ h1 ⟨hr, start_tm fn.ntmps hl, by simp [hlen], by rw [hd0]; exact .nil⟩ (by rw [hc0]; exact hu) (fun A e1 e2 => hf A e1 (by omega)) ?_
            intro a1 w1 m1 mode1 e1 e2 e3 e4
            obtain ⟨v', q1, q2, q3, q4⟩ := results_ok e3.tmr e3.rel g1
            have hde : a1.defers = [] := by have := e3.defers; rw [htd] at this; exact this.none
            have fin : a1.defers = [] ∧ ∃ u', ({ c0 with mode := mode1 } :: cs : List Frame) = { c0 with mode := u' } :: cs ∧ ∃ v, (results fn a1.tmps).run P w1 = .ok v w1 ∧ ∃ v' m', Ending.returned v = .returned v' ∧ Ext m m' ∧ Dom m m' st.next s3.next ∧ Rel ρ w0 base m' s3.heap.get w1 ∧ MR ρ m' u1 u' :=
              ⟨hde, mode1, rfl, v', q1, v', m1, rfl, e1, by rw [q4]; exact e2, by rw [q3]; exact e3.rel, e4⟩
            rcases hx with rfl | rfl <;> exact fin
end
end Go.Proofs.YtckmcajnhobkpaaGreatDoor.Zz
