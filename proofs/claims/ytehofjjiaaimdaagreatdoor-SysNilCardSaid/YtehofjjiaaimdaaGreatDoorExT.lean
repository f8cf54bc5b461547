/- The executor: operations with calls. -/
import Derived.Test.YtehofjjiaaimdaaGreatDoorExS
set_option linter.unusedVariables false
set_option linter.unusedSimpArgs false
set_option linter.deprecated false
namespace Go.Proofs.YtehofjjiaaimdaaGreatDoor.Zz
open Go Go.RowKit

section
variable {P : Program} {ρ : Nat → Value} {w0 : World} {base : Nat} {m : BMap}
def Fresh (m : BMap) (lo hi : Nat) : Prop := ∀ A, lo ≤ A → A < hi → m A = none
def Dom (m m' : BMap) (lo hi : Nat) : Prop := ∀ A, m A = none → m' A ≠ none → lo ≤ A ∧ A < hi
/-- what a call is to show, for what the executor says of it -/
def CallOk (P : Program) (ρ : Nat → Value) (w0 : World) (base : Nat) (call : FuncId → List AV → M AV) : Prop :=
  ∀ f args us m st w v st', call f args st = some (v, st') → Rel ρ w0 base m st.heap.get w → Fresh m st.next st'.next → LR ρ m args us.toList →
    Calls P f us w fun en w' => ∃ v' m', en = .returned v' ∧ Ext m m' ∧ Dom m m' st.next st'.next ∧ Rel ρ w0 base m' st'.heap.get w' ∧ VR ρ m' v v'
/-- what stands in for a function -/
def HookOk (P : Program) (ρ : Nat → Value) (w0 : World) (base : Nat) (H : Hooks) : Prop :=
  ∀ f h, H.fn f = some h → ∀ args us m st w v st', h args st = some (v, st') → Rel ρ w0 base m st.heap.get w → Fresh m st.next st'.next → LR ρ m args us.toList →
    ∀ (o : Oper) (a : Act) (K : Act → World → Prop) (Q : Exit → Act → World → Prop), (∀ v' w' m', Ext m m' → Dom m m' st.next st'.next → Rel ρ w0 base m' st'.heap.get w' → VR ρ m' v v' → K (a.put o.dst v') w') →
      o.upon P a K Q ((callFunc f us).run P w)
/-- an operation that was done: what the walk is to go on with -/
def Upon (P : Program) (ρ : Nat → Value) (w0 : World) (base : Nat) (m : BMap) (st st' : ASt) (v : AV) (r : Result Next) : Prop :=
  ∀ (o : Oper) (a : Act) (K : Act → World → Prop) (Q : Exit → Act → World → Prop), (∀ v' w' m', Ext m m' → Dom m m' st.next st'.next → Rel ρ w0 base m' st'.heap.get w' → VR ρ m' v v' → K (a.put o.dst v') w') → o.upon P a K Q r
theorem funcA_ok {H : Hooks} {e : Ex} {f : FuncId} {args : List AV} {us : Array Value} {st st' : ASt} {w : World} {v : AV} (hc : CallOk P ρ w0 base e.call) (hH : HookOk P ρ w0 base H)
    (h : funcA P H e f args st = some (v, st')) (hr : Rel ρ w0 base m st.heap.get w) (hf : Fresh m st.next st'.next) (hl : LR ρ m args us.toList) : Upon P ρ w0 base m st st' v ((callFunc f us).run P w) := by
  intro o a K Q hK
  unfold funcA at h
  cases hh : H.fn f with
  | some h' => rw [hh] at h; exact hH f h' hh args us m st w v st' h hr hf hl o a K Q hK
  | none =>
    rw [hh] at h
    simp only at h
    cases hfn : P.funcs[f]? with
    | none => rw [hfn] at h; cases h
    | some fn =>
      rw [hfn] at h
      simp only at h
      cases hb : (fn.name == "runtime.NumGoroutine" || fn.body.isNone) with
      | true => rw [hb] at h; cases h
      | false =>
        rw [hb, cond_false] at h
        simp only [Bool.or_eq_false_iff] at hb
        have hb1 : ¬ fn.name = "runtime.NumGoroutine" := by simpa using hb.1
        have hb2 : ¬ fn.body = none := by
          intro e0; rw [e0] at hb; cases hb.2
        have hrun : (callFunc f us).run P w = .ok (.enter f us) w := by
          simp [callFunc, program, Sem.run, hfn, hb1, hb2]
        rw [hrun, Oper.upon_enter]
        refine (hc f args us m st w v st' h hr hf hl).mono ?_
        rintro en w' ⟨v', m', rfl, h1, h2, h3, h4⟩
        exact hK v' w' m' h1 h2 h3 h4
theorem methA_eq {t : TypeId} {v : AV} {name : String} {st st' : ASt} {f : FuncId} {rc : AV} {w : World} {u : Value} (h : methA P t v name st = some ((f, rc), st')) (hv : VR ρ m v u) :
    ∃ u', (∀ n, (method (n + 1) t u name).run P w = .ok (f, u') w) ∧ VR ρ m rc u' ∧ st'.heap = st.heap ∧ st'.next = st.next := by
  unfold methA at h
  cases hi : P.info? t with
  | none => rw [hi] at h; cases h
  | some i =>
    rw [hi] at h
    simp only at h
    cases hm : i.methods.find? (·.name == name) with
    | none => rw [hm] at h; cases h
    | some mt =>
      rw [hm] at h
      simp only at h
      cases hp : mt.path.toList with
      | cons _ _ => rw [hp] at h; cases h
      | nil =>
        rw [hp] at h
        cases hfn : mt.func with
        | none => rw [hfn] at h; cases h
        | some fp =>
          obtain ⟨f', pr⟩ := fp
          rw [hfn] at h
          simp only at h
          have hpe : mt.path.isEmpty = true := by
            have : mt.path = #[] := by
              have := congrArg List.toArray hp
              simpa using this
            rw [this]; rfl
          cases hu : P.underlying t with
          | none => rw [hu] at h; cases pr <;> cases h
          | some d =>
            rw [hu] at h
            have hbase : ∀ (n : Nat) (z : Value), (receiverAt t (.val u) pr (some ((name.splitOn ".").getLastD name))).run P w = .ok z w → (method (n + 1) t u name).run P w = .ok (f', z) w := fun n z hz => by
              simp only [method, Sem.run_bind, run_info hi, Result.andThen_ok, hm, hp, follow, Sem.run_pure, hfn, hpe, if_true, hz]
            cases pr with
            | true =>
              cases d <;> first | (cases h; done) | skip
              cases h
              exact ⟨u, fun n => hbase n u (by simp [receiverAt, run_und hu, Place.get]), hv, rfl, rfl⟩
            | false =>
              cases d <;> first | (cases h; done) | skip
              all_goals
                cases h
                exact ⟨u, fun n => hbase n u (by simp [receiverAt, run_und hu, Place.get]), hv, rfl, rfl⟩
theorem call_ok {H : Hooks} {e : Ex} {o : Oper} {c : Call} {tm : Tm} {a : Act} {st st' : ASt} {w : World} {v : AV} (hq : Opq ρ) (ho : o.op = .call c) (hc : CallOk P ρ w0 base e.call) (hH : HookOk P ρ w0 base H)
    (h : opA P H e o tm st = some (v, st')) (hr : Rel ρ w0 base m st.heap.get w) (hf : Fresh m st.next st'.next) (ht : TmR ρ m tm a) : Upon P ρ w0 base m st st' v ((execOp a.eval o).run P w) := by
  unfold opA at h
  rw [ho] at h
  simp only at h
  obtain ⟨args, hargs, h⟩ := optb_eq h
  have hl : LR ρ m args (c.args.map a.eval).toList := by rw [Array.toList_map]; exact avals_ok ht hargs
  have hexec : execOp a.eval o = (resolve a.eval c o.type >>= fun d => invoke d.target d.args) := by
    unfold execOp; rw [ho]
  have hd0 : P.types.size + Made.depth - 1 + 1 = P.types.size + Made.depth := by
    have : 0 < Made.depth := by decide
    omega
  rw [hexec]
  cases hcal : c.callee with
  | builtin b =>
    rw [hcal] at h
    dsimp only at h
    intro o' a' K Q hK
    obtain ⟨n, w', m', e1, e2, e3, e4, e5⟩ := built_ok (P := P) (ρ := ρ) (w0 := w0) (base := base) (ty := o.type) (cs := c.args.map fun | .const _ => true | _ => false) hq hl st w v st' h hr hf
    have hrun : (resolve a.eval c o.type >>= fun d => invoke d.target d.args).run P w = .ok n w' := by
      simp only [resolve, hcal, Sem.run_bind, Sem.run_pure, Result.andThen_ok, invoke]
      exact e1
    rw [hrun]
    rcases e5 with ⟨v', rfl, hv⟩ | ⟨rfl, rfl⟩
    · exact hK v' w' m' e2 e3 e4 hv
    · exact hK undef w' m' e2 e3 e4 (.tup _ _ .nil)
  | invoke r name =>
    rw [hcal] at h
    dsimp only at h
    obtain ⟨rv, hrv, h⟩ := optb_eq h
    have hvr := aval_ok hrv ht
    generalize hev : a.eval r = ev at hvr
    cases hvr with
    | ifc t u uv hu =>
      dsimp only at h
      obtain ⟨⟨f, rc⟩, st1, hm, h⟩ := bnd_eq h
      dsimp only at h
      obtain ⟨u', g1, g2, g3, g4⟩ := methA_eq (P := P) (w := w) hm hu
      have := funcA_ok (us := #[u'] ++ c.args.map a.eval) hc hH h (by rw [g3]; exact hr) (by rw [g4]; exact hf) (by
        rw [Array.toList_append]
        exact .cons _ _ _ _ g2 hl)
      intro o' a' K Q hK
      have hrun : (resolve a.eval c o.type >>= fun d => invoke d.target d.args).run P w = (callFunc f (#[u'] ++ c.args.map a.eval)).run P w := by
        have hg := g1 (P.types.size + Made.depth - 1)
        rw [hd0] at hg
        have q0 : (#[Value.iface t uv] ++ c.args.map a.eval)[0]? = some (Value.iface t uv) := by simp [Array.getElem?_append]
        have q1 : (#[Value.iface t uv] ++ c.args.map a.eval).extract 1 (#[Value.iface t uv] ++ c.args.map a.eval).size = c.args.map a.eval := by
          apply Array.ext'
          simp
          exact List.take_of_length_le (by simp)
        simp only [resolve, hcal, Sem.run_bind, Sem.run_pure, Result.andThen_ok, invoke, hev, q0, q1]
        simp [callMethod, program, Sem.run, hg]
      rw [hrun]
      exact this o' a' K Q (by rw [g4]; exact hK)
    | _ => cases h
  | value fo =>
    rw [hcal] at h
    dsimp only at h
    obtain ⟨fv, hfv, h⟩ := optb_eq h
    have hvf := aval_ok hfv ht
    generalize hev : a.eval fo = ev at hvf
    cases hvf with
    | fn f first cap u1 u2 h1 h2 =>
      cases f with
      | func f =>
        dsimp only at h
        have := funcA_ok (us := u1 ++ c.args.map a.eval ++ u2) hc hH h hr hf (by
          rw [Array.toList_append, Array.toList_append]
          exact (h1.append hl).append h2)
        intro o' a' K Q hK
        have hrun : (resolve a.eval c o.type >>= fun d => invoke d.target d.args).run P w = (callFunc f (u1 ++ c.args.map a.eval ++ u2)).run P w := by
          simp only [resolve, hcal, hev, Deferred.ofValue, Sem.run_bind, Sem.run_pure, Result.andThen_ok, invoke]
        rw [hrun]
        exact this o' a' K Q hK
      | method name =>
        dsimp only at h
        have hall := h1.append hl
        cases hfa : first ++ args with
        | nil => rw [hfa] at h; cases h
        | cons x rest =>
          rw [hfa] at h hall
          cases hrest : u1.toList ++ (c.args.map a.eval).toList with
          | nil => rw [hrest] at hall; cases hall
          | cons y ys =>
            rw [hrest] at hall
            cases hall with | cons _ _ _ _ hy hys => _
            cases hy with
            | ifc t u uv hu =>
              dsimp only at h
              obtain ⟨⟨f, rc⟩, st1, hm, h⟩ := bnd_eq h
              dsimp only at h
              obtain ⟨u', g1, g2, g3, g4⟩ := methA_eq (P := P) (w := w) hm hu
              have := funcA_ok (us := #[u'] ++ ys.toArray) hc hH h (by rw [g3]; exact hr) (by rw [g4]; exact hf) (by
                rw [Array.toList_append]
                exact .cons _ _ _ _ g2 hys)
              intro o' a' K Q hK
              have hua : u1 ++ c.args.map a.eval = (.iface t uv :: ys).toArray := by
                have := congrArg List.toArray hrest
                simpa using this
              have hrun : (resolve a.eval c o.type >>= fun d => invoke d.target d.args).run P w = (callFunc f (#[u'] ++ ys.toArray)).run P w := by
                have hg := g1 (P.types.size + Made.depth - 1)
                rw [hd0] at hg
                simp only [resolve, hcal, hev, Deferred.ofValue, Sem.run_bind, Sem.run_pure, Result.andThen_ok, invoke, hua]
                simp [callMethod, program, Sem.run, hg]
              rw [hrun]
              exact this o' a' K Q (by rw [g4]; exact hK)
            | _ => cases h
      | _ => cases h
    | _ => cases h
/-- a temporary is written -/
theorem put_ok {N : Nat} {tm tmv : Tm} {a : Act} {dst : Option Tmp} {m' : BMap} {v : AV} {u : Value} (ht : TmR ρ m tm a) (hN : a.tmps.size = N) (hd : a.defers = []) (he : Ext m m') (hv : VR ρ m' v u) (hp : ∃ s1 s2, putA N tm dst v s1 = some (tmv, s2)) :
    TmR ρ m' tmv (a.put dst u) ∧ (a.put dst u).tmps.size = N ∧ (a.put dst u).defers = [] := by
  obtain ⟨s1, s2, hp⟩ := hp
  unfold putA at hp
  cases hds : dst with
  | none => rw [hds] at hp; cases hp; exact ⟨ht.ext he, hN, hd⟩
  | some d =>
    rw [hds] at hp
    simp only at hp
    cases hlt : Nat.blt d N with
    | false => rw [hlt] at hp; cases hp
    | true =>
      rw [hlt] at hp; cases hp
      have hlt' : d < a.tmps.size := by rw [hN]; simpa using hlt
      refine ⟨fun t => ?_, by simp [Act.put, hN], hd⟩
      rw [Tr.get_put]
      by_cases htd : t = d
      · subst htd
        rw [if_pos rfl]
        exact ⟨u, by simp [Act.put, hlt'], hv⟩
      · rw [if_neg htd]
        have := ht.ext he t
        cases e0 : tm.get t with
        | none => rw [e0] at this; simp only at this ⊢; simpa [Act.put, Array.getD_eq_getD_getElem?, Array.getElem?_setIfInBounds_ne (Ne.symm htd)] using this
        | some x =>
          rw [e0] at this
          cases x with
          | none => trivial
          | some x => simp only at this ⊢; simpa [Act.put, Array.getElem?_setIfInBounds_ne (Ne.symm htd)] using this
/-- one operation, guarded or not -/
theorem oper_ok {H : Hooks} {e : Ex} {N : Nat} {ops : Array Oper} {o : Oper} {tm tm' : Tm} {a : Act} {st st' : ASt} {w : World} (hq : Opq ρ) (hc : CallOk P ρ w0 base e.call) (hH : HookOk P ρ w0 base H)
    (h : operA P H e N ops o tm st = some (tm', st')) (hr : Rel ρ w0 base m st.heap.get w) (hf : Fresh m st.next st'.next) (ht : TmR ρ m tm a) (hN : a.tmps.size = N) (hd : a.defers = [])
    (K : Act → World → Prop) (Q : Exit → Act → World → Prop) (hK : ∀ a' w' m', Ext m m' → Dom m m' st.next st'.next → Rel ρ w0 base m' st'.heap.get w' → TmR ρ m' tm' a' → a'.tmps.size = N → a'.defers = [] → K a' w') :
    if Region.wanted o (yielded ops a.tmps) then o.wp P a w K Q ∨ (o.asks P a w ∧ LetsOut Q) else K (a.put o.dst undef) w := by
  have hput : ∀ {m' : BMap} {v : AV} {u : Value} {tmv : Tm}, Ext m m' → VR ρ m' v u → (∃ s1 s2, putA N tm o.dst v s1 = some (tmv, s2)) → TmR ρ m' tmv (a.put o.dst u) ∧ (a.put o.dst u).tmps.size = N ∧ (a.put o.dst u).defers = [] := fun he hv hp => put_ok ht hN hd he hv hp
  have hputst : ∀ {v : AV} {s1 s2 : ASt} {tmv : Tm}, putA N tm o.dst v s1 = some (tmv, s2) → s2 = s1 := by
    intro v s1 s2 tmv hp
    unfold putA at hp
    cases hds : o.dst with
    | none => rw [hds] at hp; cases hp; rfl
    | some d =>
      rw [hds] at hp
      simp only at hp
      cases hlt : Nat.blt d N with
      | false => rw [hlt] at hp; cases hp
      | true => rw [hlt] at hp; cases hp; rfl
  have hwant : ∀ b, wantA ops o tm = some b → Region.wanted o (yielded ops a.tmps) = b := by
    intro b hb
    unfold wantA at hb
    unfold Region.wanted
    cases hg : o.guard with
    | none => rw [hg] at hb; cases hb; rfl
    | some p =>
      obtain ⟨j, want⟩ := p
      rw [hg] at hb
      simp only at hb ⊢
      unfold yielded
      cases hoj : ops[j]? with
      | none => rw [hoj] at hb; cases hb; rfl
      | some g =>
        rw [hoj] at hb
        simp only [Option.bind_some] at hb ⊢
        cases hgd : g.dst with
        | none => rw [hgd] at hb; cases hb; rfl
        | some d =>
          rw [hgd] at hb
          simp only [Option.bind_some] at hb ⊢
          have htd := ht d
          cases hx : tm.get d with
          | none =>
            rw [hx] at hb htd
            cases hb
            simp only [Array.getD_eq_getD_getElem?] at htd
            cases hv : a.tmps[d]? with
            | none => rfl
            | some u =>
              rw [hv] at htd
              simp only [Option.getD_some] at htd
              rw [htd]; rfl
          | some x =>
            rw [hx] at hb htd
            cases x with
            | none => cases hb
            | some x =>
            obtain ⟨u, h1, h2⟩ := htd
            rw [h1]
            cases h2 <;> first | (cases hb; done) | (cases hb; rfl)
  unfold operA at h
  cases hw : wantA ops o tm with
  | none => rw [hw] at h; cases h
  | some b =>
    rw [hw] at h
    rw [hwant b hw]
    cases b with
    | false =>
      rw [if_neg (by simp)]
      have hst := hputst h
      subst hst
      obtain ⟨h1, h2, h3⟩ := hput (Ext.refl m) (.tup _ _ .nil : VR ρ m undefA undef) ⟨_, _, h⟩
      exact hK _ w m (Ext.refl m) (fun A h1 h2 => absurd h1 h2) hr h1 h2 h3
    | true =>
      rw [if_pos rfl]
      left
      simp only at h
      unfold Zz.bnd at h
      cases hop : opA P H e o tm st with
      | none => rw [hop] at h; cases h
      | some q =>
        obtain ⟨v, st1⟩ := q
        rw [hop] at h
        simp only at h
        have hst := hputst h
        subst hst
        have fin : ∀ v' w' m', Ext m m' → Dom m m' st.next st'.next → Rel ρ w0 base m' st'.heap.get w' → VR ρ m' v v' → K (a.put o.dst v') w' := fun v' w' m' e1 e2 e3 e4 => by
          obtain ⟨h1, h2, h3⟩ := hput e1 e4 ⟨_, _, h⟩
          exact hK _ w' m' e1 e2 e3 h1 h2 h3
        unfold Oper.wp
        cases hic : isCall o.op with
        | true =>
          cases hoo : o.op with
          | call c => exact call_ok hq hoo hc hH hop hr hf ht o a K Q fin
          | _ => rw [hoo] at hic; cases hic
        | false =>
          obtain ⟨n, w', m', e1, e2, e3, e4, e5⟩ := plain_ok (P := P) (H := H) (e := e) (w0 := w0) (base := base) hq ht hic st w v st' hop hr hf
          rw [e1]
          rcases e5 with ⟨v', rfl, hv⟩ | ⟨rfl, rfl⟩
          · exact fin v' w' m' e2 e3 e4 hv
          · exact fin undef w' m' e2 e3 e4 (.tup _ _ .nil)
end
end Go.Proofs.YtehofjjiaaimdaaGreatDoor.Zz
