/- The executor: operations with calls. -/
import Derived.Test.YtckmcajnhobkpaaGreatDoorExS
set_option linter.unusedVariables false
set_option linter.unusedSimpArgs false
set_option linter.deprecated false
namespace Go.Proofs.YtckmcajnhobkpaaGreatDoor.Zz
open Go Go.RowKit

section
variable {P : Program} {ρ : Nat → Value} {w0 : World} {base : Nat} {m : BMap}
def Fresh (m : BMap) (lo hi : Nat) : Prop := ∀ A, lo ≤ A → A < hi → m A = none
def Dom (m m' : BMap) (lo hi : Nat) : Prop := ∀ A, m A = none → m' A ≠ none → lo ≤ A ∧ A < hi
/-- how a call ends -/
def EndR (ρ : Nat → Value) (m : BMap) (v : AV) (en : Ending) : Prop := (∃ v', en = .returned v' ∧ VR ρ m v v') ∨ ∃ x u, v = .pan x ∧ en = .panicked [{ v := u, recovered := false }] ∧ VR ρ m x u
/-- what a call is to show, for what the executor says of it -/
def CallOk (P : Program) (ρ : Nat → Value) (w0 : World) (base : Nat) (call : FuncId → List AV → M AV) : Prop :=
  ∀ f args us m st w v st', call f args st = some (v, st') → Rel ρ w0 base m st.heap.get w → Fresh m st.next st'.next → LR ρ m args us.toList →
    Calls P f us w fun en w' => ∃ m', Ext m m' ∧ Dom m m' st.next st'.next ∧ Rel ρ w0 base m' st'.heap.get w' ∧ EndR ρ m' v en
/-- what stands in for a function -/
def HookFn (P : Program) (ρ : Nat → Value) (w0 : World) (base : Nat) (f : FuncId) (h : List AV → M AV) : Prop :=
  ∀ args us m st w v st', h args st = some (v, st') → Rel ρ w0 base m st.heap.get w → Fresh m st.next st'.next → LR ρ m args us.toList →
    ∀ (o : Oper) (a : Act) (K : Act → World → Prop) (Q : Exit → Act → World → Prop), (∀ v' w' m', Ext m m' → Dom m m' st.next st'.next → Rel ρ w0 base m' st'.heap.get w' → VR ρ m' v v' → K (a.put o.dst v') w') →
      o.upon P a K Q ((callFunc f us).run P w)
/-- what is said of an operation on a value that is not known -/
def OraOk (P : Program) (ρ : Nat → Value) (w0 : World) (base : Nat) (q : Q) (r : AV) : Prop :=
  ∀ (o : Oper) (tm : Tm) (a : Act) (m : BMap) (st : ASt) (w : World), oraKey tm o.op = some q → TmR ρ m tm a → Rel ρ w0 base m st.heap.get w → ∃ u w' m', (execOp a.eval o).run P w = .ok (.value u) w' ∧ Ext m m' ∧ Dom m m' st.next st.next ∧ Rel ρ w0 base m' st.heap.get w' ∧ VR ρ m' r u
def HookOk (P : Program) (ρ : Nat → Value) (w0 : World) (base : Nat) (H : Hooks) : Prop :=
  (∀ f h, H.fn f = some h → HookFn P ρ w0 base f h) ∧ ∀ q r, H.ora q = some r → OraOk P ρ w0 base q r
/-- an operation that was done: what the walk is to go on with -/
def Upon (P : Program) (ρ : Nat → Value) (w0 : World) (base : Nat) (m : BMap) (st st' : ASt) (v : AV) (r : Result Next) : Prop :=
  ∀ (o : Oper) (a : Act) (K : Act → World → Prop) (Q : Exit → Act → World → Prop), (∀ v' w' m', Ext m m' → Dom m m' st.next st'.next → Rel ρ w0 base m' st'.heap.get w' → VR ρ m' v v' → K (a.put o.dst v') w') →
    (∀ x u w' m', v = .pan x → Ext m m' → Dom m m' st.next st'.next → Rel ρ w0 base m' st'.heap.get w' → VR ρ m' x u → Q (.panic [{ v := u, recovered := false }]) a w') → o.upon P a K Q r
theorem funcA_ok {H : Hooks} {e : Ex} {f : FuncId} {args : List AV} {us : Array Value} {st st' : ASt} {w : World} {v : AV} (hc : CallOk P ρ w0 base e.call) (hH : HookOk P ρ w0 base H)
    (h : funcA P H e f args st = some (v, st')) (hr : Rel ρ w0 base m st.heap.get w) (hf : Fresh m st.next st'.next) (hl : LR ρ m args us.toList) : Upon P ρ w0 base m st st' v ((callFunc f us).run P w) := by
  intro o a K Q hK hQ
  unfold funcA at h
  cases hh : H.fn f with
  | some h' => rw [hh] at h; exact hH.1 f h' hh args us m st w v st' h hr hf hl o a K Q hK
  | none =>
    rw [hh] at h
    simp only at h
    cases hfn : P.funcs[f]? with
    | none => rw [hfn] at h; cases h
    | some fn =>
      rw [hfn] at h
      simp only at h
      cases hb : (fn.name == "runtime.NumGoroutine" || fn.body.isNone) with
      | true => rw [hb] at h; cases h
      | false =>
        rw [hb, cond_false] at h
        simp only [Bool.or_eq_false_iff] at hb
        have hb1 : ¬ fn.name = "runtime.NumGoroutine" := by simpa using hb.1
        have hb2 : ¬ fn.body = none := by
          intro e0; rw [e0] at hb; cases hb.2
        have hrun : (callFunc f us).run P w = .ok (.enter f us) w := by
          simp [callFunc, program, Sem.run, hfn, hb1, hb2]
        rw [hrun, Oper.upon_enter]
        refine (hc f args us m st w v st' h hr hf hl).mono ?_
        rintro en w' ⟨m', h1, h2, h3, ⟨v', rfl, h4⟩ | ⟨x, u, rfl, rfl, h4⟩⟩
        · exact hK v' w' m' h1 h2 h3 h4
        · exact hQ x u w' m' rfl h1 h2 h3 h4
theorem load1_eq {A i : Nat} {st st' : ASt} {x : AV} (h : load1 A i st = some (x, st')) : ∃ c n e frz odd, st.heap.get A = some (.cells c n e frz odd) ∧ c.get i = some x ∧ st'.heap = st.heap ∧ st'.next = st.next := by
  unfold load1 at h
  obtain ⟨b, s1, h1, h2⟩ := bnd_eq h
  obtain ⟨e1, e2, e3⟩ := rd_eq h1
  cases b with
  | cells c n e frz odd =>
    dsimp only at h2
    cases hc : c.get i with
    | none => rw [hc] at h2; cases h2
    | some y => rw [hc] at h2; cases h2; exact ⟨c, n, e, frz, odd, e1, hc, e2, e3⟩
  | _ => cases h2
theorem loadT_same {t : TypeId} {A i b d z : Nat} {st st' : ASt} {x : AV} {w : World} (h : loadT P t A i st = some (x, st')) (hr : Rel ρ w0 base m st.heap.get w) (hp : m A = some (b, d, z)) :
    ∃ v, (loadVar t ⟨b, d + i, none⟩).run P w = .ok v w ∧ VR ρ m x v ∧ st'.heap = st.heap ∧ st'.next = st.next := by
  unfold loadT at h
  cases hb : isAggT P t with
  | none => rw [hb] at h; cases h
  | some r =>
    rw [hb] at h
    cases r with
    | false =>
      obtain ⟨c, n, e, frz, odd, hA, hc, e2, e3⟩ := load1_eq h
      obtain ⟨arr, lo, hi, h1, h2, h3, h4, h5⟩ := rel_cells hr hA hp
      obtain ⟨q1, q2, v, q3, q4⟩ := h4 i x hc
      have hl : (Go.load ⟨b, d + i, none⟩).run P w = .ok v w := run_load (by rw [cell_of h1]; exact q3)
      exact ⟨v, by simp only [loadVar, Sem.run_bind, run_isAgg hb, Result.andThen_ok, Bool.false_eq_true, ↓reduceIte, hl], q4, e2, e3⟩
    | true =>
      dsimp only at h
      obtain ⟨n, hn, h⟩ := optb_eq h
      obtain ⟨l, s1, g1, g2⟩ := bnd_eq h
      cases g2
      obtain ⟨c, nn, e, frz, odd, hA, hc, e2, e3⟩ := loadC_eq g1
      obtain ⟨arr, lo, hi, h1, h2, h3, h4, h5⟩ := rel_cells hr hA hp
      obtain ⟨vs, k1, k2, k3⟩ := getN_vals h4 hc
      refine ⟨.agg vs.toArray, ?_, .agg _ _ k1, e2, e3⟩
      have := run_loadCells (P := P) (w := w) (a := ⟨b, d + i, none⟩) (vs := vs) (n := n) (by rw [← k1.length, k2]) (fun j v hj => by rw [add_mk', cell_of h1]; exact k3 j v hj)
      simp [loadVar, run_isAgg hb, run_size hn, this]
/-- a reading: the world and the blocks stay -/
def Same {α β : Type} (P : Program) (ρ : Nat → Value) (w0 : World) (base : Nat) (m : BMap) (w : World) (R : α → β → Prop) (x : M α) (s : Sem β) : Prop :=
  ∀ st st' a, x st = some (a, st') → Rel ρ w0 base m st.heap.get w → ∃ b, s.run P w = .ok b w ∧ R a b ∧ st'.heap = st.heap ∧ st'.next = st.next
theorem Same.fail {α β : Type} {w : World} {R : α → β → Prop} {s : Sem β} : Same P ρ w0 base m w R (Zz.fail : M α) s := fun st st' a h _ => by cases h
theorem Same.ret {α β : Type} {w : World} {R : α → β → Prop} {s : Sem β} {a : α} {b : β} (hs : s.run P w = .ok b w) (h : R a b) : Same P ρ w0 base m w R (Zz.ret a) s := fun st st' a' h' _ => by
  cases h'; exact ⟨b, hs, h, rfl, rfl⟩
theorem Same.bnd {α β γ δ : Type} {w : World} {R : α → β → Prop} {R' : γ → δ → Prop} {x : M α} {s : Sem β} {f : α → M γ} {g : β → Sem δ} (h : Same P ρ w0 base m w R x s) (hf : ∀ a b, R a b → Same P ρ w0 base m w R' (f a) (g b)) :
    Same P ρ w0 base m w R' (Zz.bnd x f) (s >>= g) := fun st st' c hc hr => by
  obtain ⟨a, s1, h1, h2⟩ := bnd_eq hc
  obtain ⟨b, e1, e2, e3, e4⟩ := h st s1 a h1 hr
  obtain ⟨d, f1, f2, f3, f4⟩ := hf a b e2 s1 st' c h2 (by rw [e3]; exact hr)
  exact ⟨d, by rw [Sem.run_bind, e1, Result.andThen_ok]; exact f1, f2, f3.trans e3, f4.trans e4⟩
theorem Same.congr {α β : Type} {w : World} {R : α → β → Prop} {x : M α} {s s' : Sem β} (hs : s'.run P w = s.run P w) (h : Same P ρ w0 base m w R x s) : Same P ρ w0 base m w R x s' := fun st st' a ha hr => by
  obtain ⟨b, e1, e2⟩ := h st st' a ha hr
  exact ⟨b, hs.trans e1, e2⟩
inductive PlR (ρ : Nat → Value) (m : BMap) : Pl → Place → Prop where
  | val (v : AV) (u : Value) (h : VR ρ m v u) : PlR ρ m (.val v) (.val u)
  | var (A i b d z : Nat) (h : m A = some (b, d, z)) : PlR ρ m (.var A i) (.var ⟨b, d + i, none⟩)
theorem getP_same {w : World} {t : TypeId} {x : Pl} {y : Place} (h : PlR ρ m x y) : Same P ρ w0 base m w (VR ρ m) (getP P t x) (y.get t) := by
  cases h with
  | val v u h => exact Same.ret (Sem.run_pure ..) h
  | var A i b d z h =>
    intro st st' a ha hr
    obtain ⟨v, e1, e2, e3, e4⟩ := loadT_same ha hr h
    exact ⟨v, e1, e2, e3, e4⟩
theorem partT_same {w : World} {t : TypeId} {l : List AV} {off : Nat} {cs : Array Value} (hl : LR ρ m l cs.toList) : Same P ρ w0 base m w (VR ρ m) (partT P t l off) (part t cs off) := by
  unfold partT
  cases hb : isAggT P t with
  | none => exact Same.fail
  | some r =>
    cases r with
    | false =>
      intro st st' a ha hr
      have ha' : (Zz.opt (l[off]?)) st = some (a, st') := ha
      cases hx : l[off]? with
      | none => rw [hx] at ha'; cases ha'
      | some x =>
        rw [hx] at ha'
        cases ha'
        obtain ⟨v, h1, h2⟩ := hl.get hx
        rw [Array.getElem?_toList] at h1
        exact ⟨v, by simp [part, run_isAgg hb, h1], h2, rfl, rfl⟩
    | true =>
      intro st st' a ha hr
      obtain ⟨n, hn, h2⟩ := optb_eq ha
      cases h2
      refine ⟨.agg (cs.extract off (off + n)), by simp [part, run_isAgg hb, run_size hn], .agg _ _ ?_, rfl, rfl⟩
      have := (hl.drop off).take n
      rw [Array.toList_extract, List.extract_eq_drop_take]
      simpa using this
def TPl (ρ : Nat → Value) (m : BMap) (a : TypeId × Pl) (b : TypeId × Place) : Prop := a.1 = b.1 ∧ PlR ρ m a.2 b.2
theorem followA_same {w : World} : ∀ (l : List FieldStep) (t : TypeId) (x : Pl) (y : Place), PlR ρ m x y → Same P ρ w0 base m w (TPl ρ m) (followA P l t x) (follow l t y)
  | [], t, x, y, h => Same.ret (Sem.run_pure ..) ⟨rfl, h⟩
  | s :: r, t, x, y, h => by
    have ih := followA_same (w := w) r
    unfold followA
    split
    · rename_i fs hu
      split
      · rename_i f hf
        split
        · rename_i q hsz
          have hfp : ∀ b d i : Nat, (fieldPlace ⟨b, d + i, none⟩ f).run P w = .ok ⟨b, d + (i + f.offset), none⟩ w := fun b d i => by
            simp [fieldPlace, run_size hsz, add_mk', Nat.add_assoc]
          cases hd : s.deref with
          | true =>
            rw [cond_true]
            refine Same.congr (s := y.get t >>= fun v => asAddr v >>= fun a => fieldPlace a f >>= fun p => follow r f.type (.var p)) ?_ (Same.bnd (getP_same h) (fun v u hv => ?_))
            · simp [follow, run_und hu, hf, hd]
            · split
              · rename_i A i
                cases hv with | ptr _ _ b d z hA => _
                refine Same.congr (s := follow r f.type (.var ⟨b, d + (i + f.offset), none⟩)) ?_ (ih _ _ _ (.var A _ b d z hA))
                simp [asAddr, hfp]
              · exact Same.fail
          | false =>
            rw [cond_false]
            split
            · rename_i A i
              cases h with | var _ _ b d z hA => _
              refine Same.congr (s := follow r f.type (.var ⟨b, d + (i + f.offset), none⟩)) ?_ (ih _ _ _ (.var A _ b d z hA))
              simp [follow, run_und hu, hf, hd, hfp]
            · rename_i l
              cases h with | val _ u hv => _
              cases hv with | agg _ cs hl => _
              refine Same.congr (s := part f.type cs f.offset >>= fun v => follow r f.type (.val v)) ?_ (Same.bnd (partT_same hl) (fun v u hv => ih _ _ _ (.val _ _ hv)))
              simp [follow, run_und hu, hf, hd]
            · exact Same.fail
        · exact Same.fail
      · exact Same.fail
    · exact Same.fail
theorem run_wrapchk {w : World} {t : TypeId} {ad : Addr} {s name : String} : (Builtin.ssaWrapNilChk_ #[t] t #[.pointer (some ad), strVal s, strVal name]).run P w = .ok (.pointer (some ad)) w := by
  have : Builtin.ssaWrapNilChk_ #[t] t #[.pointer (some ad), strVal s, strVal name] = pure (.pointer (some ad)) := rfl
  rw [this]; exact Sem.run_pure ..
theorem recvA_same {w : World} {t : TypeId} {x : Pl} {y : Place} {pr : Bool} {wr : Option String} (h : PlR ρ m x y) : Same P ρ w0 base m w (VR ρ m) (recvA P t x pr) (receiverAt t y pr wr) := by
  unfold recvA
  split
  · rename_i e hu
    refine Same.congr (s := y.get t) ?_ (getP_same h)
    simp [receiverAt, run_und hu]
  · rename_i e hu
    intro st st' a ha hr
    obtain ⟨v, s1, h1, h2⟩ := bnd_eq ha
    obtain ⟨u, e1, e2, e3, e4⟩ := getP_same h st s1 v h1 hr
    cases v with
    | ptr A i =>
      cases e2 with | ptr _ _ b d z hA => _
      obtain ⟨x', f1, f2, f3, f4⟩ := loadT_same h2 (by rw [e3]; exact hr) hA
      refine ⟨x', ?_, f2, f3.trans e3, f4.trans e4⟩
      cases wr with
      | none => simp [receiverAt, run_und hu, e1, asAddr, f1]
      | some name => simp [receiverAt, run_und hu, e1, run_wrapchk, asAddr, f1]
    | _ => cases h2
  · rename_i d hne hu
    split
    · rename_i A i
      cases h with | var _ _ b d' z hA => _
      refine Same.ret (b := .pointer (some ⟨b, d' + i, none⟩)) ?_ (.ptr _ _ b d' z hA)
      cases d <;> first | exact absurd rfl (hne _) | simp [receiverAt, run_und hu]
    · exact Same.fail
  · rename_i d hne hu
    refine Same.congr (s := y.get t) ?_ (getP_same h)
    cases d <;> first | exact absurd rfl (hne _) | simp [receiverAt, run_und hu]
  · exact Same.fail
theorem methN_same {w : World} : ∀ (n k : Nat) (t : TypeId) (v : AV) (name : String) (u : Value), VR ρ m v u → Same P ρ w0 base m w (fun a b => a.1 = b.1 ∧ VR ρ m a.2 b.2) (methN P n t v name) (method (n + k) t u name)
  | 0, k, t, v, name, u, hv => Same.fail
  | n + 1, k, t, v, name, u, hv => by
    unfold methN
    split
    · exact Same.fail
    · rename_i i hi
      split
      · exact Same.fail
      · rename_i mt hm
        intro st st' a ha hr
        obtain ⟨⟨xt, x⟩, s1, h1, h2⟩ := bnd_eq ha
        obtain ⟨⟨xt', y⟩, e1, ⟨e2, e2'⟩, e3, e4⟩ := followA_same (P := P) mt.path.toList t (.val v) (.val u) (.val v u hv) st s1 _ h1 hr
        simp only at e2 e2'
        subst e2
        have hr1 : Rel ρ w0 base m s1.heap.get w := by rw [e3]; exact hr
        rw [show n + 1 + k = (n + k) + 1 by omega]
        cases hfn : mt.func with
        | none =>
          rw [hfn] at h2
          dsimp only at h2
          obtain ⟨z, s2, h3, h4⟩ := bnd_eq h2
          obtain ⟨zv, f1, f2, f3, f4⟩ := getP_same e2' s1 s2 z h3 hr1
          cases z with
          | ifc t' v' =>
            cases f2 with | ifc _ _ vv hvv => _
            obtain ⟨r, g1, g2, g3, g4⟩ := methN_same n k t' v' name vv hvv s2 st' a h4 (by rw [f3]; exact hr1)
            refine ⟨r, ?_, g2, g3.trans (f3.trans e3), g4.trans (f4.trans e4)⟩
            simp only [method, Sem.run_bind, run_info hi, Result.andThen_ok, hm, e1, hfn, f1]
            exact g1
          | _ => cases h4
        | some fp =>
          obtain ⟨f, pr⟩ := fp
          rw [hfn] at h2
          dsimp only at h2
          obtain ⟨r, s2, h3, h4⟩ := bnd_eq h2
          cases h4
          obtain ⟨rv, f1, f2, f3, f4⟩ := recvA_same (wr := if mt.path.isEmpty then some ((name.splitOn ".").getLastD name) else none) e2' s1 _ r h3 hr1
          refine ⟨(f, rv), ?_, ⟨rfl, f2⟩, f3.trans e3, f4.trans e4⟩
          simp only [method, Sem.run_bind, run_info hi, Result.andThen_ok, hm, e1, hfn, f1, Sem.run_pure]
theorem methA_eq {t : TypeId} {v : AV} {name : String} {st st' : ASt} {f : FuncId} {rc : AV} {w : World} {u : Value} (k : Nat) (h : methA P t v name st = some ((f, rc), st')) (hv : VR ρ m v u) (hr : Rel ρ w0 base m st.heap.get w) :
    ∃ u', (method (4 + k) t u name).run P w = .ok (f, u') w ∧ VR ρ m rc u' ∧ st'.heap = st.heap ∧ st'.next = st.next := by
  obtain ⟨⟨f0, u'⟩, e1, ⟨e2, e2'⟩, e3, e4⟩ := methN_same (P := P) 4 k t v name u hv st st' _ h hr
  simp only at e2 e2'
  subst e2
  exact ⟨u', e1, e2', e3, e4⟩
theorem call_ok {H : Hooks} {e : Ex} {o : Oper} {c : Call} {tm : Tm} {a : Act} {st st' : ASt} {w : World} {v : AV} (hq : Opq ρ) (ho : o.op = .call c) (hc : CallOk P ρ w0 base e.call) (hH : HookOk P ρ w0 base H)
    (h : opA P H e o tm st = some (v, st')) (hr : Rel ρ w0 base m st.heap.get w) (hf : Fresh m st.next st'.next) (ht : TmR ρ m tm a) : Upon P ρ w0 base m st st' v ((execOp a.eval o).run P w) := by
  unfold opA at h
  rw [ho] at h
  simp only at h
  obtain ⟨args, hargs, h⟩ := optb_eq h
  have hl : LR ρ m args (c.args.map a.eval).toList := by rw [Array.toList_map]; exact avals_ok ht hargs
  have hexec : execOp a.eval o = (resolve a.eval c o.type >>= fun d => invoke d.target d.args) := by
    unfold execOp; rw [ho]
  have hd0 : 4 + (P.types.size + Made.depth - 4) = P.types.size + Made.depth := by
    have : 4 < Made.depth := by decide
    omega
  rw [hexec]
  cases hcal : c.callee with
  | builtin b =>
    rw [hcal] at h
    dsimp only at h
    intro o' a' K Q hK hQ
    obtain ⟨n, w', m', e1, e2, e3, e4, e5⟩ := built_ok (P := P) (ρ := ρ) (w0 := w0) (base := base) (ty := o.type) (cs := c.args.map fun | .const _ => true | _ => false) hq hl st w v st' h hr hf
    have hrun : (resolve a.eval c o.type >>= fun d => invoke d.target d.args).run P w = .ok n w' := by
      simp only [resolve, hcal, Sem.run_bind, Sem.run_pure, Result.andThen_ok, invoke]
      exact e1
    rw [hrun]
    rcases e5 with ⟨v', rfl, hv⟩ | ⟨rfl, rfl⟩
    · exact hK v' w' m' e2 e3 e4 hv
    · exact hK undef w' m' e2 e3 e4 (.tup _ _ .nil)
  | invoke r name =>
    rw [hcal] at h
    dsimp only at h
    obtain ⟨rv, hrv, h⟩ := optb_eq h
    have hvr := aval_ok hrv ht
    generalize hev : a.eval r = ev at hvr
    cases hvr with
    | ifc t u uv hu =>
      dsimp only at h
      obtain ⟨⟨f, rc⟩, st1, hm, h⟩ := bnd_eq h
      dsimp only at h
      obtain ⟨u', g1, g2, g3, g4⟩ := methA_eq (P := P) (w := w) (P.types.size + Made.depth - 4) hm hu hr
      have := funcA_ok (us := #[u'] ++ c.args.map a.eval) hc hH h (by rw [g3]; exact hr) (by rw [g4]; exact hf) (by
        rw [Array.toList_append]
        exact .cons _ _ _ _ g2 hl)
      intro o' a' K Q hK hQ
      have hrun : (resolve a.eval c o.type >>= fun d => invoke d.target d.args).run P w = (callFunc f (#[u'] ++ c.args.map a.eval)).run P w := by
        have hg := g1
        rw [hd0] at hg
        have q0 : (#[Value.iface t uv] ++ c.args.map a.eval)[0]? = some (Value.iface t uv) := by simp [Array.getElem?_append]
        have q1 : (#[Value.iface t uv] ++ c.args.map a.eval).extract 1 (#[Value.iface t uv] ++ c.args.map a.eval).size = c.args.map a.eval := by
          apply Array.ext'
          simp
          exact List.take_of_length_le (by simp)
        simp only [resolve, hcal, Sem.run_bind, Sem.run_pure, Result.andThen_ok, invoke, hev, q0, q1]
        simp [callMethod, program, Sem.run, hg]
      rw [hrun]
      exact this o' a' K Q (by rw [g4]; exact hK) (by rw [g4]; exact hQ)
    | _ => cases h
  | value fo =>
    rw [hcal] at h
    dsimp only at h
    obtain ⟨fv, hfv, h⟩ := optb_eq h
    have hvf := aval_ok hfv ht
    generalize hev : a.eval fo = ev at hvf
    cases hvf with
    | fn f first cap u1 u2 h1 h2 =>
      cases f with
      | func f =>
        dsimp only at h
        have := funcA_ok (us := u1 ++ c.args.map a.eval ++ u2) hc hH h hr hf (by
          rw [Array.toList_append, Array.toList_append]
          exact (h1.append hl).append h2)
        intro o' a' K Q hK hQ
        have hrun : (resolve a.eval c o.type >>= fun d => invoke d.target d.args).run P w = (callFunc f (u1 ++ c.args.map a.eval ++ u2)).run P w := by
          simp only [resolve, hcal, hev, Deferred.ofValue, Sem.run_bind, Sem.run_pure, Result.andThen_ok, invoke]
        rw [hrun]
        exact this o' a' K Q hK hQ
      | method name =>
        dsimp only at h
        have hall := h1.append hl
        cases hfa : first ++ args with
        | nil => rw [hfa] at h; cases h
        | cons x rest =>
          rw [hfa] at h hall
          cases hrest : u1.toList ++ (c.args.map a.eval).toList with
          | nil => rw [hrest] at hall; cases hall
          | cons y ys =>
            rw [hrest] at hall
            cases hall with | cons _ _ _ _ hy hys => _
            cases hy with
            | ifc t u uv hu =>
              dsimp only at h
              obtain ⟨⟨f, rc⟩, st1, hm, h⟩ := bnd_eq h
              dsimp only at h
              obtain ⟨u', g1, g2, g3, g4⟩ := methA_eq (P := P) (w := w) (P.types.size + Made.depth - 4) hm hu hr
              have := funcA_ok (us := #[u'] ++ ys.toArray) hc hH h (by rw [g3]; exact hr) (by rw [g4]; exact hf) (by
                rw [Array.toList_append]
                exact .cons _ _ _ _ g2 hys)
              intro o' a' K Q hK hQ
              have hua : u1 ++ c.args.map a.eval = (.iface t uv :: ys).toArray := by
                have := congrArg List.toArray hrest
                simpa using this
              have hrun : (resolve a.eval c o.type >>= fun d => invoke d.target d.args).run P w = (callFunc f (#[u'] ++ ys.toArray)).run P w := by
                have hg := g1
                rw [hd0] at hg
                simp only [resolve, hcal, hev, Deferred.ofValue, Sem.run_bind, Sem.run_pure, Result.andThen_ok, invoke, hua]
                simp [callMethod, program, Sem.run, hg]
              rw [hrun]
              exact this o' a' K Q (by rw [g4]; exact hK) (by rw [g4]; exact hQ)
            | _ => cases h
      | _ => cases h
    | _ => cases h
/-- a temporary is written -/
theorem put_ok {N : Nat} {tm tmv : Tm} {a : Act} {dst : Option Tmp} {m' : BMap} {v : AV} {u : Value} {ds : List Deferred} (ht : TmR ρ m tm a) (hN : a.tmps.size = N) (hd : a.defers = ds) (he : Ext m m') (hv : VR ρ m' v u) (hp : ∃ s1 s2, putA N tm dst v s1 = some (tmv, s2)) :
    TmR ρ m' tmv (a.put dst u) ∧ (a.put dst u).tmps.size = N ∧ (a.put dst u).defers = ds ∧ tmv.d = tm.d ∧ tmv.p = tm.p := by
  obtain ⟨s1, s2, hp⟩ := hp
  unfold putA at hp
  cases hds : dst with
  | none => rw [hds] at hp; cases hp; exact ⟨ht.ext he, hN, hd, rfl, rfl⟩
  | some d =>
    rw [hds] at hp
    simp only at hp
    cases hlt : Nat.blt d N with
    | false => rw [hlt] at hp; cases hp
    | true =>
      rw [hlt] at hp; cases hp
      have hlt' : d < a.tmps.size := by rw [hN]; simpa using hlt
      refine ⟨fun t => ?_, by simp [Act.put, hN], hd, rfl, rfl⟩
      rw [Tm.get_put]
      by_cases htd : t = d
      · subst htd
        rw [if_pos rfl]
        exact ⟨u, by simp [Act.put, hlt'], hv⟩
      · rw [if_neg htd]
        have := ht.ext he t
        cases e0 : tm.get t with
        | none => rw [e0] at this; simp only at this ⊢; simpa [Act.put, Array.getD_eq_getD_getElem?, Array.getElem?_setIfInBounds_ne (Ne.symm htd)] using this
        | some x =>
          rw [e0] at this
          cases x with
          | none => trivial
          | some x => simp only at this ⊢; simpa [Act.put, Array.getElem?_setIfInBounds_ne (Ne.symm htd)] using this
theorem put_same {N : Nat} {tm tmv : Tm} {dst : Option Tmp} {v : AV} {s1 s2 : ASt} (hp : putA N tm dst v s1 = some (tmv, s2)) : s2 = s1 := by
  unfold putA at hp
  cases hds : dst with
  | none => rw [hds] at hp; cases hp; rfl
  | some d =>
    rw [hds] at hp
    simp only at hp
    cases hlt : Nat.blt d N with
    | false => rw [hlt] at hp; cases hp
    | true => rw [hlt] at hp; cases hp; rfl
theorem want_ok {ops : Array Oper} {o : Oper} {tm : Tm} {a : Act} (ht : TmR ρ m tm a) : ∀ b, wantA ops o tm = some b → Region.wanted o (yielded ops a.tmps) = b := by
  intro b hb
  unfold wantA at hb
  unfold Region.wanted
  cases hg : o.guard with
  | none => rw [hg] at hb; cases hb; rfl
  | some p =>
    obtain ⟨j, want⟩ := p
    rw [hg] at hb
    simp only at hb ⊢
    unfold yielded
    cases hoj : ops[j]? with
    | none => rw [hoj] at hb; cases hb; rfl
    | some g =>
      rw [hoj] at hb
      simp only [Option.bind_some] at hb ⊢
      cases hgd : g.dst with
      | none => rw [hgd] at hb; cases hb; rfl
      | some d =>
        rw [hgd] at hb
        simp only [Option.bind_some] at hb ⊢
        have htd := ht d
        cases hx : tm.get d with
        | none =>
          rw [hx] at hb htd
          cases hb
          simp only [Array.getD_eq_getD_getElem?] at htd
          cases hv : a.tmps[d]? with
          | none => rfl
          | some u =>
            rw [hv] at htd
            simp only [Option.getD_some] at htd
            rw [htd]; rfl
        | some x =>
          rw [hx] at hb htd
          cases x with
          | none => cases hb
          | some x =>
          obtain ⟨u, h1, h2⟩ := htd
          rw [h1]
          cases h2 <;> first | (cases hb; done) | (cases hb; rfl)
/-- an operation that is wanted: what it comes to -/
theorem op_ok {H : Hooks} {e : Ex} {o : Oper} {tm : Tm} {a : Act} {st st1 : ASt} {w : World} {v : AV} (hq : Opq ρ) (hc : CallOk P ρ w0 base e.call) (hH : HookOk P ρ w0 base H)
    (h : askA H tm o.op (opA P H e o tm) st = some (v, st1)) (hr : Rel ρ w0 base m st.heap.get w) (hf : Fresh m st.next st1.next) (ht : TmR ρ m tm a) : Upon P ρ w0 base m st st1 v ((execOp a.eval o).run P w) ∨ ∀ (K : Act → World → Prop) (Q : Exit → Act → World → Prop),
    (∀ v' w' m', Ext m m' → Dom m m' st.next st1.next → Rel ρ w0 base m' st1.heap.get w' → VR ρ m' v v' → K (a.put o.dst v') w') → o.wp P a w K Q := by
  have hask : (∃ q r, oraKey tm o.op = some q ∧ H.ora q = some r ∧ askA H tm o.op (opA P H e o tm) = Zz.ret r) ∨ askA H tm o.op (opA P H e o tm) = opA P H e o tm := by
    unfold askA
    cases hk : oraKey tm o.op with
    | none => exact .inr rfl
    | some q =>
      dsimp only
      cases hq2 : H.ora q with
      | none => exact .inr rfl
      | some r => exact .inl ⟨q, r, rfl, hq2, rfl⟩
  rcases hask with ⟨q, r, hk, hqr, hask⟩ | hask
  · rw [hask] at h
    cases h
    right
    intro K Q fin
    obtain ⟨u, w', m', hrun, e1, e2, e3, hv⟩ := hH.2 q _ hqr o tm a m _ w hk ht hr
    unfold Oper.wp
    rw [hrun, Oper.upon_value]
    exact fin u w' m' e1 e2 e3 hv
  · rw [hask] at h
    cases hic : isCall o.op with
    | true =>
      cases hoo : o.op with
      | call c => exact .inl (call_ok hq hoo hc hH h hr hf ht)
      | _ => rw [hoo] at hic; cases hic
    | false =>
      right
      intro K Q fin
      unfold Oper.wp
      obtain ⟨n, w', m', e1, e2, e3, e4, e5⟩ := plain_ok (P := P) (H := H) (e := e) (w0 := w0) (base := base) hq ht hic st w v st1 h hr hf
      rw [e1]
      rcases e5 with ⟨v', rfl, hv⟩ | ⟨rfl, rfl⟩
      · exact fin v' w' m' e2 e3 e4 hv
      · exact fin undef w' m' e2 e3 e4 (.tup _ _ .nil)
/-- one operation, guarded or not; it neither defers nor panics -/
theorem operW_ok {H : Hooks} {e : Ex} {N : Nat} {ops : Array Oper} {o : Oper} {tm tm' : Tm} {a : Act} {st st' : ASt} {w : World} {ds : List Deferred} (hq : Opq ρ) (hc : CallOk P ρ w0 base e.call) (hH : HookOk P ρ w0 base H)
    (h : operA P H e N ops o tm st = some (tm', st')) (hr : Rel ρ w0 base m st.heap.get w) (hf : Fresh m st.next st'.next) (ht : TmR ρ m tm a) (hN : a.tmps.size = N) (hd : a.defers = ds)
    (K : Act → World → Prop) (Q : Exit → Act → World → Prop) (hK : ∀ a' w' m', Ext m m' → Dom m m' st.next st'.next → Rel ρ w0 base m' st'.heap.get w' → TmR ρ m' tm' a' → a'.tmps.size = N → a'.defers = ds → tm'.d = tm.d → tm'.p = tm.p → K a' w') :
    if Region.wanted o (yielded ops a.tmps) then o.wp P a w K Q else K (a.put o.dst undef) w := by
  unfold operA at h
  cases hw : wantA ops o tm with
  | none => rw [hw] at h; cases h
  | some b =>
    rw [hw] at h
    rw [want_ok ht b hw]
    cases b with
    | false =>
      rw [if_neg (by simp)]
      have hst := put_same h
      subst hst
      obtain ⟨h1, h2, h3, h4, h5⟩ := put_ok ht hN hd (Ext.refl m) (.tup _ _ .nil : VR ρ m undefA undef) ⟨_, _, h⟩
      exact hK _ w m (Ext.refl m) (fun A h1 h2 => absurd h1 h2) hr h1 h2 h3 h4 h5
    | true =>
      rw [if_pos rfl]
      simp only at h
      obtain ⟨v, st1, h1, h2⟩ := bnd_eq h
      have h2' : putA N tm o.dst v st1 = some (tm', st') ∧ ∀ x, v ≠ .pan x := by
        cases v with
        | pan x => cases h2
        | _ => exact ⟨h2, fun x e => by cases e⟩
      obtain ⟨h2, hnp⟩ := h2'
      have hst := put_same h2
      subst hst
      have fin : ∀ v' w' m', Ext m m' → Dom m m' st.next st'.next → Rel ρ w0 base m' st'.heap.get w' → VR ρ m' v v' → K (a.put o.dst v') w' := fun v' w' m' e1 e2 e3 e4 => by
        obtain ⟨g1, g2, g3, g4, g5⟩ := put_ok ht hN hd e1 e4 ⟨_, _, h2⟩
        exact hK _ w' m' e1 e2 e3 g1 g2 g3 g4 g5
      rcases op_ok hq hc hH h1 hr hf ht with hu | hu
      · exact hu o a K Q fin (fun x u w' m' e => absurd e (hnp x))
      · exact hu K Q fin
theorem oper_ok {H : Hooks} {e : Ex} {N : Nat} {ops : Array Oper} {o : Oper} {tm tm' : Tm} {a : Act} {st st' : ASt} {w : World} {ds : List Deferred} (hq : Opq ρ) (hc : CallOk P ρ w0 base e.call) (hH : HookOk P ρ w0 base H)
    (h : operA P H e N ops o tm st = some (tm', st')) (hr : Rel ρ w0 base m st.heap.get w) (hf : Fresh m st.next st'.next) (ht : TmR ρ m tm a) (hN : a.tmps.size = N) (hd : a.defers = ds)
    (K : Act → World → Prop) (Q : Exit → Act → World → Prop) (hK : ∀ a' w' m', Ext m m' → Dom m m' st.next st'.next → Rel ρ w0 base m' st'.heap.get w' → TmR ρ m' tm' a' → a'.tmps.size = N → a'.defers = ds → tm'.d = tm.d → tm'.p = tm.p → K a' w') :
    if Region.wanted o (yielded ops a.tmps) then o.wp P a w K Q ∨ (o.asks P a w ∧ LetsOut Q) else K (a.put o.dst undef) w := by
  have := operW_ok hq hc hH h hr hf ht hN hd K Q hK
  split
  · rename_i hw; rw [if_pos hw] at this; exact .inl this
  · rename_i hw; rw [if_neg hw] at this; exact this
/-- what is deferred -/
inductive DfR (P : Program) (ρ : Nat → Value) (m : BMap) : List AV → List Deferred → Prop where
  | nil : DfR P ρ m [] []
  | cons (f : FuncId) (l : List AV) (fv : Fn) (cap dargs us : Array Value) (ds : List AV) (es : List Deferred) (hi : ∀ w : World, (invoke (.fn fv cap) dargs).run P w = .ok (.enter f us) w) (hl : LR ρ m l us.toList) (h : DfR P ρ m ds es) :
      DfR P ρ m (.fn (.func f) l [] :: ds) ({ target := .fn fv cap, args := dargs } :: es)
theorem DfR.ext {m' : BMap} {l : List AV} {r : List Deferred} (h : DfR P ρ m l r) (he : Ext m m') : DfR P ρ m' l r := by
  induction h with
  | nil => exact .nil
  | cons f l fv cap dargs us ds es hi hl _ ih => exact .cons f l fv cap dargs us ds es hi (hl.ext he) ih
theorem defer_ok {tm : Tm} {a : Act} {c : Call} {ty : TypeId} {st st' : ASt} {v : AV} {w : World} (ht : TmR ρ m tm a) (h : deferA P tm c st = some (v, st')) :
    st' = st ∧ ∃ d, (resolve a.eval c ty).run P w = .ok d w ∧ ∀ ds es, DfR P ρ m ds es → DfR P ρ m (v :: ds) (d :: es) := by
  unfold deferA at h
  obtain ⟨args, hargs, h⟩ := optb_eq h
  have hl : LR ρ m args (c.args.map a.eval).toList := by rw [Array.toList_map]; exact avals_ok ht hargs
  cases hcal : c.callee with
  | value fo =>
    rw [hcal] at h
    dsimp only at h
    obtain ⟨fv, hfv, h⟩ := optb_eq h
    have hvf := aval_ok hfv ht
    generalize hev : a.eval fo = ev at hvf
    cases hvf with
    | fn f first cap u1 u2 h1 h2 =>
      cases f with
      | func f =>
        dsimp only at h
        cases hfn : P.funcs[f]? with
        | none => rw [hfn] at h; cases h
        | some fn =>
          rw [hfn] at h
          dsimp only at h
          cases hb : (fn.name == "runtime.NumGoroutine" || fn.body.isNone) with
          | true => rw [hb] at h; cases h
          | false =>
            rw [hb, cond_false] at h
            cases h
            simp only [Bool.or_eq_false_iff] at hb
            have hb1 : ¬ fn.name = "runtime.NumGoroutine" := by simpa using hb.1
            have hb2 : ¬ fn.body = none := by
              intro e0; rw [e0] at hb; cases hb.2
            refine ⟨rfl, { target := .fn (.func f) u2, args := u1 ++ c.args.map a.eval }, by simp only [resolve, hcal, hev, Deferred.ofValue, Sem.run_pure], fun ds es hd => .cons f _ _ _ _ (u1 ++ c.args.map a.eval ++ u2) _ _ (fun w => ?_) ?_ hd⟩
            · simp [invoke, callFunc, program, Sem.run, hfn, hb1, hb2]
            · rw [Array.toList_append, Array.toList_append]
              exact (h1.append hl).append h2
      | _ => cases h
    | _ => cases h
  | builtin b => rw [hcal] at h; cases h
  | invoke r name => rw [hcal] at h; cases h
/-- an operation of a region that is not drawn -/
theorem operP_ok {H : Hooks} {e : Ex} {N : Nat} {ops : Array Oper} {o : Oper} {tm tm' : Tm} {a : Act} {st st' : ASt} {w : World} (hq : Opq ρ) (hc : CallOk P ρ w0 base e.call) (hH : HookOk P ρ w0 base H)
    (h : operP P H e N ops o tm st = some (tm', st')) (hr : Rel ρ w0 base m st.heap.get w) (hf : Fresh m st.next st'.next) (ht : TmR ρ m tm a) (hN : a.tmps.size = N) (hd : DfR P ρ m tm.d a.defers) (hp : tm.p = none)
    (K : Act → World → Prop) (Q : Exit → Act → World → Prop) (hK : tm'.p = none → ∀ a' w' m', Ext m m' → Dom m m' st.next st'.next → Rel ρ w0 base m' st'.heap.get w' → TmR ρ m' tm' a' → a'.tmps.size = N → DfR P ρ m' tm'.d a'.defers → K a' w')
    (hQ : ∀ x, tm'.p = some x → ∀ a' w' m' u, Ext m m' → Dom m m' st.next st'.next → Rel ρ w0 base m' st'.heap.get w' → TmR ρ m' tm' a' → a'.tmps.size = N → DfR P ρ m' tm'.d a'.defers → VR ρ m' x u → Q (.panic [{ v := u, recovered := false }]) a' w') :
    if Region.wanted o (yielded ops a.tmps) then o.wp P a w K Q ∨ (o.asks P a w ∧ LetsOut Q) else K (a.put o.dst undef) w := by
  -- an operation that is not wanted
  have skip : ∀ {tm2 : Tm} {s2 : ASt}, putA N tm o.dst undefA st = some (tm2, s2) → tm2 = tm' → s2 = st' → K (a.put o.dst undef) w := by
    intro tm2 s2 g e1 e2
    subst e1 e2
    have hst := put_same g
    subst hst
    obtain ⟨h1, h2, h3, h4, h5⟩ := put_ok ht hN rfl (Ext.refl m) (.tup _ _ .nil : VR ρ m undefA undef) ⟨_, _, g⟩
    exact hK (by rw [h5, hp]) _ w m (Ext.refl m) (fun A h1 h2 => absurd h1 h2) hr h1 h2 (by have h3' : (a.put o.dst undef).defers = a.defers := h3; rw [h3', h4]; exact hd)
  have plain : operA P H e N ops o tm st = some (tm', st') → if Region.wanted o (yielded ops a.tmps) then o.wp P a w K Q ∨ (o.asks P a w ∧ LetsOut Q) else K (a.put o.dst undef) w := fun h =>
    oper_ok hq hc hH h hr hf ht hN rfl K Q (fun a' w' m' e1 e2 e3 e4 e5 e6 e7 e8 => hK (by rw [e8, hp]) a' w' m' e1 e2 e3 e4 e5 (by rw [e6, e7]; exact hd.ext e1))
  unfold operP at h
  cases hop : o.op with
  | defer c =>
    rw [hop] at h
    dsimp only at h
    cases hw : wantA ops o tm with
    | none => rw [hw] at h; cases h
    | some b =>
      rw [hw] at h
      rw [want_ok ht b hw]
      cases b with
      | false => rw [if_neg (by simp)]; exact skip h rfl rfl
      | true =>
        rw [if_pos rfl]
        left
        dsimp only at h
        obtain ⟨x, s1, h1, h2⟩ := bnd_eq h
        obtain ⟨tm1, s2, h3, h4⟩ := bnd_eq h2
        cases h4
        obtain ⟨rfl, d, hrun, hdf⟩ := defer_ok (ty := o.type) (w := w) ht h1
        have hst := put_same h3
        subst hst
        obtain ⟨g1, g2, g3, g4, g5⟩ := put_ok (a := { a with defers := d :: a.defers }) (ds := d :: a.defers) (show TmR ρ m tm { a with defers := d :: a.defers } from ht) hN rfl (Ext.refl m) (.tup _ _ .nil : VR ρ m undefA undef) ⟨_, _, h3⟩
        unfold Oper.wp
        have hex : (execOp a.eval o).run P w = .ok (.defer d) w := by
          have : execOp a.eval o = (resolve a.eval c o.type >>= fun d => pure (.defer d)) := by unfold execOp; rw [hop]
          rw [this, Sem.run_bind, hrun, Result.andThen_ok, Sem.run_pure]
        rw [hex, Oper.upon_defer]
        exact hK (by show tm1.p = none; rw [g5, hp]) _ w m (Ext.refl m) (fun A h1 h2 => absurd h1 h2) hr g1 g2 (by have g3' : (({ a with defers := d :: a.defers } : Act).put o.dst undef).defers = d :: a.defers := g3; rw [g3']; show DfR P ρ m (x :: tm1.d) _; rw [g4]; exact hdf _ _ hd)
  | panic x =>
    rw [hop] at h
    dsimp only at h
    cases hw : wantA ops o tm with
    | none => rw [hw] at h; cases h
    | some b =>
      rw [hw] at h
      rw [want_ok ht b hw]
      cases b with
      | false => rw [if_neg (by simp)]; exact skip h rfl rfl
      | true =>
        rw [if_pos rfl]
        left
        dsimp only at h
        obtain ⟨v, hv, h⟩ := optb_eq h
        have hvr := aval_ok hv ht
        cases v with
        | ifc t y =>
          cases h
          generalize hev : a.eval x = ev at hvr
          cases hvr with | ifc _ _ yv hy => _
          unfold Oper.wp
          have hex : (execOp a.eval o).run P w = .halt (.panic (.iface t yv)) w := by
            have : execOp a.eval o = (Instr.panic (a.eval x) >>= fun v => pure (.value v)) := by unfold execOp; rw [hop]
            rw [this, hev]
            rfl
          rw [hex, Oper.upon_panic]
          exact hQ _ rfl a w m _ (Ext.refl m) (fun A h1 h2 => absurd h1 h2) hr ht hN hd (.ifc _ _ _ hy)
        | _ => cases h
  | call c =>
    rw [hop] at h
    dsimp only at h
    cases hw : wantA ops o tm with
    | none => rw [hw] at h; cases h
    | some b =>
      rw [hw] at h
      rw [want_ok ht b hw]
      cases b with
      | false => rw [if_neg (by simp)]; exact skip h rfl rfl
      | true =>
        rw [if_pos rfl]
        left
        dsimp only at h
        obtain ⟨v, st1, h1, h2⟩ := bnd_eq h
        rw [← hop] at h1
        by_cases hpn : ∃ x, v = .pan x
        · obtain ⟨x, rfl⟩ := hpn
          cases h2
          rcases op_ok hq hc hH h1 hr hf ht with hu | hu
          · refine hu o a K Q (fun v' w' m' _ _ _ hv => by cases hv) (fun y u w' m' e e1 e2 e3 hv => ?_)
            cases e
            exact hQ _ rfl a w' m' u e1 e2 e3 (ht.ext e1) hN (hd.ext e1) hv
          · exact hu K Q (fun v' w' m' _ _ _ hv => by cases hv)
        · have h2' : putA N tm o.dst v st1 = some (tm', st') := by
            cases v with
            | pan x => exact absurd ⟨x, rfl⟩ hpn
            | _ => exact h2
          have hst := put_same h2'
          subst hst
          have fin : ∀ v' w' m', Ext m m' → Dom m m' st.next st'.next → Rel ρ w0 base m' st'.heap.get w' → VR ρ m' v v' → K (a.put o.dst v') w' := fun v' w' m' e1 e2 e3 e4 => by
            obtain ⟨g1, g2, g3, g4, g5⟩ := put_ok ht hN rfl e1 e4 ⟨_, _, h2'⟩
            exact hK (by rw [g5, hp]) _ w' m' e1 e2 e3 g1 g2 (by rw [g3, g4]; exact hd.ext e1)
          rcases op_ok hq hc hH h1 hr hf ht with hu | hu
          · exact hu o a K Q fin (fun x u w' m' e => absurd ⟨x, e⟩ hpn)
          · exact hu K Q fin
  | _ => rw [hop] at h; exact plain h
end
end Go.Proofs.YtckmcajnhobkpaaGreatDoor.Zz
