/- ExU ExV ExW ExH ExX -/
import Derived.Test.YtbecmcjibpamoaaGreatDoorQ31
import Derived.Maps.RangeRun
import Derived.Recover
import Derived.Test.YtbecmcjibpamoaaGreatDoorQ28
import Derived.Lib.Bytealg
import Derived.Laws.Externs
set_option linter.unusedVariables false
set_option linter.unusedSimpArgs false
set_option linter.deprecated false
set_option linter.unnecessarySimpa false
namespace Go.Proofs.YtbecmcjibpamoaaGreatDoor.Zz
open Go Go.RowKit
section
variable {P : Program} {ρ : Nat → Value} {w0 : World} {base : Nat} {m : BMap}
theorem Dom.trans {a b c : BMap} {l k h : Nat} (h1 : Dom a b l k) (h2 : Dom b c k h) (hl : l ≤ k) (hk : k ≤ h) : Dom a c l h := fun A e1 e2 => by
  cases hb : b A with
  | none => have := h2 A hb e2; omega
  | some p => have := h1 A e1 (by rw [hb]; simp); omega
theorem Fresh.rest {a b : BMap} {l k h : Nat} (hf : Fresh a l h) (hd : Dom a b l k) (hl : l ≤ k) : Fresh b k h := fun A e1 e2 => by
  have := hf A (by omega) e2
  cases hb : b A with
  | none => rfl
  | some p => have := hd A this (by rw [hb]; simp); omega
structure At (P : Program) (ρ : Nat → Value) (w0 : World) (base N : Nat) (m : BMap) (st : ASt) (tm : Tm) (a : Act) (w : World) : Prop where
  rel : Rel ρ w0 base m st.heap.get w
  tmr : TmR ρ m tm a
  size : a.tmps.size = N
  defers : DfR P ρ m tm.d a.defers
def Post (P : Program) (ρ : Nat → Value) (w0 : World) (base N : Nat) (m : BMap) (st st' : ASt) (tm' : Tm) (K : BMap → Act → World → Prop) : Prop :=
  ∀ a' w' m', Ext m m' → Dom m m' st.next st'.next → At P ρ w0 base N m' st' tm' a' w' → K m' a' w'
def QX (ρ : Nat → Value) (Q : Exit → Act → World → Prop) (x : Exit) (tm : Tm) (m : BMap) (a : Act) (w : World) : Prop := match x with
  | .panic _ => ∀ p u, tm.p = some p → VR ρ m p u → Q (.panic [{ v := u, recovered := false }]) a w
  | x => Q x a w
theorem QX_p {Q : Exit → Act → World → Prop} {x : Exit} {tm tm' : Tm} (h : tm.p = tm'.p) : QX ρ Q x tm = QX ρ Q x tm' := by
  funext m a w
  unfold QX
  rw [h]
def QE (ρ : Nat → Value) (Q : Exit → Act → World → Prop) (tm : Tm) (m : BMap) (a : Act) (w : World) : Prop := match tm.p with
  | some p => ∀ u, VR ρ m p u → Q (.panic [{ v := u, recovered := false }]) a w
  | none => Q .normal a w
theorem endP_eq {tm tm' : Tm} {x : Exit} {st st' : ASt} (h : endP tm st = some ((x, tm'), st')) : tm' = tm ∧ st' = st ∧ ∀ (Q : Exit → Act → World → Prop) m a w, QX ρ Q x tm m a w → QE ρ Q tm m a w := by
  unfold endP at h
  cases hp : tm.p with
  | none =>
    rw [hp] at h; cases h
    refine ⟨rfl, rfl, fun Q m a w hx => ?_⟩
    unfold QE; rw [hp]; exact hx
  | some p =>
    rw [hp] at h; cases h
    refine ⟨rfl, rfl, fun Q m a w hx => ?_⟩
    unfold QE; rw [hp]; exact fun u hu => hx p u hp hu
theorem fr_next {α : Type} {x : M α} (hx : Fr x) {st st' : ASt} {a : α} (h : x st = some (a, st')) : st.next ≤ st'.next := by
  obtain ⟨L, q⟩ := hx st a st' h
  exact q.next
theorem ops_ok {H : Hooks} {e : Ex} {N : Nat} {ops : Array Oper} (hq : Opq ρ) (hc : CallOk P ρ w0 base e.call) (hH : HookOk P ρ w0 base H) (hFH : FrH H) (hFE : FrE e) {Q : Exit → Act → World → Prop} :
    ∀ (l : List Nat) (os : List Oper) (m : BMap) (st st' : ASt) (tm tm' : Tm) (a : Act) (w : World), (∀ k : Nat, l[k]?.bind (ops[·]?) = os[k]?) → l.length = os.length → opsP P H e N ops os tm st = some (tm', st') → tm.p = none → At P ρ w0 base N m st tm a w → Fresh m st.next st'.next →
      Post P ρ w0 base N m st st' tm' (QE ρ Q tm') → wpOps P ops Q l a w
  | [], [], m, st, st', tm, tm', a, w, _, _, h, hp, hA, hf, hP => by
    cases h
    have := hP a w m (Ext.refl m) (fun A h1 h2 => absurd h1 h2) hA
    unfold QE at this
    rw [hp] at this
    exact this
  | [], _ :: _, _, _, _, _, _, _, _, _, h, _, _, _, _, _ => by cases h
  | _ :: _, [], _, _, _, _, _, _, _, _, h, _, _, _, _, _ => by cases h
  | i :: l, o :: os, m, st, st', tm, tm', a, w, hi, hl, h, hp, hA, hf, hP => by
    unfold opsP at h
    obtain ⟨tm1, st1, h1, h2⟩ := bnd_eq h
    have h0 := hi 0
    simp only [List.getElem?_cons_zero, Option.bind_some] at h0
    have n1 := fr_next (Fr.operP P hFH hFE N ops o tm) h1
    have n2 : st1.next ≤ st'.next := by
      cases hp1 : tm1.p with
      | some p => rw [hp1] at h2; cases h2; exact Nat.le_refl _
      | none => rw [hp1] at h2; exact fr_next (Fr.opsP P hFH hFE N ops os tm1) h2
    have := operP_ok hq hc hH h1 hA.rel (fun A e1 e2 => hf A e1 (by omega)) hA.tmr hA.size hA.defers hp (wpOps P ops Q l) Q (fun hp1 a' w' m' e1 e2 e3 e4 e5 e6 => by
      rw [hp1] at h2
      refine ops_ok hq hc hH hFH hFE l os m' st1 st' tm1 tm' a' w' (fun k => by simpa using hi (k + 1)) (by simpa using hl) h2 hp1 ⟨e3, e4, e5, e6⟩ (hf.rest e2 n1) ?_
      intro a2 w2 m2 f1 f2 f3
      exact hP a2 w2 m2 (e1.trans f1) (e2.trans f2 n1 n2) f3) (fun x hp1 a' w' m' u e1 e2 e3 e4 e5 e6 e7 => by
      rw [hp1] at h2
      cases h2
      have := hP a' w' m' e1 e2 ⟨e3, e4, e5, e6⟩
      unfold QE at this
      rw [hp1] at this
      exact this u e7)
    unfold wpOps
    rw [h0]
    exact this
def DrawOk (P : Program) (ρ : Nat → Value) (w0 : World) (base : Nat) (H : Hooks) (e : Ex) : Prop :=
  ∀ (N id : Nat) (ops : Array Oper) (m : BMap) (st st' : ASt) (tm tm' : Tm) (logs : List (List Nat)) (a : Act) (w : World) (Q : Exit → Act → World → Prop),
    drawA P H e N ops ops.toList tm st = some ((tm', logs), st') → allOk ops ops.toList logs 0 ops.toList (ancs ops.toList) logs = true → At P ρ w0 base N m st tm a w → Fresh m st.next st'.next →
      Post P ρ w0 base N m st st' tm' (fun _ => Q .normal) → (Code.region id ops true).wp P Q a w
theorem exists_least (p : Nat → Prop) (h : ∃ k, p k) : ∃ k, p k ∧ ∀ j, p j → k ≤ j := by
  obtain ⟨k, hk⟩ := h
  induction k using Nat.strongRecOn with
  | _ k ih =>
    by_cases hj : ∃ j, j < k ∧ p j
    · obtain ⟨j, h1, h2⟩ := hj
      exact ih j h1 h2
    · exact ⟨k, hk, fun j hpj => by
        rcases Nat.lt_or_ge j k with h | h
        · exact absurd ⟨j, h, hpj⟩ hj
        · exact h⟩
def CodeOk (P : Program) (ρ : Nat → Value) (w0 : World) (base : Nat) (H : Hooks) (c : Code) : Prop :=
  ∀ (n : Nat), (∀ k, k ≤ n → CallOk P ρ w0 base (exec P H k).call ∧ DrawOk P ρ w0 base H (exec P H k)) →
    ∀ (N : Nat) (m : BMap) (st st' : ASt) (tm tm' : Tm) (x : Exit) (a : Act) (w : World) (Q : Exit → Act → World → Prop), codeA P H (exec P H n) N c tm st = some ((x, tm'), st') → At P ρ w0 base N m st tm a w → Fresh m st.next st'.next →
      Post P ρ w0 base N m st st' tm' (QX ρ Q x tm') → c.wp P Q a w
structure Weak (st : ASt) (tm : Tm) (st' : ASt) (tm' : Tm) : Prop where
  heap : ∀ A b, st.heap.get A = some b → st'.heap.get A = some b
  tmr : ∀ t, tm.get t = some none ∨ tm.get t = tm'.get t
  next : st'.next ≤ st.next
  d : tm.d = tm'.d
  p : tm.p = tm'.p
theorem Weak.refl (st : ASt) (tm : Tm) : Weak st tm st tm := ⟨fun _ _ h => h, fun _ => .inr rfl, Nat.le_refl _, rfl, rfl⟩
theorem Weak.trans {s1 s2 s3 : ASt} {t1 t2 t3 : Tm} (h : Weak s1 t1 s2 t2) (k : Weak s2 t2 s3 t3) : Weak s1 t1 s3 t3 :=
  ⟨fun A b e => k.heap A b (h.heap A b e), fun t => by
    rcases h.tmr t with e | e
    · exact .inl e
    · rcases k.tmr t with e2 | e2
      · exact .inl (e.trans e2)
      · exact .inr (e.trans e2), Nat.le_trans k.next h.next, h.d.trans k.d, h.p.trans k.p⟩
theorem Weak.at {N : Nat} {s1 s2 : ASt} {t1 t2 : Tm} {a : Act} {w : World} (h : Weak s1 t1 s2 t2) (k : At P ρ w0 base N m s2 t2 a w) : At P ρ w0 base N m s1 t1 a w :=
  ⟨⟨fun A b e => k.rel.blk A b (h.heap A b e), fun A B x y p q e1 e2 e3 e4 e5 e6 e7 => k.rel.sep A B x y p q (h.heap _ _ e1) (h.heap _ _ e2) e3 e4 e5 e6 e7, k.rel.old, k.rel.le⟩, fun t => by
    have := k.tmr t
    rcases h.tmr t with e | e
    · rw [e]; trivial
    · rw [e]; exact this, k.size, by rw [h.d]; exact k.defers⟩
theorem Weak.post {N : Nat} {s0 s1 s2 : ASt} {t1 t2 : Tm} {K : BMap → Act → World → Prop} (h : Weak s1 t1 s2 t2) (k : Post P ρ w0 base N m s0 s1 t1 K) : Post P ρ w0 base N m s0 s2 t2 K :=
  fun a w m' e1 e2 e3 => k a w m' e1 (fun A h1 h2 => by have := e2 A h1 h2; have := h.next; omega) (h.at e3)
theorem bothB_left {x y : Option ABlk} {b : ABlk} (h : bothB x y = some b) : x = some b ∧ y = some b := by
  cases x with
  | none => cases h
  | some p =>
    cases y with
    | none => cases h
    | some q =>
      have h' : (bif eqBlk p q then some p else none) = some b := h
      cases he : eqBlk p q with
      | false => rw [he] at h'; cases h'
      | true => rw [he] at h'; cases h'; exact ⟨rfl, by rw [← eqBlk_eq he]⟩
theorem bothT_left (x y : Option (Option AV)) : (bothT x y = some none ∨ bothT x y = x) ∧ (bothT x y = some none ∨ bothT x y = y) := by
  cases x with
  | none => cases y <;> simp [bothT]
  | some x =>
    cases x with
    | none => cases y <;> simp [bothT]
    | some x =>
      cases y with
      | none => simp [bothT]
      | some y =>
        cases y with
        | none => simp [bothT]
        | some y =>
          have h' : bothT (some (some x)) (some (some y)) = (bif eqAV x y then some (some x) else some none) := rfl
          rw [h']
          cases he : eqAV x y with
          | false => simp
          | true => rw [eqAV_eq he]; simp
theorem join2_weak {x y : M (Exit × Tm)} {s sF : ASt} {ex : Exit} {t : Tm} (h : join2 x y s = some ((ex, t), sF)) :
    (∃ t1 s1, x s = some ((ex, t1), s1) ∧ Weak sF t s1 t1) ∧ ∃ s' t2 s2, s'.heap = s.heap ∧ s'.next = s.next ∧ y s' = some ((ex, t2), s2) ∧ Weak sF t s2 t2 := by
  unfold join2 at h
  cases h1 : x s with
  | none => rw [h1] at h; cases h
  | some p =>
    obtain ⟨⟨ex1, t1⟩, s1⟩ := p
    rw [h1] at h
    dsimp only at h
    cases h2 : y ⟨s.heap, s.next, s1.log⟩ with
    | none => rw [h2] at h; cases h
    | some p2 =>
      obtain ⟨⟨ex2, t2⟩, s2⟩ := p2
      rw [h2] at h
      dsimp only at h
      cases he : (exEq ex1 ex2 && eqAVs t1.d t2.d && (t1.p.isNone && t2.p.isNone)) with
      | false => rw [he] at h; cases h
      | true =>
        rw [he, cond_true] at h
        cases h
        obtain ⟨he12, he3⟩ := Bool.and_eq_true _ _ |>.mp he
        obtain ⟨he1, he2⟩ := Bool.and_eq_true _ _ |>.mp he12
        obtain ⟨he4, he5⟩ := Bool.and_eq_true _ _ |>.mp he3
        have hee := exEq_eq he1
        subst hee
        have hdd := eqAVs_eq he2
        have hp1 : t1.p = none := by simpa using he4
        have hp2 : t2.p = none := by simpa using he5
        have hle : s1.next ≤ (bif Nat.ble s1.next s2.next then s2.next else s1.next) ∧ s2.next ≤ (bif Nat.ble s1.next s2.next then s2.next else s1.next) := by
          cases hb : Nat.ble s1.next s2.next with
          | true => have := Nat.le_of_ble_eq_true hb; simp; omega
          | false =>
            have : ¬ s1.next ≤ s2.next := fun hle => by rw [Nat.ble_eq_true_of_le hle] at hb; cases hb
            simp; omega
        refine ⟨⟨t1, s1, rfl, fun A b e => ?_, fun t => ?_, hle.1, rfl, hp1.symm⟩, ⟨⟨s.heap, s.next, s1.log⟩, t2, s2, rfl, rfl, h2, fun A b e => ?_, fun t => ?_, hle.2, hdd, hp2.symm⟩⟩
        · rw [Hp.get_zip rfl] at e; exact (bothB_left e).1
        · show (Hp.zip bothT t1.t t2.t).get t = _ ∨ (Hp.zip bothT t1.t t2.t).get t = t1.t.get t
          rw [Hp.get_zip rfl]; exact (bothT_left _ _).1
        · rw [Hp.get_zip rfl] at e; exact (bothB_left e).2
        · show (Hp.zip bothT t1.t t2.t).get t = _ ∨ (Hp.zip bothT t1.t t2.t).get t = t2.t.get t
          rw [Hp.get_zip rfl]; exact (bothT_left _ _).2
theorem joinAll_weak : ∀ {l : List (M (Exit × Tm))} {x : M (Exit × Tm)} {s sF : ASt} {ex : Exit} {t : Tm}, joinAll x l s = some ((ex, t), sF) →
    ∀ y ∈ x :: l, ∃ s' t2 s2, s'.heap = s.heap ∧ s'.next = s.next ∧ y s' = some ((ex, t2), s2) ∧ Weak sF t s2 t2
  | [], x, s, sF, ex, t, h, y, hy => by
    simp at hy
    subst hy
    exact ⟨s, t, sF, rfl, rfl, h, Weak.refl _ _⟩
  | z :: l, x, s, sF, ex, t, h, y, hy => by
    obtain ⟨⟨t1, s1, h1, w1⟩, s', t2, s2, e1, e2, h2, w2⟩ := join2_weak h
    rcases List.mem_cons.1 hy with e | e
    · subst e
      exact ⟨s, t1, s1, rfl, rfl, h1, w1⟩
    · obtain ⟨s3, t3, s4, f1, f2, f3, f4⟩ := joinAll_weak h2 y e
      exact ⟨s3, t3, s4, f1.trans e1, f2.trans e2, f3, w2.trans f4⟩
def nextTup : Option (AV × AV × Nat) → AV
  | none => .tup [.bool false]
  | some (k, u, _) => .tup [.bool true, k, u]
def nextIt (am : Option Nat) (since : Nat) (seen : List Nat) (last clk : Nat) : Option (AV × AV × Nat) → ABlk
  | none => .miter am since seen last
  | some (_, _, n) => .miter am since (seen ++ [n]) clk
theorem round_ok {H : Hooks} (hq : Opq ρ) (hH : HookOk P ρ w0 base H) (hFH : FrH H) {id : Nat} {ops : Array Oper} {rest : Code} {o : Oper} {os : List Oper} {x : Operand} (hops : ops.toList = o :: os) (hop : o.op = .next x false) (hg : o.guard = none)
    (hrest : CodeOk P ρ w0 base H rest) (n : Nat) (hn : ∀ k, k ≤ n → CallOk P ρ w0 base (exec P H k).call ∧ DrawOk P ρ w0 base H (exec P H k))
    {N : Nat} {st1 stf st2 : ASt} {tm1 tm2 : Tm} {x2 : Exit} {a : Act} {w w1 : World} {Q : Exit → Act → World → Prop} {A : Nat} {am : Option Nat} {since last clk : Nat} {seen : List Nat} {c : Option (AV × AV × Nat)} {v : Value}
    (h : codeA P H (exec P H n) N (.seq (.region id ops false) rest) tm1 stf = some ((x2, tm2), st2)) (hx : aval tm1 x = some (.ptr A 0)) (hF : stf.heap.get = upd st1.heap.get A (.mforce am since seen last c clk)) (hn' : stf.next = st1.next)
    (hA : At P ρ w0 base N m st1 tm1 a w) (hrun : (Instr.next (a.eval x) false o.type).run P w = .ok v w1) (hv : VR ρ m (nextTup c) v) (hrel : Rel ρ w0 base m (upd st1.heap.get A (nextIt am since seen last clk c)) w1)
    (hf : Fresh m st1.next st2.next) (hP : Post P ρ w0 base N m st1 st2 tm2 (QX ρ Q x2 tm2)) : (Code.seq (.region id ops false) rest).wp P Q a w := by
  simp only [codeA] at h
  obtain ⟨⟨x3, tm3⟩, st3, h1, h2⟩ := bnd_eq h
  cases hp1 : tm1.p with
  | some p => rw [hp1] at h1; cases h1
  | none =>
  rw [hp1] at h1
  dsimp only at h1
  obtain ⟨tm4, st4, h3, h4⟩ := bnd_eq h1
  obtain ⟨rfl, rfl, hqe⟩ := endP_eq (ρ := ρ) h4
  dsimp only at h2
  rw [hops] at h3
  unfold opsP at h3
  obtain ⟨tm5, st5, g1, g2⟩ := bnd_eq h3
  have g1 : operA P H (exec P H n) N ops o tm1 stf = some (tm5, st5) := by
    unfold operP at g1
    rw [hop] at g1
    exact g1
  -- the first operation
  have hput : putA N tm1 o.dst (nextTup c) st5 = some (tm5, st5) ∧ st5.heap.get = upd st1.heap.get A (nextIt am since seen last clk c) ∧ st5.next = st1.next := by
    unfold operA at g1
    have hw : wantA ops o tm1 = some true := by unfold wantA; rw [hg]
    rw [hw] at g1
    dsimp only at g1
    obtain ⟨u, s6, k1, k2⟩ := bnd_eq g1
    have k2 : putA N tm1 o.dst u s6 = some (tm5, st5) := by
      cases u with
      | pan x => cases k2
      | _ => exact k2
    unfold askA at k1
    rw [hop] at k1
    dsimp only [oraKey] at k1
    unfold opA at k1
    rw [hop] at k1
    dsimp only at k1
    rw [hx] at k1
    obtain ⟨u2, e1, k1⟩ := optb_eq k1
    cases e1
    obtain ⟨blk, s7, j1, j2⟩ := bnd_eq k1
    obtain ⟨r1, r2, r3⟩ := rd_eq j1
    rw [hF, upd_same] at r1
    cases r1
    dsimp only at j2
    have hs6 : s6.heap.get = upd st1.heap.get A (nextIt am since seen last clk c) ∧ s6.next = st1.next ∧ u = nextTup c := by
      cases c with
      | none =>
        dsimp only at j2
        obtain ⟨_, s8, p1, p2⟩ := bnd_eq j2
        cases p2
        obtain ⟨q1, q2⟩ := wr_eq p1
        refine ⟨?_, by rw [q2, r3, hn'], rfl⟩
        rw [q1, get_upd, r2, hF]
        funext B
        unfold upd nextIt
        split <;> rfl
      | some c =>
        obtain ⟨k, uu, nb⟩ := c
        dsimp only at j2
        obtain ⟨_, s8, p1, p2⟩ := bnd_eq j2
        cases p2
        obtain ⟨q1, q2⟩ := wr_eq p1
        refine ⟨?_, by rw [q2, r3, hn'], rfl⟩
        rw [q1, get_upd, r2, hF]
        funext B
        unfold upd nextIt
        split <;> rfl
    obtain ⟨b1, b2, b3⟩ := hs6
    subst b3
    have hst : st5 = s6 := by
      unfold putA at k2
      cases hds : o.dst with
      | none => rw [hds] at k2; cases k2; rfl
      | some d =>
        rw [hds] at k2
        simp only at k2
        cases hlt : Nat.blt d N with
        | false => rw [hlt] at k2; cases k2
        | true => rw [hlt] at k2; cases k2; rfl
    subst hst
    exact ⟨k2, b1, b2⟩
  obtain ⟨hput, hh5, hn5⟩ := hput
  have hA5 : At P ρ w0 base N m st5 tm5 (a.put o.dst v) w1 ∧ tm5.p = none := by
    obtain ⟨q1, q2, q3, q4, q5⟩ := put_ok hA.tmr hA.size rfl (Ext.refl m) hv ⟨_, _, hput⟩
    exact ⟨⟨by rw [hh5]; exact hrel, q1, q2, by rw [q3, q4]; exact hA.defers⟩, by rw [q5, hp1]⟩
  obtain ⟨hA5, hp5⟩ := hA5
  rw [hp5] at g2
  dsimp only at g2
  have n3 := fr_next (Fr.opsP P hFH (FrE.exec P hFH n) N ops os tm5) g2
  have n4 : st3.next ≤ st2.next := by
    cases x3 <;> first | exact fr_next (Fr.codeA P hFH (FrE.exec P hFH n) N rest tm3) h2 | (cases h2; exact Nat.le_refl _)
  have hsz : ops.size = os.length + 1 := by rw [← Array.length_toList, hops]; rfl
  refine wp_seq (wp_region ?_)
  rw [hsz, List.range_succ_eq_map]
  unfold wpOps
  have h0 : ops[0]? = some o := by rw [← Array.getElem?_toList, hops]; rfl
  rw [h0]
  dsimp only
  have hwt : Region.wanted o (yielded ops a.tmps) = true := by unfold Region.wanted; rw [hg]
  rw [if_pos hwt]
  refine .inl ?_
  unfold Oper.wp
  have hex : (execOp a.eval o).run P w = .ok (.value v) w1 := by
    obtain ⟨dst, op, ty, pos, after, guard⟩ := o
    simp only at hop hg hrun
    subst hop
    simp [execOp, hrun]
  rw [hex, Oper.upon_value]
  refine ops_ok hq (hn n (Nat.le_refl n)).1 hH hFH (FrE.exec P hFH n) _ os m st5 st3 tm5 tm3 (a.put o.dst v) w1 (fun k => ?_) (by simp) g2 hp5 hA5 (fun B e1 e2 => hf B (by omega) (by omega)) ?_
  · rw [List.getElem?_map]
    rcases Nat.lt_or_ge k os.length with hk | hk
    · rw [List.getElem?_range hk]
      simp only [Option.map_some, Option.bind_some]
      rw [← Array.getElem?_toList, hops]; rfl
    · rw [List.getElem?_eq_none (by simpa using hk), List.getElem?_eq_none hk]; rfl
  · intro a3 w3 m3 e1 e2 e3
    refine hqe _ m3 a3 w3 ?_
    cases x3 with
    | normal =>
      refine hrest n hn N m3 st3 st2 tm3 tm2 x2 a3 w3 Q h2 e3 (fun B b1 b2 => ?_) (fun a4 w4 m4 f1 f2 f3 => hP a4 w4 m4 (e1.trans f1) (fun B h1 h2 => ?_) f3)
      · have := hf B (by omega) b2
        cases hb : m3 B with
        | none => rfl
        | some p => have := e2 B this (by rw [hb]; simp); omega
      · cases hb : m3 B with
        | none => have := f2 B hb h2; omega
        | some p => have := e2 B h1 (by rw [hb]; simp); omega
    | _ =>
      cases h2
      exact hP a3 w3 m3 e1 (fun B h1 h2 => by have := e2 B h1 h2; omega) e3
theorem rangeOf_eq {b : Code} {x : Operand} (h : rangeOf b = some x) : ∃ id ops rest o os, b = .seq (.region id ops false) rest ∧ ops.toList = o :: os ∧ o.op = .next x false ∧ o.guard = none := by
  unfold rangeOf at h
  split at h
  · rename_i id ops rest
    split at h
    · rename_i o os ho
      split at h
      · rename_i y h1 h2
        cases h
        exact ⟨id, ops, rest, o, os, rfl, ho, h1, h2⟩
      · cases h
    · cases h
  · cases h
theorem elemN_iff {x : Nat} : ∀ {l : List Nat}, elemN x l = true ↔ x ∈ l
  | [] => by simp [elemN]
  | y :: l => by
    unfold elemN
    rw [Bool.or_eq_true, elemN_iff, List.mem_cons]
    simp
theorem mem_leftA {seen : List Nat} {k u : AV} {b : Nat} : ∀ {es : List (AV × AV × Nat)}, (k, u, b) ∈ leftA seen es ↔ (k, u, b) ∈ es ∧ b ∉ seen
  | [] => by simp [leftA]
  | (k0, u0, b0) :: es => by
    unfold leftA
    cases hb : elemN b0 seen with
    | true =>
      rw [cond_true, mem_leftA, List.mem_cons]
      have := elemN_iff.1 hb
      constructor
      · rintro ⟨h1, h2⟩; exact ⟨.inr h1, h2⟩
      · rintro ⟨h1 | h1, h2⟩
        · cases h1; exact absurd this h2
        · exact ⟨h1, h2⟩
    | false =>
      rw [cond_false, List.mem_cons, mem_leftA, List.mem_cons]
      have : b0 ∉ seen := fun h => by rw [elemN_iff.2 h] at hb; cases hb
      constructor
      · rintro (h1 | ⟨h1, h2⟩)
        · cases h1; exact ⟨.inl rfl, this⟩
        · exact ⟨.inr h1, h2⟩
      · rintro ⟨h1 | h1, h2⟩
        · exact .inl h1
        · exact .inr ⟨h1, h2⟩
def EntR (ρ : Nat → Value) (m : BMap) (es : List (AV × AV × Nat)) (es' : Array MapEntry) : Prop :=
  es.length = es'.size ∧ ∀ (i : Nat) (k v : AV) (b : Nat), es[i]? = some (k, v, b) → ∃ en : MapEntry, es'[i]? = some en ∧ en.born = b ∧ VR ρ m k en.key ∧ VR ρ m v en.val
theorem left_in {es : List (AV × AV × Nat)} {es' : Array MapEntry} {seen : List Nat} (h : EntR ρ m es es') {e : MapEntry} (he : e ∈ (leftOf es' seen.toArray).toList) : ∃ k u, (k, u, e.born) ∈ leftA seen es ∧ VR ρ m k e.key ∧ VR ρ m u e.val := by
  unfold leftOf at he
  have he' : e ∈ es' ∧ e.born ∉ seen := by simpa using he
  obtain ⟨i, hi⟩ := Array.mem_iff_getElem?.1 he'.1
  have hlt : i < es.length := by rw [h.1]; exact (Array.getElem?_eq_some_iff.1 hi).1
  obtain ⟨en, q1, q2, q3, q4⟩ := h.2 i es[i].1 es[i].2.1 es[i].2.2 (by simp [hlt])
  rw [hi] at q1
  cases q1
  exact ⟨es[i].1, es[i].2.1, mem_leftA.2 ⟨by rw [q2]; exact List.getElem_mem hlt, he'.2⟩, q3, q4⟩
theorem left_some {es : List (AV × AV × Nat)} {es' : Array MapEntry} {seen : List Nat} (h : EntR ρ m es es') {c : AV × AV × Nat} {l : List (AV × AV × Nat)} (hl : leftA seen es = c :: l) : (leftOf es' seen.toArray).size ≠ 0 := by
  obtain ⟨k, u, b⟩ := c
  have hm : (k, u, b) ∈ leftA seen es := by rw [hl]; simp
  obtain ⟨h1, h2⟩ := mem_leftA.1 hm
  obtain ⟨i, hi⟩ := List.mem_iff_getElem?.1 h1
  obtain ⟨en, q1, q2, q3, q4⟩ := h.2 i k u b hi
  have : en ∈ (leftOf es' seen.toArray) := by
    unfold leftOf
    simp
    exact ⟨Array.mem_of_getElem? q1, by rw [q2]; exact h2⟩
  intro h0
  rw [Array.eq_empty_of_size_eq_zero h0] at this
  simp at this
theorem before_all {since : Nat} : ∀ {es : List (AV × AV × Nat)}, allBefore since es = true → ∀ c ∈ es, c.2.2 < since
  | [], _, c, hc => by cases hc
  | (k, u, b) :: es, h, c, hc => by
    unfold allBefore at h
    obtain ⟨h1, h2⟩ := Bool.and_eq_true _ _ |>.mp h
    rcases List.mem_cons.1 hc with e | e
    · rw [e]; simpa using h1
    · exact before_all h2 c e
theorem set_block {w : World} {b : Nat} {o : Obj} {k : Nat} (hk : k ≠ b) : (Go.ChangeMaps.setBlock w b o).heap[k]? = w.heap[k]? := by
  show (w.heap.setIfInBounds b o)[k]? = _
  rw [Array.getElem?_setIfInBounds, if_neg (fun e => hk e.symm)]
theorem set_block_same {w : World} {b : Nat} {o : Obj} (hb : b < w.heap.size) : (Go.ChangeMaps.setBlock w b o).heap[b]? = some o := by
  show (w.heap.setIfInBounds b o)[b]? = _
  rw [Array.getElem?_setIfInBounds, if_pos rfl, if_pos hb]
theorem next_real {st : ASt} {w : World} {A i0 : Nat} {since last : Nat} {seen : List Nat} {mA : Nat} {es : List (AV × AV × Nat)} {clk : Nat} {ty : TypeId} {v : Value} (hr : Rel ρ w0 base m st.heap.get w) (hv : VR ρ m (.ptr A i0) v) (hi : i0 = 0)
    (h1 : st.heap.get A = some (.miter (some mA) since seen last)) (h2 : st.heap.get mA = some (.map es clk)) (hb : allBefore since es = true) (hs : since ≤ last) :
    ∃ c u w1, (Instr.next v false ty).run P w = .ok u w1 ∧ VR ρ m (nextTup c) u ∧ Rel ρ w0 base m (upd st.heap.get A (nextIt (some mA) since seen last clk c)) w1 ∧
      (match c with | none => leftA seen es = [] | some c => c ∈ leftA seen es) := by
  subst hi
  cases hv with | ptr _ _ b d z hA => _
  obtain ⟨p, f1, f2, f3, r, f4, f5⟩ := hr.blk A _ h1
  rw [hA] at f1; cases f1
  simp only at f3 f5
  subst f3
  obtain ⟨q, k1, rfl⟩ := f4
  obtain ⟨p', k1', k2', es', k3, k4, k5⟩ := hr.blk mA _ h2
  rw [k1] at k1'; cases k1'
  have hE : EntR ρ m es es' := ⟨k4, k5⟩
  have hold : ∀ x ∈ es'.toList, x.born < since := fun x hx => by
    obtain ⟨i, hi⟩ := Array.mem_iff_getElem?.1 (by simpa using hx : x ∈ es')
    have hlt : i < es.length := by rw [k4]; exact (Array.getElem?_eq_some_iff.1 hi).1
    obtain ⟨en, q1, q2, _, _⟩ := k5 i es[i].1 es[i].2.1 es[i].2.2 (by simp [hlt])
    rw [hi] at q1; cases q1
    rw [q2]
    exact before_all hb _ (List.getElem_mem hlt)
  have hbl : b < w.heap.size := by
    rcases Nat.lt_or_ge b w.heap.size with h' | h'
    · exact h'
    · rw [Array.getElem?_eq_none h'] at f5; cases f5
  rcases run_next_at (P := P) w ty b q.1 since last seen.toArray es' clk f5 k3 hold hs with ⟨g1, g2⟩ | ⟨e, g1, w1, g2, g3⟩
  · refine ⟨none, _, w, g2, .tup _ _ (.cons _ _ _ _ (.bool _) .nil), ?_, ?_⟩
    · have : upd st.heap.get A (nextIt (some mA) since seen last clk none) = st.heap.get := by
        funext B
        unfold upd nextIt
        split
        · rename_i e; rw [e, h1]
        · rfl
      rw [this]; exact hr
    · show leftA seen es = []
      cases hl : leftA seen es with
      | nil => rfl
      | cons c l => exact absurd g1 (left_some hE hl)
  · obtain ⟨k, u, j1, j2, j3⟩ := left_in hE g1
    have hr1 : Rel ρ w0 base m st.heap.get w1 := by rcases g2 with rfl | rfl <;> first | exact hr | exact hr.drew
    have hbl1 : b < w1.heap.size := by rcases g2 with rfl | rfl <;> exact hbl
    refine ⟨some (k, u, e.born), _, _, g3, .tup _ _ (.cons _ _ _ _ (.bool _) (.cons _ _ _ _ j2 (.cons _ _ _ _ j3 .nil))), ?_, j1⟩
    refine hr1.write h1 hA rfl (fun k hk => set_block hk) (by simp [Go.ChangeMaps.setBlock]) rfl rfl rfl ⟨rfl, some q.1, ⟨q, k1, rfl⟩, ?_⟩
    rw [show (seen ++ [e.born]).toArray = seen.toArray.push e.born by simp]
    exact set_block_same hbl1
theorem next_none {st : ASt} {w : World} {A i0 : Nat} {since last clk : Nat} {seen : List Nat} {ty : TypeId} {v : Value} (hr : Rel ρ w0 base m st.heap.get w) (hv : VR ρ m (.ptr A i0) v) (hi : i0 = 0)
    (h1 : st.heap.get A = some (.miter none since seen last)) :
    ∃ u w1, (Instr.next v false ty).run P w = .ok u w1 ∧ VR ρ m (nextTup none) u ∧ Rel ρ w0 base m (upd st.heap.get A (nextIt none since seen last clk none)) w1 := by
  subst hi
  cases hv with | ptr _ _ b d z hA => _
  obtain ⟨p, f1, f2, f3, r, f4, f5⟩ := hr.blk A _ h1
  rw [hA] at f1; cases f1
  simp only at f3 f5
  subst f3
  have f4' : r = none := f4
  subst f4'
  refine ⟨.tuple #[.bool false], w, ?_, .tup _ _ (.cons _ _ _ _ (.bool _) .nil), ?_⟩
  · simp [Instr.next, Go.getObj, Sem.run, f5]
  · have : upd st.heap.get A (nextIt none since seen last clk none) = st.heap.get := by
      funext B
      unfold upd nextIt
      split
      · rename_i e; rw [e, h1]
      · rfl
    rw [this]; exact hr
def afterA (e : Ex) (N : Nat) (b : Code) (x : Exit) (tm : Tm) : M (Exit × Tm) := match x with
  | .normal => e.loop N b tm
  | x => ret (x, tm)
theorem loop_ok {H : Hooks} (hq : Opq ρ) (hH : HookOk P ρ w0 base H) (hFH : FrH H) {b : Code} (ih : CodeOk P ρ w0 base H b) (iht : ∀ c1 c2, b = .seq c1 c2 → CodeOk P ρ w0 base H c2) : CodeOk P ρ w0 base H (.loop b) := by
  intro n hn N m st st' tm tm' x a w Q h hA hf hP
  let J : Nat → Act → World → Prop := fun k a w => k ≤ n ∧ ∃ m st tm stF tmF xF, codeA P H (exec P H k) N (.loop b) tm st = some ((xF, tmF), stF) ∧ At P ρ w0 base N m st tm a w ∧ Fresh m st.next stF.next ∧ Post P ρ w0 base N m st stF tmF (QX ρ Q xF tmF)
  haveI : ∀ a w, DecidablePred fun k => J k a w := fun a w k => Classical.propDecidable _
  have hdec : ∀ a w, Decidable (∃ k, J k a w) := fun a w => Classical.propDecidable _
  let μ : Act → World → Nat := fun a w => @dite _ (∃ k, J k a w) (hdec a w) (fun h => Classical.choose (exists_least (fun k => J k a w) h)) (fun _ => 0)
  refine wp_loop (fun a w => ∃ k, J k a w) μ ⟨n, Nat.le_refl n, m, st, tm, st', tm', x, h, hA, hf, hP⟩ ?_
  intro a w hI
  have hμ : J (μ a w) a w ∧ ∀ k, J k a w → μ a w ≤ k := by
    have hs := Classical.choose_spec (exists_least (fun k => J k a w) hI)
    have : μ a w = Classical.choose (exists_least (fun k => J k a w) hI) := by
      show @dite _ _ (hdec a w) _ _ = _
      rw [dif_pos hI]
    rw [this]; exact hs
  obtain ⟨k, hk⟩ : ∃ k, μ a w = k := ⟨_, rfl⟩
  rw [hk] at hμ
  rw [hk]
  obtain ⟨⟨hkn, m1, st1, tm1, stF, tmF, xF, hc, hA1, hf1, hP1⟩, hmin⟩ := hμ
  have hn' : ∀ k', k' ≤ k → CallOk P ρ w0 base (exec P H k').call ∧ DrawOk P ρ w0 base H (exec P H k') := fun k' hk' => hn k' (by omega)
  have nafter : ∀ {x2 : Exit} {tm2 : Tm} {st2 stc : ASt} {r : Exit × Tm}, afterA (exec P H k) N b x2 tm2 st2 = some (r, stc) → st2.next ≤ stc.next := fun {x2} {tm2} {st2} {stc} {r} g => by
    cases x2 <;> first | exact fr_next ((FrE.exec P hFH k).2.1 _ _ _) g | (cases g; exact Nat.le_refl _)
  -- behind a round
  have fin : ∀ {x2 : Exit} {tm2 tmc : Tm} {st2 stc : ASt}, afterA (exec P H k) N b x2 tm2 st2 = some ((xF, tmc), stc) → Weak stF tmF stc tmc → st1.next ≤ st2.next → Post P ρ w0 base N m1 st1 st2 tm2 (QX ρ (Exit.then (fun a' w' => (∃ k, J k a' w') ∧ μ a' w' < k) Q) x2 tm2) := by
    intro x2 tm2 tmc st2 stc g2 hW n1 a2 w2 m2 e1 e2 e3
    have n2 := nafter g2
    have hP2 := hW.post hP1
    rw [QX_p hW.p] at hP2
    have hf2 : Fresh m1 st1.next stc.next := fun A b1 b2 => hf1 A b1 (by have := hW.next; omega)
    cases x2 with
    | normal =>
      cases k with
      | zero => cases g2
      | succ k' =>
        have hJ : J k' a2 w2 := ⟨by omega, m2, st2, tm2, stc, tmc, xF, g2, e3, hf2.rest e2 n1, fun a3 w3 m3 f1 f2 f3 => hP2 a3 w3 m3 (e1.trans f1) (e2.trans f2 n1 n2) f3⟩
        refine ⟨⟨k', hJ⟩, ?_⟩
        have hs := Classical.choose_spec (exists_least (fun k => J k a2 w2) ⟨k', hJ⟩)
        have hμ2 : μ a2 w2 = Classical.choose (exists_least (fun k => J k a2 w2) ⟨k', hJ⟩) := by
          show @dite _ _ (hdec a2 w2) _ _ = _
          rw [dif_pos ⟨k', hJ⟩]
        have := hs.2 k' hJ
        rw [hμ2]
        omega
    | _ =>
      cases g2
      exact hP2 a2 w2 m2 e1 e2 e3
  have hc' : rangeA (rangeOf b) tm1 (fun F => Zz.bnd F fun _ => Zz.bnd (codeA P H (exec P H k) N b tm1) fun p => afterA (exec P H k) N b p.1 p.2) st1 = some ((xF, tmF), stF) := by
    have : codeA P H (exec P H k) N (.loop b) tm1 = rangeA (rangeOf b) tm1 (fun F => Zz.bnd F fun _ => Zz.bnd (codeA P H (exec P H k) N b tm1) fun p => afterA (exec P H k) N b p.1 p.2) := rfl
    rw [← this]; exact hc
  unfold rangeA at hc'
  cases hro : rangeOf b with
  | none =>
    rw [hro] at hc'
    dsimp only at hc'
    obtain ⟨_, s1, r1, hc'⟩ := bnd_eq hc'
    cases r1
    obtain ⟨⟨x2, tm2⟩, st2, g1, g2⟩ := bnd_eq hc'
    have n1 := fr_next (Fr.codeA P hFH (FrE.exec P hFH k) N b tm1) g1
    have n2 := nafter g2
    exact ih k hn' N m1 st1 st2 tm1 tm2 x2 a w _ g1 hA1 (fun A e1 e2 => hf1 A e1 (by omega)) (fin g2 (Weak.refl _ _) n1)
  | some x =>
    obtain ⟨id, ops, rest, o, os, rfl, hops, hop, hg⟩ := rangeOf_eq hro
    have hrest := iht _ _ rfl
    rw [hro] at hc'
    dsimp only at hc'
    obtain ⟨v, hx, hc'⟩ := optb_eq hc'
    have hvr := aval_ok hx hA1.tmr
    -- one round, the next entry known
    have round : ∀ {A : Nat} {am : Option Nat} {since last clk : Nat} {seen : List Nat} {c : Option (AV × AV × Nat)} {s1 s2 stc : ASt} {tmc : Tm} {w1 : World} {u : Value}, s1.heap = st1.heap → s1.next = st1.next → aval tm1 x = some (.ptr A 0) →
        (Zz.bnd (wr A (.mforce am since seen last c clk)) fun _ => Zz.bnd (codeA P H (exec P H k) N (.seq (.region id ops false) rest) tm1) fun p => afterA (exec P H k) N (.seq (.region id ops false) rest) p.1 p.2) s1 = some ((xF, tmc), stc) → Weak stF tmF stc tmc →
        (Instr.next (a.eval x) false o.type).run P w = .ok u w1 → VR ρ m1 (nextTup c) u → Rel ρ w0 base m1 (upd st1.heap.get A (nextIt am since seen last clk c)) w1 →
        (Code.seq (.region id ops false) rest).wp P (Exit.then (fun a' w' => (∃ k, J k a' w') ∧ μ a' w' < k) Q) a w := by
      intro A am since last clk seen c s1 s2 stc tmc w1 u q1 q2 hxa hr hW hrun hv hrel
      obtain ⟨_, stf, r1, r2⟩ := bnd_eq hr
      obtain ⟨⟨x2, tm2⟩, st2, g1, g2⟩ := bnd_eq r2
      obtain ⟨j1, j2⟩ := wr_eq r1
      have n1 := fr_next (Fr.codeA P hFH (FrE.exec P hFH k) N _ tm1) g1
      have n2 := nafter g2
      have n3 := hW.next
      refine round_ok hq hH hFH hops hop hg hrest k hn' g1 hxa ?_ (j2.trans q2) hA1 hrun hv hrel (fun B e1 e2 => hf1 B e1 (by omega)) (fin g2 hW (by rw [← q2, ← j2]; exact n1))
      rw [j1, get_upd, q1]
    cases v with
    | ptr A i =>
      cases i with
      | zero =>
        obtain ⟨blk, s1, r1, hc'⟩ := bnd_eq hc'
        obtain ⟨e1, e2, e3⟩ := rd_eq r1
        cases blk with
        | miter am since seen last =>
          cases am with
          | none =>
            dsimp only at hc'
            obtain ⟨u, w1, p1, p2, p3⟩ := next_none (P := P) (ty := o.type) (clk := 0) hA1.rel hvr rfl e1
            exact round (s2 := s1) e2 e3 hx hc' (Weak.refl _ _) p1 p2 p3
          | some mA =>
            dsimp only at hc'
            obtain ⟨blk, s2, r2, hc'⟩ := bnd_eq hc'
            obtain ⟨e4, e5, e6⟩ := rd_eq r2
            cases blk with
            | map es clk =>
              dsimp only at hc'
              cases hbe : (allBefore since es && Nat.ble since last) with
              | false => rw [hbe] at hc'; cases hc'
              | true =>
                rw [hbe, cond_true] at hc'
                obtain ⟨b1, b2⟩ := Bool.and_eq_true _ _ |>.mp hbe
                obtain ⟨c, u, w1, p1, p2, p3, p4⟩ := next_real (P := P) (ty := o.type) hA1.rel hvr rfl e1 (by rw [← e2]; exact e4) b1 (Nat.le_of_ble_eq_true b2)
                have hh : s2.heap = st1.heap := e5.trans e2
                have hnx : s2.next = st1.next := e6.trans e3
                cases hl : leftA seen es with
                | nil =>
                  rw [hl] at hc'
                  dsimp only at hc'
                  cases c with
                  | some c => rw [hl] at p4; cases p4
                  | none => exact round (s2 := s1) hh hnx hx hc' (Weak.refl _ _) p1 p2 p3
                | cons c0 l =>
                  rw [hl] at hc'
                  dsimp only at hc'
                  cases c with
                  | none => rw [hl] at p4; cases p4
                  | some c =>
                    rw [hl] at p4
                    have hin : (Zz.bnd (wr A (.mforce (some mA) since seen last (some c) clk)) fun _ => Zz.bnd (codeA P H (exec P H k) N (.seq (.region id ops false) rest) tm1) fun p => afterA (exec P H k) N (.seq (.region id ops false) rest) p.1 p.2) ∈
                        (Zz.bnd (wr A (.mforce (some mA) since seen last (some c0) clk)) fun _ => Zz.bnd (codeA P H (exec P H k) N (.seq (.region id ops false) rest) tm1) fun p => afterA (exec P H k) N (.seq (.region id ops false) rest) p.1 p.2) ::
                        l.map fun c => Zz.bnd (wr A (.mforce (some mA) since seen last (some c) clk)) fun _ => Zz.bnd (codeA P H (exec P H k) N (.seq (.region id ops false) rest) tm1) fun p => afterA (exec P H k) N (.seq (.region id ops false) rest) p.1 p.2 := by
                      rcases List.mem_cons.1 p4 with e | e
                      · rw [e]; simp
                      · exact List.mem_cons_of_mem _ (List.mem_map.2 ⟨c, e, rfl⟩)
                    obtain ⟨s', t2, s3, q1, q2, q3, q4⟩ := joinAll_weak hc' _ hin
                    exact round (s2 := s1) (q1.trans hh) (q2.trans hnx) hx q3 q4 p1 p2 p3
            | _ => cases hc'
        | _ => cases hc'
      | succ i => cases hc'
    | _ => cases hc'
theorem code_ok2 {H : Hooks} (hq : Opq ρ) (hH : HookOk P ρ w0 base H) (hFH : FrH H) (c : Code) : CodeOk P ρ w0 base H c ∧ ∀ c1 c2, c = .seq c1 c2 → CodeOk P ρ w0 base H c2 := by
  induction c with
  | skip =>
    refine ⟨?_, (fun _ _ e => by cases e)⟩
    intro n hn N m st st' tm tm' x a w Q h hA hf hP
    cases h
    exact wp_skip (hP a w m (Ext.refl m) (fun A h1 h2 => absurd h1 h2) hA)
  | label l =>
    refine ⟨?_, (fun _ _ e => by cases e)⟩
    intro n hn N m st st' tm tm' x a w Q h hA hf hP
    cases h
    exact wp_label (hP a w m (Ext.refl m) (fun A h1 h2 => absurd h1 h2) hA)
  | exit id =>
    refine ⟨?_, (fun _ _ e => by cases e)⟩
    intro n hn N m st st' tm tm' x a w Q h hA hf hP
    cases h
    exact wp_exit (hP a w m (Ext.refl m) (fun A h1 h2 => absurd h1 h2) hA)
  | ret =>
    refine ⟨?_, (fun _ _ e => by cases e)⟩
    intro n hn N m st st' tm tm' x a w Q h hA hf hP
    cases h
    exact wp_ret (hP a w m (Ext.refl m) (fun A h1 h2 => absurd h1 h2) hA)
  | region id ops d =>
    refine ⟨?_, (fun _ _ e => by cases e)⟩
    intro n hn N m st st' tm tm' x a w Q h hA hf hP
    cases d with
    | false =>
      simp only [codeA] at h
      cases hp : tm.p with
      | some p => rw [hp] at h; cases h
      | none =>
      rw [hp] at h
      dsimp only at h
      obtain ⟨tm1, st1, h1, h2⟩ := bnd_eq h
      obtain ⟨rfl, rfl, hqe⟩ := endP_eq (ρ := ρ) h2
      refine wp_region (ops_ok hq (hn n (Nat.le_refl n)).1 hH hFH (FrE.exec P hFH n) _ ops.toList m st _ tm _ a w (fun k => ?_) (by simp) h1 hp hA hf (fun a1 w1 m1 e1 e2 e3 => hqe _ _ _ _ (hP a1 w1 m1 e1 e2 e3)))
      rw [Array.getElem?_toList]
      rcases Nat.lt_or_ge k ops.size with hk | hk
      · simp [hk]
      · simp [hk]
    | true =>
      simp only [codeA] at h
      obtain ⟨⟨tm1, logs⟩, st1, h1, h2⟩ := bnd_eq h
      dsimp only at h2
      cases hok : allOk ops ops.toList logs 0 ops.toList (ancs ops.toList) logs with
      | false => rw [hok] at h2; cases h2
      | true =>
        rw [hok] at h2
        cases h2
        exact (hn n (Nat.le_refl n)).2 N id ops m st st' tm tm' logs a w Q h1 hok hA hf hP
  | seq c1 c2 ih1 ih2 =>
    refine ⟨?_, (fun _ _ e => by cases e; exact ih2.1)⟩
    intro n hn N m st st' tm tm' x a w Q h hA hf hP
    simp only [codeA] at h
    obtain ⟨⟨x1, tm1⟩, st1, h1, h2⟩ := bnd_eq h
    dsimp only at h2
    have n1 := fr_next (Fr.codeA P hFH (FrE.exec P hFH n) N c1 tm) h1
    refine wp_seq (ih1.1 n hn N m st st1 tm tm1 x1 a w _ h1 hA (fun A e1 e2 => hf A e1 (by
      have n2 : st1.next ≤ st'.next := by
        cases x1 <;> first | exact fr_next (Fr.codeA P hFH (FrE.exec P hFH n) N c2 tm1) h2 | (cases h2; exact Nat.le_refl _)
      omega)) ?_)
    intro a1 w1 m1 e1 e2 e3
    cases x1 with
    | normal =>
      have n2 := fr_next (Fr.codeA P hFH (FrE.exec P hFH n) N c2 tm1) h2
      refine ih2.1 n hn N m1 st1 st' tm1 tm' x a1 w1 Q h2 e3 (hf.rest e2 n1) ?_
      intro a2 w2 m2 f1 f2 f3
      exact hP a2 w2 m2 (e1.trans f1) (e2.trans f2 n1 n2) f3
    | _ =>
      cases h2
      exact hP a1 w1 m1 e1 e2 e3
  | cond c t f iht ihf =>
    refine ⟨?_, (fun _ _ e => by cases e)⟩
    intro n hn N m st st' tm tm' x a w Q h hA hf hP
    simp only [codeA] at h
    obtain ⟨v, hv, h⟩ := optb_eq h
    have hvr := aval_ok hv hA.tmr
    cases v with
    | bool b =>
      generalize hev : a.eval c = ev at hvr
      cases hvr
      cases b with
      | true => exact wp_cond hev (iht.1 n hn N m st st' tm tm' x a w Q h hA hf hP)
      | false => exact wp_cond hev (ihf.1 n hn N m st st' tm tm' x a w Q h hA hf hP)
    | _ => cases h
  | block id b ih =>
    refine ⟨?_, (fun _ _ e => by cases e)⟩
    intro n hn N m st st' tm tm' x a w Q h hA hf hP
    simp only [codeA] at h
    obtain ⟨⟨x1, tm1⟩, st1, h1, h2⟩ := bnd_eq h
    dsimp only at h2
    have hst : st1 = st' ∧ tm1 = tm' := by
      cases x1 with
      | exit id' =>
        dsimp only at h2
        cases hb : Nat.beq id' id with
        | true => rw [hb] at h2; cases h2; exact ⟨rfl, rfl⟩
        | false => rw [hb] at h2; cases h2; exact ⟨rfl, rfl⟩
      | _ => cases h2; exact ⟨rfl, rfl⟩
    obtain ⟨rfl, rfl⟩ := hst
    refine wp_block (ih.1 n hn N m st st1 tm tm1 x1 a w _ h1 hA hf ?_)
    intro a1 w1 m1 e1 e2 e3
    have hPx := hP a1 w1 m1 e1 e2 e3
    cases x1 with
    | exit id' =>
      dsimp only at h2
      cases hb : Nat.beq id' id with
      | true =>
        rw [hb] at h2; cases h2
        have hid : id' = id := by simpa using hb
        show (if id' = id then Q .normal a1 w1 else Q (.exit id') a1 w1)
        rw [if_pos hid]; exact hPx
      | false =>
        rw [hb] at h2; cases h2
        have hid : id' ≠ id := by intro e; subst e; simp at hb
        show (if id' = id then Q .normal a1 w1 else Q (.exit id') a1 w1)
        rw [if_neg hid]; exact hPx
    | _ => cases h2; exact hPx
  | scope b ih =>
    refine ⟨?_, (fun _ _ e => by cases e)⟩
    intro n hn N m st st' tm tm' x a w Q h hA hf hP
    simp only [codeA] at h
    obtain ⟨⟨x1, tm1⟩, st1, h1, h2⟩ := bnd_eq h
    cases x1 with
    | goto l => cases h2
    | _ =>
      cases h2
      refine wp_scope_straight (ih.1 n hn N m st _ tm _ _ a w _ h1 hA hf ?_)
      intro a1 w1 m1 e1 e2 e3
      exact hP a1 w1 m1 e1 e2 e3
  | loop b ih => exact ⟨loop_ok hq hH hFH ih.1 ih.2, (fun _ _ e => by cases e)⟩
  | _ =>
    refine ⟨?_, (fun _ _ e => by cases e)⟩
    intro n hn N m st st' tm tm' x a w Q h hA hf hP
    cases h
theorem code_ok {H : Hooks} (hq : Opq ρ) (hH : HookOk P ρ w0 base H) (hFH : FrH H) (c : Code) : CodeOk P ρ w0 base H c := (code_ok2 hq hH hFH c).1
end
end Go.Proofs.YtbecmcjibpamoaaGreatDoor.Zz
namespace Go.Proofs.YtbecmcjibpamoaaGreatDoor.Zz
open Go Go.RowKit
section
variable {P : Program} {ρ : Nat → Value} {w0 : World} {base : Nat} {m : BMap}
def resM (tmps : Array Value) (x : ResultVar) : Sem Value :=
  match x with
  | .tmp t => pure (tmps.getD t undef)
  | .cell b t => do loadVar t (← asAddr (tmps.getD b undef))
theorem resM_tmp {tmps : Array Value} {t : Nat} {w : World} : (resM tmps (.tmp t)).run P w = .ok (tmps.getD t undef) w := Sem.run_pure ..
theorem resM_cell {tmps : Array Value} {b : Nat} {t : TypeId} {w : World} {ad : Addr} {v : Value} (h : tmps.getD b undef = .pointer (some ad)) (hl : (loadVar t ad).run P w = .ok v w) : (resM tmps (.cell b t)).run P w = .ok v w := by
  show ((asAddr (tmps.getD b undef)) >>= fun x => loadVar t x).run P w = _
  rw [h, Sem.run_bind]
  exact hl
theorem results_eq {fn : Func} {tmps : Array Value} : results fn tmps = (fn.results.mapM (resM tmps) >>= fun vs => pure (if h : vs.size = 1 then vs[0] else .tuple vs)) := rfl
theorem mapM_cons_ok {α : Type} {f : α → Sem Value} {x : α} {l : List α} {v : Value} {vs : List Value} {w : World} (h1 : (f x).run P w = .ok v w) (h2 : (l.mapM f).run P w = .ok vs w) : ((x :: l).mapM f).run P w = .ok (v :: vs) w := by
  rw [List.mapM_cons, Sem.run_bind, h1, Result.andThen_ok, Sem.run_bind, h2, Result.andThen_ok, Sem.run_pure]
theorem resultA_ok {tm : Tm} {a : Act} {w : World} (ht : TmR ρ m tm a) : ∀ (l : List ResultVar) (st st' : ASt) (r : List AV), resultA P tm l st = some (r, st') → Rel ρ w0 base m st.heap.get w →
    ∃ vs : List Value, (l.mapM (resM a.tmps)).run P w = .ok vs w ∧ LR ρ m r vs ∧ st'.heap = st.heap ∧ st'.next = st.next
  | [], st, st', r, h, hr => by
    cases h
    exact ⟨[], by rw [List.mapM_nil]; exact Sem.run_pure .., .nil, rfl, rfl⟩
  | .tmp t :: l, st, st', r, h, hr => by
    unfold resultA at h
    obtain ⟨v, hv, h⟩ := optb_eq h
    obtain ⟨r', s1, h1, h2⟩ := bnd_eq h
    cases h2
    obtain ⟨vs, g1, g2, g3, g4⟩ := resultA_ok ht l st st' r' h1 hr
    exact ⟨a.tmps.getD t undef :: vs, mapM_cons_ok resM_tmp g1, .cons _ _ _ _ (aval_ok (x := .tmp t) hv ht) g2, g3, g4⟩
  | .cell b t :: l, st, st', r, h, hr => by
    unfold resultA at h
    obtain ⟨v, hv, h⟩ := optb_eq h
    have hvr := aval_ok (x := .tmp b) hv ht
    have hev' : a.eval (.tmp b) = a.tmps.getD b undef := rfl
    rw [hev'] at hvr
    generalize hev : a.tmps.getD b undef = ev at hvr
    cases hvr with
    | ptr A i bb d z hA =>
      dsimp only at h
      obtain ⟨x, s1, h1, h⟩ := bnd_eq h
      obtain ⟨r', s2, h2, h3⟩ := bnd_eq h
      cases h3
      obtain ⟨xv, f1, f2, f3, f4⟩ := loadT_same h1 hr hA
      obtain ⟨vs, g1, g2, g3, g4⟩ := resultA_ok ht l s1 st' r' h2 (by rw [f3]; exact hr)
      exact ⟨xv :: vs, mapM_cons_ok (resM_cell hev f1) g1, .cons _ _ _ _ f2 g2, by rw [g3, f3], by rw [g4, f4]⟩
    | _ => cases h
theorem tmOf_get : ∀ (l : List AV) (i : Nat) (tm : Tm) (k : Nat), (tmOf i l tm).get k = if i ≤ k ∧ k < i + l.length then (l[k - i]?).map some else tm.get k
  | [], i, tm, k => by simp [tmOf]; intro h1 h2; omega
  | v :: l, i, tm, k => by
    rw [tmOf, tmOf_get l, Tm.get_put]
    simp only [List.length_cons]
    by_cases h1 : k = i
    · subst h1
      rw [if_neg (by omega), if_pos rfl, if_pos (by omega)]; simp
    · by_cases h2 : i + 1 ≤ k ∧ k < i + 1 + l.length
      · rw [if_pos h2, if_pos (by omega), show k - i = (k - (i + 1)) + 1 by omega]; simp
      · rw [if_neg h2, if_neg h1, if_neg (by omega)]
theorem start_tm {args : List AV} {us : Array Value} (n : Nat) (hl : LR ρ m args us.toList) : TmR ρ m (tmOf 0 args Tm.nil) { tmps := us ++ Array.replicate (n - us.size) undef, defers := [] } := fun t => by
  have hlen := hl.length
  simp only [Array.length_toList] at hlen
  rw [tmOf_get]
  by_cases h : 0 ≤ t ∧ t < 0 + args.length
  · rw [if_pos h]
    cases hx : args[t - 0]? with
    | none => rw [List.getElem?_eq_none_iff] at hx; omega
    | some x =>
      obtain ⟨v, h1, h2⟩ := hl.get hx
      refine ⟨v, ?_, h2⟩
      rw [Nat.sub_zero, Array.getElem?_toList] at h1
      show (us ++ Array.replicate (n - us.size) undef)[t]? = some v
      rw [Array.getElem?_append_left (by omega)]; exact h1
  · rw [if_neg h]
    rw [show Tm.nil.get t = none from Hp.get_lf t]
    show (us ++ Array.replicate (n - us.size) undef).getD t undef = undef
    rw [Array.getD_eq_getD_getElem?, Array.getElem?_append_right (by omega)]
    simp only [Array.getElem?_replicate]
    split <;> rfl
theorem tmOf_d : ∀ (l : List AV) (i : Nat) (tm : Tm), (tmOf i l tm).d = tm.d ∧ (tmOf i l tm).p = tm.p
  | [], _, _ => ⟨rfl, rfl⟩
  | v :: l, i, tm => by rw [tmOf]; exact tmOf_d l (i + 1) (tm.put i (some v))
def oneRes : List AV → AV
  | [v] => v
  | l => .tup l
theorem results_ok {fn : Func} {tm : Tm} {a : Act} {w : World} {st s3 : ASt} {l : List AV} (ht : TmR ρ m tm a) (hr : Rel ρ w0 base m st.heap.get w) (h : resultA P tm fn.results.toList st = some (l, s3)) :
    ∃ v', (results fn a.tmps).run P w = .ok v' w ∧ VR ρ m (oneRes l) v' ∧ s3.heap = st.heap ∧ s3.next = st.next := by
  obtain ⟨vs, f1, f2, f3, f4⟩ := resultA_ok ht fn.results.toList st s3 l h hr
  have hrun : (fn.results.mapM (resM a.tmps)).run P w = .ok vs.toArray w := by
    rw [Array.mapM_eq_mapM_toList]
    simp only [Sem.run_map, f1, Result.andThen_ok]
  have hll := f2.length
  unfold oneRes
  split
  · rename_i v0
    cases f2 with | cons _ u _ r hv hrr => _
    cases hrr
    refine ⟨u, ?_, hv, f3, f4⟩
    rw [results_eq, Sem.run_bind, hrun, Result.andThen_ok]
    exact Sem.run_pure ..
  · rename_i hne
    refine ⟨.tuple vs.toArray, ?_, .tup _ _ f2, f3, f4⟩
    rw [results_eq, Sem.run_bind, hrun]
    have : ¬ vs.toArray.size = 1 := by
      intro h1
      simp only [List.size_toArray] at h1
      rw [← hll] at h1
      match l, h1 with
      | [y], _ => exact hne y rfl
    rw [Result.andThen_ok, Sem.run_pure, dif_neg this]
def MR (ρ : Nat → Value) (m : BMap) : MA → FrameMode → Prop
  | .rtn, mode => mode = .returning
  | .pan v b, mode => ∃ u, mode = .panicking [{ v := u, recovered := b }] ∧ VR ρ m v u
theorem MR.ext {m' : BMap} {u : MA} {mode : FrameMode} (h : MR ρ m u mode) (he : Ext m m') : MR ρ m' u mode := by
  cases u with
  | rtn => exact h
  | pan v b => obtain ⟨y, h1, h2⟩ := h; exact ⟨y, h1, h2.ext he⟩
theorem MR.run {u : MA} {mode : FrameMode} (h : MR ρ m u mode) : mode ≠ .run := by
  cases u with
  | rtn => intro e; rw [show mode = .returning from h] at e; cases e
  | pan v b => obtain ⟨y, h1, h2⟩ := h; intro e; rw [h1] at e; cases e
theorem MR.settle {u : MA} {mode : FrameMode} (h : MR ρ m u mode) : MR ρ m (settleA u) (Go.settle mode) := by
  cases u with
  | rtn => rw [show mode = .returning from h]; rfl
  | pan v b =>
    obtain ⟨y, h1, h2⟩ := h
    rw [h1]
    cases b with
    | true => rfl
    | false => exact ⟨y, rfl, h2⟩
def CallDOk (P : Program) (ρ : Nat → Value) (w0 : World) (base : Nat) (callD : FuncId → List AV → MA → M MA) : Prop :=
  ∀ f args us u mode m st w u' st', callD f args u st = some (u', st') → Rel ρ w0 base m st.heap.get w → Fresh m st.next st'.next → LR ρ m args us.toList → MR ρ m u mode →
    CallsD P f us mode w fun en mode' w' => ∃ v' m', en = .returned v' ∧ Ext m m' ∧ Dom m m' st.next st'.next ∧ Rel ρ w0 base m' st'.heap.get w' ∧ MR ρ m' u' mode'
theorem leave_ok {e : Ex} {fn : Func} {tm : Tm} {tmps : Array Value} {v : AV} {R : Ending → World → Prop} (hFE : FrE e) (hcd : CallDOk P ρ w0 base e.callD) :
    ∀ (ds : List AV) (u : MA) (m : BMap) (st st' : ASt) (w : World) (a : Act) (es : List Deferred) (mode : FrameMode), leaveA P e fn tm ds u st = some (v, st') → a.tmps = tmps → TmR ρ m tm a → Rel ρ w0 base m st.heap.get w → DfR P ρ m ds es → MR ρ m u mode → Fresh m st.next st'.next →
      (∀ en w' m', Ext m m' → Dom m m' st.next st'.next → Rel ρ w0 base m' st'.heap.get w' → EndR ρ m' v en → R en w') → Leaves P fn tmps R es mode w := by
  intro ds
  induction ds with
  | nil =>
    intro u m st st' w a es mode h ha ht hr hd hu hf hR
    cases hd
    subst ha
    cases u with
    | rtn =>
      rw [show mode = .returning from hu]
      unfold leaveA at h
      obtain ⟨l, s3, h1, h2⟩ := bnd_eq h
      obtain ⟨v', e1, e2, e3, e4⟩ := results_ok ht hr h1
      have hv : v = oneRes l ∧ st' = s3 := by
        match l, h2 with
        | [], h2 => cases h2; exact ⟨rfl, rfl⟩
        | [_], h2 => cases h2; exact ⟨rfl, rfl⟩
        | _ :: _ :: _, h2 => cases h2; exact ⟨rfl, rfl⟩
      obtain ⟨rfl, rfl⟩ := hv
      exact ⟨v', e1, hR _ w m (Ext.refl m) (fun A h1 h2 => absurd h1 h2) (by rw [e3]; exact hr) (.inl ⟨v', rfl, e2⟩)⟩
    | pan x b =>
      obtain ⟨y, h1, h2⟩ := hu
      rw [h1]
      cases b with
      | true => cases h
      | false =>
        cases h
        exact hR _ w m (Ext.refl m) (fun A h1 h2 => absurd h1 h2) hr (.inr ⟨x, y, rfl, rfl, h2⟩)
  | cons d ds ih =>
    intro u m st st' w a es mode h ha ht hr hd hu hf hR
    cases hd with | cons f l fv cap dargs us _ es hi hl hds => _
    have h' : (Zz.bnd (e.callD f l u) fun u' => leaveA P e fn tm ds (settleA u')) st = some (v, st') := h
    obtain ⟨u1, s1, h1, h2⟩ := bnd_eq h'
    have n1 := fr_next (hFE.2.2 f l u) h1
    have n2 := fr_next (Fr.leaveA P hFE fn tm ds (settleA u1)) h2
    refine leaves_cons hu.run (hi w) ?_
    refine (hcd f l us u mode m st w u1 s1 h1 hr (fun A e1 e2 => hf A e1 (by omega)) hl hu).mono ?_
    rintro en mode' w' ⟨v', m', rfl, e1, e2, e3, e4⟩
    refine ih (settleA u1) m' s1 st' w' a es _ h2 ha (ht.ext e1) e3 (hds.ext e1) e4.settle (hf.rest e2 n1) (fun en w2 m2 f1 f2 f3 f4 => hR en w2 m2 (e1.trans f1) (e2.trans f2 n1 n2) f3 f4)
def PostS (P : Program) (ρ : Nat → Value) (w0 : World) (base N : Nat) (m : BMap) (st st' : ASt) (tm' : Tm) (u' : MA) (K : Act → FrameMode → World → Prop) : Prop :=
  ∀ a' w' m' mode', Ext m m' → Dom m m' st.next st'.next → At P ρ w0 base N m' st' tm' a' w' → MR ρ m' u' mode' → K a' mode' w'
theorem isRecover_run {o : Oper} {a : Act} {w : World} (h : isRecover o.op = true) : (execOp a.eval o).run P w = .ok .recover w := by
  unfold isRecover at h
  split at h
  · rename_i c ho
    split at h
    · rename_i hc
      have : execOp a.eval o = (resolve a.eval c o.type >>= fun d => invoke d.target d.args) := by unfold execOp; rw [ho]
      rw [this, Sem.run_bind]
      simp only [resolve, hc, Sem.run_pure, Result.andThen_ok, invoke]
      exact Sem.run_pure ..
    · cases h
  · cases h
theorem opsS_ok {H : Hooks} {e : Ex} {N : Nat} {ops : Array Oper} (hq : Opq ρ) (hc : CallOk P ρ w0 base e.call) (hH : HookOk P ρ w0 base H) (hFH : FrH H) (hFE : FrE e) {Q : Exit → Act → List Frame → World → Prop} {cs : List Frame} :
    ∀ (l : List Nat) (os : List Oper) (m : BMap) (st st' : ASt) (tm tm' : Tm) (u u' : MA) (a : Act) (w : World) (c0 : Frame), (∀ k : Nat, l[k]?.bind (ops[·]?) = os[k]?) → l.length = os.length → opsS P H e N ops os tm u st = some ((tm', u'), st') → At P ρ w0 base N m st tm a w → MR ρ m u c0.mode → Fresh m st.next st'.next →
      PostS P ρ w0 base N m st st' tm' u' (fun a' mode' w' => Q .normal a' ({ c0 with mode := mode' } :: cs) w') → wpOpsS P ops Q l a (c0 :: cs) w
  | [], [], m, st, st', tm, tm', u, u', a, w, c0, _, _, h, hA, hu, hf, hP => by
    cases h
    exact hP a w m c0.mode (Ext.refl m) (fun A h1 h2 => absurd h1 h2) hA hu
  | [], _ :: _, _, _, _, _, _, _, _, _, _, _, _, h, _, _, _, _, _ => by cases h
  | _ :: _, [], _, _, _, _, _, _, _, _, _, _, _, h, _, _, _, _, _ => by cases h
  | i :: l, o :: os, m, st, st', tm, tm', u, u', a, w, c0, hi, hl, h, hA, hu, hf, hP => by
    unfold opsS at h
    obtain ⟨⟨tm1, u1⟩, st1, h1, h2⟩ := bnd_eq h
    dsimp only at h2
    have h0 := hi 0
    simp only [List.getElem?_cons_zero, Option.bind_some] at h0
    have n1 := fr_next (Fr.operS P hFH hFE N ops o tm u) h1
    have n2 := fr_next (Fr.opsS P hFH hFE N ops os tm1 u1) h2
    -- on with the others
    have go : ∀ (a1 : Act) (w1 : World) (m1 : BMap) (mode1 : FrameMode), Ext m m1 → Dom m m1 st.next st1.next → At P ρ w0 base N m1 st1 tm1 a1 w1 → MR ρ m1 u1 mode1 → wpOpsS P ops Q l a1 ({ c0 with mode := mode1 } :: cs) w1 := fun a1 w1 m1 mode1 e1 e2 e3 e4 =>
      opsS_ok hq hc hH hFH hFE l os m1 st1 st' tm1 tm' u1 u' a1 w1 { c0 with mode := mode1 } (fun k => by simpa using hi (k + 1)) (by simpa using hl) h2 e3 e4 (hf.rest e2 n1) (fun a2 w2 m2 mode2 f1 f2 f3 f4 => hP a2 w2 m2 mode2 (e1.trans f1) (e2.trans f2 n1 n2) f3 f4)
    simp only [wpOpsS, h0]
    unfold operS at h1
    cases hrec : isRecover o.op with
    | false =>
      rw [hrec, cond_false] at h1
      obtain ⟨tm2, s2, g1, g2⟩ := bnd_eq h1
      cases g2
      have hw := operW_ok hq hc hH g1 hA.rel (fun A e1 e2 => hf A e1 (by omega)) hA.tmr hA.size rfl (fun a' w' => wpOpsS P ops Q l a' (c0 :: cs) w') (fun x a' w' => Q x a' (c0 :: cs) w')
        (fun a' w' m' e1 e2 e3 e4 e5 e6 e7 e8 => go a' w' m' c0.mode e1 e2 ⟨e3, e4, e5, by rw [e6, e7]; exact hA.defers.ext e1⟩ (hu.ext e1))
      split
      · rename_i hwt
        rw [if_pos hwt] at hw
        unfold Oper.wp at hw
        split
        · rename_i w' heq
          rw [heq] at hw
          exact hw.elim
        · exact hw
      · rename_i hwt
        rw [if_neg hwt] at hw
        exact hw
    | true =>
      rw [hrec, cond_true] at h1
      cases hw : wantA ops o tm with
      | none => rw [hw] at h1; cases h1
      | some b =>
        rw [hw] at h1
        rw [want_ok hA.tmr b hw]
        -- a value that is put
        have put : ∀ {x : AV} {y : Value} {u2 : MA} {mode2 : FrameMode}, (Zz.bnd (putA N tm o.dst x) fun tm' => Zz.ret (tm', u2)) st = some ((tm1, u1), st1) → VR ρ m x y → MR ρ m u2 mode2 → wpOpsS P ops Q l (a.put o.dst y) ({ c0 with mode := mode2 } :: cs) w := by
          intro x y u2 mode2 g hx hu2
          obtain ⟨tm2, s2, g1, g2⟩ := bnd_eq g
          cases g2
          have hst := put_same g1
          subst hst
          obtain ⟨q1, q2, q3, q4, q5⟩ := put_ok hA.tmr hA.size rfl (Ext.refl m) hx ⟨_, _, g1⟩
          exact go _ w m mode2 (Ext.refl m) (fun A h1 h2 => absurd h1 h2) ⟨hA.rel, q1, q2, by rw [q3, q4]; exact hA.defers⟩ hu2
        cases b with
        | false =>
          rw [if_neg (by simp)]
          exact put (mode2 := c0.mode) h1 (.tup _ _ .nil : VR ρ m undefA undef) hu
        | true =>
          rw [if_pos rfl, isRecover_run hrec]
          dsimp only
          cases u with
          | rtn =>
            have hm : c0.mode = .returning := hu
            simp only [recoverD, hm]
            exact put (mode2 := c0.mode) h1 .ifc0 hu
          | pan v r =>
            obtain ⟨y, hm, hy⟩ := hu
            cases r with
            | false =>
              simp only [recoverD, hm]
              exact put h1 hy ⟨y, rfl, hy⟩
            | true =>
              simp only [recoverD, hm]
              exact put (mode2 := c0.mode) h1 .ifc0 ⟨y, hm, hy⟩
theorem codeS_ok {H : Hooks} (hq : Opq ρ) (hH : HookOk P ρ w0 base H) (hFH : FrH H) (c : Code) : ∀ (n : Nat), (∀ k, k ≤ n → CallOk P ρ w0 base (exec P H k).call ∧ DrawOk P ρ w0 base H (exec P H k)) →
    ∀ (N : Nat) (m : BMap) (st st' : ASt) (tm tm' : Tm) (u u' : MA) (x : Exit) (a : Act) (w : World) (c0 : Frame) (cs : List Frame) (Q : Exit → Act → List Frame → World → Prop), codeS P H (exec P H n) N c tm u st = some ((x, tm', u'), st') → At P ρ w0 base N m st tm a w → MR ρ m u c0.mode → Fresh m st.next st'.next →
      PostS P ρ w0 base N m st st' tm' u' (fun a' mode' w' => Q x a' ({ c0 with mode := mode' } :: cs) w') → c.wpS P Q a (c0 :: cs) w := by
  have other : ∀ (c : Code) (n : Nat), (∀ k, k ≤ n → CallOk P ρ w0 base (exec P H k).call ∧ DrawOk P ρ w0 base H (exec P H k)) →
      ∀ (N : Nat) (m : BMap) (st st' : ASt) (tm tm' : Tm) (u u' : MA) (x : Exit) (a : Act) (w : World) (c0 : Frame) (cs : List Frame) (Q : Exit → Act → List Frame → World → Prop), (Zz.bnd (Zz.codeA P H (exec P H n) N c tm) fun (x, tm') => (match x with
      | .panic _ => Zz.fail
      | x => Zz.ret (x, tm', u))) st = some ((x, tm', u'), st') → At P ρ w0 base N m st tm a w → MR ρ m u c0.mode → Fresh m st.next st'.next →
      PostS P ρ w0 base N m st st' tm' u' (fun a' mode' w' => Q x a' ({ c0 with mode := mode' } :: cs) w') → c.wpS P Q a (c0 :: cs) w := by
    intro c n hn N m st st' tm tm' u u' x a w c0 cs Q h hA hu hf hP
    obtain ⟨⟨x1, tm1⟩, st1, h1, h2⟩ := bnd_eq h
    dsimp only at h2
    have hx : x1 = x ∧ tm1 = tm' ∧ u = u' ∧ st1 = st' ∧ ∀ ch, x1 ≠ .panic ch := by
      cases x1 with
      | panic ch => cases h2
      | _ => cases h2; exact ⟨rfl, rfl, rfl, rfl, fun ch e => by cases e⟩
    obtain ⟨rfl, rfl, rfl, rfl, hnp⟩ := hx
    refine wpS_of_wp (code_ok hq hH hFH c n hn N m st st1 tm tm1 x1 a w _ h1 hA hf ?_)
    intro a1 w1 m1 e1 e2 e3
    have := hP a1 w1 m1 c0.mode e1 e2 e3 (hu.ext e1)
    cases x1 with
    | panic ch => exact absurd rfl (hnp ch)
    | _ => exact this
  induction c with
  | region id ops d =>
    intro n hn N m st st' tm tm' u u' x a w c0 cs Q h hA hu hf hP
    cases d with
    | true => exact other _ n hn N m st st' tm tm' u u' x a w c0 cs Q h hA hu hf hP
    | false =>
      simp only [codeS] at h
      obtain ⟨⟨tm1, u1⟩, st1, h1, h2⟩ := bnd_eq h
      cases h2
      refine wpS_region (opsS_ok hq (hn n (Nat.le_refl n)).1 hH hFH (FrE.exec P hFH n) _ ops.toList m st _ tm _ u _ a w c0 (fun k => ?_) (by simp) h1 hA hu hf hP)
      rw [Array.getElem?_toList]
      rcases Nat.lt_or_ge k ops.size with hk | hk
      · simp [hk]
      · simp [hk]
  | seq c1 c2 ih1 ih2 =>
    intro n hn N m st st' tm tm' u u' x a w c0 cs Q h hA hu hf hP
    simp only [codeS] at h
    obtain ⟨⟨x1, tm1, u1⟩, st1, h1, h2⟩ := bnd_eq h
    dsimp only at h2
    have n1 := fr_next (Fr.codeS P hFH (FrE.exec P hFH n) N c1 tm u) h1
    have n2 : st1.next ≤ st'.next := by
      cases x1 <;> first | exact fr_next (Fr.codeS P hFH (FrE.exec P hFH n) N c2 tm1 u1) h2 | (cases h2; exact Nat.le_refl _)
    refine wpS_seq (ih1 n hn N m st st1 tm tm1 u u1 x1 a w c0 cs _ h1 hA hu (fun A e1 e2 => hf A e1 (by omega)) ?_)
    intro a1 w1 m1 mode1 e1 e2 e3 e4
    cases x1 with
    | normal =>
      exact ih2 n hn N m1 st1 st' tm1 tm' u1 u' x a1 w1 { c0 with mode := mode1 } cs Q h2 e3 e4 (hf.rest e2 n1) (fun a2 w2 m2 mode2 f1 f2 f3 f4 => hP a2 w2 m2 mode2 (e1.trans f1) (e2.trans f2 n1 n2) f3 f4)
    | _ =>
      cases h2
      exact hP a1 w1 m1 mode1 e1 e2 e3 e4
  | cond c t f iht ihf =>
    intro n hn N m st st' tm tm' u u' x a w c0 cs Q h hA hu hf hP
    simp only [codeS] at h
    obtain ⟨v, hv, h⟩ := optb_eq h
    have hvr := aval_ok hv hA.tmr
    cases v with
    | bool b =>
      generalize hev : a.eval c = ev at hvr
      cases hvr
      cases b with
      | true => exact wpS_cond hev (iht n hn N m st st' tm tm' u u' x a w c0 cs Q h hA hu hf hP)
      | false => exact wpS_cond hev (ihf n hn N m st st' tm tm' u u' x a w c0 cs Q h hA hu hf hP)
    | _ => cases h
  | _ => exact fun n hn N m st st' tm tm' u u' x a w c0 cs Q h hA hu hf hP => other _ n hn N m st st' tm tm' u u' x a w c0 cs Q h hA hu hf hP
theorem DfR.none {l : List Deferred} (h : DfR P ρ m [] l) : l = [] := by cases h; rfl
theorem exec_ok {H : Hooks} (hq : Opq ρ) (hH : HookOk P ρ w0 base H) (hFH : FrH H) (hdraw : ∀ e, FrE e → CallOk P ρ w0 base e.call → DrawOk P ρ w0 base H e) : ∀ n, CallOk P ρ w0 base (exec P H n).call ∧ CallDOk P ρ w0 base (exec P H n).callD := by
  intro n
  induction n using Nat.strongRecOn with
  | _ n ih =>
    cases n with
    | zero =>
      constructor
      · intro f args us m st w v st' h; cases h
      · intro f args us u mode m st w u' st' h; cases h
    | succ n =>
      have hn : ∀ k, k ≤ n → CallOk P ρ w0 base (exec P H k).call ∧ DrawOk P ρ w0 base H (exec P H k) := fun k hk => ⟨(ih k (by omega)).1, hdraw _ (FrE.exec P hFH k) (ih k (by omega)).1⟩
      constructor
      · intro f args us m st w v st' h hr hf hl
        show Calls P f us w _
        unfold exec at h
        dsimp only at h
        unfold callA at h
        cases hfn : P.funcs[f]? with
        | none => rw [hfn] at h; cases h
        | some fn =>
          rw [hfn] at h
          dsimp only at h
          cases hb : fn.body with
          | none => rw [hb] at h; cases h
          | some c =>
            rw [hb] at h
            dsimp only at h
            obtain ⟨⟨x, tm⟩, st1, h1, h2⟩ := bnd_eq h
            dsimp only at h2
            have hlen := hl.length
            simp only [Array.length_toList] at hlen
            have n1 := fr_next (Fr.codeA P hFH (FrE.exec P hFH n) _ c _) h1
            have n2 : st1.next ≤ st'.next := by
              cases x <;> first
                | exact fr_next (Fr.leaveA P (FrE.exec P hFH n) fn tm _ _) h2
                | (cases h2; done)
                | (cases hp : tm.p with
                  | none => rw [hp] at h2; cases h2
                  | some p => rw [hp] at h2; exact fr_next (Fr.leaveA P (FrE.exec P hFH n) fn tm _ _) h2)
            have hd0 : (tmOf 0 args Tm.nil).d = [] := (tmOf_d args 0 Tm.nil).1
            refine calls_of_wp_defers hfn hb (code_ok hq hH hFH c n hn _ m st st1 _ tm x _ w _ h1 ⟨hr, start_tm fn.ntmps hl, by simp [hlen], by rw [hd0]; exact .nil⟩ (fun A e1 e2 => hf A e1 (by omega)) ?_)
            intro a1 w1 m1 e1 e2 e3
            have fin : ∀ {u : MA} {mode : FrameMode}, leaveA P (exec P H n) fn tm tm.d u st1 = some (v, st') → MR ρ m1 u mode → Leaves P fn a1.tmps (fun en w' => ∃ m', Ext m m' ∧ Dom m m' st.next st'.next ∧ Rel ρ w0 base m' st'.heap.get w' ∧ EndR ρ m' v en) a1.defers mode w1 := fun h2 hu =>
              leave_ok (FrE.exec P hFH n) (ih n (by omega)).2 tm.d _ m1 st1 st' w1 a1 a1.defers _ h2 rfl e3.tmr e3.rel e3.defers hu (hf.rest e2 n1) (fun en w' m' f1 f2 f3 f4 => ⟨m', e1.trans f1, e2.trans f2 n1 n2, f3, f4⟩)
            cases x with
            | normal => exact fin h2 rfl
            | ret => exact fin h2 rfl
            | panic ch =>
              intro p u hp hu
              rw [hp] at h2
              exact fin h2 ⟨u, rfl, hu⟩
            | _ => cases h2
      · intro f args us u mode m st w u' st' h hr hf hl hu
        unfold exec at h
        dsimp only at h
        unfold callDA at h
        cases hfn : P.funcs[f]? with
        | none => rw [hfn] at h; cases h
        | some fn =>
          rw [hfn] at h
          dsimp only at h
          cases hb : fn.body with
          | none => rw [hb] at h; cases h
          | some c =>
            rw [hb] at h
            dsimp only at h
            obtain ⟨⟨x, tm, u1⟩, st1, h1, h2⟩ := bnd_eq h
            dsimp only at h2
            have hlen := hl.length
            simp only [Array.length_toList] at hlen
            have h2' : (x = .normal ∨ x = .ret) ∧ tm.d = [] ∧ ∃ l s3, resultA P tm fn.results.toList st1 = some (l, s3) ∧ u1 = u' ∧ s3 = st' := by
              cases x <;> first
                | (cases h2; done)
                | (dsimp only at h2
                   cases hd : tm.d with
                   | cons _ _ => rw [hd] at h2; cases h2
                   | nil =>
                     rw [hd] at h2
                     obtain ⟨l, s3, g1, g2⟩ := bnd_eq h2
                     cases g2
                     first | exact ⟨.inl rfl, rfl, l, _, g1, rfl, rfl⟩ | exact ⟨.inr rfl, rfl, l, _, g1, rfl, rfl⟩)
            obtain ⟨hx, htd, l, s3, g1, rfl, rfl⟩ := h2'
            have n1 := fr_next (Fr.codeS P hFH (FrE.exec P hFH n) _ c _ u) h1
            have n2 := fr_next (Fr.resultA P tm _) g1
            have hd0 : (tmOf 0 args Tm.nil).d = [] := (tmOf_d args 0 Tm.nil).1
            refine callsD_of_wpS hfn hb (fun c0 cs hc0 => ?_)
            refine codeS_ok hq hH hFH c n hn _ m st st1 _ tm u u1 x _ w c0 cs _ h1 ⟨hr, start_tm fn.ntmps hl, by simp [hlen], by rw [hd0]; exact .nil⟩ (by rw [hc0]; exact hu) (fun A e1 e2 => hf A e1 (by omega)) ?_
            intro a1 w1 m1 mode1 e1 e2 e3 e4
            obtain ⟨v', q1, q2, q3, q4⟩ := results_ok e3.tmr e3.rel g1
            have hde : a1.defers = [] := by have := e3.defers; rw [htd] at this; exact this.none
            have fin : a1.defers = [] ∧ ∃ u', ({ c0 with mode := mode1 } :: cs : List Frame) = { c0 with mode := u' } :: cs ∧ ∃ v, (results fn a1.tmps).run P w1 = .ok v w1 ∧ ∃ v' m', Ending.returned v = .returned v' ∧ Ext m m' ∧ Dom m m' st.next s3.next ∧ Rel ρ w0 base m' s3.heap.get w1 ∧ MR ρ m' u1 u' :=
              ⟨hde, mode1, rfl, v', q1, v', m1, rfl, e1, by rw [q4]; exact e2, by rw [q3]; exact e3.rel, e4⟩
            rcases hx with rfl | rfl <;> exact fin
end
end Go.Proofs.YtbecmcjibpamoaaGreatDoor.Zz
namespace Go.Proofs.YtbecmcjibpamoaaGreatDoor.Zz
open Go Go.RowKit
theorem aval_congr {tm tm2 : Tm} {x : Operand} (h : ∀ t, x = .tmp t → tm2.get t = tm.get t) : aval tm2 x = aval tm x := by
  cases x with
  | tmp t => unfold aval; simp only [h t rfl]
  | _ => rfl
theorem avals_congr {tm tm2 : Tm} : ∀ {l : List Operand}, (∀ x ∈ l, aval tm2 x = aval tm x) → avals tm2 l = avals tm l
  | [], _ => rfl
  | x :: l, h => by
    unfold avals
    rw [h x (by simp), avals_congr (fun y hy => h y (by simp [hy]))]
theorem partsA_congr {tm tm2 : Tm} : ∀ {l : List (Nat × Nat × Operand)}, (∀ p ∈ l, aval tm2 p.2.2 = aval tm p.2.2) → partsA tm2 l = partsA tm l
  | [], _ => rfl
  | (off, z, x) :: l, h => by
    unfold partsA
    rw [h (off, z, x) (by simp), partsA_congr (fun y hy => h y (by simp [hy]))]
theorem arrPlaces_mem {n : Nat} : ∀ {ps : List (Nat × Operand)} {p : Nat × Nat × Operand}, p ∈ arrPlaces n ps → ∃ i, (i, p.2.2) ∈ ps
  | [], p, h => by cases h
  | (i, x) :: ps, p, h => by
    rcases List.mem_cons.1 h with e | e
    · exact ⟨i, by rw [e]; simp⟩
    · obtain ⟨k, hk⟩ := arrPlaces_mem e
      exact ⟨k, by simp [hk]⟩
theorem placesA_mem {pls : List (Nat × Nat)} : ∀ {ps : List (Nat × Operand)} {l : List (Nat × Nat × Operand)} {p : Nat × Nat × Operand}, placesA pls ps = some l → p ∈ l → ∃ i, (i, p.2.2) ∈ ps
  | [], l, p, h, hp => by
    cases h; cases hp
  | (i, x) :: ps, l, p, h, hp => by
    unfold placesA at h
    split at h
    · rename_i o z hq
      split at h
      · rename_i r hr
        cases h
        rcases List.mem_cons.1 hp with e | e
        · exact ⟨i, by rw [e]; simp⟩
        · obtain ⟨k, hk⟩ := placesA_mem hr e
          exact ⟨k, by simp [hk]⟩
      · cases h
    · cases h
theorem oAval_congr {tm tm2 : Tm} {x : Option Operand} (h : ∀ y, x = some y → aval tm2 y = aval tm y) : oAval tm2 x = oAval tm x := by
  cases x with
  | none => rfl
  | some y => unfold oAval; simp only [h y rfl]
theorem bnd_opt_congr {α β : Type} {x : Option α} {f g : α → M β} (h : ∀ a, x = some a → f a = g a) : bnd (opt x) f = bnd (opt x) g := by
  cases x with
  | none => rfl
  | some a =>
    funext s
    show (Zz.bnd (opt (some a)) f) s = (Zz.bnd (opt (some a)) g) s
    unfold Zz.bnd opt Zz.ret
    exact congrFun (h a rfl) s
theorem opA_congr {P : Program} {H : Hooks} {e : Ex} {o : Oper} {tm tm2 : Tm} (h : ∀ x ∈ o.op.operands, aval tm2 x = aval tm x) : opA P H e o tm2 = opA P H e o tm := by
  obtain ⟨dst, op, type, pos, after, guard⟩ := o
  cases op <;> simp only [Op.operands] at h <;> unfold opA <;> simp only
  case build t ps =>
    have hp : ∀ l : List (Nat × Nat × Operand), (∀ p ∈ l, ∃ i, (i, p.2.2) ∈ ps.toList) → partsA tm2 l = partsA tm l := fun l hl => partsA_congr fun p hp => by
      obtain ⟨i, hi⟩ := hl p hp
      exact h _ (by simp; exact ⟨i, by simpa using hi⟩)
    refine bnd_opt_congr fun z _ => ?_
    split
    · refine bnd_opt_congr fun pls _ => bnd_opt_congr fun pl hpl => ?_
      rw [hp pl (fun p hp => placesA_mem hpl hp)]
    · refine bnd_opt_congr fun n _ => ?_
      rw [hp _ (fun p hp => arrPlaces_mem hp)]
    · rfl
  case buildSlice t len ps =>
    have hp : ∀ n, partsA tm2 (arrPlaces n ps.toList) = partsA tm (arrPlaces n ps.toList) := fun n => partsA_congr fun p hp => by
      obtain ⟨i, hi⟩ := arrPlaces_mem hp
      exact h _ (by simp; exact ⟨i, by simpa using hi⟩)
    simp only [hp]
  case makeFunc fn first captured =>
    rw [avals_congr (l := first.toList) (fun x hx => h x (by simp at hx; simp [hx])), avals_congr (l := captured.toList) (fun x hx => h x (by simp at hx; simp [hx]))]
  case makeMap t r =>
    cases r with
    | none => rfl
    | some x => simp only; rw [h x (by simp)]
  case slice t x lo hi mx =>
    rw [h x (by simp), oAval_congr (x := lo) (fun y hy => h y (by simp [hy])), oAval_congr (x := hi) (fun y hy => h y (by simp [hy])), oAval_congr (x := mx) (fun y hy => h y (by simp [hy]))]
  case call c =>
    have ha : avals tm2 c.args.toList = avals tm c.args.toList := avals_congr fun x hx => h x (by simp at hx; simp [Call.operands, hx])
    rw [ha]
    refine bnd_opt_congr fun args _ => ?_
    cases hc : c.callee with
    | builtin b => rfl
    | invoke r name => simp only; rw [h r (by simp [Call.operands, hc])]
    | value f => simp only; rw [h f (by simp [Call.operands, hc])]
  case pick c a b => rw [h c (by simp), h a (by simp), h b (by simp)]
  case store t x y => rw [h x (by simp), h y (by simp)]
  case binOp op t x y q => rw [h x (by simp), h y (by simp)]
  case makeSlice t x y => rw [h x (by simp), h y (by simp)]
  case indexAddr t x y => rw [h x (by simp), h y (by simp)]
  case index t x y => rw [h x (by simp), h y (by simp)]
  case lookup t x y q => rw [h x (by simp), h y (by simp)]
  case mapUpdate t x y z => rw [h x (by simp), h y (by simp), h z (by simp)]
  case insert t x y z => rw [h x (by simp), h y (by simp), h z (by simp)]
  case next x b =>
    cases b
    · simp only; rw [h x (by simp)]
    · simp only; rw [h x (by simp)]
  all_goals first | rfl | (rename_i x; rw [h x (by simp)]; done) | (rename_i x _; rw [h x (by simp)]; done) | (rename_i x _ _; rw [h x (by simp)]; done) | (rename_i x _ _ _; rw [h x (by simp)]; done)
theorem askA_congr {H : Hooks} {op : Op} {tm tm2 : Tm} {x : M AV} (h : ∀ x ∈ op.operands, aval tm2 x = aval tm x) : askA H tm2 op x = askA H tm op x := by
  have : oraKey tm2 op = oraKey tm op := by
    unfold oraKey
    cases op <;> simp only [Op.operands] at h <;> simp only
    case call c =>
      cases hc : c.callee with
      | builtin b =>
        cases b <;> try rfl
        cases ha : c.args.toList with
        | nil => rfl
        | cons y l =>
          cases l with
          | cons _ _ => rfl
          | nil =>
            cases hat : c.argTypes.toList with
            | nil => rfl
            | cons t ts =>
            dsimp only
            rw [h y (by
              have : y ∈ c.args := by
                have : y ∈ c.args.toList := by rw [ha]; simp
                simpa using this
              simp [Call.operands, this])]
      | _ => rfl
    case binOp op t x y q => rw [h x (by simp), h y (by simp)]
    case indexAddr t x y => rw [h x (by simp), h y (by simp)]
    case load t x => rw [h x (by simp)]
  unfold askA
  rw [this]
theorem wantA_congr {ops : Array Oper} {o : Oper} {tm tm2 : Tm} (h : ∀ x ∈ o.looksAt ops, tm2.get x = tm.get x) : wantA ops o tm2 = wantA ops o tm := by
  unfold wantA
  cases hg : o.guard with
  | none => rfl
  | some gw =>
    obtain ⟨j, want⟩ := gw
    cases hj : ops[j]? with
    | none => simp only [hj]
    | some g =>
      simp only [hj]
      cases hd : g.dst with
      | none => rfl
      | some d =>
        simp only
        rw [h d (by simp [Oper.looksAt, hg, hj, hd])]
theorem aval_looks {ops : Array Oper} {o : Oper} {tm tm2 : Tm} (h : ∀ x ∈ o.looksAt ops, tm2.get x = tm.get x) : ∀ x ∈ o.op.operands, aval tm2 x = aval tm x := fun x hx => aval_congr fun t ht => h t (by
  subst ht
  exact List.mem_append_left _ (List.mem_filterMap.2 ⟨.tmp t, by simpa using hx, rfl⟩))
theorem putA_tm {N : Nat} {tm tm2 tm' : Tm} {dst : Option Tmp} {v : AV} {s s' : ASt} (h : putA N tm dst v s = some (tm', s')) :
    ∃ tm2', putA N tm2 dst v s = some (tm2', s') ∧ (∀ x, tm2'.get x = if dst = some x then tm'.get x else tm2.get x) ∧ ∀ x, dst ≠ some x → tm'.get x = tm.get x := by
  unfold putA at h ⊢
  cases dst with
  | none => cases h; exact ⟨tm2, rfl, fun x => by simp, fun x _ => rfl⟩
  | some d =>
    simp only at h ⊢
    cases hb : Nat.blt d N with
    | false => rw [hb] at h; cases h
    | true =>
      rw [hb] at h
      cases h
      refine ⟨tm2.put d v, rfl, fun x => ?_, fun x hx => ?_⟩
      · rw [Tm.get_put, Tm.get_put]
        by_cases e : x = d
        · simp [e]
        · rw [if_neg e, if_neg (by intro q; cases q; exact e rfl)]
      · rw [Tm.get_put, if_neg (by intro e; exact hx (by rw [e]))]
theorem operA_tm {P : Program} {H : Hooks} {e : Ex} {N : Nat} {ops : Array Oper} {o : Oper} {tm tm2 tm' : Tm} {s s' : ASt} (h : operA P H e N ops o tm s = some (tm', s')) (hl : ∀ x ∈ o.looksAt ops, tm2.get x = tm.get x) :
    ∃ tm2', operA P H e N ops o tm2 s = some (tm2', s') ∧ (∀ x, tm2'.get x = if o.dst = some x then tm'.get x else tm2.get x) ∧ ∀ x, o.dst ≠ some x → tm'.get x = tm.get x := by
  unfold operA at h ⊢
  rw [wantA_congr hl]
  cases hw : wantA ops o tm with
  | none => rw [hw] at h; cases h
  | some b =>
    rw [hw] at h
    cases b with
    | false => exact putA_tm h
    | true =>
      simp only at h ⊢
      obtain ⟨v, s1, h1, h2⟩ := bnd_eq h
      have h2' : putA N tm o.dst v s1 = some (tm', s') := by
        cases v with
        | pan x => cases h2
        | _ => exact h2
      obtain ⟨tm2', g1, g2, g3⟩ := putA_tm (tm2 := tm2) h2'
      refine ⟨tm2', ?_, g2, g3⟩
      unfold Zz.bnd
      rw [opA_congr (aval_looks hl), askA_congr (aval_looks hl), h1]
      dsimp only
      cases v with
      | pan x => cases h2
      | _ => exact g1
theorem operA_d {P : Program} {H : Hooks} {e : Ex} {N : Nat} {ops : Array Oper} {o : Oper} {tm tm' : Tm} {s s' : ASt} (h : operA P H e N ops o tm s = some (tm', s')) : tm'.d = tm.d := by
  have hput : ∀ {v : AV} {s1 s2 : ASt} {t2 : Tm}, putA N tm o.dst v s1 = some (t2, s2) → t2.d = tm.d := by
    intro v s1 s2 t2 g
    unfold putA at g
    cases hd : o.dst with
    | none => rw [hd] at g; cases g; rfl
    | some d =>
      rw [hd] at g
      simp only at g
      cases hb : Nat.blt d N with
      | false => rw [hb] at g; cases g
      | true => rw [hb] at g; cases g; rfl
  unfold operA at h
  cases hw : wantA ops o tm with
  | none => rw [hw] at h; cases h
  | some b =>
    rw [hw] at h
    cases b with
    | false => exact hput h
    | true =>
      simp only at h
      obtain ⟨v, s1, h1, h2⟩ := bnd_eq h
      cases v with
      | pan x => cases h2
      | _ => exact hput h2
theorem elemN_mem {x : Nat} : ∀ {l : List Nat}, elemN x l = true → x ∈ l
  | [], h => by cases h
  | y :: l, h => by
    unfold elemN at h
    rcases Bool.or_eq_true _ _ |>.mp h with e | e
    · have : x = y := by simpa using e
      simp [this]
    · exact List.mem_cons_of_mem _ (elemN_mem e)
theorem wrote_get : ∀ (l : List Nat) (A : Nat), 2 * A + 1 ∈ l → (wrote l).get A = some ()
  | [], A, h => by cases h
  | x :: l, A, h => by
    show (bif Nat.beq (x % 2) 1 then (wrote l).put (x / 2) () else wrote l).get A = some ()
    rcases List.mem_cons.1 h with e | e
    · have h1 : Nat.beq (x % 2) 1 = true := by rw [← e]; simp
      rw [h1, cond_true, Tr.get_put, if_pos (by omega)]
    · have := wrote_get l A e
      cases Nat.beq (x % 2) 1 with
      | false => exact this
      | true =>
        rw [cond_true, Tr.get_put]
        split
        · rfl
        · exact this
theorem meets_none {t : Tr Unit} : ∀ {l : List Nat}, meets t l = false → ∀ x ∈ l, t.get (x / 2) = none
  | [], _, x, h => by cases h
  | y :: l, h, x, hx => by
    unfold meets at h
    obtain ⟨h1, h2⟩ := Bool.or_eq_false_iff.1 h
    rcases List.mem_cons.1 hx with e | e
    · rw [e]
      cases hg : t.get (y / 2) with
      | none => rfl
      | some u => rw [hg] at h1; cases h1
    · exact meets_none h2 x e
theorem meets_wrote {a b : List Nat} (h : meets (wrote a) b = false) {A : Nat} (hA : 2 * A + 1 ∈ a) : ¬ Tch b A := by
  intro ht
  have hw := wrote_get a A hA
  rcases ht with e | e
  · have := meets_none h _ e
    rw [show 2 * A / 2 = A by omega, hw] at this; cases this
  · have := meets_none h _ e
    rw [show (2 * A + 1) / 2 = A by omega, hw] at this; cases this
theorem hits_no {x : Nat} : ∀ {l : List Nat}, hits x l = false → ∀ y ∈ l, x / 2 = y / 2 → x % 2 ≠ 1 ∧ y % 2 ≠ 1
  | [], _, y, hy, _ => by cases hy
  | z :: l, h, y, hy, he => by
    unfold hits at h
    cases hc : (Nat.beq (x / 2) (z / 2) && (Nat.beq (x % 2) 1 || Nat.beq (z % 2) 1)) with
    | true => rw [hc] at h; cases h
    | false =>
      rw [hc, cond_false] at h
      rcases List.mem_cons.1 hy with e | e
      · subst e
        have h1 : Nat.beq (x / 2) (y / 2) = true := by simpa using he
        rw [h1, Bool.true_and, Bool.or_eq_false_iff] at hc
        exact ⟨fun q => (by rw [q] at hc; cases hc.1), fun q => (by rw [q] at hc; cases hc.2)⟩
      · exact hits_no h y e he
theorem hitsAny_no : ∀ {a b : List Nat}, hitsAny a b = false → ∀ x ∈ a, hits x b = false
  | [], _, _, x, hx => by cases hx
  | z :: a, b, h, x, hx => by
    unfold hitsAny at h
    cases hc : hits z b with
    | true => rw [hc] at h; cases h
    | false =>
      rw [hc, cond_false] at h
      rcases List.mem_cons.1 hx with e | e
      · rw [e]; exact hc
      · exact hitsAny_no h x e
theorem noHits {a b : List Nat} (h : hitsAny a b = false) {A : Nat} : (2 * A + 1 ∈ a → ¬ Tch b A) ∧ (2 * A + 1 ∈ b → ¬ Tch a A) := by
  refine ⟨fun ha ht => ?_, fun hb ht => ?_⟩
  · have h1 := hitsAny_no h _ ha
    rcases ht with e | e
    · have := (hits_no h1 _ e (by omega)).1; omega
    · have := (hits_no h1 _ e (by omega)).1; omega
  · rcases ht with e | e
    · have := (hits_no (hitsAny_no h _ e) _ hb (by omega)).2; omega
    · have := (hits_no (hitsAny_no h _ e) _ hb (by omega)).2; omega
theorem noMeet_spec {a b : List Nat} (h : noMeet a b = true) {A : Nat} : (2 * A + 1 ∈ a → ¬ Tch b A) ∧ (2 * A + 1 ∈ b → ¬ Tch a A) := by
  unfold noMeet at h
  cases h1 : shortN 6 b with
  | true =>
    rw [h1, cond_true] at h
    have := noHits (A := A) (a := b) (b := a) (by simpa using h)
    exact ⟨this.2, this.1⟩
  | false =>
    rw [h1, cond_false] at h
    cases h2 : shortN 6 a with
    | true =>
      rw [h2, cond_true] at h
      exact noHits (by simpa using h)
    | false =>
      rw [h2, cond_false] at h
      obtain ⟨h1, h2⟩ := Bool.and_eq_true _ _ |>.mp h
      exact ⟨meets_wrote (by simpa using h1), meets_wrote (by simpa using h2)⟩
theorem rowOk_get {ops : Array Oper} {j : Nat} {y : Oper} {ay ly : List Nat} : ∀ {xs : List Oper} {lss : List (List Nat)} {i : Nat}, rowOk ops j y ay ly i xs lss = true →
    ∀ (k : Nat) (x : Oper) (lx : List Nat), xs[k]? = some x → lss[k]? = some lx → i + k < j → pairOk ops (i + k) j x y ay lx ly = true
  | [], _, _, _, k, x, lx, hx, _, _ => by cases hx
  | _ :: _, [], _, _, k, x, lx, _, hl, _ => by cases hl
  | x0 :: xs, l0 :: lss, i, h, k, x, lx, hx, hl, hk => by
    unfold rowOk at h
    have hb : Nat.blt i j = true := by simp; omega
    rw [hb, cond_true] at h
    obtain ⟨h1, h2⟩ := Bool.and_eq_true _ _ |>.mp h
    cases k with
    | zero => cases hx; cases hl; exact h1
    | succ k =>
      have := rowOk_get h2 k x lx (by simpa using hx) (by simpa using hl) (by omega)
      rwa [show i + 1 + k = i + (k + 1) by omega] at this
theorem allOk_get {ops : Array Oper} {all : List Oper} {logs : List (List Nat)} : ∀ {os : List Oper} {as0 ls : List (List Nat)} {j : Nat}, allOk ops all logs j os as0 ls = true →
    ∀ (k : Nat) (y : Oper), os[k]? = some y → ∃ ay ly, as0[k]? = some ay ∧ ls[k]? = some ly ∧ edgeOk (j + k) y = true ∧ rowOk ops (j + k) y ay ly 0 all logs = true
  | [], _, _, _, _, k, y, hy => by cases hy
  | _ :: _, [], _, _, h, _, _, _ => by cases h
  | _ :: _, _ :: _, [], _, h, _, _, _ => by cases h
  | y0 :: os, a0 :: as0, l0 :: ls, j, h, k, y, hy => by
    unfold allOk at h
    obtain ⟨h1, h3⟩ := Bool.and_eq_true _ _ |>.mp h
    obtain ⟨h1, h2⟩ := Bool.and_eq_true _ _ |>.mp h1
    cases k with
    | zero => cases hy; exact ⟨a0, l0, rfl, rfl, h1, h2⟩
    | succ k =>
      have := allOk_get h3 k y (by simpa using hy)
      rw [show j + 1 + k = j + (k + 1) by omega] at this
      simpa using this
def Closed (os : List Oper) (S : Nat → Bool) : Prop := ∀ j y, os[j]? = some y → S j = true → ∀ ed ∈ y.after.toList, Region.binds .any ed = true → S ed.on = true
theorem ancs_go (os : List Oper) : ∀ (r pre : List Oper) (acc : List (List Nat)), os = pre ++ r → acc.length = pre.length →
    (∀ (j : Nat) (y : Oper) (ay : List Nat), os[j]? = some y → acc[j]? = some ay → ∀ S, Closed os S → (∀ ed ∈ y.after.toList, Region.binds .any ed = true → S ed.on = true) → ∀ i ∈ ay, S i = true) →
    ∀ (j : Nat) (y : Oper) (ay : List Nat), os[j]? = some y → (r.foldl (fun acc o => acc ++ [o.after.toList.foldr (fun ed l => bif Region.binds .any ed then ed.on :: ((acc[ed.on]?).getD [] ++ l) else l) []]) acc)[j]? = some ay →
      ∀ S, Closed os S → (∀ ed ∈ y.after.toList, Region.binds .any ed = true → S ed.on = true) → ∀ i ∈ ay, S i = true
  | [], pre, acc, _, _, hg => hg
  | o :: r, pre, acc, ho, hl, hg => by
    refine ancs_go os r (pre ++ [o]) _ (by rw [ho]; simp) (by simp [hl]) ?_
    intro j y ay hy hay S hc hed
    rcases Nat.lt_or_ge j acc.length with hj | hj
    · rw [List.getElem?_append_left hj] at hay
      exact hg j y ay hy hay S hc hed
    · rw [List.getElem?_append_right hj] at hay
      have hj0 : j - acc.length = 0 := by
        rcases Nat.eq_zero_or_pos (j - acc.length) with e | e
        · exact e
        · rw [List.getElem?_eq_none (by simp; omega)] at hay; cases hay
      rw [hj0] at hay
      cases hay
      have hyo : y = o := by
        have : j = pre.length := by omega
        rw [ho, this] at hy
        simp at hy
        exact hy.symm
      subst hyo
      clear hj0 hj hy
      generalize y.after.toList = es at hed
      induction es with
      | nil => intro i hi; cases hi
      | cons ed es ih =>
        intro i hi
        rw [List.foldr_cons] at hi
        have ih' := ih (fun e he => hed e (by simp [he]))
        cases hb : Region.binds .any ed with
        | false => rw [hb] at hi; exact ih' i hi
        | true =>
          rw [hb, cond_true] at hi
          have hS := hed ed (by simp) hb
          rcases List.mem_cons.1 hi with e | hi
          · rw [e]; exact hS
          · rcases List.mem_append.1 hi with hi | hi
            · cases ha : acc[ed.on]? with
              | none => rw [ha] at hi; cases hi
              | some a1 =>
                rw [ha] at hi
                have hlt : ed.on < acc.length := (List.getElem?_eq_some_iff.1 ha).1
                have ho1 : os[ed.on]? = some (pre[ed.on]'(by omega)) := by
                  rw [ho, List.getElem?_append_left (by omega)]; simp
                exact hg ed.on _ a1 ho1 ha S hc (hc ed.on _ ho1 hS) i hi
            · exact ih' i hi
theorem ancs_spec {os : List Oper} {S : Nat → Bool} (hc : Closed os S) {j : Nat} {y : Oper} {ay : List Nat} (hy : os[j]? = some y) (ha : (ancs os)[j]? = some ay) (hed : ∀ ed ∈ y.after.toList, Region.binds .any ed = true → S ed.on = true) : ∀ i ∈ ay, S i = true :=
  ancs_go os os [] [] rfl rfl (fun _ _ _ _ h => by cases h) j y ay hy ha S hc hed
def cur {X : Type} (S W : Nat → Bool) (val : Nat → X) : Nat → X
  | 0 => val 0
  | i + 1 => bif S i && W i then val (i + 1) else cur S W val i
theorem cur_above {X : Type} {S W : Nat → Bool} {val : Nat → X} {j : Nat} : ∀ d, (∀ k, j ≤ k → k < j + d → W k = true → S k = false) → cur S W val (j + d) = cur S W val j
  | 0, _ => rfl
  | d + 1, h => by
    show (bif S (j + d) && W (j + d) then val (j + d + 1) else cur S W val (j + d)) = _
    have : (S (j + d) && W (j + d)) = false := by
      cases hW : W (j + d) with
      | false => simp
      | true => rw [h _ (by omega) (by omega) hW]; rfl
    rw [this, cond_false]
    exact cur_above d (fun k h1 h2 => h k h1 (by omega))
theorem cur_upto {X : Type} {S W : Nat → Bool} {val : Nat → X} : ∀ j, (∀ i, i < j → W i = true → S i = true) → (∀ i, i < j → W i = false → val (i + 1) = val i) → cur S W val j = val j
  | 0, _, _ => rfl
  | j + 1, h, hs => by
    show (bif S j && W j then val (j + 1) else cur S W val j) = _
    have ih := cur_upto (S := S) j (fun i hi => h i (by omega)) (fun i hi => hs i (by omega))
    cases hW : W j with
    | true => rw [h j (by omega) hW]; rfl
    | false => rw [Bool.and_false, cond_false, ih, hs j (by omega) hW]
theorem cur_at {X : Type} {S W : Nat → Bool} {val : Nat → X} {j n : Nat} (hn : j ≤ n) (h1 : ∀ i, i < j → W i = true → S i = true) (h2 : ∀ k, j ≤ k → k < n → W k = true → S k = false) (hs : ∀ i, i < j → W i = false → val (i + 1) = val i) : cur S W val n = val j := by
  have := cur_above (S := S) (W := W) (val := val) (j := j) (n - j) (fun k e1 e2 => h2 k e1 (by omega))
  rw [show j + (n - j) = n by omega] at this
  rw [this, cur_upto j h1 hs]
theorem cur_congr {X : Type} {S S' W : Nat → Bool} {val : Nat → X} : ∀ n, (∀ k, k < n → W k = true → S' k = S k) → cur S' W val n = cur S W val n
  | 0, _ => rfl
  | n + 1, h => by
    show (bif S' n && W n then val (n + 1) else cur S' W val n) = (bif S n && W n then val (n + 1) else cur S W val n)
    rw [cur_congr n (fun k hk => h k (by omega))]
    cases hW : W n with
    | false => simp
    | true => rw [h n (by omega) hW]
theorem cur_step {X : Type} {S S' W : Nat → Bool} {val : Nat → X} {j n : Nat} (hj : j < n) (hS' : S' j = true) (hne : ∀ k, k ≠ j → S' k = S k) (h2 : W j = true → ∀ k, j < k → k < n → W k = true → S k = false) :
    cur S' W val n = if W j = true then val (j + 1) else cur S W val n := by
  by_cases hW : W j = true
  · rw [if_pos hW]
    have := cur_above (S := S') (W := W) (val := val) (j := j + 1) (n - (j + 1)) (fun k e1 e2 e3 => by rw [hne k (by omega)]; exact h2 hW k (by omega) (by omega) e3)
    rw [show j + 1 + (n - (j + 1)) = n by omega] at this
    rw [this]
    show (bif S' j && W j then val (j + 1) else cur S' W val j) = _
    rw [hS', hW]; rfl
  · rw [if_neg hW]
    exact cur_congr n (fun k _ hk => hne k (by intro e; rw [e] at hk; exact hW hk))
def cnt (S : Nat → Bool) : Nat → Nat
  | 0 => 0
  | n + 1 => cnt S n + (bif S n then 0 else 1)
theorem cnt_zero {S : Nat → Bool} : ∀ {n : Nat}, cnt S n = 0 → ∀ k, k < n → S k = true
  | n + 1, h, k, hk => by
    have h' : cnt S n + (bif S n then 0 else 1) = 0 := h
    cases hS : S n with
    | false => rw [hS, cond_false] at h'; omega
    | true =>
      rcases Nat.lt_or_ge k n with e | e
      · exact cnt_zero (by omega) k e
      · rw [show k = n by omega]; exact hS
theorem cnt_step {S S' : Nat → Bool} {j : Nat} (h0 : S j = false) (h1 : S' j = true) (hne : ∀ k, k ≠ j → S' k = S k) : ∀ n, cnt S n = cnt S' n + (if j < n then 1 else 0)
  | 0 => rfl
  | n + 1 => by
    show cnt S n + (bif S n then 0 else 1) = cnt S' n + (bif S' n then 0 else 1) + _
    have ih := cnt_step h0 h1 hne n
    by_cases e : n = j
    · subst e
      rw [h0, h1, if_pos (by omega), cond_true, cond_false]
      rw [if_neg (by omega)] at ih
      omega
    · rw [hne n e]
      by_cases e2 : j < n
      · rw [if_pos e2] at ih; rw [if_pos (by omega)]; omega
      · rw [if_neg e2] at ih; rw [if_neg (by omega)]; omega
section
variable {P : Program} {ρ : Nat → Value} {w0 : World} {base : Nat}
def StepAt (P : Program) (H : Hooks) (e : Ex) (N : Nat) (ops : Array Oper) (o : Oper) (tm tm' : Tm) (s s' : ASt) (l : List Nat) : Prop :=
  ∃ s1, operA P H e N ops o tm s = some (tm', s1) ∧ Fro (operA P H e N ops o tm) s tm' s1 l ∧ s1.heap = s'.heap ∧ s1.next = s'.next
theorem draw_steps {H : Hooks} {e : Ex} {N : Nat} {ops : Array Oper} (hFH : FrH H) (hFE : FrE e) : ∀ (os : List Oper) (tm tm' : Tm) (logs : List (List Nat)) (st st' : ASt), drawA P H e N ops os tm st = some ((tm', logs), st') →
    ∃ (s : Nat → ASt) (t : Nat → Tm), (s 0).heap = st.heap ∧ (s 0).next = st.next ∧ (s 0).log = [] ∧ t 0 = tm ∧ t os.length = tm' ∧ (s os.length).heap = st'.heap ∧ (s os.length).next = st'.next ∧ logs.length = os.length ∧
      ∀ i o l, os[i]? = some o → logs[i]? = some l → StepAt P H e N ops o (t i) (t (i + 1)) (s i) (s (i + 1)) l
  | [], tm, tm', logs, st, st', h => by
    cases h
    exact ⟨fun _ => ⟨st.heap, st.next, []⟩, fun _ => tm, rfl, rfl, rfl, rfl, rfl, rfl, rfl, rfl, fun i o l h => by cases h⟩
  | o :: os, tm, tm', logs, st, st', h => by
    unfold drawA at h
    obtain ⟨⟨tm1, l⟩, st1, h1, h⟩ := bnd_eq h
    obtain ⟨⟨tm2, ls⟩, st2, h2, h3⟩ := bnd_eq h
    cases h3
    obtain ⟨s1, g1, g2, g3, g4⟩ := capt_log (Fr.operA P hFH hFE N ops o tm) h1
    obtain ⟨s, t, e1, e2, e3, e4, e5, e6, e7, e8, e9⟩ := draw_steps hFH hFE os tm1 _ ls st1 _ h2
    refine ⟨fun i => match i with | 0 => ⟨st.heap, st.next, []⟩ | i + 1 => s i, fun i => match i with | 0 => tm | i + 1 => t i, rfl, rfl, rfl, rfl, e5, e6, e7, by simp [e8], ?_⟩
    intro i o' l' ho hl
    cases i with
    | zero =>
      cases ho; cases hl
      exact ⟨s1, by show operA _ _ _ _ _ _ _ _ = some (t 0, s1); rw [e4]; exact g1, by show Fro _ _ (t 0) _ _; rw [e4]; exact g2, by rw [e1, g3], by rw [e2, g4]⟩
    | succ i => exact e9 i o' l' (by simpa using ho) (by simpa using hl)
theorem draw_ok {H : Hooks} {e : Ex} (hm : P.follows .mixedOrders = true) (hq : Opq ρ) (hH : HookOk P ρ w0 base H) (hFH : FrH H) (hFE : FrE e) (hc : CallOk P ρ w0 base e.call) : DrawOk P ρ w0 base H e := by
  intro N id ops m st st' tm tm' logs a w Q h hok hA hf hP
  obtain ⟨s, t, s0, n0, _, t0, tn, sn, nn, hll, hst⟩ := draw_steps hFH hFE ops.toList tm tm' logs st st' h
  have hsize : ops.toList.length = ops.size := by simp
  rw [hsize] at tn sn nn hll
  generalize hn : ops.size = n at *
  have hto : ∀ i, ops.toList[i]? = ops[i]? := fun i => Array.getElem?_toList ..
  -- the numbers' own facts
  let lg : Nat → List Nat := fun i => (logs[i]?).getD []
  let dst : Nat → Option Tmp := fun i => (ops[i]?).bind (·.dst)
  have hop : ∀ i, i < n → ∃ o, ops[i]? = some o := fun i hi => ⟨ops[i]'(by omega), by simp [hn, hi]⟩
  have hlog : ∀ i, i < n → logs[i]? = some (lg i) := fun i hi => by
    show logs[i]? = some ((logs[i]?).getD [])
    rw [List.getElem?_eq_getElem (by omega)]; rfl
  have hstep : ∀ i o, i < n → ops[i]? = some o → StepAt P H e N ops o (t i) (t (i + 1)) (s i) (s (i + 1)) (lg i) := fun i o hi ho => hst i o (lg i) (by rw [hto]; exact ho) (hlog i hi)
  have hmono1 : ∀ i, i < n → (s i).next ≤ (s (i + 1)).next := fun i hi => by
    obtain ⟨o, ho⟩ := hop i hi
    obtain ⟨s1, g1, g2, g3, g4⟩ := hstep i o hi ho
    rw [← g4]; exact g2.next
  have hmono : ∀ d i, i + d ≤ n → (s i).next ≤ (s (i + d)).next := fun d => by
    induction d with
    | zero => intro i _; exact Nat.le_refl _
    | succ d ih => intro i hi; exact Nat.le_trans (ih i (by omega)) (hmono1 (i + d) (by omega))
  have hle : ∀ i k, i ≤ k → k ≤ n → (s i).next ≤ (s k).next := fun i k h1 h2 => by
    have := hmono (k - i) i (by omega)
    rwa [show i + (k - i) = k by omega] at this
  have halloc : ∀ i, i < n → ∀ A, (s i).next ≤ A → A < (s (i + 1)).next → 2 * A + 1 ∈ lg i := fun i hi A h1 h2 => by
    obtain ⟨o, ho⟩ := hop i hi
    obtain ⟨s1, g1, g2, g3, g4⟩ := hstep i o hi ho
    exact g2.alloc A h1 (by rw [g4]; exact h2)
  have hsame : ∀ i, i < n → ∀ A, 2 * A + 1 ∉ lg i → (s (i + 1)).heap.get A = (s i).heap.get A := fun i hi A h1 => by
    obtain ⟨o, ho⟩ := hop i hi
    obtain ⟨s1, g1, g2, g3, g4⟩ := hstep i o hi ho
    rw [← g3]
    exact g2.same A h1 (fun hh => h1 (g2.alloc A hh.1 hh.2))
  have hsamet : ∀ i, i < n → ∀ x, dst i ≠ some x → (t (i + 1)).get x = (t i).get x := fun i hi x h1 => by
    obtain ⟨o, ho⟩ := hop i hi
    obtain ⟨s1, g1, g2, g3, g4⟩ := hstep i o hi ho
    obtain ⟨_, _, _, q⟩ := operA_tm (tm2 := t i) g1 (fun _ _ => rfl)
    exact q x (by
      have hd : dst i = o.dst := by show (ops[i]?).bind (·.dst) = _; rw [ho]; rfl
      rw [← hd]; exact h1)
  have hdd : ∀ i, i ≤ n → (t i).d = tm.d := fun i => by
    induction i with
    | zero => intro _; rw [t0]
    | succ i ih =>
      intro hi
      obtain ⟨o, ho⟩ := hop i (by omega)
      obtain ⟨s1, g1, _⟩ := hstep i o (by omega) ho
      rw [operA_d g1]; exact ih (by omega)
  have hchk : ∀ k y, k < n → ops[k]? = some y → ∃ ay, (ancs ops.toList)[k]? = some ay ∧ edgeOk k y = true ∧ ∀ i x, i < k → ops[i]? = some x → i ∈ ay ∨ (noMeet (lg i) (lg k) = true ∧ Oper.apart ops x y = true) := fun k y hk hy => by
    obtain ⟨ay, ly, q1, q2, q3, q4⟩ := allOk_get hok k y (by rw [hto]; exact hy)
    rw [Nat.zero_add] at q3 q4
    have hly : ly = lg k := by have := hlog k hk; rw [q2] at this; exact Option.some.inj this
    subst hly
    refine ⟨ay, q1, q3, fun i x hi hx => ?_⟩
    have := rowOk_get q4 i x (lg i) (by rw [hto]; exact hx) (hlog i (by omega)) (by omega)
    rw [Nat.zero_add] at this
    unfold pairOk at this
    rcases Bool.or_eq_true _ _ |>.mp this with h1 | h1
    · exact .inl (elemN_mem h1)
    · exact .inr (Bool.and_eq_true _ _ |>.mp h1)
  have hedge : ∀ k y, k < n → ops[k]? = some y → ∀ ed ∈ y.after.toList, Region.binds .any ed = true → ed.on < k := fun k y hk hy ed he hb => by
    obtain ⟨_, _, q, _⟩ := hchk k y hk hy
    have := (List.all_eq_true.1 q) ed he
    rw [hb] at this
    simpa using this
  refine wp_region_any hm ?_
  rw [hn]
  have main : ∀ (fuel : Nat) (listed : Array Bool) (a1 : Act) (w1 : World) (m1 : BMap) (hp : Hp ABlk) (tmS : Tm), listed.size = n → Closed ops.toList (fun i => listed.getD i false) → cnt (fun i => listed.getD i false) n ≤ fuel →
      (∀ A, hp.get A = cur (fun i => listed.getD i false) (fun i => decide (2 * A + 1 ∈ lg i)) (fun i => (s i).heap.get A) n) →
      (∀ x, tmS.get x = cur (fun i => listed.getD i false) (fun i => decide (dst i = some x)) (fun i => (t i).get x) n) →
      Rel ρ w0 base m1 hp.get w1 → TmR ρ m1 tmS a1 → a1.tmps.size = N → a1.defers = a.defers → Ext m m1 → Dom m m1 st.next st'.next →
      (∀ j, j < n → listed.getD j false = false → Fresh m1 (s j).next (s (j + 1)).next) → wpAny P .any ops Q fuel listed a1 w1 := by
    have hfin : ∀ (listed : Array Bool) (a1 : Act) (w1 : World) (m1 : BMap) (hp : Hp ABlk) (tmS : Tm), (∀ j, j < n → listed.getD j false = true) →
        (∀ A, hp.get A = cur (fun i => listed.getD i false) (fun i => decide (2 * A + 1 ∈ lg i)) (fun i => (s i).heap.get A) n) →
        (∀ x, tmS.get x = cur (fun i => listed.getD i false) (fun i => decide (dst i = some x)) (fun i => (t i).get x) n) →
        Rel ρ w0 base m1 hp.get w1 → TmR ρ m1 tmS a1 → a1.tmps.size = N → a1.defers = a.defers → Ext m m1 → Dom m m1 st.next st'.next → Q .normal a1 w1 := by
      intro listed a1 w1 m1 hp tmS hall hhp htm hrel htr hsz hdf hext hdom
      refine hP a1 w1 m1 hext hdom ⟨?_, ?_, hsz, by rw [hdf, ← tn, hdd n (Nat.le_refl n)]; exact hA.defers.ext hext⟩
      · have : hp.get = st'.heap.get := by
          funext A
          rw [hhp A, cur_upto n (fun i hi _ => hall i hi) (fun i hi hW => hsame i hi A (by simpa using hW)), sn]
        rw [← this]; exact hrel
      · intro x
        have : tm'.get x = tmS.get x := by
          rw [htm x, cur_upto n (fun i hi _ => hall i hi) (fun i hi hW => hsamet i hi x (by simpa using hW)), tn]
        rw [this]; exact htr x
    intro fuel
    induction fuel with
    | zero =>
      intro listed a1 w1 m1 hp tmS hls hcl hcnt hhp htm hrel htr hsz hdf hext hdom hfr
      have hall := cnt_zero (Nat.le_zero.1 hcnt)
      have hr : Region.ready .any ops listed = [] := by
        rw [List.eq_nil_iff_forall_not_mem]
        intro j hj
        obtain ⟨q1, o, q2, _⟩ := mem_ready.1 hj
        have hj' : j < n := by rw [← hn]; exact (Array.getElem?_eq_some_iff.1 q2).1
        have := hall j hj'
        rw [Array.getD_eq_getD_getElem?, Array.getElem?_eq_getElem (by omega)] at this q1
        rw [Option.getD_some] at this q1
        rw [this] at q1; cases q1
      exact ⟨hr, hfin listed a1 w1 m1 hp tmS hall hhp htm hrel htr hsz hdf hext hdom⟩
    | succ fuel ih =>
      intro listed a1 w1 m1 hp tmS hls hcl hcnt hhp htm hrel htr hsz hdf hext hdom hfr
      have hget : ∀ j, j < n → listed.getD j true = listed.getD j false := fun j hj => by
        rw [Array.getD_eq_getD_getElem?, Array.getD_eq_getD_getElem?, Array.getElem?_eq_getElem (by omega)]; rfl
      refine ⟨fun hr => hfin listed a1 w1 m1 hp tmS ?_ hhp htm hrel htr hsz hdf hext hdom, fun j hj => ?_⟩
      · intro j
        induction j using Nat.strongRecOn with
        | _ j ihj =>
          intro hj
          cases hb : listed.getD j false with
          | true => rfl
          | false =>
            obtain ⟨o, ho⟩ := hop j hj
            have : j ∈ Region.ready .any ops listed := mem_ready.2 ⟨by rw [hget j hj]; exact hb, o, ho, fun ed he hbd => by
              have := hedge j o hj ho ed (by simpa using he) hbd
              exact ihj _ this (by omega)⟩
            rw [hr] at this; cases this
      · obtain ⟨q1, o, ho, q3⟩ := mem_ready.1 hj
        have hjn : j < n := by rw [← hn]; exact (Array.getElem?_eq_some_iff.1 ho).1
        rw [hget j hjn] at q1
        obtain ⟨ay, hay, _, hpair⟩ := hchk j o hjn ho
        have hanc : ∀ i ∈ ay, listed.getD i false = true := ancs_spec hcl (by rw [hto]; exact ho) hay (fun ed he hb => q3 ed (by simpa using he) hb)
        -- one ahead of it: done, or apart from it
        have hlow : ∀ i x, i < j → ops[i]? = some x → listed.getD i false = true ∨ (noMeet (lg i) (lg j) = true ∧ Oper.apart ops x o = true) := fun i x hi hx => (hpair i x hi hx).imp (hanc i) (fun q => q)
        -- one behind it that is done: apart from it
        have hhigh : ∀ k y, j < k → k < n → ops[k]? = some y → listed.getD k false = true → noMeet (lg j) (lg k) = true ∧ Oper.apart ops o y = true := fun k y hjk hk hy hS => by
          obtain ⟨ay', hay', _, hpair'⟩ := hchk k y hk hy
          rcases hpair' j o hjk ho with hin | hap
          · have := ancs_spec hcl (by rw [hto]; exact hy) hay' (hcl k y (by rw [hto]; exact hy) hS) j hin
            rw [q1] at this; cases this
          · exact hap
        obtain ⟨s1, g1, g2, g3, g4⟩ := hstep j o hjn ho
        have hdj : dst j = o.dst := by show (ops[j]?).bind (·.dst) = _; rw [ho]; rfl
        have hdi : ∀ i x, ops[i]? = some x → dst i = x.dst := fun i x hx => by show (ops[i]?).bind (·.dst) = _; rw [hx]; rfl
        -- what it touches stands as0 in the text's order
        have htouch : ∀ A, Tch (lg j) A → hp.get A = (s j).heap.get A := fun A hA => by
          rw [hhp A]
          refine cur_at (by omega) (fun i hi hW => ?_) (fun k hk1 hk2 hW => ?_) (fun i hi hW => hsame i (by omega) A (by simpa using hW))
          · obtain ⟨x, hx⟩ := hop i (by omega)
            rcases hlow i x hi hx with h1 | ⟨h1, _⟩
            · exact h1
            · exact absurd hA ((noMeet_spec h1).1 (by simpa using hW))
          · rcases Nat.lt_or_ge j k with hlt | hge
            · obtain ⟨y, hy⟩ := hop k hk2
              cases hb : listed.getD k false with
              | false => rfl
              | true => exact absurd hA ((noMeet_spec (hhigh k y hlt hk2 hy hb).1).2 (by simpa using hW))
            · rw [show k = j by omega]; exact q1
        have hlook : ∀ x ∈ o.looksAt ops, tmS.get x = (t j).get x := fun x hx => by
          rw [htm x]
          refine cur_at (by omega) (fun i hi hW => ?_) (fun k hk1 hk2 hW => ?_) (fun i hi hW => hsamet i (by omega) x (by simpa using hW))
          · obtain ⟨y, hy⟩ := hop i (by omega)
            rcases hlow i y hi hy with h1 | ⟨_, h1⟩
            · exact h1
            · have hd : y.dst = some x := by rw [← hdi i y hy]; simpa using hW
              exact absurd hx ((Oper.apart_spec h1).1 x hd)
          · rcases Nat.lt_or_ge j k with hlt | hge
            · obtain ⟨y, hy⟩ := hop k hk2
              cases hb : listed.getD k false with
              | false => rfl
              | true =>
                have hd : y.dst = some x := by rw [← hdi k y hy]; simpa using hW
                exact absurd hx ((Oper.apart_spec (hhigh k y hlt hk2 hy hb).2).2.2 x hd)
            · rw [show k = j by omega]; exact q1
        obtain ⟨s2, k1, k2, k3, k4, k5⟩ := g2.other ⟨hp, (s j).next, []⟩ rfl (fun A hA => by
          rcases hA with hA | hA
          · exact htouch A hA
          · exact htouch A (.inr (g2.alloc A hA.1 hA.2)))
        obtain ⟨tm2, p1, p2, p3⟩ := operA_tm k1 hlook
        have hs2 : s2.next = (s (j + 1)).next := by rw [k3, g4]
        unfold wpOp
        rw [ho]
        refine oper_ok hq hc hH p1 hrel (by show Fresh m1 (s j).next s2.next; rw [hs2]; exact hfr j hjn q1) htr hsz hdf _ Q (fun a2 w2 m2 e1 e2 e3 e4 e5 e6 _ _ => ?_)
        have e2' : Dom m1 m2 (s j).next (s (j + 1)).next := by rw [← hs2]; exact e2
        have hin : (listed.setIfInBounds j true).getD j false = true := by
          rw [Array.getD_eq_getD_getElem?, Array.getElem?_setIfInBounds_self_of_lt (by omega)]; rfl
        have hne : ∀ k, k ≠ j → (listed.setIfInBounds j true).getD k false = listed.getD k false := fun k hk => getD_set_ne false (Ne.symm hk)
        refine ih (listed.setIfInBounds j true) a2 w2 m2 s2.heap tm2 (by simp [hls]) ?_ ?_ ?_ ?_ e3 e4 e5 e6 (hext.trans e1) ?_ ?_
        · intro k y hy hS ed he hb
          by_cases hkj : k = j
          · subst hkj
            rw [hto, ho] at hy
            cases hy
            exact getD_set_true (q3 ed (by simpa using he) hb)
          · exact getD_set_true (hcl k y hy ((hne k hkj).symm.trans hS) ed he hb)
        · have := cnt_step (S := fun i => listed.getD i false) (S' := fun i => (listed.setIfInBounds j true).getD i false) (j := j) q1 hin hne n
          rw [if_pos hjn] at this
          omega
        · intro A
          rw [cur_step (S := fun i => listed.getD i false) hjn hin hne (fun hW k hk1 hk2 hWk => by
            obtain ⟨y, hy⟩ := hop k hk2
            cases hb : listed.getD k false with
            | false => rfl
            | true => exact absurd (Or.inr (by simpa using hWk)) ((noMeet_spec (hhigh k y hk1 hk2 hy hb).1).1 (by simpa using hW)))]
          by_cases hW : 2 * A + 1 ∈ lg j
          · rw [if_pos (by simpa using hW), k4 A (.inl hW), g3]
          · rw [if_neg (by simpa using hW), ← hhp A]
            exact k5 A hW (fun hh => hW (g2.alloc A hh.1 hh.2))
        · intro x
          rw [cur_step (S := fun i => listed.getD i false) hjn hin hne (fun hW k hk1 hk2 hWk => by
            obtain ⟨y, hy⟩ := hop k hk2
            cases hb : listed.getD k false with
            | false => rfl
            | true =>
              have hd : y.dst = some x := by rw [← hdi k y hy]; simpa using hWk
              have hd0 : o.dst = some x := by rw [← hdj]; simpa using hW
              exact absurd hd ((Oper.apart_spec (hhigh k y hk1 hk2 hy hb).2).2.1 x hd0))]
          rw [p2 x]
          by_cases hW : o.dst = some x
          · rw [if_pos hW, if_pos (by simpa [hdj] using hW)]
          · rw [if_neg hW, if_neg (by simpa [hdj] using hW), ← htm x]
        · intro A h1 h2
          cases hb : m1 A with
          | none =>
            have := e2' A hb h2
            have l1 := hle 0 j (by omega) (by omega)
            have l2 := hle (j + 1) n (by omega) (by omega)
            rw [n0] at l1; rw [nn] at l2
            omega
          | some p => exact hdom A h1 (by rw [hb]; simp)
        · intro k hk hS A h1 h2
          have hkj : k ≠ j := by intro e; rw [e, hin] at hS; cases hS
          rw [hne k hkj] at hS
          have := hfr k hk hS A h1 h2
          cases hb : m2 A with
          | none => rfl
          | some p =>
            exfalso
            have := e2' A this (by rw [hb]; simp)
            rcases Nat.lt_or_ge k j with hlt | hge
            · have := hle (k + 1) j (by omega) (by omega); omega
            · have := hle (j + 1) k (by omega) (by omega); omega
  have hnil : ∀ i, (Array.replicate n false).getD i false = false := fun i => by
    rw [Array.getD_eq_getD_getElem?, Array.getElem?_replicate]; split <;> rfl
  refine main n (Array.replicate n false) a _ m st.heap tm (by simp) ?_ ?_ ?_ ?_ (hA.rel.same_heap rfl rfl rfl rfl) hA.tmr hA.size rfl (Ext.refl m) (fun A h1 h2 => absurd h1 h2) ?_
  · intro k y _ hS
    have := (hnil k).symm.trans hS; cases this
  · have hcn : ∀ k, cnt (fun i => (Array.replicate n false).getD i false) k ≤ k := fun k => by
      induction k with
      | zero => exact Nat.le_refl _
      | succ k ih =>
        show cnt _ k + (bif (Array.replicate n false).getD k false then 0 else 1) ≤ k + 1
        rw [hnil, cond_false]; omega
    exact hcn n
  · intro A
    have h0 : ∀ k, cur (fun i => (Array.replicate n false).getD i false) (fun i => decide (2 * A + 1 ∈ lg i)) (fun i => (s i).heap.get A) k = (s 0).heap.get A := fun k => by
      induction k with
      | zero => rfl
      | succ k ih =>
        show (bif (Array.replicate n false).getD k false && decide (2 * A + 1 ∈ lg k) then (s (k + 1)).heap.get A else cur _ _ _ k) = _
        rw [hnil, Bool.false_and, cond_false]; exact ih
    rw [h0, s0]
  · intro x
    have h0 : ∀ k, cur (fun i => (Array.replicate n false).getD i false) (fun i => decide (dst i = some x)) (fun i => (t i).get x) k = (t 0).get x := fun k => by
      induction k with
      | zero => rfl
      | succ k ih =>
        show (bif (Array.replicate n false).getD k false && decide (dst k = some x) then (t (k + 1)).get x else cur _ _ _ k) = _
        rw [hnil, Bool.false_and, cond_false]; exact ih
    rw [h0, t0]
  · intro j hj _ A h1 h2
    refine hf A ?_ ?_
    · have := hle 0 j (by omega) (by omega); rw [n0] at this; omega
    · have := hle (j + 1) n (by omega) (by omega); rw [nn] at this; omega
theorem exec_calls {H : Hooks} (hm : P.follows .mixedOrders = true) (hq : Opq ρ) (hH : HookOk P ρ w0 base H) (hFH : FrH H) (n : Nat) : CallOk P ρ w0 base (exec P H n).call :=
  (exec_ok hq hH hFH (fun _ hFE hc => draw_ok hm hq hH hFH hFE hc) n).1
end
end Go.Proofs.YtbecmcjibpamoaaGreatDoor.Zz
namespace Go.Proofs.YtbecmcjibpamoaaGreatDoor.Zz
open Go
def countB (c : Nat) : List UInt8 → Nat
  | [] => 0
  | x :: l => bif Nat.beq x.toNat c then countB c l + 1 else countB c l
def indexB (c : Nat) : List UInt8 → Nat → Option Nat
  | [], _ => none
  | x :: l, i => bif Nat.beq x.toNat c then some i else indexB c l (i + 1)
def orNeg : Option Nat → Int
  | some i => .ofNat i
  | none => -1
def hCount : List AV → M AV
  | [.str s, .int .u8 (.ofNat c)] => bif Nat.blt c 256 then ret (.int .i64 (countB c s)) else fail
  | _ => fail
def hIndexByte : List AV → M AV
  | [.str s, .int .u8 (.ofNat c)] => bif Nat.blt c 256 then ret (.int .i64 (orNeg (indexB c s 0))) else fail
  | _ => fail
def hookOf : List (FuncId × (List AV → M AV)) → FuncId → Option (List AV → M AV)
  | [], _ => none
  | (g, h) :: l, f => bif Nat.beq g f then some h else hookOf l f
end Go.Proofs.YtbecmcjibpamoaaGreatDoor.Zz
namespace Go.Proofs.YtbecmcjibpamoaaGreatDoor.Zz
open Go Go.RowKit
section
variable {P : Program} {ρ : Nat → Value} {w0 : World} {base : Nat}
theorem hookOf_get {l : List (FuncId × (List AV → M AV))} {f : FuncId} {h : List AV → M AV} (e : hookOf l f = some h) : (f, h) ∈ l := by
  induction l with
  | nil => cases e
  | cons p l ih =>
    obtain ⟨g, k⟩ := p
    unfold hookOf at e
    cases hb : Nat.beq g f with
    | true =>
      rw [hb] at e
      cases e
      have : g = f := by simpa using hb
      simp [this]
    | false => rw [hb] at e; exact List.mem_cons_of_mem _ (ih e)
theorem hooks_ok {l : List (FuncId × (List AV → M AV))} {or : Q → Option AV} (h : ∀ p ∈ l, (∀ args, Fr (p.2 args)) ∧ HookFn P ρ w0 base p.1 p.2) (ho : ∀ q r, or q = some r → OraOk P ρ w0 base q r) : HookOk P ρ w0 base ⟨hookOf l, or⟩ ∧ FrH ⟨hookOf l, or⟩ :=
  ⟨⟨fun _ _ e => (h _ (hookOf_get e)).2, ho⟩, fun _ _ e => (h _ (hookOf_get e)).1⟩
def IsExtern (P : Program) (f : FuncId) (e : Array Value → Sem Value) : Prop :=
  ∃ fn, P.funcs[f]? = some fn ∧ (fn.name == "runtime.NumGoroutine") = false ∧ fn.body.isNone = true ∧ Extern.findNext fn = none ∧ Extern.find fn = some e
theorem toNat_of (x : UInt8) {c : Nat} (hc : c < 256) : x.toNat = c ↔ x = c.toUInt8 := by
  constructor
  · intro h; apply UInt8.toNat_inj.1; rw [h]; simp [Nat.toUInt8, UInt8.toNat_ofNat']; omega
  · intro h; rw [h]; simp [Nat.toUInt8, UInt8.toNat_ofNat']; omega
theorem countB_eq {c : Nat} (hc : c < 256) : ∀ l, countB c l = Lib.countByte l c.toUInt8
  | [] => rfl
  | x :: l => by
    unfold countB Lib.countByte
    rw [List.count_cons, countB_eq hc l]
    by_cases h : x.toNat = c
    · have h1 : x = c.toUInt8 := (toNat_of x hc).1 h
      have h2 : Nat.beq x.toNat c = true := by simpa using h
      rw [h2, cond_true, if_pos (by simpa using h1)]; rfl
    · have h1 : ¬ x = c.toUInt8 := fun e => h ((toNat_of x hc).2 e)
      have h2 : Nat.beq x.toNat c = false := by cases hb : Nat.beq x.toNat c with | false => rfl | true => exact absurd (by simpa using hb) h
      rw [h2, cond_false, if_neg (by simpa using h1)]; rfl
theorem indexB_eq {c : Nat} : ∀ (l : List UInt8) (i : Nat), indexB c l i = (indexB c l 0).map (· + i)
  | [], i => rfl
  | x :: l, i => by
    unfold indexB
    cases Nat.beq x.toNat c with
    | true => simp
    | false =>
      rw [cond_false, cond_false, indexB_eq l (i + 1), indexB_eq l (0 + 1)]
      cases indexB c l 0 with
      | none => rfl
      | some k => simp; omega
theorem indexByte_eq {c : Nat} (hc : c < 256) : ∀ l, orNeg (indexB c l 0) = Lib.indexByte l c.toUInt8
  | [] => rfl
  | x :: l => by
    have ih := indexByte_eq hc l
    unfold indexB Lib.indexByte
    by_cases h : x.toNat = c
    · have h1 : x = c.toUInt8 := (toNat_of x hc).1 h
      have h2 : Nat.beq x.toNat c = true := by simpa using h
      rw [h2, cond_true, if_pos (by simpa using h1)]; rfl
    · have h1 : ¬ x = c.toUInt8 := fun e => h ((toNat_of x hc).2 e)
      have h2 : Nat.beq x.toNat c = false := by cases hb : Nat.beq x.toNat c with | false => rfl | true => exact absurd (by simpa using hb) h
      rw [h2, cond_false, indexB_eq l (0 + 1), if_neg (by simpa using h1), ← ih]
      cases indexB c l 0 with
      | none => rfl
      | some k =>
        have : ¬ ((orNeg (some k) == -1) = true) := by
          unfold orNeg; simp
        rw [if_neg this]
        unfold orNeg; simp
theorem upon_pure {o : Oper} {a : Act} {K : Act → World → Prop} {Q : Exit → Act → World → Prop} {v : Value} {w : World} (h : K (a.put o.dst v) w) : o.upon P a K Q (.ok (.value v) w) := by
  rw [Oper.upon_value]; exact h
theorem hCount_ok {f : FuncId} (he : IsExtern P f Extern.BytealgCount.count) : (∀ args, Fr (hCount args)) ∧ HookFn P ρ w0 base f hCount := by
  obtain ⟨fn, h1, h2, h3, h4, h5⟩ := he
  refine ⟨fun args => ?_, fun args us m st w v st' h hr hf hl o a K Q hK => ?_⟩
  · unfold hCount
    split
    · exact Fr.cond (Fr.ret _) Fr.fail
    · exact Fr.fail
  · unfold hCount at h
    split at h
    · rename_i s c
      cases hb : Nat.blt c 256 with
      | false => rw [hb] at h; cases h
      | true =>
        rw [hb, cond_true] at h
        cases h
        have hc : c < 256 := by simpa using hb
        have hus : us = #[.string ⟨s.toArray⟩, .int .u8 (Int.ofNat c)] := by
          obtain ⟨l⟩ := us
          cases hl with | cons _ v1 _ r1 q1 hl => _
          cases hl with | cons _ v2 _ r2 q2 hl => _
          cases hl
          cases q1
          cases q2
          rfl
        rw [hus, run_callFunc_extern h1 h2 h3 h4 h5, Lib.run_countString]
        simp only [Result.andThen]
        refine upon_pure (hK _ w m (Ext.refl m) (fun A e1 e2 => absurd e1 e2) hr ?_)
        have : (Int.ofNat c).toNat = c := rfl
        rw [this, countB_eq hc]
        exact .int _ _
    · cases h
theorem hIndexByte_ok {f : FuncId} (he : IsExtern P f Extern.BytealgIndexByte.indexByte) : (∀ args, Fr (hIndexByte args)) ∧ HookFn P ρ w0 base f hIndexByte := by
  obtain ⟨fn, h1, h2, h3, h4, h5⟩ := he
  refine ⟨fun args => ?_, fun args us m st w v st' h hr hf hl o a K Q hK => ?_⟩
  · unfold hIndexByte
    split
    · exact Fr.cond (Fr.ret _) Fr.fail
    · exact Fr.fail
  · unfold hIndexByte at h
    split at h
    · rename_i s c
      cases hb : Nat.blt c 256 with
      | false => rw [hb] at h; cases h
      | true =>
        rw [hb, cond_true] at h
        cases h
        have hc : c < 256 := by simpa using hb
        have hus : us = #[.string ⟨s.toArray⟩, .int .u8 (Int.ofNat c)] := by
          obtain ⟨l⟩ := us
          cases hl with | cons _ v1 _ r1 q1 hl => _
          cases hl with | cons _ v2 _ r2 q2 hl => _
          cases hl
          cases q1
          cases q2
          rfl
        rw [hus, run_callFunc_extern h1 h2 h3 h4 h5, Lib.run_indexByteString]
        simp only [Result.andThen]
        refine upon_pure (hK _ w m (Ext.refl m) (fun A e1 e2 => absurd e1 e2) hr ?_)
        have : (Int.ofNat c).toNat = c := rfl
        rw [this, indexByte_eq hc]
        exact .int _ _
    · cases h
def st0 : ASt := ⟨.lf, 1000, []⟩
def saysTrue (r : Option (AV × ASt)) : Bool := match r with
  | some (.bool true, _) => true
  | _ => false
theorem exec_top_ora {l : List (FuncId × (List AV → M AV))} {or : Q → Option AV} (hm : P.follows .mixedOrders = true) (hq : Opq ρ) (w : World) (hk : ∀ p ∈ l, (∀ args, Fr (p.2 args)) ∧ HookFn P ρ w w.heap.size p.1 p.2) (ho : ∀ q r, or q = some r → OraOk P ρ w w.heap.size q r) (n : Nat)
    {f : FuncId} {args : List AV} {us : Array Value} (hl : LR ρ (fun _ => none) args us.toList)
    (h : saysTrue ((exec P ⟨hookOf l, or⟩ n).call f args st0) = true) : Calls P f us w fun e w' => e = .returned (.bool true) ∧ Below w.heap.size w w' := by
  obtain ⟨hH, hF⟩ := hooks_ok hk ho
  cases hc : (exec P ⟨hookOf l, or⟩ n).call f args st0 with
  | none => rw [hc] at h; cases h
  | some r =>
    obtain ⟨v, st'⟩ := r
    rw [hc] at h
    have hv : v = .bool true := by
      unfold saysTrue at h
      split at h
      · rename_i s e; cases e; rfl
      · cases h
    subst hv
    refine Calls.mono (exec_calls hm hq hH hF n f args us (fun _ => none) st0 w _ st' hc ⟨fun A b hb => (by rw [show st0.heap.get A = none from Hp.get_lf A] at hb; cases hb), fun A B a b p q ha => (by rw [show st0.heap.get A = none from Hp.get_lf A] at ha; cases ha), Below.refl _ _, Nat.le_refl _⟩ (fun _ _ _ => rfl) hl) ?_
    rintro e w' ⟨m', _, _, e4, ⟨v', rfl, e5⟩ | ⟨x, u, e5, _⟩⟩
    · cases e5
      exact ⟨rfl, e4.old⟩
    · cases e5
def noOra : Q → Option AV := fun _ => none
theorem exec_top {l : List (FuncId × (List AV → M AV))} (hm : P.follows .mixedOrders = true) (hq : Opq ρ) (w : World) (hk : ∀ p ∈ l, (∀ args, Fr (p.2 args)) ∧ HookFn P ρ w w.heap.size p.1 p.2) (n : Nat) {f : FuncId} {args : List AV} {us : Array Value} (hl : LR ρ (fun _ => none) args us.toList)
    (h : saysTrue ((exec P ⟨hookOf l, noOra⟩ n).call f args st0) = true) : Calls P f us w fun e w' => e = .returned (.bool true) ∧ Below w.heap.size w w' :=
  exec_top_ora hm hq w hk (fun _ _ e => by cases e) n hl h
end
end Go.Proofs.YtbecmcjibpamoaaGreatDoor.Zz
