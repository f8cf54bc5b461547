/- The executor: code, calls. -/
import Derived.Test.YtckmcajnhobkpaaGreatDoorExT
import Derived.Maps.RangeRun
set_option linter.unusedVariables false
set_option linter.unusedSimpArgs false
set_option linter.deprecated false
namespace Go.Proofs.YtckmcajnhobkpaaGreatDoor.Zz
open Go Go.RowKit

section
variable {P : Program} {ρ : Nat → Value} {w0 : World} {base : Nat} {m : BMap}
theorem Dom.trans {a b c : BMap} {l k h : Nat} (h1 : Dom a b l k) (h2 : Dom b c k h) (hl : l ≤ k) (hk : k ≤ h) : Dom a c l h := fun A e1 e2 => by
  cases hb : b A with
  | none => have := h2 A hb e2; omega
  | some p => have := h1 A e1 (by rw [hb]; simp); omega
theorem Fresh.rest {a b : BMap} {l k h : Nat} (hf : Fresh a l h) (hd : Dom a b l k) (hl : l ≤ k) : Fresh b k h := fun A e1 e2 => by
  have := hf A (by omega) e2
  cases hb : b A with
  | none => rfl
  | some p => have := hd A this (by rw [hb]; simp); omega
/-- the state of a walk -/
structure At (P : Program) (ρ : Nat → Value) (w0 : World) (base N : Nat) (m : BMap) (st : ASt) (tm : Tm) (a : Act) (w : World) : Prop where
  rel : Rel ρ w0 base m st.heap.get w
  tmr : TmR ρ m tm a
  size : a.tmps.size = N
  defers : DfR P ρ m tm.d a.defers
/-- what is to be shown behind a piece of code -/
def Post (P : Program) (ρ : Nat → Value) (w0 : World) (base N : Nat) (m : BMap) (st st' : ASt) (tm' : Tm) (K : BMap → Act → World → Prop) : Prop :=
  ∀ a' w' m', Ext m m' → Dom m m' st.next st'.next → At P ρ w0 base N m' st' tm' a' w' → K m' a' w'
/-- behind a piece of code, by its exit: of a panic, whatever it was panicked with -/
def QX (ρ : Nat → Value) (Q : Exit → Act → World → Prop) (x : Exit) (tm : Tm) (m : BMap) (a : Act) (w : World) : Prop := match x with
  | .panic _ => ∀ p u, tm.p = some p → VR ρ m p u → Q (.panic [{ v := u, recovered := false }]) a w
  | x => Q x a w
theorem QX_p {Q : Exit → Act → World → Prop} {x : Exit} {tm tm' : Tm} (h : tm.p = tm'.p) : QX ρ Q x tm = QX ρ Q x tm' := by
  funext m a w
  unfold QX
  rw [h]
/-- behind a region -/
def QE (ρ : Nat → Value) (Q : Exit → Act → World → Prop) (tm : Tm) (m : BMap) (a : Act) (w : World) : Prop := match tm.p with
  | some p => ∀ u, VR ρ m p u → Q (.panic [{ v := u, recovered := false }]) a w
  | none => Q .normal a w
theorem endP_eq {tm tm' : Tm} {x : Exit} {st st' : ASt} (h : endP tm st = some ((x, tm'), st')) : tm' = tm ∧ st' = st ∧ ∀ (Q : Exit → Act → World → Prop) m a w, QX ρ Q x tm m a w → QE ρ Q tm m a w := by
  unfold endP at h
  cases hp : tm.p with
  | none =>
    rw [hp] at h; cases h
    refine ⟨rfl, rfl, fun Q m a w hx => ?_⟩
    unfold QE; rw [hp]; exact hx
  | some p =>
    rw [hp] at h; cases h
    refine ⟨rfl, rfl, fun Q m a w hx => ?_⟩
    unfold QE; rw [hp]; exact fun u hu => hx p u hp hu
theorem fr_next {α : Type} {x : M α} (hx : Fr x) {st st' : ASt} {a : α} (h : x st = some (a, st')) : st.next ≤ st'.next := by
  obtain ⟨L, q⟩ := hx st a st' h
  exact q.next
theorem ops_ok {H : Hooks} {e : Ex} {N : Nat} {ops : Array Oper} (hq : Opq ρ) (hc : CallOk P ρ w0 base e.call) (hH : HookOk P ρ w0 base H) (hFH : FrH H) (hFE : FrE e) {Q : Exit → Act → World → Prop} :
    ∀ (l : List Nat) (os : List Oper) (m : BMap) (st st' : ASt) (tm tm' : Tm) (a : Act) (w : World), (∀ k : Nat, l[k]?.bind (ops[·]?) = os[k]?) → l.length = os.length → opsP P H e N ops os tm st = some (tm', st') → tm.p = none → At P ρ w0 base N m st tm a w → Fresh m st.next st'.next →
      Post P ρ w0 base N m st st' tm' (QE ρ Q tm') → wpOps P ops Q l a w
  | [], [], m, st, st', tm, tm', a, w, _, _, h, hp, hA, hf, hP => by
    cases h
    have := hP a w m (Ext.refl m) (fun A h1 h2 => absurd h1 h2) hA
    unfold QE at this
    rw [hp] at this
    exact this
  | [], _ :: _, _, _, _, _, _, _, _, _, h, _, _, _, _, _ => by cases h
  | _ :: _, [], _, _, _, _, _, _, _, _, h, _, _, _, _, _ => by cases h
  | i :: l, o :: os, m, st, st', tm, tm', a, w, hi, hl, h, hp, hA, hf, hP => by
    unfold opsP at h
    obtain ⟨tm1, st1, h1, h2⟩ := bnd_eq h
    have h0 := hi 0
    simp only [List.getElem?_cons_zero, Option.bind_some] at h0
    have n1 := fr_next (Fr.operP P hFH hFE N ops o tm) h1
    have n2 : st1.next ≤ st'.next := by
      cases hp1 : tm1.p with
      | some p => rw [hp1] at h2; cases h2; exact Nat.le_refl _
      | none => rw [hp1] at h2; exact fr_next (Fr.opsP P hFH hFE N ops os tm1) h2
    have := operP_ok hq hc hH h1 hA.rel (fun A e1 e2 => hf A e1 (by omega)) hA.tmr hA.size hA.defers hp (wpOps P ops Q l) Q (fun hp1 a' w' m' e1 e2 e3 e4 e5 e6 => by
      rw [hp1] at h2
      refine ops_ok hq hc hH hFH hFE l os m' st1 st' tm1 tm' a' w' (fun k => by simpa using hi (k + 1)) (by simpa using hl) h2 hp1 ⟨e3, e4, e5, e6⟩ (hf.rest e2 n1) ?_
      intro a2 w2 m2 f1 f2 f3
      exact hP a2 w2 m2 (e1.trans f1) (e2.trans f2 n1 n2) f3) (fun x hp1 a' w' m' u e1 e2 e3 e4 e5 e6 e7 => by
      rw [hp1] at h2
      cases h2
      have := hP a' w' m' e1 e2 ⟨e3, e4, e5, e6⟩
      unfold QE at this
      rw [hp1] at this
      exact this u e7)
    unfold wpOps
    rw [h0]
    exact this
/-- what a drawn region is to show -/
def DrawOk (P : Program) (ρ : Nat → Value) (w0 : World) (base : Nat) (H : Hooks) (e : Ex) : Prop :=
  ∀ (N id : Nat) (ops : Array Oper) (m : BMap) (st st' : ASt) (tm tm' : Tm) (logs : List (List Nat)) (a : Act) (w : World) (Q : Exit → Act → World → Prop),
    drawA P H e N ops ops.toList tm st = some ((tm', logs), st') → allOk ops ops.toList logs 0 ops.toList (ancs ops.toList) logs = true → At P ρ w0 base N m st tm a w → Fresh m st.next st'.next →
      Post P ρ w0 base N m st st' tm' (fun _ => Q .normal) → (Code.region id ops true).wp P Q a w
theorem exists_least (p : Nat → Prop) (h : ∃ k, p k) : ∃ k, p k ∧ ∀ j, p j → k ≤ j := by
  obtain ⟨k, hk⟩ := h
  induction k using Nat.strongRecOn with
  | _ k ih =>
    by_cases hj : ∃ j, j < k ∧ p j
    · obtain ⟨j, h1, h2⟩ := hj
      exact ih j h1 h2
    · exact ⟨k, hk, fun j hpj => by
        rcases Nat.lt_or_ge j k with h | h
        · exact absurd ⟨j, h, hpj⟩ hj
        · exact h⟩
/-- code: what the executor says of it -/
def CodeOk (P : Program) (ρ : Nat → Value) (w0 : World) (base : Nat) (H : Hooks) (c : Code) : Prop :=
  ∀ (n : Nat), (∀ k, k ≤ n → CallOk P ρ w0 base (exec P H k).call ∧ DrawOk P ρ w0 base H (exec P H k)) →
    ∀ (N : Nat) (m : BMap) (st st' : ASt) (tm tm' : Tm) (x : Exit) (a : Act) (w : World) (Q : Exit → Act → World → Prop), codeA P H (exec P H n) N c tm st = some ((x, tm'), st') → At P ρ w0 base N m st tm a w → Fresh m st.next st'.next →
      Post P ρ w0 base N m st st' tm' (QX ρ Q x tm') → c.wp P Q a w

/-! ### a round of a loop over a map -/
/-- less is known -/
structure Weak (st : ASt) (tm : Tm) (st' : ASt) (tm' : Tm) : Prop where
  heap : ∀ A b, st.heap.get A = some b → st'.heap.get A = some b
  tmr : ∀ t, tm.get t = some none ∨ tm.get t = tm'.get t
  next : st'.next ≤ st.next
  d : tm.d = tm'.d
  p : tm.p = tm'.p
theorem Weak.refl (st : ASt) (tm : Tm) : Weak st tm st tm := ⟨fun _ _ h => h, fun _ => .inr rfl, Nat.le_refl _, rfl, rfl⟩
theorem Weak.trans {s1 s2 s3 : ASt} {t1 t2 t3 : Tm} (h : Weak s1 t1 s2 t2) (k : Weak s2 t2 s3 t3) : Weak s1 t1 s3 t3 :=
  ⟨fun A b e => k.heap A b (h.heap A b e), fun t => by
    rcases h.tmr t with e | e
    · exact .inl e
    · rcases k.tmr t with e2 | e2
      · exact .inl (e.trans e2)
      · exact .inr (e.trans e2), Nat.le_trans k.next h.next, h.d.trans k.d, h.p.trans k.p⟩
theorem Weak.at {N : Nat} {s1 s2 : ASt} {t1 t2 : Tm} {a : Act} {w : World} (h : Weak s1 t1 s2 t2) (k : At P ρ w0 base N m s2 t2 a w) : At P ρ w0 base N m s1 t1 a w :=
  ⟨⟨fun A b e => k.rel.blk A b (h.heap A b e), fun A B x y p q e1 e2 e3 e4 e5 e6 e7 => k.rel.sep A B x y p q (h.heap _ _ e1) (h.heap _ _ e2) e3 e4 e5 e6 e7, k.rel.old, k.rel.le⟩, fun t => by
    have := k.tmr t
    rcases h.tmr t with e | e
    · rw [e]; trivial
    · rw [e]; exact this, k.size, by rw [h.d]; exact k.defers⟩
theorem Weak.post {N : Nat} {s0 s1 s2 : ASt} {t1 t2 : Tm} {K : BMap → Act → World → Prop} (h : Weak s1 t1 s2 t2) (k : Post P ρ w0 base N m s0 s1 t1 K) : Post P ρ w0 base N m s0 s2 t2 K :=
  fun a w m' e1 e2 e3 => k a w m' e1 (fun A h1 h2 => by have := e2 A h1 h2; have := h.next; omega) (h.at e3)
theorem bothB_left {x y : Option ABlk} {b : ABlk} (h : bothB x y = some b) : x = some b ∧ y = some b := by
  cases x with
  | none => cases h
  | some p =>
    cases y with
    | none => cases h
    | some q =>
      have h' : (bif eqBlk p q then some p else none) = some b := h
      cases he : eqBlk p q with
      | false => rw [he] at h'; cases h'
      | true => rw [he] at h'; cases h'; exact ⟨rfl, by rw [← eqBlk_eq he]⟩
theorem bothT_left (x y : Option (Option AV)) : (bothT x y = some none ∨ bothT x y = x) ∧ (bothT x y = some none ∨ bothT x y = y) := by
  cases x with
  | none => cases y <;> simp [bothT]
  | some x =>
    cases x with
    | none => cases y <;> simp [bothT]
    | some x =>
      cases y with
      | none => simp [bothT]
      | some y =>
        cases y with
        | none => simp [bothT]
        | some y =>
          have h' : bothT (some (some x)) (some (some y)) = (bif eqAV x y then some (some x) else some none) := rfl
          rw [h']
          cases he : eqAV x y with
          | false => simp
          | true => rw [eqAV_eq he]; simp
theorem join2_weak {x y : M (Exit × Tm)} {s sF : ASt} {ex : Exit} {t : Tm} (h : join2 x y s = some ((ex, t), sF)) :
    (∃ t1 s1, x s = some ((ex, t1), s1) ∧ Weak sF t s1 t1) ∧ ∃ s' t2 s2, s'.heap = s.heap ∧ s'.next = s.next ∧ y s' = some ((ex, t2), s2) ∧ Weak sF t s2 t2 := by
  unfold join2 at h
  cases h1 : x s with
  | none => rw [h1] at h; cases h
  | some p =>
    obtain ⟨⟨ex1, t1⟩, s1⟩ := p
    rw [h1] at h
    dsimp only at h
    cases h2 : y ⟨s.heap, s.next, s1.log⟩ with
    | none => rw [h2] at h; cases h
    | some p2 =>
      obtain ⟨⟨ex2, t2⟩, s2⟩ := p2
      rw [h2] at h
      dsimp only at h
      cases he : (exEq ex1 ex2 && eqAVs t1.d t2.d && (t1.p.isNone && t2.p.isNone)) with
      | false => rw [he] at h; cases h
      | true =>
        rw [he, cond_true] at h
        cases h
        obtain ⟨he12, he3⟩ := Bool.and_eq_true _ _ |>.mp he
        obtain ⟨he1, he2⟩ := Bool.and_eq_true _ _ |>.mp he12
        obtain ⟨he4, he5⟩ := Bool.and_eq_true _ _ |>.mp he3
        have hee := exEq_eq he1
        subst hee
        have hdd := eqAVs_eq he2
        have hp1 : t1.p = none := by simpa using he4
        have hp2 : t2.p = none := by simpa using he5
        have hle : s1.next ≤ (bif Nat.ble s1.next s2.next then s2.next else s1.next) ∧ s2.next ≤ (bif Nat.ble s1.next s2.next then s2.next else s1.next) := by
          cases hb : Nat.ble s1.next s2.next with
          | true => have := Nat.le_of_ble_eq_true hb; simp; omega
          | false =>
            have : ¬ s1.next ≤ s2.next := fun hle => by rw [Nat.ble_eq_true_of_le hle] at hb; cases hb
            simp; omega
        refine ⟨⟨t1, s1, rfl, fun A b e => ?_, fun t => ?_, hle.1, rfl, hp1.symm⟩, ⟨⟨s.heap, s.next, s1.log⟩, t2, s2, rfl, rfl, h2, fun A b e => ?_, fun t => ?_, hle.2, hdd, hp2.symm⟩⟩
        · rw [Tr.get_zip rfl] at e; exact (bothB_left e).1
        · show (Tr.zip bothT t1.t t2.t).get t = _ ∨ (Tr.zip bothT t1.t t2.t).get t = t1.t.get t
          rw [Tr.get_zip rfl]; exact (bothT_left _ _).1
        · rw [Tr.get_zip rfl] at e; exact (bothB_left e).2
        · show (Tr.zip bothT t1.t t2.t).get t = _ ∨ (Tr.zip bothT t1.t t2.t).get t = t2.t.get t
          rw [Tr.get_zip rfl]; exact (bothT_left _ _).2
theorem joinAll_weak : ∀ {l : List (M (Exit × Tm))} {x : M (Exit × Tm)} {s sF : ASt} {ex : Exit} {t : Tm}, joinAll x l s = some ((ex, t), sF) →
    ∀ y ∈ x :: l, ∃ s' t2 s2, s'.heap = s.heap ∧ s'.next = s.next ∧ y s' = some ((ex, t2), s2) ∧ Weak sF t s2 t2
  | [], x, s, sF, ex, t, h, y, hy => by
    simp at hy
    subst hy
    exact ⟨s, t, sF, rfl, rfl, h, Weak.refl _ _⟩
  | z :: l, x, s, sF, ex, t, h, y, hy => by
    obtain ⟨⟨t1, s1, h1, w1⟩, s', t2, s2, e1, e2, h2, w2⟩ := join2_weak h
    rcases List.mem_cons.1 hy with e | e
    · subst e
      exact ⟨s, t1, s1, rfl, rfl, h1, w1⟩
    · obtain ⟨s3, t3, s4, f1, f2, f3, f4⟩ := joinAll_weak h2 y e
      exact ⟨s3, t3, s4, f1.trans e1, f2.trans e2, f3, w2.trans f4⟩
/-- what the next entry is -/
def nextTup : Option (AV × AV × Nat) → AV
  | none => .tup [.bool false]
  | some (k, u, _) => .tup [.bool true, k, u]
def nextIt (am : Option Nat) (since : Nat) (seen : List Nat) (last clk : Nat) : Option (AV × AV × Nat) → ABlk
  | none => .miter am since seen last
  | some (_, _, n) => .miter am since (seen ++ [n]) clk
theorem round_ok {H : Hooks} (hq : Opq ρ) (hH : HookOk P ρ w0 base H) (hFH : FrH H) {id : Nat} {ops : Array Oper} {rest : Code} {o : Oper} {os : List Oper} {x : Operand} (hops : ops.toList = o :: os) (hop : o.op = .next x false) (hg : o.guard = none)
    (hrest : CodeOk P ρ w0 base H rest) (n : Nat) (hn : ∀ k, k ≤ n → CallOk P ρ w0 base (exec P H k).call ∧ DrawOk P ρ w0 base H (exec P H k))
    {N : Nat} {st1 stf st2 : ASt} {tm1 tm2 : Tm} {x2 : Exit} {a : Act} {w w1 : World} {Q : Exit → Act → World → Prop} {A : Nat} {am : Option Nat} {since last clk : Nat} {seen : List Nat} {c : Option (AV × AV × Nat)} {v : Value}
    (h : codeA P H (exec P H n) N (.seq (.region id ops false) rest) tm1 stf = some ((x2, tm2), st2)) (hx : aval tm1 x = some (.ptr A 0)) (hF : stf.heap.get = upd st1.heap.get A (.mforce am since seen last c clk)) (hn' : stf.next = st1.next)
    (hA : At P ρ w0 base N m st1 tm1 a w) (hrun : (Instr.next (a.eval x) false o.type).run P w = .ok v w1) (hv : VR ρ m (nextTup c) v) (hrel : Rel ρ w0 base m (upd st1.heap.get A (nextIt am since seen last clk c)) w1)
    (hf : Fresh m st1.next st2.next) (hP : Post P ρ w0 base N m st1 st2 tm2 (QX ρ Q x2 tm2)) : (Code.seq (.region id ops false) rest).wp P Q a w := by
  simp only [codeA] at h
  obtain ⟨⟨x3, tm3⟩, st3, h1, h2⟩ := bnd_eq h
  cases hp1 : tm1.p with
  | some p => rw [hp1] at h1; cases h1
  | none =>
  rw [hp1] at h1
  dsimp only at h1
  obtain ⟨tm4, st4, h3, h4⟩ := bnd_eq h1
  obtain ⟨rfl, rfl, hqe⟩ := endP_eq (ρ := ρ) h4
  dsimp only at h2
  rw [hops] at h3
  unfold opsP at h3
  obtain ⟨tm5, st5, g1, g2⟩ := bnd_eq h3
  have g1 : operA P H (exec P H n) N ops o tm1 stf = some (tm5, st5) := by
    unfold operP at g1
    rw [hop] at g1
    exact g1
  -- the first operation
  have hput : putA N tm1 o.dst (nextTup c) st5 = some (tm5, st5) ∧ st5.heap.get = upd st1.heap.get A (nextIt am since seen last clk c) ∧ st5.next = st1.next := by
    unfold operA at g1
    have hw : wantA ops o tm1 = some true := by unfold wantA; rw [hg]
    rw [hw] at g1
    dsimp only at g1
    obtain ⟨u, s6, k1, k2⟩ := bnd_eq g1
    have k2 : putA N tm1 o.dst u s6 = some (tm5, st5) := by
      cases u with
      | pan x => cases k2
      | _ => exact k2
    unfold askA at k1
    rw [hop] at k1
    dsimp only [oraKey] at k1
    unfold opA at k1
    rw [hop] at k1
    dsimp only at k1
    rw [hx] at k1
    obtain ⟨u2, e1, k1⟩ := optb_eq k1
    cases e1
    obtain ⟨blk, s7, j1, j2⟩ := bnd_eq k1
    obtain ⟨r1, r2, r3⟩ := rd_eq j1
    rw [hF, upd_same] at r1
    cases r1
    dsimp only at j2
    have hs6 : s6.heap.get = upd st1.heap.get A (nextIt am since seen last clk c) ∧ s6.next = st1.next ∧ u = nextTup c := by
      cases c with
      | none =>
        dsimp only at j2
        obtain ⟨_, s8, p1, p2⟩ := bnd_eq j2
        cases p2
        obtain ⟨q1, q2⟩ := wr_eq p1
        refine ⟨?_, by rw [q2, r3, hn'], rfl⟩
        rw [q1, get_upd, r2, hF]
        funext B
        unfold upd nextIt
        split <;> rfl
      | some c =>
        obtain ⟨k, uu, nb⟩ := c
        dsimp only at j2
        obtain ⟨_, s8, p1, p2⟩ := bnd_eq j2
        cases p2
        obtain ⟨q1, q2⟩ := wr_eq p1
        refine ⟨?_, by rw [q2, r3, hn'], rfl⟩
        rw [q1, get_upd, r2, hF]
        funext B
        unfold upd nextIt
        split <;> rfl
    obtain ⟨b1, b2, b3⟩ := hs6
    subst b3
    have hst : st5 = s6 := by
      unfold putA at k2
      cases hds : o.dst with
      | none => rw [hds] at k2; cases k2; rfl
      | some d =>
        rw [hds] at k2
        simp only at k2
        cases hlt : Nat.blt d N with
        | false => rw [hlt] at k2; cases k2
        | true => rw [hlt] at k2; cases k2; rfl
    subst hst
    exact ⟨k2, b1, b2⟩
  obtain ⟨hput, hh5, hn5⟩ := hput
  have hA5 : At P ρ w0 base N m st5 tm5 (a.put o.dst v) w1 ∧ tm5.p = none := by
    obtain ⟨q1, q2, q3, q4, q5⟩ := put_ok hA.tmr hA.size rfl (Ext.refl m) hv ⟨_, _, hput⟩
    exact ⟨⟨by rw [hh5]; exact hrel, q1, q2, by rw [q3, q4]; exact hA.defers⟩, by rw [q5, hp1]⟩
  obtain ⟨hA5, hp5⟩ := hA5
  rw [hp5] at g2
  dsimp only at g2
  have n3 := fr_next (Fr.opsP P hFH (FrE.exec P hFH n) N ops os tm5) g2
  have n4 : st3.next ≤ st2.next := by
    cases x3 <;> first | exact fr_next (Fr.codeA P hFH (FrE.exec P hFH n) N rest tm3) h2 | (cases h2; exact Nat.le_refl _)
  have hsz : ops.size = os.length + 1 := by rw [← Array.length_toList, hops]; rfl
  refine wp_seq (wp_region ?_)
  rw [hsz, List.range_succ_eq_map]
  unfold wpOps
  have h0 : ops[0]? = some o := by rw [← Array.getElem?_toList, hops]; rfl
  rw [h0]
  dsimp only
  have hwt : Region.wanted o (yielded ops a.tmps) = true := by unfold Region.wanted; rw [hg]
  rw [if_pos hwt]
  refine .inl ?_
  unfold Oper.wp
  have hex : (execOp a.eval o).run P w = .ok (.value v) w1 := by
    obtain ⟨dst, op, ty, pos, after, guard⟩ := o
    simp only at hop hg hrun
    subst hop
    simp [execOp, hrun]
  rw [hex, Oper.upon_value]
  refine ops_ok hq (hn n (Nat.le_refl n)).1 hH hFH (FrE.exec P hFH n) _ os m st5 st3 tm5 tm3 (a.put o.dst v) w1 (fun k => ?_) (by simp) g2 hp5 hA5 (fun B e1 e2 => hf B (by omega) (by omega)) ?_
  · rw [List.getElem?_map]
    rcases Nat.lt_or_ge k os.length with hk | hk
    · rw [List.getElem?_range hk]
      simp only [Option.map_some, Option.bind_some]
      rw [← Array.getElem?_toList, hops]; rfl
    · rw [List.getElem?_eq_none (by simpa using hk), List.getElem?_eq_none hk]; rfl
  · intro a3 w3 m3 e1 e2 e3
    refine hqe _ m3 a3 w3 ?_
    cases x3 with
    | normal =>
      refine hrest n hn N m3 st3 st2 tm3 tm2 x2 a3 w3 Q h2 e3 (fun B b1 b2 => ?_) (fun a4 w4 m4 f1 f2 f3 => hP a4 w4 m4 (e1.trans f1) (fun B h1 h2 => ?_) f3)
      · have := hf B (by omega) b2
        cases hb : m3 B with
        | none => rfl
        | some p => have := e2 B this (by rw [hb]; simp); omega
      · cases hb : m3 B with
        | none => have := f2 B hb h2; omega
        | some p => have := e2 B h1 (by rw [hb]; simp); omega
    | _ =>
      cases h2
      exact hP a3 w3 m3 e1 (fun B h1 h2 => by have := e2 B h1 h2; omega) e3
theorem rangeOf_eq {b : Code} {x : Operand} (h : rangeOf b = some x) : ∃ id ops rest o os, b = .seq (.region id ops false) rest ∧ ops.toList = o :: os ∧ o.op = .next x false ∧ o.guard = none := by
  unfold rangeOf at h
  split at h
  · rename_i id ops rest
    split at h
    · rename_i o os ho
      split at h
      · rename_i y h1 h2
        cases h
        exact ⟨id, ops, rest, o, os, rfl, ho, h1, h2⟩
      · cases h
    · cases h
  · cases h
theorem elemN_iff {x : Nat} : ∀ {l : List Nat}, elemN x l = true ↔ x ∈ l
  | [] => by simp [elemN]
  | y :: l => by
    unfold elemN
    rw [Bool.or_eq_true, elemN_iff, List.mem_cons]
    simp
theorem mem_leftA {seen : List Nat} {k u : AV} {b : Nat} : ∀ {es : List (AV × AV × Nat)}, (k, u, b) ∈ leftA seen es ↔ (k, u, b) ∈ es ∧ b ∉ seen
  | [] => by simp [leftA]
  | (k0, u0, b0) :: es => by
    unfold leftA
    cases hb : elemN b0 seen with
    | true =>
      rw [cond_true, mem_leftA, List.mem_cons]
      have := elemN_iff.1 hb
      constructor
      · rintro ⟨h1, h2⟩; exact ⟨.inr h1, h2⟩
      · rintro ⟨h1 | h1, h2⟩
        · cases h1; exact absurd this h2
        · exact ⟨h1, h2⟩
    | false =>
      rw [cond_false, List.mem_cons, mem_leftA, List.mem_cons]
      have : b0 ∉ seen := fun h => by rw [elemN_iff.2 h] at hb; cases hb
      constructor
      · rintro (h1 | ⟨h1, h2⟩)
        · cases h1; exact ⟨.inl rfl, this⟩
        · exact ⟨.inr h1, h2⟩
      · rintro ⟨h1 | h1, h2⟩
        · exact .inl h1
        · exact .inr ⟨h1, h2⟩
/-- what the walk of a map's entries comes to -/
def EntR (ρ : Nat → Value) (m : BMap) (es : List (AV × AV × Nat)) (es' : Array MapEntry) : Prop :=
  es.length = es'.size ∧ ∀ (i : Nat) (k v : AV) (b : Nat), es[i]? = some (k, v, b) → ∃ en : MapEntry, es'[i]? = some en ∧ en.born = b ∧ VR ρ m k en.key ∧ VR ρ m v en.val
theorem left_in {es : List (AV × AV × Nat)} {es' : Array MapEntry} {seen : List Nat} (h : EntR ρ m es es') {e : MapEntry} (he : e ∈ (leftOf es' seen.toArray).toList) : ∃ k u, (k, u, e.born) ∈ leftA seen es ∧ VR ρ m k e.key ∧ VR ρ m u e.val := by
  unfold leftOf at he
  have he' : e ∈ es' ∧ e.born ∉ seen := by simpa using he
  obtain ⟨i, hi⟩ := Array.mem_iff_getElem?.1 he'.1
  have hlt : i < es.length := by rw [h.1]; exact (Array.getElem?_eq_some_iff.1 hi).1
  obtain ⟨en, q1, q2, q3, q4⟩ := h.2 i es[i].1 es[i].2.1 es[i].2.2 (by simp [hlt])
  rw [hi] at q1
  cases q1
  exact ⟨es[i].1, es[i].2.1, mem_leftA.2 ⟨by rw [q2]; exact List.getElem_mem hlt, he'.2⟩, q3, q4⟩
theorem left_some {es : List (AV × AV × Nat)} {es' : Array MapEntry} {seen : List Nat} (h : EntR ρ m es es') {c : AV × AV × Nat} {l : List (AV × AV × Nat)} (hl : leftA seen es = c :: l) : (leftOf es' seen.toArray).size ≠ 0 := by
  obtain ⟨k, u, b⟩ := c
  have hm : (k, u, b) ∈ leftA seen es := by rw [hl]; simp
  obtain ⟨h1, h2⟩ := mem_leftA.1 hm
  obtain ⟨i, hi⟩ := List.mem_iff_getElem?.1 h1
  obtain ⟨en, q1, q2, q3, q4⟩ := h.2 i k u b hi
  have : en ∈ (leftOf es' seen.toArray) := by
    unfold leftOf
    simp
    exact ⟨Array.mem_of_getElem? q1, by rw [q2]; exact h2⟩
  intro h0
  rw [Array.eq_empty_of_size_eq_zero h0] at this
  simp at this
theorem before_all {since : Nat} : ∀ {es : List (AV × AV × Nat)}, allBefore since es = true → ∀ c ∈ es, c.2.2 < since
  | [], _, c, hc => by cases hc
  | (k, u, b) :: es, h, c, hc => by
    unfold allBefore at h
    obtain ⟨h1, h2⟩ := Bool.and_eq_true _ _ |>.mp h
    rcases List.mem_cons.1 hc with e | e
    · rw [e]; simpa using h1
    · exact before_all h2 c e
theorem set_block {w : World} {b : Nat} {o : Obj} {k : Nat} (hk : k ≠ b) : (Go.ChangeMaps.setBlock w b o).heap[k]? = w.heap[k]? := by
  show (w.heap.setIfInBounds b o)[k]? = _
  rw [Array.getElem?_setIfInBounds, if_neg (fun e => hk e.symm)]
theorem set_block_same {w : World} {b : Nat} {o : Obj} (hb : b < w.heap.size) : (Go.ChangeMaps.setBlock w b o).heap[b]? = some o := by
  show (w.heap.setIfInBounds b o)[b]? = _
  rw [Array.getElem?_setIfInBounds, if_pos rfl, if_pos hb]
/-- the real next entry, and the one of the executor's that it is -/
theorem next_real {st : ASt} {w : World} {A i0 : Nat} {since last : Nat} {seen : List Nat} {mA : Nat} {es : List (AV × AV × Nat)} {clk : Nat} {ty : TypeId} {v : Value} (hr : Rel ρ w0 base m st.heap.get w) (hv : VR ρ m (.ptr A i0) v) (hi : i0 = 0)
    (h1 : st.heap.get A = some (.miter (some mA) since seen last)) (h2 : st.heap.get mA = some (.map es clk)) (hb : allBefore since es = true) (hs : since ≤ last) :
    ∃ c u w1, (Instr.next v false ty).run P w = .ok u w1 ∧ VR ρ m (nextTup c) u ∧ Rel ρ w0 base m (upd st.heap.get A (nextIt (some mA) since seen last clk c)) w1 ∧
      (match c with | none => leftA seen es = [] | some c => c ∈ leftA seen es) := by
  subst hi
  cases hv with | ptr _ _ b d z hA => _
  obtain ⟨p, f1, f2, f3, r, f4, f5⟩ := hr.blk A _ h1
  rw [hA] at f1; cases f1
  simp only at f3 f5
  subst f3
  obtain ⟨q, k1, rfl⟩ := f4
  obtain ⟨p', k1', k2', es', k3, k4, k5⟩ := hr.blk mA _ h2
  rw [k1] at k1'; cases k1'
  have hE : EntR ρ m es es' := ⟨k4, k5⟩
  have hold : ∀ x ∈ es'.toList, x.born < since := fun x hx => by
    obtain ⟨i, hi⟩ := Array.mem_iff_getElem?.1 (by simpa using hx : x ∈ es')
    have hlt : i < es.length := by rw [k4]; exact (Array.getElem?_eq_some_iff.1 hi).1
    obtain ⟨en, q1, q2, _, _⟩ := k5 i es[i].1 es[i].2.1 es[i].2.2 (by simp [hlt])
    rw [hi] at q1; cases q1
    rw [q2]
    exact before_all hb _ (List.getElem_mem hlt)
  have hbl : b < w.heap.size := by
    rcases Nat.lt_or_ge b w.heap.size with h' | h'
    · exact h'
    · rw [Array.getElem?_eq_none h'] at f5; cases f5
  rcases run_next_at (P := P) w ty b q.1 since last seen.toArray es' clk f5 k3 hold hs with ⟨g1, g2⟩ | ⟨e, g1, w1, g2, g3⟩
  · refine ⟨none, _, w, g2, .tup _ _ (.cons _ _ _ _ (.bool _) .nil), ?_, ?_⟩
    · have : upd st.heap.get A (nextIt (some mA) since seen last clk none) = st.heap.get := by
        funext B
        unfold upd nextIt
        split
        · rename_i e; rw [e, h1]
        · rfl
      rw [this]; exact hr
    · show leftA seen es = []
      cases hl : leftA seen es with
      | nil => rfl
      | cons c l => exact absurd g1 (left_some hE hl)
  · obtain ⟨k, u, j1, j2, j3⟩ := left_in hE g1
    have hr1 : Rel ρ w0 base m st.heap.get w1 := by rcases g2 with rfl | rfl <;> first | exact hr | exact hr.drew
    have hbl1 : b < w1.heap.size := by rcases g2 with rfl | rfl <;> exact hbl
    refine ⟨some (k, u, e.born), _, _, g3, .tup _ _ (.cons _ _ _ _ (.bool _) (.cons _ _ _ _ j2 (.cons _ _ _ _ j3 .nil))), ?_, j1⟩
    refine hr1.write h1 hA rfl (fun k hk => set_block hk) (by simp [Go.ChangeMaps.setBlock]) rfl rfl rfl ⟨rfl, some q.1, ⟨q, k1, rfl⟩, ?_⟩
    rw [show (seen ++ [e.born]).toArray = seen.toArray.push e.born by simp]
    exact set_block_same hbl1
theorem next_none {st : ASt} {w : World} {A i0 : Nat} {since last clk : Nat} {seen : List Nat} {ty : TypeId} {v : Value} (hr : Rel ρ w0 base m st.heap.get w) (hv : VR ρ m (.ptr A i0) v) (hi : i0 = 0)
    (h1 : st.heap.get A = some (.miter none since seen last)) :
    ∃ u w1, (Instr.next v false ty).run P w = .ok u w1 ∧ VR ρ m (nextTup none) u ∧ Rel ρ w0 base m (upd st.heap.get A (nextIt none since seen last clk none)) w1 := by
  subst hi
  cases hv with | ptr _ _ b d z hA => _
  obtain ⟨p, f1, f2, f3, r, f4, f5⟩ := hr.blk A _ h1
  rw [hA] at f1; cases f1
  simp only at f3 f5
  subst f3
  have f4' : r = none := f4
  subst f4'
  refine ⟨.tuple #[.bool false], w, ?_, .tup _ _ (.cons _ _ _ _ (.bool _) .nil), ?_⟩
  · simp [Instr.next, Go.getObj, Sem.run, f5]
  · have : upd st.heap.get A (nextIt none since seen last clk none) = st.heap.get := by
      funext B
      unfold upd nextIt
      split
      · rename_i e; rw [e, h1]
      · rfl
    rw [this]; exact hr
/-- the end of a round -/
def afterA (e : Ex) (N : Nat) (b : Code) (x : Exit) (tm : Tm) : M (Exit × Tm) := match x with
  | .normal => e.loop N b tm
  | x => ret (x, tm)
theorem loop_ok {H : Hooks} (hq : Opq ρ) (hH : HookOk P ρ w0 base H) (hFH : FrH H) {b : Code} (ih : CodeOk P ρ w0 base H b) (iht : ∀ c1 c2, b = .seq c1 c2 → CodeOk P ρ w0 base H c2) : CodeOk P ρ w0 base H (.loop b) := by
  intro n hn N m st st' tm tm' x a w Q h hA hf hP
  let J : Nat → Act → World → Prop := fun k a w => k ≤ n ∧ ∃ m st tm stF tmF xF, codeA P H (exec P H k) N (.loop b) tm st = some ((xF, tmF), stF) ∧ At P ρ w0 base N m st tm a w ∧ Fresh m st.next stF.next ∧ Post P ρ w0 base N m st stF tmF (QX ρ Q xF tmF)
  haveI : ∀ a w, DecidablePred fun k => J k a w := fun a w k => Classical.propDecidable _
  have hdec : ∀ a w, Decidable (∃ k, J k a w) := fun a w => Classical.propDecidable _
  let μ : Act → World → Nat := fun a w => @dite _ (∃ k, J k a w) (hdec a w) (fun h => Classical.choose (exists_least (fun k => J k a w) h)) (fun _ => 0)
  refine wp_loop (fun a w => ∃ k, J k a w) μ ⟨n, Nat.le_refl n, m, st, tm, st', tm', x, h, hA, hf, hP⟩ ?_
  intro a w hI
  have hμ : J (μ a w) a w ∧ ∀ k, J k a w → μ a w ≤ k := by
    have hs := Classical.choose_spec (exists_least (fun k => J k a w) hI)
    have : μ a w = Classical.choose (exists_least (fun k => J k a w) hI) := by
      show @dite _ _ (hdec a w) _ _ = _
      rw [dif_pos hI]
    rw [this]; exact hs
  obtain ⟨k, hk⟩ : ∃ k, μ a w = k := ⟨_, rfl⟩
  rw [hk] at hμ
  rw [hk]
  obtain ⟨⟨hkn, m1, st1, tm1, stF, tmF, xF, hc, hA1, hf1, hP1⟩, hmin⟩ := hμ
  have hn' : ∀ k', k' ≤ k → CallOk P ρ w0 base (exec P H k').call ∧ DrawOk P ρ w0 base H (exec P H k') := fun k' hk' => hn k' (by omega)
  have nafter : ∀ {x2 : Exit} {tm2 : Tm} {st2 stc : ASt} {r : Exit × Tm}, afterA (exec P H k) N b x2 tm2 st2 = some (r, stc) → st2.next ≤ stc.next := fun {x2} {tm2} {st2} {stc} {r} g => by
    cases x2 <;> first | exact fr_next ((FrE.exec P hFH k).2.1 _ _ _) g | (cases g; exact Nat.le_refl _)
  -- behind a round
  have fin : ∀ {x2 : Exit} {tm2 tmc : Tm} {st2 stc : ASt}, afterA (exec P H k) N b x2 tm2 st2 = some ((xF, tmc), stc) → Weak stF tmF stc tmc → st1.next ≤ st2.next → Post P ρ w0 base N m1 st1 st2 tm2 (QX ρ (Exit.then (fun a' w' => (∃ k, J k a' w') ∧ μ a' w' < k) Q) x2 tm2) := by
    intro x2 tm2 tmc st2 stc g2 hW n1 a2 w2 m2 e1 e2 e3
    have n2 := nafter g2
    have hP2 := hW.post hP1
    rw [QX_p hW.p] at hP2
    have hf2 : Fresh m1 st1.next stc.next := fun A b1 b2 => hf1 A b1 (by have := hW.next; omega)
    cases x2 with
    | normal =>
      cases k with
      | zero => cases g2
      | succ k' =>
        have hJ : J k' a2 w2 := ⟨by omega, m2, st2, tm2, stc, tmc, xF, g2, e3, hf2.rest e2 n1, fun a3 w3 m3 f1 f2 f3 => hP2 a3 w3 m3 (e1.trans f1) (e2.trans f2 n1 n2) f3⟩
        refine ⟨⟨k', hJ⟩, ?_⟩
        have hs := Classical.choose_spec (exists_least (fun k => J k a2 w2) ⟨k', hJ⟩)
        have hμ2 : μ a2 w2 = Classical.choose (exists_least (fun k => J k a2 w2) ⟨k', hJ⟩) := by
          show @dite _ _ (hdec a2 w2) _ _ = _
          rw [dif_pos ⟨k', hJ⟩]
        have := hs.2 k' hJ
        rw [hμ2]
        omega
    | _ =>
      cases g2
      exact hP2 a2 w2 m2 e1 e2 e3
  have hc' : rangeA (rangeOf b) tm1 (fun F => Zz.bnd F fun _ => Zz.bnd (codeA P H (exec P H k) N b tm1) fun p => afterA (exec P H k) N b p.1 p.2) st1 = some ((xF, tmF), stF) := by
    have : codeA P H (exec P H k) N (.loop b) tm1 = rangeA (rangeOf b) tm1 (fun F => Zz.bnd F fun _ => Zz.bnd (codeA P H (exec P H k) N b tm1) fun p => afterA (exec P H k) N b p.1 p.2) := rfl
    rw [← this]; exact hc
  unfold rangeA at hc'
  cases hro : rangeOf b with
  | none =>
    rw [hro] at hc'
    dsimp only at hc'
    obtain ⟨_, s1, r1, hc'⟩ := bnd_eq hc'
    cases r1
    obtain ⟨⟨x2, tm2⟩, st2, g1, g2⟩ := bnd_eq hc'
    have n1 := fr_next (Fr.codeA P hFH (FrE.exec P hFH k) N b tm1) g1
    have n2 := nafter g2
    exact ih k hn' N m1 st1 st2 tm1 tm2 x2 a w _ g1 hA1 (fun A e1 e2 => hf1 A e1 (by omega)) (fin g2 (Weak.refl _ _) n1)
  | some x =>
    obtain ⟨id, ops, rest, o, os, rfl, hops, hop, hg⟩ := rangeOf_eq hro
    have hrest := iht _ _ rfl
    rw [hro] at hc'
    dsimp only at hc'
    obtain ⟨v, hx, hc'⟩ := optb_eq hc'
    have hvr := aval_ok hx hA1.tmr
    -- one round, the next entry known
    have round : ∀ {A : Nat} {am : Option Nat} {since last clk : Nat} {seen : List Nat} {c : Option (AV × AV × Nat)} {s1 s2 stc : ASt} {tmc : Tm} {w1 : World} {u : Value}, s1.heap = st1.heap → s1.next = st1.next → aval tm1 x = some (.ptr A 0) →
        (Zz.bnd (wr A (.mforce am since seen last c clk)) fun _ => Zz.bnd (codeA P H (exec P H k) N (.seq (.region id ops false) rest) tm1) fun p => afterA (exec P H k) N (.seq (.region id ops false) rest) p.1 p.2) s1 = some ((xF, tmc), stc) → Weak stF tmF stc tmc →
        (Instr.next (a.eval x) false o.type).run P w = .ok u w1 → VR ρ m1 (nextTup c) u → Rel ρ w0 base m1 (upd st1.heap.get A (nextIt am since seen last clk c)) w1 →
        (Code.seq (.region id ops false) rest).wp P (Exit.then (fun a' w' => (∃ k, J k a' w') ∧ μ a' w' < k) Q) a w := by
      intro A am since last clk seen c s1 s2 stc tmc w1 u q1 q2 hxa hr hW hrun hv hrel
      obtain ⟨_, stf, r1, r2⟩ := bnd_eq hr
      obtain ⟨⟨x2, tm2⟩, st2, g1, g2⟩ := bnd_eq r2
      obtain ⟨j1, j2⟩ := wr_eq r1
      have n1 := fr_next (Fr.codeA P hFH (FrE.exec P hFH k) N _ tm1) g1
      have n2 := nafter g2
      have n3 := hW.next
      refine round_ok hq hH hFH hops hop hg hrest k hn' g1 hxa ?_ (j2.trans q2) hA1 hrun hv hrel (fun B e1 e2 => hf1 B e1 (by omega)) (fin g2 hW (by rw [← q2, ← j2]; exact n1))
      rw [j1, get_upd, q1]
    cases v with
    | ptr A i =>
      cases i with
      | zero =>
        obtain ⟨blk, s1, r1, hc'⟩ := bnd_eq hc'
        obtain ⟨e1, e2, e3⟩ := rd_eq r1
        cases blk with
        | miter am since seen last =>
          cases am with
          | none =>
            dsimp only at hc'
            obtain ⟨u, w1, p1, p2, p3⟩ := next_none (P := P) (ty := o.type) (clk := 0) hA1.rel hvr rfl e1
            exact round (s2 := s1) e2 e3 hx hc' (Weak.refl _ _) p1 p2 p3
          | some mA =>
            dsimp only at hc'
            obtain ⟨blk, s2, r2, hc'⟩ := bnd_eq hc'
            obtain ⟨e4, e5, e6⟩ := rd_eq r2
            cases blk with
            | map es clk =>
              dsimp only at hc'
              cases hbe : (allBefore since es && Nat.ble since last) with
              | false => rw [hbe] at hc'; cases hc'
              | true =>
                rw [hbe, cond_true] at hc'
                obtain ⟨b1, b2⟩ := Bool.and_eq_true _ _ |>.mp hbe
                obtain ⟨c, u, w1, p1, p2, p3, p4⟩ := next_real (P := P) (ty := o.type) hA1.rel hvr rfl e1 (by rw [← e2]; exact e4) b1 (Nat.le_of_ble_eq_true b2)
                have hh : s2.heap = st1.heap := e5.trans e2
                have hnx : s2.next = st1.next := e6.trans e3
                cases hl : leftA seen es with
                | nil =>
                  rw [hl] at hc'
                  dsimp only at hc'
                  cases c with
                  | some c => rw [hl] at p4; cases p4
                  | none => exact round (s2 := s1) hh hnx hx hc' (Weak.refl _ _) p1 p2 p3
                | cons c0 l =>
                  rw [hl] at hc'
                  dsimp only at hc'
                  cases c with
                  | none => rw [hl] at p4; cases p4
                  | some c =>
                    rw [hl] at p4
                    have hin : (Zz.bnd (wr A (.mforce (some mA) since seen last (some c) clk)) fun _ => Zz.bnd (codeA P H (exec P H k) N (.seq (.region id ops false) rest) tm1) fun p => afterA (exec P H k) N (.seq (.region id ops false) rest) p.1 p.2) ∈
                        (Zz.bnd (wr A (.mforce (some mA) since seen last (some c0) clk)) fun _ => Zz.bnd (codeA P H (exec P H k) N (.seq (.region id ops false) rest) tm1) fun p => afterA (exec P H k) N (.seq (.region id ops false) rest) p.1 p.2) ::
                        l.map fun c => Zz.bnd (wr A (.mforce (some mA) since seen last (some c) clk)) fun _ => Zz.bnd (codeA P H (exec P H k) N (.seq (.region id ops false) rest) tm1) fun p => afterA (exec P H k) N (.seq (.region id ops false) rest) p.1 p.2 := by
                      rcases List.mem_cons.1 p4 with e | e
                      · rw [e]; simp
                      · exact List.mem_cons_of_mem _ (List.mem_map.2 ⟨c, e, rfl⟩)
                    obtain ⟨s', t2, s3, q1, q2, q3, q4⟩ := joinAll_weak hc' _ hin
                    exact round (s2 := s1) (q1.trans hh) (q2.trans hnx) hx q3 q4 p1 p2 p3
            | _ => cases hc'
        | _ => cases hc'
      | succ i => cases hc'
    | _ => cases hc'
theorem code_ok2 {H : Hooks} (hq : Opq ρ) (hH : HookOk P ρ w0 base H) (hFH : FrH H) (c : Code) : CodeOk P ρ w0 base H c ∧ ∀ c1 c2, c = .seq c1 c2 → CodeOk P ρ w0 base H c2 := by
  induction c with
  | skip =>
    refine ⟨?_, (fun _ _ e => by cases e)⟩
    intro n hn N m st st' tm tm' x a w Q h hA hf hP
    cases h
    exact wp_skip (hP a w m (Ext.refl m) (fun A h1 h2 => absurd h1 h2) hA)
  | label l =>
    refine ⟨?_, (fun _ _ e => by cases e)⟩
    intro n hn N m st st' tm tm' x a w Q h hA hf hP
    cases h
    exact wp_label (hP a w m (Ext.refl m) (fun A h1 h2 => absurd h1 h2) hA)
  | exit id =>
    refine ⟨?_, (fun _ _ e => by cases e)⟩
    intro n hn N m st st' tm tm' x a w Q h hA hf hP
    cases h
    exact wp_exit (hP a w m (Ext.refl m) (fun A h1 h2 => absurd h1 h2) hA)
  | ret =>
    refine ⟨?_, (fun _ _ e => by cases e)⟩
    intro n hn N m st st' tm tm' x a w Q h hA hf hP
    cases h
    exact wp_ret (hP a w m (Ext.refl m) (fun A h1 h2 => absurd h1 h2) hA)
  | region id ops d =>
    refine ⟨?_, (fun _ _ e => by cases e)⟩
    intro n hn N m st st' tm tm' x a w Q h hA hf hP
    cases d with
    | false =>
      simp only [codeA] at h
      cases hp : tm.p with
      | some p => rw [hp] at h; cases h
      | none =>
      rw [hp] at h
      dsimp only at h
      obtain ⟨tm1, st1, h1, h2⟩ := bnd_eq h
      obtain ⟨rfl, rfl, hqe⟩ := endP_eq (ρ := ρ) h2
      refine wp_region (ops_ok hq (hn n (Nat.le_refl n)).1 hH hFH (FrE.exec P hFH n) _ ops.toList m st _ tm _ a w (fun k => ?_) (by simp) h1 hp hA hf (fun a1 w1 m1 e1 e2 e3 => hqe _ _ _ _ (hP a1 w1 m1 e1 e2 e3)))
      rw [Array.getElem?_toList]
      rcases Nat.lt_or_ge k ops.size with hk | hk
      · simp [hk]
      · simp [hk]
    | true =>
      simp only [codeA] at h
      obtain ⟨⟨tm1, logs⟩, st1, h1, h2⟩ := bnd_eq h
      dsimp only at h2
      cases hok : allOk ops ops.toList logs 0 ops.toList (ancs ops.toList) logs with
      | false => rw [hok] at h2; cases h2
      | true =>
        rw [hok] at h2
        cases h2
        exact (hn n (Nat.le_refl n)).2 N id ops m st st' tm tm' logs a w Q h1 hok hA hf hP
  | seq c1 c2 ih1 ih2 =>
    refine ⟨?_, (fun _ _ e => by cases e; exact ih2.1)⟩
    intro n hn N m st st' tm tm' x a w Q h hA hf hP
    simp only [codeA] at h
    obtain ⟨⟨x1, tm1⟩, st1, h1, h2⟩ := bnd_eq h
    dsimp only at h2
    have n1 := fr_next (Fr.codeA P hFH (FrE.exec P hFH n) N c1 tm) h1
    refine wp_seq (ih1.1 n hn N m st st1 tm tm1 x1 a w _ h1 hA (fun A e1 e2 => hf A e1 (by
      have n2 : st1.next ≤ st'.next := by
        cases x1 <;> first | exact fr_next (Fr.codeA P hFH (FrE.exec P hFH n) N c2 tm1) h2 | (cases h2; exact Nat.le_refl _)
      omega)) ?_)
    intro a1 w1 m1 e1 e2 e3
    cases x1 with
    | normal =>
      have n2 := fr_next (Fr.codeA P hFH (FrE.exec P hFH n) N c2 tm1) h2
      refine ih2.1 n hn N m1 st1 st' tm1 tm' x a1 w1 Q h2 e3 (hf.rest e2 n1) ?_
      intro a2 w2 m2 f1 f2 f3
      exact hP a2 w2 m2 (e1.trans f1) (e2.trans f2 n1 n2) f3
    | _ =>
      cases h2
      exact hP a1 w1 m1 e1 e2 e3
  | cond c t f iht ihf =>
    refine ⟨?_, (fun _ _ e => by cases e)⟩
    intro n hn N m st st' tm tm' x a w Q h hA hf hP
    simp only [codeA] at h
    obtain ⟨v, hv, h⟩ := optb_eq h
    have hvr := aval_ok hv hA.tmr
    cases v with
    | bool b =>
      generalize hev : a.eval c = ev at hvr
      cases hvr
      cases b with
      | true => exact wp_cond hev (iht.1 n hn N m st st' tm tm' x a w Q h hA hf hP)
      | false => exact wp_cond hev (ihf.1 n hn N m st st' tm tm' x a w Q h hA hf hP)
    | _ => cases h
  | block id b ih =>
    refine ⟨?_, (fun _ _ e => by cases e)⟩
    intro n hn N m st st' tm tm' x a w Q h hA hf hP
    simp only [codeA] at h
    obtain ⟨⟨x1, tm1⟩, st1, h1, h2⟩ := bnd_eq h
    dsimp only at h2
    have hst : st1 = st' ∧ tm1 = tm' := by
      cases x1 with
      | exit id' =>
        dsimp only at h2
        cases hb : Nat.beq id' id with
        | true => rw [hb] at h2; cases h2; exact ⟨rfl, rfl⟩
        | false => rw [hb] at h2; cases h2; exact ⟨rfl, rfl⟩
      | _ => cases h2; exact ⟨rfl, rfl⟩
    obtain ⟨rfl, rfl⟩ := hst
    refine wp_block (ih.1 n hn N m st st1 tm tm1 x1 a w _ h1 hA hf ?_)
    intro a1 w1 m1 e1 e2 e3
    have hPx := hP a1 w1 m1 e1 e2 e3
    cases x1 with
    | exit id' =>
      dsimp only at h2
      cases hb : Nat.beq id' id with
      | true =>
        rw [hb] at h2; cases h2
        have hid : id' = id := by simpa using hb
        show (if id' = id then Q .normal a1 w1 else Q (.exit id') a1 w1)
        rw [if_pos hid]; exact hPx
      | false =>
        rw [hb] at h2; cases h2
        have hid : id' ≠ id := by intro e; subst e; simp at hb
        show (if id' = id then Q .normal a1 w1 else Q (.exit id') a1 w1)
        rw [if_neg hid]; exact hPx
    | _ => cases h2; exact hPx
  | scope b ih =>
    refine ⟨?_, (fun _ _ e => by cases e)⟩
    intro n hn N m st st' tm tm' x a w Q h hA hf hP
    simp only [codeA] at h
    obtain ⟨⟨x1, tm1⟩, st1, h1, h2⟩ := bnd_eq h
    cases x1 with
    | goto l => cases h2
    | _ =>
      cases h2
      refine wp_scope_straight (ih.1 n hn N m st _ tm _ _ a w _ h1 hA hf ?_)
      intro a1 w1 m1 e1 e2 e3
      exact hP a1 w1 m1 e1 e2 e3
  | loop b ih => exact ⟨loop_ok hq hH hFH ih.1 ih.2, (fun _ _ e => by cases e)⟩
  | _ =>
    refine ⟨?_, (fun _ _ e => by cases e)⟩
    intro n hn N m st st' tm tm' x a w Q h hA hf hP
    cases h
theorem code_ok {H : Hooks} (hq : Opq ρ) (hH : HookOk P ρ w0 base H) (hFH : FrH H) (c : Code) : CodeOk P ρ w0 base H c := (code_ok2 hq hH hFH c).1
end
end Go.Proofs.YtckmcajnhobkpaaGreatDoor.Zz
