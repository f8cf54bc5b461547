/- The executor: regions in an order that the draw chooses. -/
import Derived.Test.YtckmcajnhobkpaaGreatDoorExV
set_option linter.unusedVariables false
set_option linter.unusedSimpArgs false
set_option linter.deprecated false
namespace Go.Proofs.YtckmcajnhobkpaaGreatDoor.Zz
open Go Go.RowKit

/-! ### what an operation reads of the temporaries -/
theorem aval_congr {tm tm2 : Tm} {x : Operand} (h : ∀ t, x = .tmp t → tm2.get t = tm.get t) : aval tm2 x = aval tm x := by
  cases x with
  | tmp t => unfold aval; simp only [h t rfl]
  | _ => rfl
theorem avals_congr {tm tm2 : Tm} : ∀ {l : List Operand}, (∀ x ∈ l, aval tm2 x = aval tm x) → avals tm2 l = avals tm l
  | [], _ => rfl
  | x :: l, h => by
    unfold avals
    rw [h x (by simp), avals_congr (fun y hy => h y (by simp [hy]))]
theorem partsA_congr {tm tm2 : Tm} : ∀ {l : List (Nat × Nat × Operand)}, (∀ p ∈ l, aval tm2 p.2.2 = aval tm p.2.2) → partsA tm2 l = partsA tm l
  | [], _ => rfl
  | (off, z, x) :: l, h => by
    unfold partsA
    rw [h (off, z, x) (by simp), partsA_congr (fun y hy => h y (by simp [hy]))]
theorem arrPlaces_mem {n : Nat} : ∀ {ps : List (Nat × Operand)} {p : Nat × Nat × Operand}, p ∈ arrPlaces n ps → ∃ i, (i, p.2.2) ∈ ps
  | [], p, h => by cases h
  | (i, x) :: ps, p, h => by
    rcases List.mem_cons.1 h with e | e
    · exact ⟨i, by rw [e]; simp⟩
    · obtain ⟨k, hk⟩ := arrPlaces_mem e
      exact ⟨k, by simp [hk]⟩
theorem placesA_mem {pls : List (Nat × Nat)} : ∀ {ps : List (Nat × Operand)} {l : List (Nat × Nat × Operand)} {p : Nat × Nat × Operand}, placesA pls ps = some l → p ∈ l → ∃ i, (i, p.2.2) ∈ ps
  | [], l, p, h, hp => by
    cases h; cases hp
  | (i, x) :: ps, l, p, h, hp => by
    unfold placesA at h
    split at h
    · rename_i o z hq
      split at h
      · rename_i r hr
        cases h
        rcases List.mem_cons.1 hp with e | e
        · exact ⟨i, by rw [e]; simp⟩
        · obtain ⟨k, hk⟩ := placesA_mem hr e
          exact ⟨k, by simp [hk]⟩
      · cases h
    · cases h
theorem oAval_congr {tm tm2 : Tm} {x : Option Operand} (h : ∀ y, x = some y → aval tm2 y = aval tm y) : oAval tm2 x = oAval tm x := by
  cases x with
  | none => rfl
  | some y => unfold oAval; simp only [h y rfl]
theorem bnd_opt_congr {α β : Type} {x : Option α} {f g : α → M β} (h : ∀ a, x = some a → f a = g a) : bnd (opt x) f = bnd (opt x) g := by
  cases x with
  | none => rfl
  | some a =>
    funext s
    show (Zz.bnd (opt (some a)) f) s = (Zz.bnd (opt (some a)) g) s
    unfold Zz.bnd opt Zz.ret
    exact congrFun (h a rfl) s
theorem opA_congr {P : Program} {H : Hooks} {e : Ex} {o : Oper} {tm tm2 : Tm} (h : ∀ x ∈ o.op.operands, aval tm2 x = aval tm x) : opA P H e o tm2 = opA P H e o tm := by
  obtain ⟨dst, op, type, pos, after, guard⟩ := o
  cases op <;> simp only [Op.operands] at h <;> unfold opA <;> simp only
  case build t ps =>
    have hp : ∀ l : List (Nat × Nat × Operand), (∀ p ∈ l, ∃ i, (i, p.2.2) ∈ ps.toList) → partsA tm2 l = partsA tm l := fun l hl => partsA_congr fun p hp => by
      obtain ⟨i, hi⟩ := hl p hp
      exact h _ (by simp; exact ⟨i, by simpa using hi⟩)
    refine bnd_opt_congr fun z _ => ?_
    split
    · refine bnd_opt_congr fun pls _ => bnd_opt_congr fun pl hpl => ?_
      rw [hp pl (fun p hp => placesA_mem hpl hp)]
    · refine bnd_opt_congr fun n _ => ?_
      rw [hp _ (fun p hp => arrPlaces_mem hp)]
    · rfl
  case buildSlice t len ps =>
    have hp : ∀ n, partsA tm2 (arrPlaces n ps.toList) = partsA tm (arrPlaces n ps.toList) := fun n => partsA_congr fun p hp => by
      obtain ⟨i, hi⟩ := arrPlaces_mem hp
      exact h _ (by simp; exact ⟨i, by simpa using hi⟩)
    simp only [hp]
  case makeFunc fn first captured =>
    rw [avals_congr (l := first.toList) (fun x hx => h x (by simp at hx; simp [hx])), avals_congr (l := captured.toList) (fun x hx => h x (by simp at hx; simp [hx]))]
  case makeMap t r =>
    cases r with
    | none => rfl
    | some x => simp only; rw [h x (by simp)]
  case slice t x lo hi mx =>
    rw [h x (by simp), oAval_congr (x := lo) (fun y hy => h y (by simp [hy])), oAval_congr (x := hi) (fun y hy => h y (by simp [hy])), oAval_congr (x := mx) (fun y hy => h y (by simp [hy]))]
  case call c =>
    have ha : avals tm2 c.args.toList = avals tm c.args.toList := avals_congr fun x hx => h x (by simp at hx; simp [Call.operands, hx])
    rw [ha]
    refine bnd_opt_congr fun args _ => ?_
    cases hc : c.callee with
    | builtin b => rfl
    | invoke r name => simp only; rw [h r (by simp [Call.operands, hc])]
    | value f => simp only; rw [h f (by simp [Call.operands, hc])]
  case pick c a b => rw [h c (by simp), h a (by simp), h b (by simp)]
  case store t x y => rw [h x (by simp), h y (by simp)]
  case binOp op t x y q => rw [h x (by simp), h y (by simp)]
  case makeSlice t x y => rw [h x (by simp), h y (by simp)]
  case indexAddr t x y => rw [h x (by simp), h y (by simp)]
  case index t x y => rw [h x (by simp), h y (by simp)]
  case lookup t x y q => rw [h x (by simp), h y (by simp)]
  case mapUpdate t x y z => rw [h x (by simp), h y (by simp), h z (by simp)]
  case insert t x y z => rw [h x (by simp), h y (by simp), h z (by simp)]
  case next x b =>
    cases b
    · simp only; rw [h x (by simp)]
    · simp only; rw [h x (by simp)]
  all_goals first | rfl | (rename_i x; rw [h x (by simp)]; done) | (rename_i x _; rw [h x (by simp)]; done) | (rename_i x _ _; rw [h x (by simp)]; done) | (rename_i x _ _ _; rw [h x (by simp)]; done)
theorem askA_congr {H : Hooks} {op : Op} {tm tm2 : Tm} {x : M AV} (h : ∀ x ∈ op.operands, aval tm2 x = aval tm x) : askA H tm2 op x = askA H tm op x := by
  have : oraKey tm2 op = oraKey tm op := by
    unfold oraKey
    cases op <;> simp only [Op.operands] at h <;> simp only
    case call c =>
      cases hc : c.callee with
      | builtin b =>
        cases b <;> try rfl
        cases ha : c.args.toList with
        | nil => rfl
        | cons y l =>
          cases l with
          | cons _ _ => rfl
          | nil =>
            cases hat : c.argTypes.toList with
            | nil => rfl
            | cons t ts =>
            dsimp only
            rw [h y (by
              have : y ∈ c.args := by
                have : y ∈ c.args.toList := by rw [ha]; simp
                simpa using this
              simp [Call.operands, this])]
      | _ => rfl
    case binOp op t x y q => rw [h x (by simp), h y (by simp)]
    case indexAddr t x y => rw [h x (by simp), h y (by simp)]
    case load t x => rw [h x (by simp)]
  unfold askA
  rw [this]
theorem wantA_congr {ops : Array Oper} {o : Oper} {tm tm2 : Tm} (h : ∀ x ∈ o.looksAt ops, tm2.get x = tm.get x) : wantA ops o tm2 = wantA ops o tm := by
  unfold wantA
  cases hg : o.guard with
  | none => rfl
  | some gw =>
    obtain ⟨j, want⟩ := gw
    cases hj : ops[j]? with
    | none => simp only [hj]
    | some g =>
      simp only [hj]
      cases hd : g.dst with
      | none => rfl
      | some d =>
        simp only
        rw [h d (by simp [Oper.looksAt, hg, hj, hd])]
theorem aval_looks {ops : Array Oper} {o : Oper} {tm tm2 : Tm} (h : ∀ x ∈ o.looksAt ops, tm2.get x = tm.get x) : ∀ x ∈ o.op.operands, aval tm2 x = aval tm x := fun x hx => aval_congr fun t ht => h t (by
  subst ht
  exact List.mem_append_left _ (List.mem_filterMap.2 ⟨.tmp t, by simpa using hx, rfl⟩))
theorem putA_tm {N : Nat} {tm tm2 tm' : Tm} {dst : Option Tmp} {v : AV} {s s' : ASt} (h : putA N tm dst v s = some (tm', s')) :
    ∃ tm2', putA N tm2 dst v s = some (tm2', s') ∧ (∀ x, tm2'.get x = if dst = some x then tm'.get x else tm2.get x) ∧ ∀ x, dst ≠ some x → tm'.get x = tm.get x := by
  unfold putA at h ⊢
  cases dst with
  | none => cases h; exact ⟨tm2, rfl, fun x => by simp, fun x _ => rfl⟩
  | some d =>
    simp only at h ⊢
    cases hb : Nat.blt d N with
    | false => rw [hb] at h; cases h
    | true =>
      rw [hb] at h
      cases h
      refine ⟨tm2.put d v, rfl, fun x => ?_, fun x hx => ?_⟩
      · rw [Tm.get_put, Tm.get_put]
        by_cases e : x = d
        · simp [e]
        · rw [if_neg e, if_neg (by intro q; cases q; exact e rfl)]
      · rw [Tm.get_put, if_neg (by intro e; exact hx (by rw [e]))]
theorem operA_tm {P : Program} {H : Hooks} {e : Ex} {N : Nat} {ops : Array Oper} {o : Oper} {tm tm2 tm' : Tm} {s s' : ASt} (h : operA P H e N ops o tm s = some (tm', s')) (hl : ∀ x ∈ o.looksAt ops, tm2.get x = tm.get x) :
    ∃ tm2', operA P H e N ops o tm2 s = some (tm2', s') ∧ (∀ x, tm2'.get x = if o.dst = some x then tm'.get x else tm2.get x) ∧ ∀ x, o.dst ≠ some x → tm'.get x = tm.get x := by
  unfold operA at h ⊢
  rw [wantA_congr hl]
  cases hw : wantA ops o tm with
  | none => rw [hw] at h; cases h
  | some b =>
    rw [hw] at h
    cases b with
    | false => exact putA_tm h
    | true =>
      simp only at h ⊢
      obtain ⟨v, s1, h1, h2⟩ := bnd_eq h
      have h2' : putA N tm o.dst v s1 = some (tm', s') := by
        cases v with
        | pan x => cases h2
        | _ => exact h2
      obtain ⟨tm2', g1, g2, g3⟩ := putA_tm (tm2 := tm2) h2'
      refine ⟨tm2', ?_, g2, g3⟩
      unfold Zz.bnd
      rw [opA_congr (aval_looks hl), askA_congr (aval_looks hl), h1]
      dsimp only
      cases v with
      | pan x => cases h2
      | _ => exact g1
theorem operA_d {P : Program} {H : Hooks} {e : Ex} {N : Nat} {ops : Array Oper} {o : Oper} {tm tm' : Tm} {s s' : ASt} (h : operA P H e N ops o tm s = some (tm', s')) : tm'.d = tm.d := by
  have hput : ∀ {v : AV} {s1 s2 : ASt} {t2 : Tm}, putA N tm o.dst v s1 = some (t2, s2) → t2.d = tm.d := by
    intro v s1 s2 t2 g
    unfold putA at g
    cases hd : o.dst with
    | none => rw [hd] at g; cases g; rfl
    | some d =>
      rw [hd] at g
      simp only at g
      cases hb : Nat.blt d N with
      | false => rw [hb] at g; cases g
      | true => rw [hb] at g; cases g; rfl
  unfold operA at h
  cases hw : wantA ops o tm with
  | none => rw [hw] at h; cases h
  | some b =>
    rw [hw] at h
    cases b with
    | false => exact hput h
    | true =>
      simp only at h
      obtain ⟨v, s1, h1, h2⟩ := bnd_eq h
      cases v with
      | pan x => cases h2
      | _ => exact hput h2

/-! ### the checks -/
theorem elemN_mem {x : Nat} : ∀ {l : List Nat}, elemN x l = true → x ∈ l
  | [], h => by cases h
  | y :: l, h => by
    unfold elemN at h
    rcases Bool.or_eq_true _ _ |>.mp h with e | e
    · have : x = y := by simpa using e
      simp [this]
    · exact List.mem_cons_of_mem _ (elemN_mem e)
theorem wrote_get : ∀ (l : List Nat) (A : Nat), 2 * A + 1 ∈ l → (wrote l).get A = some ()
  | [], A, h => by cases h
  | x :: l, A, h => by
    show (bif Nat.beq (x % 2) 1 then (wrote l).put (x / 2) () else wrote l).get A = some ()
    rcases List.mem_cons.1 h with e | e
    · have h1 : Nat.beq (x % 2) 1 = true := by rw [← e]; simp
      rw [h1, cond_true, Tr.get_put, if_pos (by omega)]
    · have := wrote_get l A e
      cases Nat.beq (x % 2) 1 with
      | false => exact this
      | true =>
        rw [cond_true, Tr.get_put]
        split
        · rfl
        · exact this
theorem meets_none {t : Tr Unit} : ∀ {l : List Nat}, meets t l = false → ∀ x ∈ l, t.get (x / 2) = none
  | [], _, x, h => by cases h
  | y :: l, h, x, hx => by
    unfold meets at h
    obtain ⟨h1, h2⟩ := Bool.or_eq_false_iff.1 h
    rcases List.mem_cons.1 hx with e | e
    · rw [e]
      cases hg : t.get (y / 2) with
      | none => rfl
      | some u => rw [hg] at h1; cases h1
    · exact meets_none h2 x e
theorem meets_wrote {a b : List Nat} (h : meets (wrote a) b = false) {A : Nat} (hA : 2 * A + 1 ∈ a) : ¬ Tch b A := by
  intro ht
  have hw := wrote_get a A hA
  rcases ht with e | e
  · have := meets_none h _ e
    rw [show 2 * A / 2 = A by omega, hw] at this; cases this
  · have := meets_none h _ e
    rw [show (2 * A + 1) / 2 = A by omega, hw] at this; cases this
theorem hits_no {x : Nat} : ∀ {l : List Nat}, hits x l = false → ∀ y ∈ l, x / 2 = y / 2 → x % 2 ≠ 1 ∧ y % 2 ≠ 1
  | [], _, y, hy, _ => by cases hy
  | z :: l, h, y, hy, he => by
    unfold hits at h
    cases hc : (Nat.beq (x / 2) (z / 2) && (Nat.beq (x % 2) 1 || Nat.beq (z % 2) 1)) with
    | true => rw [hc] at h; cases h
    | false =>
      rw [hc, cond_false] at h
      rcases List.mem_cons.1 hy with e | e
      · subst e
        have h1 : Nat.beq (x / 2) (y / 2) = true := by simpa using he
        rw [h1, Bool.true_and, Bool.or_eq_false_iff] at hc
        exact ⟨fun q => (by rw [q] at hc; cases hc.1), fun q => (by rw [q] at hc; cases hc.2)⟩
      · exact hits_no h y e he
theorem hitsAny_no : ∀ {a b : List Nat}, hitsAny a b = false → ∀ x ∈ a, hits x b = false
  | [], _, _, x, hx => by cases hx
  | z :: a, b, h, x, hx => by
    unfold hitsAny at h
    cases hc : hits z b with
    | true => rw [hc] at h; cases h
    | false =>
      rw [hc, cond_false] at h
      rcases List.mem_cons.1 hx with e | e
      · rw [e]; exact hc
      · exact hitsAny_no h x e
theorem noHits {a b : List Nat} (h : hitsAny a b = false) {A : Nat} : (2 * A + 1 ∈ a → ¬ Tch b A) ∧ (2 * A + 1 ∈ b → ¬ Tch a A) := by
  refine ⟨fun ha ht => ?_, fun hb ht => ?_⟩
  · have h1 := hitsAny_no h _ ha
    rcases ht with e | e
    · have := (hits_no h1 _ e (by omega)).1; omega
    · have := (hits_no h1 _ e (by omega)).1; omega
  · rcases ht with e | e
    · have := (hits_no (hitsAny_no h _ e) _ hb (by omega)).2; omega
    · have := (hits_no (hitsAny_no h _ e) _ hb (by omega)).2; omega
theorem noMeet_spec {a b : List Nat} (h : noMeet a b = true) {A : Nat} : (2 * A + 1 ∈ a → ¬ Tch b A) ∧ (2 * A + 1 ∈ b → ¬ Tch a A) := by
  unfold noMeet at h
  cases h1 : shortN 6 b with
  | true =>
    rw [h1, cond_true] at h
    have := noHits (A := A) (a := b) (b := a) (by simpa using h)
    exact ⟨this.2, this.1⟩
  | false =>
    rw [h1, cond_false] at h
    cases h2 : shortN 6 a with
    | true =>
      rw [h2, cond_true] at h
      exact noHits (by simpa using h)
    | false =>
      rw [h2, cond_false] at h
      obtain ⟨h1, h2⟩ := Bool.and_eq_true _ _ |>.mp h
      exact ⟨meets_wrote (by simpa using h1), meets_wrote (by simpa using h2)⟩
theorem rowOk_get {ops : Array Oper} {j : Nat} {y : Oper} {ay ly : List Nat} : ∀ {xs : List Oper} {lss : List (List Nat)} {i : Nat}, rowOk ops j y ay ly i xs lss = true →
    ∀ (k : Nat) (x : Oper) (lx : List Nat), xs[k]? = some x → lss[k]? = some lx → i + k < j → pairOk ops (i + k) j x y ay lx ly = true
  | [], _, _, _, k, x, lx, hx, _, _ => by cases hx
  | _ :: _, [], _, _, k, x, lx, _, hl, _ => by cases hl
  | x0 :: xs, l0 :: lss, i, h, k, x, lx, hx, hl, hk => by
    unfold rowOk at h
    have hb : Nat.blt i j = true := by simp; omega
    rw [hb, cond_true] at h
    obtain ⟨h1, h2⟩ := Bool.and_eq_true _ _ |>.mp h
    cases k with
    | zero => cases hx; cases hl; exact h1
    | succ k =>
      have := rowOk_get h2 k x lx (by simpa using hx) (by simpa using hl) (by omega)
      rwa [show i + 1 + k = i + (k + 1) by omega] at this
theorem allOk_get {ops : Array Oper} {all : List Oper} {logs : List (List Nat)} : ∀ {os : List Oper} {as0 ls : List (List Nat)} {j : Nat}, allOk ops all logs j os as0 ls = true →
    ∀ (k : Nat) (y : Oper), os[k]? = some y → ∃ ay ly, as0[k]? = some ay ∧ ls[k]? = some ly ∧ edgeOk (j + k) y = true ∧ rowOk ops (j + k) y ay ly 0 all logs = true
  | [], _, _, _, _, k, y, hy => by cases hy
  | _ :: _, [], _, _, h, _, _, _ => by cases h
  | _ :: _, _ :: _, [], _, h, _, _, _ => by cases h
  | y0 :: os, a0 :: as0, l0 :: ls, j, h, k, y, hy => by
    unfold allOk at h
    obtain ⟨h1, h3⟩ := Bool.and_eq_true _ _ |>.mp h
    obtain ⟨h1, h2⟩ := Bool.and_eq_true _ _ |>.mp h1
    cases k with
    | zero => cases hy; exact ⟨a0, l0, rfl, rfl, h1, h2⟩
    | succ k =>
      have := allOk_get h3 k y (by simpa using hy)
      rw [show j + 1 + k = j + (k + 1) by omega] at this
      simpa using this
/-- all that a listed one waits for is listed -/
def Closed (os : List Oper) (S : Nat → Bool) : Prop := ∀ j y, os[j]? = some y → S j = true → ∀ ed ∈ y.after.toList, Region.binds .any ed = true → S ed.on = true
theorem ancs_go (os : List Oper) : ∀ (r pre : List Oper) (acc : List (List Nat)), os = pre ++ r → acc.length = pre.length →
    (∀ (j : Nat) (y : Oper) (ay : List Nat), os[j]? = some y → acc[j]? = some ay → ∀ S, Closed os S → (∀ ed ∈ y.after.toList, Region.binds .any ed = true → S ed.on = true) → ∀ i ∈ ay, S i = true) →
    ∀ (j : Nat) (y : Oper) (ay : List Nat), os[j]? = some y → (r.foldl (fun acc o => acc ++ [o.after.toList.foldr (fun ed l => bif Region.binds .any ed then ed.on :: ((acc[ed.on]?).getD [] ++ l) else l) []]) acc)[j]? = some ay →
      ∀ S, Closed os S → (∀ ed ∈ y.after.toList, Region.binds .any ed = true → S ed.on = true) → ∀ i ∈ ay, S i = true
  | [], pre, acc, _, _, hg => hg
  | o :: r, pre, acc, ho, hl, hg => by
    refine ancs_go os r (pre ++ [o]) _ (by rw [ho]; simp) (by simp [hl]) ?_
    intro j y ay hy hay S hc hed
    rcases Nat.lt_or_ge j acc.length with hj | hj
    · rw [List.getElem?_append_left hj] at hay
      exact hg j y ay hy hay S hc hed
    · rw [List.getElem?_append_right hj] at hay
      have hj0 : j - acc.length = 0 := by
        rcases Nat.eq_zero_or_pos (j - acc.length) with e | e
        · exact e
        · rw [List.getElem?_eq_none (by simp; omega)] at hay; cases hay
      rw [hj0] at hay
      cases hay
      have hyo : y = o := by
        have : j = pre.length := by omega
        rw [ho, this] at hy
        simp at hy
        exact hy.symm
      subst hyo
      clear hj0 hj hy
      generalize y.after.toList = es at hed
      induction es with
      | nil => intro i hi; cases hi
      | cons ed es ih =>
        intro i hi
        rw [List.foldr_cons] at hi
        have ih' := ih (fun e he => hed e (by simp [he]))
        cases hb : Region.binds .any ed with
        | false => rw [hb] at hi; exact ih' i hi
        | true =>
          rw [hb, cond_true] at hi
          have hS := hed ed (by simp) hb
          rcases List.mem_cons.1 hi with e | hi
          · rw [e]; exact hS
          · rcases List.mem_append.1 hi with hi | hi
            · cases ha : acc[ed.on]? with
              | none => rw [ha] at hi; cases hi
              | some a1 =>
                rw [ha] at hi
                have hlt : ed.on < acc.length := (List.getElem?_eq_some_iff.1 ha).1
                have ho1 : os[ed.on]? = some (pre[ed.on]'(by omega)) := by
                  rw [ho, List.getElem?_append_left (by omega)]; simp
                exact hg ed.on _ a1 ho1 ha S hc (hc ed.on _ ho1 hS) i hi
            · exact ih' i hi
theorem ancs_spec {os : List Oper} {S : Nat → Bool} (hc : Closed os S) {j : Nat} {y : Oper} {ay : List Nat} (hy : os[j]? = some y) (ha : (ancs os)[j]? = some ay) (hed : ∀ ed ∈ y.after.toList, Region.binds .any ed = true → S ed.on = true) : ∀ i ∈ ay, S i = true :=
  ancs_go os os [] [] rfl rfl (fun _ _ _ _ h => by cases h) j y ay hy ha S hc hed

/-! ### what stands where, some of the operations done -/
def cur {X : Type} (S W : Nat → Bool) (val : Nat → X) : Nat → X
  | 0 => val 0
  | i + 1 => bif S i && W i then val (i + 1) else cur S W val i
theorem cur_above {X : Type} {S W : Nat → Bool} {val : Nat → X} {j : Nat} : ∀ d, (∀ k, j ≤ k → k < j + d → W k = true → S k = false) → cur S W val (j + d) = cur S W val j
  | 0, _ => rfl
  | d + 1, h => by
    show (bif S (j + d) && W (j + d) then val (j + d + 1) else cur S W val (j + d)) = _
    have : (S (j + d) && W (j + d)) = false := by
      cases hW : W (j + d) with
      | false => simp
      | true => rw [h _ (by omega) (by omega) hW]; rfl
    rw [this, cond_false]
    exact cur_above d (fun k h1 h2 => h k h1 (by omega))
theorem cur_upto {X : Type} {S W : Nat → Bool} {val : Nat → X} : ∀ j, (∀ i, i < j → W i = true → S i = true) → (∀ i, i < j → W i = false → val (i + 1) = val i) → cur S W val j = val j
  | 0, _, _ => rfl
  | j + 1, h, hs => by
    show (bif S j && W j then val (j + 1) else cur S W val j) = _
    have ih := cur_upto (S := S) j (fun i hi => h i (by omega)) (fun i hi => hs i (by omega))
    cases hW : W j with
    | true => rw [h j (by omega) hW]; rfl
    | false => rw [Bool.and_false, cond_false, ih, hs j (by omega) hW]
theorem cur_at {X : Type} {S W : Nat → Bool} {val : Nat → X} {j n : Nat} (hn : j ≤ n) (h1 : ∀ i, i < j → W i = true → S i = true) (h2 : ∀ k, j ≤ k → k < n → W k = true → S k = false) (hs : ∀ i, i < j → W i = false → val (i + 1) = val i) : cur S W val n = val j := by
  have := cur_above (S := S) (W := W) (val := val) (j := j) (n - j) (fun k e1 e2 => h2 k e1 (by omega))
  rw [show j + (n - j) = n by omega] at this
  rw [this, cur_upto j h1 hs]
theorem cur_congr {X : Type} {S S' W : Nat → Bool} {val : Nat → X} : ∀ n, (∀ k, k < n → W k = true → S' k = S k) → cur S' W val n = cur S W val n
  | 0, _ => rfl
  | n + 1, h => by
    show (bif S' n && W n then val (n + 1) else cur S' W val n) = (bif S n && W n then val (n + 1) else cur S W val n)
    rw [cur_congr n (fun k hk => h k (by omega))]
    cases hW : W n with
    | false => simp
    | true => rw [h n (by omega) hW]
theorem cur_step {X : Type} {S S' W : Nat → Bool} {val : Nat → X} {j n : Nat} (hj : j < n) (hS' : S' j = true) (hne : ∀ k, k ≠ j → S' k = S k) (h2 : W j = true → ∀ k, j < k → k < n → W k = true → S k = false) :
    cur S' W val n = if W j = true then val (j + 1) else cur S W val n := by
  by_cases hW : W j = true
  · rw [if_pos hW]
    have := cur_above (S := S') (W := W) (val := val) (j := j + 1) (n - (j + 1)) (fun k e1 e2 e3 => by rw [hne k (by omega)]; exact h2 hW k (by omega) (by omega) e3)
    rw [show j + 1 + (n - (j + 1)) = n by omega] at this
    rw [this]
    show (bif S' j && W j then val (j + 1) else cur S' W val j) = _
    rw [hS', hW]; rfl
  · rw [if_neg hW]
    exact cur_congr n (fun k _ hk => hne k (by intro e; rw [e] at hk; exact hW hk))
def cnt (S : Nat → Bool) : Nat → Nat
  | 0 => 0
  | n + 1 => cnt S n + (bif S n then 0 else 1)
theorem cnt_zero {S : Nat → Bool} : ∀ {n : Nat}, cnt S n = 0 → ∀ k, k < n → S k = true
  | n + 1, h, k, hk => by
    have h' : cnt S n + (bif S n then 0 else 1) = 0 := h
    cases hS : S n with
    | false => rw [hS, cond_false] at h'; omega
    | true =>
      rcases Nat.lt_or_ge k n with e | e
      · exact cnt_zero (by omega) k e
      · rw [show k = n by omega]; exact hS
theorem cnt_step {S S' : Nat → Bool} {j : Nat} (h0 : S j = false) (h1 : S' j = true) (hne : ∀ k, k ≠ j → S' k = S k) : ∀ n, cnt S n = cnt S' n + (if j < n then 1 else 0)
  | 0 => rfl
  | n + 1 => by
    show cnt S n + (bif S n then 0 else 1) = cnt S' n + (bif S' n then 0 else 1) + _
    have ih := cnt_step h0 h1 hne n
    by_cases e : n = j
    · subst e
      rw [h0, h1, if_pos (by omega), cond_true, cond_false]
      rw [if_neg (by omega)] at ih
      omega
    · rw [hne n e]
      by_cases e2 : j < n
      · rw [if_pos e2] at ih; rw [if_pos (by omega)]; omega
      · rw [if_neg e2] at ih; rw [if_neg (by omega)]; omega

section
variable {P : Program} {ρ : Nat → Value} {w0 : World} {base : Nat}
/-- one operation of the run in the text's order -/
def StepAt (P : Program) (H : Hooks) (e : Ex) (N : Nat) (ops : Array Oper) (o : Oper) (tm tm' : Tm) (s s' : ASt) (l : List Nat) : Prop :=
  ∃ s1, operA P H e N ops o tm s = some (tm', s1) ∧ Fro (operA P H e N ops o tm) s tm' s1 l ∧ s1.heap = s'.heap ∧ s1.next = s'.next
theorem draw_steps {H : Hooks} {e : Ex} {N : Nat} {ops : Array Oper} (hFH : FrH H) (hFE : FrE e) : ∀ (os : List Oper) (tm tm' : Tm) (logs : List (List Nat)) (st st' : ASt), drawA P H e N ops os tm st = some ((tm', logs), st') →
    ∃ (s : Nat → ASt) (t : Nat → Tm), (s 0).heap = st.heap ∧ (s 0).next = st.next ∧ (s 0).log = [] ∧ t 0 = tm ∧ t os.length = tm' ∧ (s os.length).heap = st'.heap ∧ (s os.length).next = st'.next ∧ logs.length = os.length ∧
      ∀ i o l, os[i]? = some o → logs[i]? = some l → StepAt P H e N ops o (t i) (t (i + 1)) (s i) (s (i + 1)) l
  | [], tm, tm', logs, st, st', h => by
    cases h
    exact ⟨fun _ => ⟨st.heap, st.next, []⟩, fun _ => tm, rfl, rfl, rfl, rfl, rfl, rfl, rfl, rfl, fun i o l h => by cases h⟩
  | o :: os, tm, tm', logs, st, st', h => by
    unfold drawA at h
    obtain ⟨⟨tm1, l⟩, st1, h1, h⟩ := bnd_eq h
    obtain ⟨⟨tm2, ls⟩, st2, h2, h3⟩ := bnd_eq h
    cases h3
    obtain ⟨s1, g1, g2, g3, g4⟩ := capt_log (Fr.operA P hFH hFE N ops o tm) h1
    obtain ⟨s, t, e1, e2, e3, e4, e5, e6, e7, e8, e9⟩ := draw_steps hFH hFE os tm1 _ ls st1 _ h2
    refine ⟨fun i => match i with | 0 => ⟨st.heap, st.next, []⟩ | i + 1 => s i, fun i => match i with | 0 => tm | i + 1 => t i, rfl, rfl, rfl, rfl, e5, e6, e7, by simp [e8], ?_⟩
    intro i o' l' ho hl
    cases i with
    | zero =>
      cases ho; cases hl
      exact ⟨s1, by show operA _ _ _ _ _ _ _ _ = some (t 0, s1); rw [e4]; exact g1, by show Fro _ _ (t 0) _ _; rw [e4]; exact g2, by rw [e1, g3], by rw [e2, g4]⟩
    | succ i => exact e9 i o' l' (by simpa using ho) (by simpa using hl)
theorem draw_ok {H : Hooks} {e : Ex} (hm : P.follows .mixedOrders = true) (hq : Opq ρ) (hH : HookOk P ρ w0 base H) (hFH : FrH H) (hFE : FrE e) (hc : CallOk P ρ w0 base e.call) : DrawOk P ρ w0 base H e := by
  intro N id ops m st st' tm tm' logs a w Q h hok hA hf hP
  obtain ⟨s, t, s0, n0, _, t0, tn, sn, nn, hll, hst⟩ := draw_steps hFH hFE ops.toList tm tm' logs st st' h
  have hsize : ops.toList.length = ops.size := by simp
  rw [hsize] at tn sn nn hll
  generalize hn : ops.size = n at *
  have hto : ∀ i, ops.toList[i]? = ops[i]? := fun i => Array.getElem?_toList ..
  -- the numbers' own facts
  let lg : Nat → List Nat := fun i => (logs[i]?).getD []
  let dst : Nat → Option Tmp := fun i => (ops[i]?).bind (·.dst)
  have hop : ∀ i, i < n → ∃ o, ops[i]? = some o := fun i hi => ⟨ops[i]'(by omega), by simp [hn, hi]⟩
  have hlog : ∀ i, i < n → logs[i]? = some (lg i) := fun i hi => by
    show logs[i]? = some ((logs[i]?).getD [])
    rw [List.getElem?_eq_getElem (by omega)]; rfl
  have hstep : ∀ i o, i < n → ops[i]? = some o → StepAt P H e N ops o (t i) (t (i + 1)) (s i) (s (i + 1)) (lg i) := fun i o hi ho => hst i o (lg i) (by rw [hto]; exact ho) (hlog i hi)
  have hmono1 : ∀ i, i < n → (s i).next ≤ (s (i + 1)).next := fun i hi => by
    obtain ⟨o, ho⟩ := hop i hi
    obtain ⟨s1, g1, g2, g3, g4⟩ := hstep i o hi ho
    rw [← g4]; exact g2.next
  have hmono : ∀ d i, i + d ≤ n → (s i).next ≤ (s (i + d)).next := fun d => by
    induction d with
    | zero => intro i _; exact Nat.le_refl _
    | succ d ih => intro i hi; exact Nat.le_trans (ih i (by omega)) (hmono1 (i + d) (by omega))
  have hle : ∀ i k, i ≤ k → k ≤ n → (s i).next ≤ (s k).next := fun i k h1 h2 => by
    have := hmono (k - i) i (by omega)
    rwa [show i + (k - i) = k by omega] at this
  have halloc : ∀ i, i < n → ∀ A, (s i).next ≤ A → A < (s (i + 1)).next → 2 * A + 1 ∈ lg i := fun i hi A h1 h2 => by
    obtain ⟨o, ho⟩ := hop i hi
    obtain ⟨s1, g1, g2, g3, g4⟩ := hstep i o hi ho
    exact g2.alloc A h1 (by rw [g4]; exact h2)
  have hsame : ∀ i, i < n → ∀ A, 2 * A + 1 ∉ lg i → (s (i + 1)).heap.get A = (s i).heap.get A := fun i hi A h1 => by
    obtain ⟨o, ho⟩ := hop i hi
    obtain ⟨s1, g1, g2, g3, g4⟩ := hstep i o hi ho
    rw [← g3]
    exact g2.same A h1 (fun hh => h1 (g2.alloc A hh.1 hh.2))
  have hsamet : ∀ i, i < n → ∀ x, dst i ≠ some x → (t (i + 1)).get x = (t i).get x := fun i hi x h1 => by
    obtain ⟨o, ho⟩ := hop i hi
    obtain ⟨s1, g1, g2, g3, g4⟩ := hstep i o hi ho
    obtain ⟨_, _, _, q⟩ := operA_tm (tm2 := t i) g1 (fun _ _ => rfl)
    exact q x (by
      have hd : dst i = o.dst := by show (ops[i]?).bind (·.dst) = _; rw [ho]; rfl
      rw [← hd]; exact h1)
  have hdd : ∀ i, i ≤ n → (t i).d = tm.d := fun i => by
    induction i with
    | zero => intro _; rw [t0]
    | succ i ih =>
      intro hi
      obtain ⟨o, ho⟩ := hop i (by omega)
      obtain ⟨s1, g1, _⟩ := hstep i o (by omega) ho
      rw [operA_d g1]; exact ih (by omega)
  have hchk : ∀ k y, k < n → ops[k]? = some y → ∃ ay, (ancs ops.toList)[k]? = some ay ∧ edgeOk k y = true ∧ ∀ i x, i < k → ops[i]? = some x → i ∈ ay ∨ (noMeet (lg i) (lg k) = true ∧ Oper.apart ops x y = true) := fun k y hk hy => by
    obtain ⟨ay, ly, q1, q2, q3, q4⟩ := allOk_get hok k y (by rw [hto]; exact hy)
    rw [Nat.zero_add] at q3 q4
    have hly : ly = lg k := by have := hlog k hk; rw [q2] at this; exact Option.some.inj this
    subst hly
    refine ⟨ay, q1, q3, fun i x hi hx => ?_⟩
    have := rowOk_get q4 i x (lg i) (by rw [hto]; exact hx) (hlog i (by omega)) (by omega)
    rw [Nat.zero_add] at this
    unfold pairOk at this
    rcases Bool.or_eq_true _ _ |>.mp this with h1 | h1
    · exact .inl (elemN_mem h1)
    · exact .inr (Bool.and_eq_true _ _ |>.mp h1)
  have hedge : ∀ k y, k < n → ops[k]? = some y → ∀ ed ∈ y.after.toList, Region.binds .any ed = true → ed.on < k := fun k y hk hy ed he hb => by
    obtain ⟨_, _, q, _⟩ := hchk k y hk hy
    have := (List.all_eq_true.1 q) ed he
    rw [hb] at this
    simpa using this
  refine wp_region_any hm ?_
  rw [hn]
  have main : ∀ (fuel : Nat) (listed : Array Bool) (a1 : Act) (w1 : World) (m1 : BMap) (hp : Tr ABlk) (tmS : Tm), listed.size = n → Closed ops.toList (fun i => listed.getD i false) → cnt (fun i => listed.getD i false) n ≤ fuel →
      (∀ A, hp.get A = cur (fun i => listed.getD i false) (fun i => decide (2 * A + 1 ∈ lg i)) (fun i => (s i).heap.get A) n) →
      (∀ x, tmS.get x = cur (fun i => listed.getD i false) (fun i => decide (dst i = some x)) (fun i => (t i).get x) n) →
      Rel ρ w0 base m1 hp.get w1 → TmR ρ m1 tmS a1 → a1.tmps.size = N → a1.defers = a.defers → Ext m m1 → Dom m m1 st.next st'.next →
      (∀ j, j < n → listed.getD j false = false → Fresh m1 (s j).next (s (j + 1)).next) → wpAny P .any ops Q fuel listed a1 w1 := by
    have hfin : ∀ (listed : Array Bool) (a1 : Act) (w1 : World) (m1 : BMap) (hp : Tr ABlk) (tmS : Tm), (∀ j, j < n → listed.getD j false = true) →
        (∀ A, hp.get A = cur (fun i => listed.getD i false) (fun i => decide (2 * A + 1 ∈ lg i)) (fun i => (s i).heap.get A) n) →
        (∀ x, tmS.get x = cur (fun i => listed.getD i false) (fun i => decide (dst i = some x)) (fun i => (t i).get x) n) →
        Rel ρ w0 base m1 hp.get w1 → TmR ρ m1 tmS a1 → a1.tmps.size = N → a1.defers = a.defers → Ext m m1 → Dom m m1 st.next st'.next → Q .normal a1 w1 := by
      intro listed a1 w1 m1 hp tmS hall hhp htm hrel htr hsz hdf hext hdom
      refine hP a1 w1 m1 hext hdom ⟨?_, ?_, hsz, by rw [hdf, ← tn, hdd n (Nat.le_refl n)]; exact hA.defers.ext hext⟩
      · have : hp.get = st'.heap.get := by
          funext A
          rw [hhp A, cur_upto n (fun i hi _ => hall i hi) (fun i hi hW => hsame i hi A (by simpa using hW)), sn]
        rw [← this]; exact hrel
      · intro x
        have : tm'.get x = tmS.get x := by
          rw [htm x, cur_upto n (fun i hi _ => hall i hi) (fun i hi hW => hsamet i hi x (by simpa using hW)), tn]
        rw [this]; exact htr x
    intro fuel
    induction fuel with
    | zero =>
      intro listed a1 w1 m1 hp tmS hls hcl hcnt hhp htm hrel htr hsz hdf hext hdom hfr
      have hall := cnt_zero (Nat.le_zero.1 hcnt)
      have hr : Region.ready .any ops listed = [] := by
        rw [List.eq_nil_iff_forall_not_mem]
        intro j hj
        obtain ⟨q1, o, q2, _⟩ := mem_ready.1 hj
        have hj' : j < n := by rw [← hn]; exact (Array.getElem?_eq_some_iff.1 q2).1
        have := hall j hj'
        rw [Array.getD_eq_getD_getElem?, Array.getElem?_eq_getElem (by omega)] at this q1
        rw [Option.getD_some] at this q1
        rw [this] at q1; cases q1
      exact ⟨hr, hfin listed a1 w1 m1 hp tmS hall hhp htm hrel htr hsz hdf hext hdom⟩
    | succ fuel ih =>
      intro listed a1 w1 m1 hp tmS hls hcl hcnt hhp htm hrel htr hsz hdf hext hdom hfr
      have hget : ∀ j, j < n → listed.getD j true = listed.getD j false := fun j hj => by
        rw [Array.getD_eq_getD_getElem?, Array.getD_eq_getD_getElem?, Array.getElem?_eq_getElem (by omega)]; rfl
      refine ⟨fun hr => hfin listed a1 w1 m1 hp tmS ?_ hhp htm hrel htr hsz hdf hext hdom, fun j hj => ?_⟩
      · intro j
        induction j using Nat.strongRecOn with
        | _ j ihj =>
          intro hj
          cases hb : listed.getD j false with
          | true => rfl
          | false =>
            obtain ⟨o, ho⟩ := hop j hj
            have : j ∈ Region.ready .any ops listed := mem_ready.2 ⟨by rw [hget j hj]; exact hb, o, ho, fun ed he hbd => by
              have := hedge j o hj ho ed (by simpa using he) hbd
              exact ihj _ this (by omega)⟩
            rw [hr] at this; cases this
      · obtain ⟨q1, o, ho, q3⟩ := mem_ready.1 hj
        have hjn : j < n := by rw [← hn]; exact (Array.getElem?_eq_some_iff.1 ho).1
        rw [hget j hjn] at q1
        obtain ⟨ay, hay, _, hpair⟩ := hchk j o hjn ho
        have hanc : ∀ i ∈ ay, listed.getD i false = true := ancs_spec hcl (by rw [hto]; exact ho) hay (fun ed he hb => q3 ed (by simpa using he) hb)
        -- one ahead of it: done, or apart from it
        have hlow : ∀ i x, i < j → ops[i]? = some x → listed.getD i false = true ∨ (noMeet (lg i) (lg j) = true ∧ Oper.apart ops x o = true) := fun i x hi hx => (hpair i x hi hx).imp (hanc i) (fun q => q)
        -- one behind it that is done: apart from it
        have hhigh : ∀ k y, j < k → k < n → ops[k]? = some y → listed.getD k false = true → noMeet (lg j) (lg k) = true ∧ Oper.apart ops o y = true := fun k y hjk hk hy hS => by
          obtain ⟨ay', hay', _, hpair'⟩ := hchk k y hk hy
          rcases hpair' j o hjk ho with hin | hap
          · have := ancs_spec hcl (by rw [hto]; exact hy) hay' (hcl k y (by rw [hto]; exact hy) hS) j hin
            rw [q1] at this; cases this
          · exact hap
        obtain ⟨s1, g1, g2, g3, g4⟩ := hstep j o hjn ho
        have hdj : dst j = o.dst := by show (ops[j]?).bind (·.dst) = _; rw [ho]; rfl
        have hdi : ∀ i x, ops[i]? = some x → dst i = x.dst := fun i x hx => by show (ops[i]?).bind (·.dst) = _; rw [hx]; rfl
        -- what it touches stands as0 in the text's order
        have htouch : ∀ A, Tch (lg j) A → hp.get A = (s j).heap.get A := fun A hA => by
          rw [hhp A]
          refine cur_at (by omega) (fun i hi hW => ?_) (fun k hk1 hk2 hW => ?_) (fun i hi hW => hsame i (by omega) A (by simpa using hW))
          · obtain ⟨x, hx⟩ := hop i (by omega)
            rcases hlow i x hi hx with h1 | ⟨h1, _⟩
            · exact h1
            · exact absurd hA ((noMeet_spec h1).1 (by simpa using hW))
          · rcases Nat.lt_or_ge j k with hlt | hge
            · obtain ⟨y, hy⟩ := hop k hk2
              cases hb : listed.getD k false with
              | false => rfl
              | true => exact absurd hA ((noMeet_spec (hhigh k y hlt hk2 hy hb).1).2 (by simpa using hW))
            · rw [show k = j by omega]; exact q1
        have hlook : ∀ x ∈ o.looksAt ops, tmS.get x = (t j).get x := fun x hx => by
          rw [htm x]
          refine cur_at (by omega) (fun i hi hW => ?_) (fun k hk1 hk2 hW => ?_) (fun i hi hW => hsamet i (by omega) x (by simpa using hW))
          · obtain ⟨y, hy⟩ := hop i (by omega)
            rcases hlow i y hi hy with h1 | ⟨_, h1⟩
            · exact h1
            · have hd : y.dst = some x := by rw [← hdi i y hy]; simpa using hW
              exact absurd hx ((Oper.apart_spec h1).1 x hd)
          · rcases Nat.lt_or_ge j k with hlt | hge
            · obtain ⟨y, hy⟩ := hop k hk2
              cases hb : listed.getD k false with
              | false => rfl
              | true =>
                have hd : y.dst = some x := by rw [← hdi k y hy]; simpa using hW
                exact absurd hx ((Oper.apart_spec (hhigh k y hlt hk2 hy hb).2).2.2 x hd)
            · rw [show k = j by omega]; exact q1
        obtain ⟨s2, k1, k2, k3, k4, k5⟩ := g2.other ⟨hp, (s j).next, []⟩ rfl (fun A hA => by
          rcases hA with hA | hA
          · exact htouch A hA
          · exact htouch A (.inr (g2.alloc A hA.1 hA.2)))
        obtain ⟨tm2, p1, p2, p3⟩ := operA_tm k1 hlook
        have hs2 : s2.next = (s (j + 1)).next := by rw [k3, g4]
        unfold wpOp
        rw [ho]
        refine oper_ok hq hc hH p1 hrel (by show Fresh m1 (s j).next s2.next; rw [hs2]; exact hfr j hjn q1) htr hsz hdf _ Q (fun a2 w2 m2 e1 e2 e3 e4 e5 e6 _ _ => ?_)
        have e2' : Dom m1 m2 (s j).next (s (j + 1)).next := by rw [← hs2]; exact e2
        have hin : (listed.setIfInBounds j true).getD j false = true := by
          rw [Array.getD_eq_getD_getElem?, Array.getElem?_setIfInBounds_self_of_lt (by omega)]; rfl
        have hne : ∀ k, k ≠ j → (listed.setIfInBounds j true).getD k false = listed.getD k false := fun k hk => getD_set_ne false (Ne.symm hk)
        refine ih (listed.setIfInBounds j true) a2 w2 m2 s2.heap tm2 (by simp [hls]) ?_ ?_ ?_ ?_ e3 e4 e5 e6 (hext.trans e1) ?_ ?_
        · intro k y hy hS ed he hb
          by_cases hkj : k = j
          · subst hkj
            rw [hto, ho] at hy
            cases hy
            exact getD_set_true (q3 ed (by simpa using he) hb)
          · exact getD_set_true (hcl k y hy ((hne k hkj).symm.trans hS) ed he hb)
        · have := cnt_step (S := fun i => listed.getD i false) (S' := fun i => (listed.setIfInBounds j true).getD i false) (j := j) q1 hin hne n
          rw [if_pos hjn] at this
          omega
        · intro A
          rw [cur_step (S := fun i => listed.getD i false) hjn hin hne (fun hW k hk1 hk2 hWk => by
            obtain ⟨y, hy⟩ := hop k hk2
            cases hb : listed.getD k false with
            | false => rfl
            | true => exact absurd (Or.inr (by simpa using hWk)) ((noMeet_spec (hhigh k y hk1 hk2 hy hb).1).1 (by simpa using hW)))]
          by_cases hW : 2 * A + 1 ∈ lg j
          · rw [if_pos (by simpa using hW), k4 A (.inl hW), g3]
          · rw [if_neg (by simpa using hW), ← hhp A]
            exact k5 A hW (fun hh => hW (g2.alloc A hh.1 hh.2))
        · intro x
          rw [cur_step (S := fun i => listed.getD i false) hjn hin hne (fun hW k hk1 hk2 hWk => by
            obtain ⟨y, hy⟩ := hop k hk2
            cases hb : listed.getD k false with
            | false => rfl
            | true =>
              have hd : y.dst = some x := by rw [← hdi k y hy]; simpa using hWk
              have hd0 : o.dst = some x := by rw [← hdj]; simpa using hW
              exact absurd hd ((Oper.apart_spec (hhigh k y hk1 hk2 hy hb).2).2.1 x hd0))]
          rw [p2 x]
          by_cases hW : o.dst = some x
          · rw [if_pos hW, if_pos (by simpa [hdj] using hW)]
          · rw [if_neg hW, if_neg (by simpa [hdj] using hW), ← htm x]
        · intro A h1 h2
          cases hb : m1 A with
          | none =>
            have := e2' A hb h2
            have l1 := hle 0 j (by omega) (by omega)
            have l2 := hle (j + 1) n (by omega) (by omega)
            rw [n0] at l1; rw [nn] at l2
            omega
          | some p => exact hdom A h1 (by rw [hb]; simp)
        · intro k hk hS A h1 h2
          have hkj : k ≠ j := by intro e; rw [e, hin] at hS; cases hS
          rw [hne k hkj] at hS
          have := hfr k hk hS A h1 h2
          cases hb : m2 A with
          | none => rfl
          | some p =>
            exfalso
            have := e2' A this (by rw [hb]; simp)
            rcases Nat.lt_or_ge k j with hlt | hge
            · have := hle (k + 1) j (by omega) (by omega); omega
            · have := hle (j + 1) k (by omega) (by omega); omega
  have hnil : ∀ i, (Array.replicate n false).getD i false = false := fun i => by
    rw [Array.getD_eq_getD_getElem?, Array.getElem?_replicate]; split <;> rfl
  refine main n (Array.replicate n false) a _ m st.heap tm (by simp) ?_ ?_ ?_ ?_ (hA.rel.same_heap rfl rfl rfl rfl) hA.tmr hA.size rfl (Ext.refl m) (fun A h1 h2 => absurd h1 h2) ?_
  · intro k y _ hS
    have := (hnil k).symm.trans hS; cases this
  · have hcn : ∀ k, cnt (fun i => (Array.replicate n false).getD i false) k ≤ k := fun k => by
      induction k with
      | zero => exact Nat.le_refl _
      | succ k ih =>
        show cnt _ k + (bif (Array.replicate n false).getD k false then 0 else 1) ≤ k + 1
        rw [hnil, cond_false]; omega
    exact hcn n
  · intro A
    have h0 : ∀ k, cur (fun i => (Array.replicate n false).getD i false) (fun i => decide (2 * A + 1 ∈ lg i)) (fun i => (s i).heap.get A) k = (s 0).heap.get A := fun k => by
      induction k with
      | zero => rfl
      | succ k ih =>
        show (bif (Array.replicate n false).getD k false && decide (2 * A + 1 ∈ lg k) then (s (k + 1)).heap.get A else cur _ _ _ k) = _
        rw [hnil, Bool.false_and, cond_false]; exact ih
    rw [h0, s0]
  · intro x
    have h0 : ∀ k, cur (fun i => (Array.replicate n false).getD i false) (fun i => decide (dst i = some x)) (fun i => (t i).get x) k = (t 0).get x := fun k => by
      induction k with
      | zero => rfl
      | succ k ih =>
        show (bif (Array.replicate n false).getD k false && decide (dst k = some x) then (t (k + 1)).get x else cur _ _ _ k) = _
        rw [hnil, Bool.false_and, cond_false]; exact ih
    rw [h0, t0]
  · intro j hj _ A h1 h2
    refine hf A ?_ ?_
    · have := hle 0 j (by omega) (by omega); rw [n0] at this; omega
    · have := hle (j + 1) n (by omega) (by omega); rw [nn] at this; omega
/-- the executor's calls, whatever the draw -/
theorem exec_calls {H : Hooks} (hm : P.follows .mixedOrders = true) (hq : Opq ρ) (hH : HookOk P ρ w0 base H) (hFH : FrH H) (n : Nat) : CallOk P ρ w0 base (exec P H n).call :=
  (exec_ok hq hH hFH (fun _ hFE hc => draw_ok hm hq hH hFH hFE hc) n).1
end
end Go.Proofs.YtckmcajnhobkpaaGreatDoor.Zz
