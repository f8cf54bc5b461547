/- The executor: operators, conversions. -/
import Derived.Test.YtckmcajnhobkpaaGreatDoorExG
set_option linter.unusedVariables false
set_option linter.unusedSimpArgs false
set_option linter.deprecated false
namespace Go.Proofs.YtckmcajnhobkpaaGreatDoor.Zz
open Go Go.RowKit

section
variable {P : Program} {ρ : Nat → Value} {w0 : World} {base : Nat}
theorem guard_run {op : BinOp} {t : TypeId} {x y : Operand} {a b : AV} {u v : Value} {m : BMap} (hg : guardA P op t x y a b = true) (hx : VR ρ m a u) (hy : VR ρ m b v) (w : World) : (eqGuard op t x y u v).run P w = .ok () w := by
  have key : (op = .eql ∨ op = .neq) → (eqGuard op t x y u v).run P w = .ok () w := by
    intro hop
    have hg' : guardB P t x y a b = true := by rcases hop with rfl | rfl <;> exact hg
    clear hg
    have hm : (!(op matches .eql | .neq)) = false := by rcases hop with rfl | rfl <;> rfl
    cases hx <;> cases hy <;> first
      | (simp only [guardB] at hg'; cases hg'; done)
      | (rcases hop with rfl | rfl <;> simp [eqGuard] <;> done)
      | skip
    · simp only [guardB, Bool.or_eq_true] at hg'
      rcases hop with rfl | rfl <;> (rcases hg' with h | h <;> (unfold isConstO at h; split at h <;> first | (cases h; done) | simp [eqGuard]))
    · have h' : P.eqGuardType P.depth t = false := by simpa [guardB] using hg'
      rcases hop with rfl | rfl <;> simp [eqGuard, program, Sem.run, h']
  by_cases hop : op = .eql ∨ op = .neq
  · exact key hop
  · cases op <;> first | exact absurd (.inl rfl) hop | exact absurd (.inr rfl) hop | simp [eqGuard]
theorem int_ok {m : BMap} {op : BinOp} {k : IntKind} {x y : Int} {a : AV} (h : intA op k x y = some a) {t : TypeId} (hs : op ≠ .shl) (hr : op ≠ .shr) : ∃ v, (∀ w, (binOp op t (.int k x) (.int k y)).run P w = .ok v w) ∧ VR ρ m a v := by
  cases op <;> simp only [intA] at h
  case quo =>
    cases hy : eqInt y 0 with
    | true => rw [hy] at h; cases h
    | false =>
      rw [hy] at h; cases h
      have : y ≠ 0 := by rw [eqInt_iff] at hy; simpa using hy
      exact ⟨_, fun w => by first | (simp [binOp, Op.intDiv, this]; done) | (simp [binOp, Op.intDiv, this]; rfl), by rw [wrapA_eq]; exact .int _ _⟩
  case rem =>
    cases hy : eqInt y 0 with
    | true => rw [hy] at h; cases h
    | false =>
      rw [hy] at h; cases h
      have : y ≠ 0 := by rw [eqInt_iff] at hy; simpa using hy
      exact ⟨_, fun w => by first | (simp [binOp, Op.intDiv, this]; done) | (simp [binOp, Op.intDiv, this]; rfl), .int _ _⟩
  case shl => exact absurd rfl hs
  case shr => exact absurd rfl hr
  all_goals
    cases h
    first
      | exact ⟨_, fun w => by first | (simp [binOp, Op.intArith]; done) | (simp [binOp, Op.intArith]; rfl), by rw [wrapA_eq]; exact .int _ _⟩
      | exact ⟨_, fun w => by first | (simp [binOp, Op.intBits]; done) | (simp [binOp, Op.intBits]; rfl), .int _ _⟩
      | exact ⟨_, fun w => by first | (simp [binOp, Op.intCmp]; done) | (simp [binOp, Op.intCmp]; rfl), .bool _⟩
theorem shift_ok {m : BMap} {op : BinOp} {k k' : IntKind} {x y : Int} {a : AV} (h : shiftA op k x y = some a) {t : TypeId} (ho : op = .shl ∨ op = .shr) : ∃ v, (∀ w, (binOp op t (.int k x) (.int k' y)).run P w = .ok v w) ∧ VR ρ m a v := by
  unfold shiftA at h
  cases hd : decide (y < 0) with
  | true => rw [hd] at h; cases h
  | false =>
    rw [hd, cond_false] at h
    have hy : ¬ y < 0 := by simpa using hd
    rcases ho with rfl | rfl <;> cases h
    · exact ⟨_, fun w => by first | (simp [binOp, Op.shift, hy]; done) | (simp [binOp, Op.shift, hy]; rfl), .int _ _⟩
    · exact ⟨_, fun w => by first | (simp [binOp, Op.shift, hy]; done) | (simp [binOp, Op.shift, hy]; rfl), .int _ _⟩
theorem str_ok {m : BMap} {op : BinOp} {x y : List UInt8} {a : AV} (h : strA op x y = some a) {t : TypeId} : ∃ v, (∀ w, (binOp op t (.string ⟨x.toArray⟩) (.string ⟨y.toArray⟩)).run P w = .ok v w) ∧ VR ρ m a v := by
  have hl : (⟨x.toArray⟩ : ByteArray).toList = x := by rw [ByteArray.toList_eq]
  have hr : (⟨y.toArray⟩ : ByteArray).toList = y := by rw [ByteArray.toList_eq]
  cases op <;> simp only [strA] at h
  case add =>
    cases hc : Nat.ble (x.length + y.length) 1000000000 with
    | false => rw [hc] at h; cases h
    | true =>
      rw [hc] at h; cases h
      have hc' : x.length + y.length ≤ 1000000000 := by simpa using hc
      have hsx : (⟨x.toArray⟩ : ByteArray).size = x.length := by simp [ByteArray.size]
      have hsy : (⟨y.toArray⟩ : ByteArray).size = y.length := by simp [ByteArray.size]
      have hcat : (⟨x.toArray⟩ : ByteArray) ++ ⟨y.toArray⟩ = ⟨(x ++ y).toArray⟩ := by apply ByteArray.ext; simp
      have hi : ¬ ((x.length : Int) + (y.length : Int) > IntKind.i64.max) := by
        have : IntKind.i64.max = 9223372036854775807 := by decide
        omega
      refine ⟨.string ⟨(x ++ y).toArray⟩, fun w => ?_, .str _⟩
      simp only [binOp, Op.stringOp, hsx, hsy]
      rw [if_neg (by push_cast; exact hi), hcat]; rfl
  all_goals
    first
      | (cases h; done)
      | (cases h; exact ⟨_, fun w => by simp only [binOp, Op.stringOp, hl, hr]; rfl, by first | exact .bool _ | (rw [eqB_iff]; exact .bool _)⟩)
theorem beq_kind {k k' : IntKind} (h : (k == k') = true) : k = k' := by revert h; cases k <;> cases k' <;> decide
theorem bin_ok {m : BMap} {op : BinOp} {t : TypeId} {x y : Operand} {a b : AV} {u v : Value} (hg : guardA P op t x y a b = true) (hx : VR ρ m a u) (hy : VR ρ m b v) :
    Ok P ρ w0 base (VRr ρ) m (binA P op t a b) (do eqGuard op t x y u v; binOp op t u v) := by
  refine Ok.sem (guard_run hg hx hy) ?_
  unfold binA
  split
  · cases hx; cases hy
    refine Ok.optr (fun r hr => ?_)
    obtain ⟨v, h1, h2⟩ := shift_ok (P := P) (ρ := ρ) (m := m) (t := t) hr (.inl rfl)
    exact Ok.ret h1 h2
  · cases hx; cases hy
    refine Ok.optr (fun r hr => ?_)
    obtain ⟨v, h1, h2⟩ := shift_ok (P := P) (ρ := ρ) (m := m) (t := t) hr (.inr rfl)
    exact Ok.ret h1 h2
  · rename_i op k x k' y h1 h2
    cases hx; cases hy
    refine Ok.cond (fun h => ?_) (fun _ => Ok.fail)
    obtain rfl := beq_kind h
    refine Ok.optr (fun r hr => ?_)
    obtain ⟨v, h3, h4⟩ := int_ok (P := P) (ρ := ρ) (m := m) (t := t) hr (by rintro rfl; exact h1 rfl) (by rintro rfl; exact h2 rfl)
    exact Ok.ret h3 h4
  · cases hx; cases hy
    refine Ok.optr (fun r hr => ?_)
    obtain ⟨v, h1, h2⟩ := str_ok (P := P) (ρ := ρ) (m := m) (t := t) hr
    exact Ok.ret h1 h2
  · rename_i h1 h2
    refine Ok.congr (s' := Op.equal t u v >>= fun r => pure (.bool r)) (fun w => ?_) (Ok.bnd (Fr.eqA _ _ _ _ _) (fun _ => Fr.ret _) (eqA_ok 10000 m t a b u v hx hy) (fun r r' m' _ hr => by subst hr; exact Ok.ret (fun w => rfl) (.bool _)))
    cases hx <;> cases hy <;> first
      | rfl
      | (exact (h1 _ _ _ _ rfl rfl).elim)
      | (exact (h2 _ _ rfl rfl).elim)
      | (cases hg; done)
      | (simp [binOp]; done)
  · rename_i h1 h2
    refine Ok.congr (s' := Op.equal t u v >>= fun r => pure (.bool (!r))) (fun w => ?_) (Ok.bnd (Fr.eqA _ _ _ _ _) (fun _ => Fr.ret _) (eqA_ok 10000 m t a b u v hx hy) (fun r r' m' _ hr => by subst hr; exact Ok.ret (fun w => rfl) (.bool _)))
    cases hx <;> cases hy <;> first
      | rfl
      | (exact (h1 _ _ _ _ rfl rfl).elim)
      | (exact (h2 _ _ rfl rfl).elim)
      | (cases hg; done)
      | (simp [binOp]; done)
  · exact Ok.fail
theorem un_ok {m : BMap} {op : UnOp} {a : AV} {u : Value} (hx : VR ρ m a u) : Ok P ρ w0 base (VRr ρ) m (unA op a) (Op.unary op u) := by
  unfold unA
  split
  · cases hx
    rw [wrapA_eq]
    exact Ok.ret (fun w => by first | (simp [Op.unary, Op.intArith]; done) | (simp [Op.unary, Op.intArith]; rfl)) (.int _ _)
  · cases hx
    exact Ok.ret (fun w => by first | (simp [Op.unary]; done) | (simp [Op.unary]; rfl)) (.bool _)
  · cases hx
    refine Ok.optr (fun r hr => ?_)
    simp only [intA] at hr
    cases hr
    exact Ok.ret (fun w => by first | (simp [Op.unary, Op.intBits]; done) | (simp [Op.unary, Op.intBits]; rfl)) (.int _ _)
  · exact Ok.fail
end
end Go.Proofs.YtckmcajnhobkpaaGreatDoor.Zz
