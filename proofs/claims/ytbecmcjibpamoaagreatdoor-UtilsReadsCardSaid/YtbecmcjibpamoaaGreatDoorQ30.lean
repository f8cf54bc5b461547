/- ExG ExI ExJ ExK ExL ExN ExO -/
import Derived.Test.YtbecmcjibpamoaaGreatDoorQ29
import Derived.Laws.StructEq
import Derived.LaidEql
import Derived.Laws.BytesString
import Derived.Laws.AppendOwn
import Derived.MapKept
set_option linter.unusedVariables false
set_option linter.unusedSimpArgs false
set_option linter.deprecated false
set_option linter.unnecessarySimpa false
namespace Go.Proofs.YtbecmcjibpamoaaGreatDoor.Zz
open Go Go.RowKit
section
variable {P : Program} {ρ : Nat → Value} {w0 : World} {base : Nat}
theorem eqB_iff : ∀ (a b : List UInt8), eqB a b = (a == b)
  | [], [] => rfl
  | [], _ :: _ => rfl
  | _ :: _, [] => rfl
  | x :: a, y :: b => by
    rw [eqB, eqB_iff a b, List.cons_beq_cons]
    congr 1
    rw [Bool.eq_iff_iff]
    simp only [Nat.beq_eq, beq_iff_eq]
    exact ⟨fun h => UInt8.toNat_inj.1 h, fun h => by rw [h]⟩
theorem eqInt_iff (a b : Int) : eqInt a b = (a == b) := by
  rw [Bool.eq_iff_iff]
  cases a <;> cases b <;> simp [eqInt] <;> omega
theorem str_beq (a b : List UInt8) : ((⟨a.toArray⟩ : ByteArray).toList == (⟨b.toArray⟩ : ByteArray).toList) = (a == b) := by
  rw [ByteArray.toList_eq, ByteArray.toList_eq]
theorem str_beq' (a b : List UInt8) : ((⟨a.toArray⟩ : ByteArray) == ⟨b.toArray⟩) = (a == b) := by
  rw [beq_toListBytes, str_beq]
theorem aliveC_eq {A : Nat} {st st' : ASt} {u : Unit} (h : aliveC A st = some (u, st')) : ∃ c n e, st.heap.get A = some (.cells c n e 0 false) ∧ st'.heap = st.heap ∧ st'.next = st.next := by
  unfold aliveC bnd at h
  cases h1 : rd A st with
  | none => rw [h1] at h; cases h
  | some p =>
    obtain ⟨b, st1⟩ := p
    obtain ⟨e1, e2, e3⟩ := rd_eq h1
    rw [h1] at h
    simp only at h
    split at h
    · cases h; exact ⟨_, _, _, e1, e2, e3⟩
    · cases h
theorem ptr_ne {m : BMap} {A i B j b d z b' d' z' : Nat} (hA : m A = some (b, d, z)) (hB : m B = some (b', d', z')) (hne : A ≠ B) :
    Ok P ρ w0 base (fun _ r (r' : Bool) => r = r') m (Zz.bnd (aliveC A) fun _ => Zz.bnd (aliveC B) fun _ => Zz.ret false) (sameAddr ⟨b, d + i, none⟩ ⟨b', d' + j, none⟩) := fun st w a st' h hr hf => by
  unfold Zz.bnd at h
  cases h1 : aliveC A st with
  | none => rw [h1] at h; cases h
  | some p =>
    obtain ⟨u, st1⟩ := p
    rw [h1] at h
    simp only at h
    cases h2 : aliveC B st1 with
    | none => rw [h2] at h; cases h
    | some q =>
      obtain ⟨u2, st2⟩ := q
      rw [h2] at h
      cases h
      obtain ⟨c, n, e, g1, g2, g3⟩ := aliveC_eq h1
      obtain ⟨c', n', e', k1, k2, k3⟩ := aliveC_eq h2
      rw [g2] at k1
      obtain ⟨arr, lo, hi, p1, p2, p3, p4, p5, p6⟩ := rel_cells hr g1 hA
      obtain ⟨arr', lo', hi', q1, q2, q3, q4, q5, q6⟩ := rel_cells hr k1 hB
      obtain ⟨⟨rfl, rfl⟩, _⟩ := p6 rfl rfl
      obtain ⟨⟨rfl, rfl⟩, _⟩ := q6 rfl rfl
      have hs := hr.sep A B _ _ _ _ g1 k1 rfl rfl hne hA hB
      exact ⟨false, w, m, run_sameAddr_other w (by intro e; exact hs (congrArg Addr.block e)) p1 q1, Ext.refl m, fun A h1 h2 => absurd h1 h2, by rw [k2, g2]; exact hr, rfl⟩
theorem Ok.rets {m : BMap} {a : Bool} {b : Bool} {s : Sem Bool} (hs : ∀ w, s.run P w = .ok b w) (h : a = b) : Ok P ρ w0 base (fun _ r (r' : Bool) => r = r') m (Zz.ret a) s := Ok.ret hs h
set_option maxHeartbeats 3200000 in
theorem eqA_ok : ∀ (n : Nat) (m : BMap) (t : TypeId) (x y : AV) (u v : Value), VR ρ m x u → VR ρ m y v → Ok P ρ w0 base (fun _ r (r' : Bool) => r = r') m (eqA P n t x y) (Op.equalIn n t u v) := by
  intro n
  induction n with
  | zero => intro m t x y u v _ _; exact Ok.fail
  | succ n ih =>
    intro m t x y u v hx hy
    unfold eqA
    split
    · rename_i hu; cases hx; cases hy; exact Ok.rets (fun w => by simp [Op.equalIn, run_und hu] <;> rfl) rfl
    · rename_i hu; cases hx; cases hy
      refine Ok.cond (fun h => ?_) (fun _ => Ok.fail)
      rename_i k a k' b
      have hk : k = k' := by revert h; cases k <;> cases k' <;> decide
      subst hk
      exact Ok.rets (fun w => by simp [Op.equalIn, run_und hu] <;> rfl) (eqInt_iff _ _)
    · rename_i hu; cases hx; cases hy; exact Ok.rets (fun w => by simp [Op.equalIn, run_und hu, str_beq'] <;> rfl) (eqB_iff _ _)
    · rename_i hu; cases hx; cases hy; exact Ok.rets (fun w => by simp [Op.equalIn, run_und hu] <;> rfl) rfl
    · rename_i hu; cases hx; cases hy; exact Ok.rets (fun w => by simp [Op.equalIn, run_und hu] <;> rfl) rfl
    · rename_i hu; cases hx; cases hy; exact Ok.rets (fun w => by simp [Op.equalIn, run_und hu] <;> rfl) rfl
    · rename_i e A i B j hu
      cases hx with | ptr _ _ b d z hA => _
      cases hy with | ptr _ _ b' d' z' hB => _
      split
      · rename_i q hq
        refine Ok.congr (s' := sameAddr ⟨b, d + i, none⟩ ⟨b', d' + j, none⟩) (fun w => by simp [Op.equalIn, run_und hu, run_size hq]) ?_
        refine Ok.cond (fun h => ?_) (fun h => ?_)
        · have h' : A = B := by simpa using h
          subst h'
          rw [hA] at hB; cases hB
          by_cases hij : i = j
          · subst hij; exact Ok.rets (fun w => run_sameAddr_same w _) (by simp)
          · exact Ok.rets (b := false) (fun w => by
              simp [sameAddr, hij]) (by rw [Bool.eq_false_iff]; intro h; exact hij (by simpa using h))
        · exact ptr_ne hA hB (by intro e; subst e; simp at h)
      · exact Ok.fail
    · rename_i hu; cases hx; cases hy; exact Ok.rets (fun w => by simp [Op.equalIn, run_und hu] <;> rfl) rfl
    · rename_i hu; cases hx; cases hy; exact Ok.rets (fun w => by simp [Op.equalIn, run_und hu] <;> rfl) rfl
    · rename_i hu; cases hx; cases hy; exact Ok.rets (fun w => by simp [Op.equalIn, run_und hu] <;> rfl) rfl
    · rename_i tx vx ty vy hu
      cases hx with | ifc _ _ u1 h1 => _
      cases hy with | ifc _ _ u2 h2 => _
      refine Ok.cond (fun h => ?_) (fun h => ?_)
      · have h' : tx = ty := by simpa using h
        subst h'
        split
        · rename_i info hi
          refine Ok.cond (fun hc => ?_) (fun _ => Ok.fail)
          exact Ok.congr (fun w => by simp [Op.equalIn, run_und hu, run_info hi, hc]) (ih m tx vx vy u1 u2 h1 h2)
        · exact Ok.fail
      · have h' : tx ≠ ty := by intro e; subst e; simp at h
        exact Ok.rets (b := false) (fun w => by simp [Op.equalIn, run_und hu, h']) rfl
    · rename_i fs xs ys hu
      cases hx with | agg _ us hxs => _
      cases hy with | agg _ vs hys => _
      refine Ok.cond (fun _ => Ok.fail) (fun hp => ?_)
      have hf : P.fieldsOf t = fs := by simp [Program.fieldsOf, hu]
      refine Ok.congr (s' := Op.eqFields n us vs fs.toList) (fun w => by rw [run_equalIn_struct w n t us vs (by rw [hf]; exact hu) hp, hf]) ?_
      generalize fs.toList = l
      clear hf hu
      induction l generalizing m with
      | nil => exact Ok.rets (fun w => rfl) rfl
      | cons f l ihl =>
        simp only [List.foldr_cons, Op.eqFields]
        refine Ok.cond (fun _ => Ok.fail) (fun hn => ?_)
        have hn' : f.name ≠ "_" := by simpa using hn
        have frf : ∀ (l : List Field), Fr (l.foldr (fun f k => bif f.name == "_" then Zz.fail else Zz.bnd (partT P f.type xs f.offset) fun a => Zz.bnd (partT P f.type ys f.offset) fun b => Zz.bnd (eqA P n f.type a b) fun r => bif r then k else Zz.ret false) (Zz.ret true)) := fun l =>
          Fr.foldr _ _ (Fr.ret _) (fun c k hk => Fr.cond Fr.fail (Fr.bnd (Fr.partT _ _ _ _) fun _ => Fr.bnd (Fr.partT _ _ _ _) fun _ => Fr.bnd (Fr.eqA _ _ _ _ _) fun _ => Fr.cond hk (Fr.ret _))) l
        rw [if_pos hn']
        refine Ok.bnd (Fr.partT _ _ _ _) (fun _ => Fr.bnd (Fr.partT _ _ _ _) fun _ => Fr.bnd (Fr.eqA _ _ _ _ _) fun _ => Fr.cond (frf l) (Fr.ret _)) (partT_ok hxs) (fun a u m1 he1 ha => ?_)
        refine Ok.bnd (Fr.partT _ _ _ _) (fun _ => Fr.bnd (Fr.eqA _ _ _ _ _) fun _ => Fr.cond (frf l) (Fr.ret _)) (partT_ok (hys.ext he1)) (fun b v m2 he2 hb => ?_)
        refine Ok.bnd (Fr.eqA _ _ _ _ _) (fun _ => Fr.cond (frf l) (Fr.ret _)) (ih m2 f.type a b u v (ha.ext he2) hb) (fun r r' m3 he3 hr => ?_)
        subst hr
        cases r with
        | false => exact Ok.rets (b := false) (fun w => by simp) rfl
        | true => exact Ok.congr (fun w => by simp) (ihl m3 (hxs.ext (he1.trans (he2.trans he3))) (hys.ext (he1.trans (he2.trans he3))))
    · rename_i hu; cases hx; cases hy; exact Ok.rets (fun w => by simp [Op.equalIn, run_und hu] <;> rfl) rfl
    · rename_i hu; cases hx; cases hy; exact Ok.rets (fun w => by simp [Op.equalIn, run_und hu] <;> rfl) rfl
    · rename_i hu; cases hx; cases hy; exact Ok.rets (fun w => by simp [Op.equalIn, run_und hu] <;> rfl) rfl
    · rename_i hu; cases hx; cases hy; exact Ok.rets (fun w => by simp [Op.equalIn, run_und hu] <;> rfl) rfl
    · rename_i hu; cases hx; cases hy; exact Ok.rets (fun w => by simp [Op.equalIn, run_und hu] <;> rfl) rfl
    · rename_i hu; cases hx; cases hy; exact Ok.rets (fun w => by simp [Op.equalIn, run_und hu] <;> rfl) rfl
    · rename_i hu; cases hx; cases hy; exact Ok.rets (fun w => by simp [Op.equalIn, run_und hu] <;> rfl) rfl
    · rename_i hu; cases hx; cases hy; exact Ok.rets (fun w => by simp [Op.equalIn, run_und hu] <;> rfl) rfl
    · rename_i hu; cases hx; cases hy; exact Ok.rets (fun w => by simp [Op.equalIn, run_und hu] <;> rfl) rfl
    · exact Ok.fail
end
end Go.Proofs.YtbecmcjibpamoaaGreatDoor.Zz
namespace Go.Proofs.YtbecmcjibpamoaaGreatDoor.Zz
open Go Go.RowKit
section
variable {P : Program} {ρ : Nat → Value} {w0 : World} {base : Nat}
theorem guard_run {op : BinOp} {t : TypeId} {x y : Operand} {a b : AV} {u v : Value} {m : BMap} (hg : guardA P op t x y a b = true) (hx : VR ρ m a u) (hy : VR ρ m b v) (w : World) : (eqGuard op t x y u v).run P w = .ok () w := by
  have key : (op = .eql ∨ op = .neq) → (eqGuard op t x y u v).run P w = .ok () w := by
    intro hop
    have hg' : guardB P t x y a b = true := by rcases hop with rfl | rfl <;> exact hg
    clear hg
    have hm : (!(op matches .eql | .neq)) = false := by rcases hop with rfl | rfl <;> rfl
    cases hx <;> cases hy <;> first
      | (simp only [guardB] at hg'; cases hg'; done)
      | (rcases hop with rfl | rfl <;> simp [eqGuard] <;> done)
      | skip
    · simp only [guardB, Bool.or_eq_true] at hg'
      rcases hop with rfl | rfl <;> (rcases hg' with h | h <;> (unfold isConstO at h; split at h <;> first | (cases h; done) | simp [eqGuard]))
    · have h' : P.eqGuardType P.depth t = false := by simpa [guardB] using hg'
      rcases hop with rfl | rfl <;> simp [eqGuard, program, Sem.run, h']
  by_cases hop : op = .eql ∨ op = .neq
  · exact key hop
  · cases op <;> first | exact absurd (.inl rfl) hop | exact absurd (.inr rfl) hop | simp [eqGuard]
theorem int_ok {m : BMap} {op : BinOp} {k : IntKind} {x y : Int} {a : AV} (h : intA op k x y = some a) {t : TypeId} (hs : op ≠ .shl) (hr : op ≠ .shr) : ∃ v, (∀ w, (binOp op t (.int k x) (.int k y)).run P w = .ok v w) ∧ VR ρ m a v := by
  cases op <;> simp only [intA] at h
  case quo =>
    cases hy : eqInt y 0 with
    | true => rw [hy] at h; cases h
    | false =>
      rw [hy] at h; cases h
      have : y ≠ 0 := by rw [eqInt_iff] at hy; simpa using hy
      exact ⟨_, fun w => by first | (simp [binOp, Op.intDiv, this]; done) | (simp [binOp, Op.intDiv, this]; rfl), by rw [wrapA_eq]; exact .int _ _⟩
  case rem =>
    cases hy : eqInt y 0 with
    | true => rw [hy] at h; cases h
    | false =>
      rw [hy] at h; cases h
      have : y ≠ 0 := by rw [eqInt_iff] at hy; simpa using hy
      exact ⟨_, fun w => by first | (simp [binOp, Op.intDiv, this]; done) | (simp [binOp, Op.intDiv, this]; rfl), .int _ _⟩
  case shl => exact absurd rfl hs
  case shr => exact absurd rfl hr
  all_goals
    cases h
    first
      | exact ⟨_, fun w => by first | (simp [binOp, Op.intArith]; done) | (simp [binOp, Op.intArith]; rfl), by rw [wrapA_eq]; exact .int _ _⟩
      | exact ⟨_, fun w => by first | (simp [binOp, Op.intBits]; done) | (simp [binOp, Op.intBits]; rfl), .int _ _⟩
      | exact ⟨_, fun w => by first | (simp [binOp, Op.intCmp]; done) | (simp [binOp, Op.intCmp]; rfl), .bool _⟩
theorem shift_ok {m : BMap} {op : BinOp} {k k' : IntKind} {x y : Int} {a : AV} (h : shiftA op k x y = some a) {t : TypeId} (ho : op = .shl ∨ op = .shr) : ∃ v, (∀ w, (binOp op t (.int k x) (.int k' y)).run P w = .ok v w) ∧ VR ρ m a v := by
  unfold shiftA at h
  cases hd : decide (y < 0) with
  | true => rw [hd] at h; cases h
  | false =>
    rw [hd, cond_false] at h
    have hy : ¬ y < 0 := by simpa using hd
    rcases ho with rfl | rfl <;> cases h
    · exact ⟨_, fun w => by first | (simp [binOp, Op.shift, hy]; done) | (simp [binOp, Op.shift, hy]; rfl), .int _ _⟩
    · exact ⟨_, fun w => by first | (simp [binOp, Op.shift, hy]; done) | (simp [binOp, Op.shift, hy]; rfl), .int _ _⟩
theorem str_ok {m : BMap} {op : BinOp} {x y : List UInt8} {a : AV} (h : strA op x y = some a) {t : TypeId} : ∃ v, (∀ w, (binOp op t (.string ⟨x.toArray⟩) (.string ⟨y.toArray⟩)).run P w = .ok v w) ∧ VR ρ m a v := by
  have hl : (⟨x.toArray⟩ : ByteArray).toList = x := by rw [ByteArray.toList_eq]
  have hr : (⟨y.toArray⟩ : ByteArray).toList = y := by rw [ByteArray.toList_eq]
  cases op <;> simp only [strA] at h
  case add =>
    cases hc : Nat.ble (x.length + y.length) 1000000000 with
    | false => rw [hc] at h; cases h
    | true =>
      rw [hc] at h; cases h
      have hc' : x.length + y.length ≤ 1000000000 := by simpa using hc
      have hsx : (⟨x.toArray⟩ : ByteArray).size = x.length := by simp [ByteArray.size]
      have hsy : (⟨y.toArray⟩ : ByteArray).size = y.length := by simp [ByteArray.size]
      have hcat : (⟨x.toArray⟩ : ByteArray) ++ ⟨y.toArray⟩ = ⟨(x ++ y).toArray⟩ := by apply ByteArray.ext; simp
      have hi : ¬ ((x.length : Int) + (y.length : Int) > IntKind.i64.max) := by
        have : IntKind.i64.max = 9223372036854775807 := by decide
        omega
      refine ⟨.string ⟨(x ++ y).toArray⟩, fun w => ?_, .str _⟩
      simp only [binOp, Op.stringOp, hsx, hsy]
      rw [if_neg (by push_cast; exact hi), hcat]; rfl
  all_goals
    first
      | (cases h; done)
      | (cases h; exact ⟨_, fun w => by simp only [binOp, Op.stringOp, hl, hr]; rfl, by first | exact .bool _ | (rw [eqB_iff]; exact .bool _)⟩)
theorem beq_kind {k k' : IntKind} (h : (k == k') = true) : k = k' := by revert h; cases k <;> cases k' <;> decide
theorem bin_ok {m : BMap} {op : BinOp} {t : TypeId} {x y : Operand} {a b : AV} {u v : Value} (hg : guardA P op t x y a b = true) (hx : VR ρ m a u) (hy : VR ρ m b v) :
    Ok P ρ w0 base (VRr ρ) m (binA P op t a b) (do eqGuard op t x y u v; binOp op t u v) := by
  refine Ok.sem (guard_run hg hx hy) ?_
  unfold binA
  split
  · cases hx; cases hy
    refine Ok.optr (fun r hr => ?_)
    obtain ⟨v, h1, h2⟩ := shift_ok (P := P) (ρ := ρ) (m := m) (t := t) hr (.inl rfl)
    exact Ok.ret h1 h2
  · cases hx; cases hy
    refine Ok.optr (fun r hr => ?_)
    obtain ⟨v, h1, h2⟩ := shift_ok (P := P) (ρ := ρ) (m := m) (t := t) hr (.inr rfl)
    exact Ok.ret h1 h2
  · rename_i op k x k' y h1 h2
    cases hx; cases hy
    refine Ok.cond (fun h => ?_) (fun _ => Ok.fail)
    obtain rfl := beq_kind h
    refine Ok.optr (fun r hr => ?_)
    obtain ⟨v, h3, h4⟩ := int_ok (P := P) (ρ := ρ) (m := m) (t := t) hr (by rintro rfl; exact h1 rfl) (by rintro rfl; exact h2 rfl)
    exact Ok.ret h3 h4
  · cases hx; cases hy
    refine Ok.optr (fun r hr => ?_)
    obtain ⟨v, h1, h2⟩ := str_ok (P := P) (ρ := ρ) (m := m) (t := t) hr
    exact Ok.ret h1 h2
  · rename_i h1 h2
    refine Ok.congr (s' := Op.equal t u v >>= fun r => pure (.bool r)) (fun w => ?_) (Ok.bnd (Fr.eqA _ _ _ _ _) (fun _ => Fr.ret _) (eqA_ok 10000 m t a b u v hx hy) (fun r r' m' _ hr => by subst hr; exact Ok.ret (fun w => rfl) (.bool _)))
    cases hx <;> cases hy <;> first
      | rfl
      | (exact (h1 _ _ _ _ rfl rfl).elim)
      | (exact (h2 _ _ rfl rfl).elim)
      | (cases hg; done)
      | (simp [binOp]; done)
  · rename_i h1 h2
    refine Ok.congr (s' := Op.equal t u v >>= fun r => pure (.bool (!r))) (fun w => ?_) (Ok.bnd (Fr.eqA _ _ _ _ _) (fun _ => Fr.ret _) (eqA_ok 10000 m t a b u v hx hy) (fun r r' m' _ hr => by subst hr; exact Ok.ret (fun w => rfl) (.bool _)))
    cases hx <;> cases hy <;> first
      | rfl
      | (exact (h1 _ _ _ _ rfl rfl).elim)
      | (exact (h2 _ _ rfl rfl).elim)
      | (cases hg; done)
      | (simp [binOp]; done)
  · exact Ok.fail
theorem un_ok {m : BMap} {op : UnOp} {a : AV} {u : Value} (hx : VR ρ m a u) : Ok P ρ w0 base (VRr ρ) m (unA op a) (Op.unary op u) := by
  unfold unA
  split
  · cases hx
    rw [wrapA_eq]
    exact Ok.ret (fun w => by first | (simp [Op.unary, Op.intArith]; done) | (simp [Op.unary, Op.intArith]; rfl)) (.int _ _)
  · cases hx
    exact Ok.ret (fun w => by first | (simp [Op.unary]; done) | (simp [Op.unary]; rfl)) (.bool _)
  · cases hx
    refine Ok.optr (fun r hr => ?_)
    simp only [intA] at hr
    cases hr
    exact Ok.ret (fun w => by first | (simp [Op.unary, Op.intBits]; done) | (simp [Op.unary, Op.intBits]; rfl)) (.int _ _)
  · exact Ok.fail
end
end Go.Proofs.YtbecmcjibpamoaaGreatDoor.Zz
namespace Go.Proofs.YtbecmcjibpamoaaGreatDoor.Zz
open Go Go.RowKit
section
variable {P : Program} {ρ : Nat → Value} {w0 : World} {base : Nat} {m : BMap}
def VRo (ρ : Nat → Value) (m : BMap) : Option AV → Option Value → Prop
  | none, none => True
  | some a, some v => VR ρ m a v
  | _, _ => False
theorem natOf_ok {a : AV} {u : Value} {n : Nat} (h : natOf a = some n) (hx : VR ρ m a u) : ∃ k, u = .int k (n : Int) := by
  unfold natOf at h
  split at h
  · cases h; cases hx; exact ⟨_, rfl⟩
  · cases h
theorem sliceBound_run {a : AV} {u : Value} {y y' n d : Nat} (c : BoundsCode) (h : boundP (some a) y d = some n) (hx : VR ρ m a u) (hy : y ≤ y') (w : World) : (Instr.sliceBound u y' c).run P w = .ok n w ∧ n ≤ y := by
  unfold boundP at h
  simp only at h
  cases hn : natOf a with
  | none => rw [hn] at h; cases h
  | some q =>
    rw [hn] at h
    simp only at h
    cases hc : Nat.ble q y with
    | false => rw [hc] at h; cases h
    | true =>
      rw [hc] at h; cases h
      obtain ⟨k, rfl⟩ := natOf_ok hn hx
      have hq : n ≤ y := by simpa using hc
      have hq' : (n : Int) ≤ (y' : Int) := by omega
      refine ⟨?_, hq⟩
      simp [Instr.sliceBound, asIntOf, hq']
theorem bounds_run {len cap cap' : Nat} {lo hi mx : Option AV} {lo' hi' mx' : Option Value} {l h k : Nat} (isS : Bool) (hb : boundsP len cap lo hi mx = some (l, h, k)) (h1 : VRo ρ m lo lo') (h2 : VRo ρ m hi hi') (h3 : VRo ρ m mx mx') (hc : cap ≤ cap') (hl : len ≤ cap) :
    ∃ k', (∀ w, (Instr.sliceBounds isS len cap' lo' hi' mx').run P w = .ok (l, h, k') w) ∧ l ≤ h ∧ h ≤ k ∧ k ≤ cap ∧ (mx.isSome = false → k = cap ∧ k' = cap') ∧ (mx.isSome = true → k' = k) := by
  unfold boundsP at hb
  cases hn : (mx.isSome && hi.isNone) with
  | true => rw [hn] at hb; cases hb
  | false =>
    rw [hn, cond_false] at hb
    simp only [Option.bind_eq_some_iff] at hb
    obtain ⟨m0, e1, h0, e2, l0, e3, e4⟩ := hb
    cases e4
    cases mx with
    | none =>
      cases mx' with
      | some _ => exact h3.elim
      | none =>
        cases e1
        have hh : h ≤ cap ∧ ∀ w, (match hi' with | some v => Instr.sliceBound v cap' (if isS then .sliceAcap else .sliceAlen) | none => (pure len : Sem Nat)).run P w = .ok h w := by
          cases hi with
          | none => cases hi' with | some _ => exact h2.elim | none => cases e2; exact ⟨hl, fun w => rfl⟩
          | some a => cases hi' with | none => exact h2.elim | some v => exact ⟨(sliceBound_run (P := P) .index e2 h2 hc default).2, fun w => (sliceBound_run _ e2 h2 hc w).1⟩
        have hll : l ≤ h ∧ ∀ w, (match lo' with | some v => Instr.sliceBound v h .sliceB | none => (pure 0 : Sem Nat)).run P w = .ok l w := by
          cases lo with
          | none => cases lo' with | some _ => exact h1.elim | none => cases e3; exact ⟨Nat.zero_le _, fun w => rfl⟩
          | some a => cases lo' with | none => exact h1.elim | some v => exact ⟨(sliceBound_run (P := P) .index e3 h1 (Nat.le_refl _) default).2, fun w => (sliceBound_run _ e3 h1 (Nat.le_refl _) w).1⟩
        refine ⟨cap', fun w => ?_, hll.1, hh.1, Nat.le_refl _, fun _ => ⟨rfl, rfl⟩, fun h => (by cases h)⟩
        have a1 := hh.2 w
        have a2 := hll.2 w
        cases hi' <;> cases lo' <;> simp [Instr.sliceBounds] at a1 a2 ⊢ <;> simp_all
    | some a =>
      cases mx' with
      | none => exact h3.elim
      | some v =>
        have b1 := fun c w => (sliceBound_run (P := P) c e1 h3 hc w).1
        have b2 := (sliceBound_run (P := P) .index e1 h3 hc default).2
        cases hi with
        | none => cases hn
        | some a' =>
          cases hi' with
          | none => exact h2.elim
          | some v' =>
            have c1 := fun c w => (sliceBound_run (P := P) c e2 h2 (Nat.le_refl _) w).1
            have c2 := (sliceBound_run (P := P) .index e2 h2 (Nat.le_refl _) default).2
            have hll : l ≤ h ∧ ∀ w, (match lo' with | some v => Instr.sliceBound v h .slice3C | none => (pure 0 : Sem Nat)).run P w = .ok l w := by
              cases lo with
              | none => cases lo' with | some _ => exact h1.elim | none => cases e3; exact ⟨Nat.zero_le _, fun w => rfl⟩
              | some a => cases lo' with | none => exact h1.elim | some v => exact ⟨(sliceBound_run (P := P) .index e3 h1 (Nat.le_refl _) default).2, fun w => (sliceBound_run _ e3 h1 (Nat.le_refl _) w).1⟩
            refine ⟨k, fun w => ?_, hll.1, c2, b2, fun h => (by cases h), fun _ => rfl⟩
            have a2 := hll.2 w
            cases lo' <;> simp [Instr.sliceBounds, b1, c1] at a2 ⊢ <;> simp_all
theorem slice_ok {t : TypeId} {x : AV} {u : Value} {lo hi mx : Option AV} {lo' hi' mx' : Option Value} (hx : VR ρ m x u) (h1 : VRo ρ m lo lo') (h2 : VRo ρ m hi hi') (h3 : VRo ρ m mx mx') :
    Ok P ρ w0 base (VRr ρ) m (sliceA P t x lo hi mx) (Instr.sliceAt t u lo' hi' mx') := by
  unfold sliceA
  split
  · rename_i s hu
    cases hx
    cases mx with
    | some _ => exact Ok.fail
    | none =>
      cases mx' with
      | some _ => exact h3.elim
      | none =>
        refine Ok.opt (fun p hp => ?_)
        obtain ⟨l, h, k⟩ := p
        have hsz : (ByteArray.mk s.toArray).size = s.length := by simp [ByteArray.size]
        obtain ⟨k', e1, _⟩ := bounds_run (P := P) (cap' := s.length) false hp h1 h2 (m := m) (ρ := ρ) (mx' := none) trivial (Nat.le_refl _) (Nat.le_refl _)
        have hex : (ByteArray.mk s.toArray).extract l h = ⟨((s.drop l).take (h - l)).toArray⟩ := by
          apply ByteArray.ext
          simp [ByteArray.data_extract]
        refine Ok.ret (b := .string ⟨((s.drop l).take (h - l)).toArray⟩) (fun w => ?_) (.str _)
        simp [Instr.sliceAt, run_und hu, Instr.slice, hsz, e1, hex]
  · rename_i e A i len cap sz ex hu
    cases hx with | sl _ _ _ _ _ _ b d z off cap' hA hc hexc ho hz hl hd => _
    refine Ok.opt (fun p hp => ?_)
    obtain ⟨l, h, k⟩ := p
    simp only
    refine Ok.opt (fun n hn => ?_)
    refine Ok.cond (fun hns => ?_) (fun _ => Ok.fail)
    have hns' : n = sz := by simpa using hns
    subst hns'
    obtain ⟨k', e1', q1, q2, q3, q4, q5⟩ := bounds_run (P := P) true hp h1 h2 h3 hc hl
    have hkk : k ≤ k' ∧ k' ≤ cap' := by
      cases hs : mx.isSome with
      | false => have := q4 hs; omega
      | true => have := q5 hs; omega
    refine Ok.ret (b := .slice (some (if k' = l then ⟨b, off, none⟩ else ⟨b, off + l * n, none⟩)) (h - l) (k' - l)) (fun w => ?_) ?_
    · simp only [Instr.sliceAt, Sem.run_bind, run_und hu, Result.andThen_ok, Instr.slice, e1', run_size hn, Option.map_some, add_mk']
      by_cases hkl : k' = l <;> simp [hkl]
    · have hmul : l * n ≤ k' * n := Nat.mul_le_mul_right n (by omega)
      have hmul2 : k' * n ≤ cap' * n := Nat.mul_le_mul_right n hkk.2
      by_cases hkl : k' = l
      · rw [if_pos hkl]
        refine .sl _ _ _ _ _ _ b d z off _ hA (by omega) (fun h => ?_) (fun h => by omega) (by rw [hkl]; simp; have := Nat.zero_le (cap' * n); omega) (by omega) hd
        omega
      · rw [if_neg hkl]
        refine .sl _ _ _ _ _ _ b d z _ _ hA (by omega) (fun h => ?_) (fun h => by have := ho (by omega); omega) ?_ (by omega) (by omega)
        · simp only [Bool.or_eq_true] at h
          rcases h with h | h
          · have := hexc h
            cases hs : mx.isSome with
            | false => have := q4 hs; omega
            | true => have := q5 hs; omega
          · have := q5 h; omega
        · rw [Nat.sub_mul]; omega
  · rename_i e hu
    cases hx
    refine Ok.opt (fun p hp => ?_)
    obtain ⟨l, h, k⟩ := p
    refine Ok.opt (fun n hn => ?_)
    obtain ⟨k', e1, q1, q2, q3, q4, q5⟩ := bounds_run (P := P) true hp h1 h2 h3 (Nat.le_refl _) (Nat.le_refl _)
    obtain rfl : k = 0 := by omega
    obtain rfl : h = 0 := by omega
    obtain rfl : l = 0 := by omega
    obtain rfl : k' = 0 := by
      cases hs : mx.isSome with
      | false => exact (q4 hs).2
      | true => exact q5 hs
    exact Ok.ret (b := .slice none 0 0) (fun w => by simp [Instr.sliceAt, run_und hu, Instr.slice, e1, run_size hn]) .sl0
  · rename_i n e A i hu
    cases hx with | ptr _ _ b d z hA => _
    refine Ok.opt (fun p hp => ?_)
    obtain ⟨l, h, k⟩ := p
    simp only
    refine Ok.opt (fun q hn => ?_)
    obtain ⟨k', e1, q1, q2, q3, q4, q5⟩ := bounds_run (P := P) false hp h1 h2 h3 (Nat.le_refl _) (Nat.le_refl _)
    have hkk : k' = k := by
      cases hs : mx.isSome with
      | false => have := q4 hs; omega
      | true => exact q5 hs
    subst hkk
    refine Ok.rd (fun blk st w a st' hh hB hr hf => ?_)
    cases blk with
    | cells c nn e2 frz odd =>
      simp only at hh
      cases hc : Nat.ble (i + n * q) nn with
      | false => rw [hc] at hh; cases hh
      | true =>
        rw [hc] at hh; cases hh
        have hc' : i + n * q ≤ nn := by simpa using hc
        obtain ⟨arr, lo2, hi2, g1, g2, g3, g4, g5⟩ := rel_cells hr hB hA
        simp only at g3
        have m1 : l * q ≤ k' * q := Nat.mul_le_mul_right q (by omega)
        have m2 : k' * q ≤ n * q := Nat.mul_le_mul_right q q3
        refine ⟨.slice (some (if k' = l then ⟨b, d + i, none⟩ else ⟨b, d + i + l * q, none⟩)) (h - l) (k' - l), w, m, ?_, Ext.refl m, fun A h1 h2 => absurd h1 h2, hr, ?_⟩
        · simp only [Instr.sliceAt, Sem.run_bind, run_und hu, Result.andThen_ok, Instr.sureAddr, Sem.run_pure, e1, run_size hn, add_mk']
        · by_cases hkl : k' = l
          · rw [if_pos hkl]
            exact .sl _ _ _ _ _ _ b d z _ _ hA (Nat.le_refl _) (fun _ => rfl) (fun h => by omega) (by rw [hkl]; simp; omega) (by omega) (by omega)
          · rw [if_neg hkl]
            exact .sl _ _ _ _ _ _ b d z _ _ hA (Nat.le_refl _) (fun _ => rfl) (fun h => by omega) (by rw [Nat.sub_mul]; omega) (by omega) (by omega)
    | _ => cases hh
  · exact Ok.fail
theorem cellsIn_ok {size : Nat} {x : AV} {u : Value} {k : Nat} {l : List AV} {st st1 : ASt} {w : World} (h : cellsIn size x st = some ((k, l), st1)) (hr : Rel ρ w0 base m st.heap.get w) (hx : VR ρ m x u) :
    ∃ vs : List Value, (∀ w', (Builtin.lenOf u).run P w' = .ok k w') ∧ (∀ n w', n ≤ k → w'.heap = w.heap → (Builtin.firstCells size n u).run P w' = .ok (vs.take (n * size)).toArray w') ∧ LR ρ m l vs ∧ st1.heap = st.heap ∧ st1.next = st.next ∧ vs.length = k * size := by
  unfold cellsIn at h
  split at h
  · cases h; cases hx
    exact ⟨[], fun w' => rfl, fun n w' _ _ => by simp [Builtin.firstCells], .nil, rfl, rfl, by simp⟩
  · rename_i A i len cap sz ex
    cases hx with | sl _ _ _ _ _ _ b d z off cap' hA hc hexc ho hz hl hd => _
    cases hs : Nat.beq sz size with
    | false => rw [hs] at h; cases h
    | true =>
      rw [hs, cond_true] at h
      have hs' : sz = size := by simpa using hs
      subst hs'
      cases h0 : Nat.beq len 0 with
      | true =>
        rw [h0] at h
        cases h
        have hl0 : len = 0 := by simpa using h0
        subst hl0
        refine ⟨[], fun w' => rfl, fun n w' hn _ => ?_, .nil, rfl, rfl, by simp⟩
        obtain rfl : n = 0 := by omega
        simp [Builtin.firstCells, loadCells, loadCellsFrom]
      | false =>
        rw [h0, cond_false] at h
        have hlen : 0 < len := by
          rcases Nat.eq_zero_or_pos len with e | e
          · subst e; cases h0
          · exact e
        unfold bnd at h
        cases h1 : loadC A i (len * sz) st with
        | none => rw [h1] at h; cases h
        | some p =>
          obtain ⟨l', st2⟩ := p
          rw [h1] at h
          cases h
          have ho' := ho (by omega)
          subst ho'
          obtain ⟨c, n, e, frz, odd, hgA, hc', hst1, hst2⟩ := loadC_eq h1
          obtain ⟨arr, lo, hi, q1, q2, q3, q4, q5⟩ := rel_cells hr hgA hA
          obtain ⟨vs, k1, k2, k3⟩ := getN_vals q4 hc'
          have hvl : vs.length = k * sz := by rw [← k1.length, k2]
          refine ⟨vs, fun w' => rfl, fun n w' hn hw => ?_, k1, hst1, hst2, hvl⟩
          have hmul : n * sz ≤ k * sz := Nat.mul_le_mul_right sz hn
          refine run_loadCells (by rw [List.length_take]; omega) (fun j v hj => ?_)
          rw [← hw] at q1
          rw [add_mk', cell_of q1]
          rw [List.getElem?_take] at hj
          split at hj
          · exact k3 j v hj
          · cases hj
  · rename_i s
    cases hs1 : Nat.beq size 1 with
    | false => rw [hs1] at h; cases h
    | true =>
      rw [hs1, cond_true] at h
      have hs2 : size = 1 := by simpa using hs1
      subst hs2
      cases h; cases hx
      have hsz : (ByteArray.mk s.toArray).size = s.length := by simp [ByteArray.size]
      refine ⟨s.map fun b => Value.int .u8 b.toNat, fun w' => by simp [Builtin.lenOf, hsz], fun n w' hn _ => ?_, ?_, rfl, rfl, by simp⟩
      · have : (ByteArray.mk s.toArray).extract 0 n = ⟨(s.take n).toArray⟩ := by
          apply ByteArray.ext
          simp [ByteArray.data_extract]
        simp [Builtin.firstCells, this]
      · refine LR.of_get (by simp [ints]) (fun i a v ha hv => ?_)
        simp only [ints, List.getElem?_map] at ha hv
        cases hb : s[i]? with
        | none => rw [hb] at ha; cases ha
        | some b => rw [hb] at ha hv; cases ha; cases hv; exact .int _ _
  · cases h
end
end Go.Proofs.YtbecmcjibpamoaaGreatDoor.Zz
namespace Go.Proofs.YtbecmcjibpamoaaGreatDoor.Zz
open Go Go.RowKit
section
variable {P : Program} {ρ : Nat → Value} {w0 : World} {base : Nat} {m : BMap}
theorem app_grow {t t' ty e : TypeId} {i : TypeInfo} {z : Value} {n k cap : Nat} {a : Option Addr} {ux : Value} {old new : List Value} {w : World} {d' : TypeDesc}
    (hu : P.underlying t = some (.slice e)) (hu' : P.underlying t' = some d') (hd' : d' = .string ∨ ∃ e', d' = .slice e') (hi : P.info? e = some i) (hz : i.zero = some z) (hb : i.bytes ≤ 4096)
    (hlen : ∀ w', (Builtin.lenOf ux).run P w' = .ok k w') (hnew : ∀ w', w'.heap = w.heap → (Builtin.firstCells i.size k ux).run P w' = .ok new.toArray w')
    (hold : ∀ w', w'.heap = w.heap → (Builtin.firstCells i.size n (.slice a n cap)).run P w' = .ok old.toArray w') (hg : cap < n + k) (hm : n + k ≤ 1000000) :
    (Builtin.append_ #[t, t'] ty #[.slice a n cap, ux]).run P w = .ok (.slice (some ⟨w.heap.size, 0, none⟩) (n + k) (grownCap w (n + k) cap e)) (w.drew.alloc (.cells (old.toArray ++ new.toArray ++ Builtin.zeroCells z.cells (grownCap w (n + k) cap e - (n + k))) e)) := by
  have hn : ¬ (n + k ≤ cap) := by omega
  have h63' : ¬ (9223372036854775807 < ((n : Int) + (k : Int))) := by omega
  have hcap := nextslicecap_le hg
  have h48' : ¬ (281474976710656 < Builtin.nextslicecap (n + k) cap * i.bytes) := by
    have := Nat.mul_le_mul hcap hb
    omega
  have hf := hnew w.drew rfl
  have hfo := hold w.drew rfl
  rcases hd' with rfl | ⟨e', rfl⟩
  · simp [Builtin.append_, run_und hu, run_und hu', Go.sizeOf, typeInfo, program, Sem.run, zeroValue, hi, hz, hlen, hn, h63', h48', Question.forced, hf, hfo, newRow, newObj, grownCap, choose]
    congr 2; apply Array.ext'; simp
  · simp [Builtin.append_, run_und hu, run_und hu', Go.sizeOf, typeInfo, program, Sem.run, zeroValue, hi, hz, hlen, hn, h63', h48', Question.forced, hf, hfo, newRow, newObj, grownCap, choose]
    congr 2; apply Array.ext'; simp
theorem app_room {t t' ty e : TypeId} {i : TypeInfo} {n k cap : Nat} {b off : Nat} {ux : Value} {new : List Value} {w w' : World} {d' : TypeDesc}
    (hu : P.underlying t = some (.slice e)) (hu' : P.underlying t' = some d') (hd' : d' = .string ∨ ∃ e', d' = .slice e') (hi : P.info? e = some i)
    (hlen : ∀ w', (Builtin.lenOf ux).run P w' = .ok k w') (hnew : ∀ w', w'.heap = w.heap → (Builtin.firstCells i.size k ux).run P w' = .ok new.toArray w')
    (hg : n + k ≤ cap) (hst : (storeCells ⟨b, off + n * i.size, none⟩ new).run P w = .ok () w') :
    (Builtin.append_ #[t, t'] ty #[.slice (some ⟨b, off, none⟩) n cap, ux]).run P w = .ok (.slice (some ⟨b, off, none⟩) (n + k) cap) w' := by
  have hf := hnew w rfl
  rcases hd' with rfl | ⟨e', rfl⟩
  · simp [Builtin.append_, run_und hu, run_und hu', Go.sizeOf, typeInfo, program, Sem.run, hi, hlen, hg, hf, add_mk', hst]
  · simp [Builtin.append_, run_und hu, run_und hu', Go.sizeOf, typeInfo, program, Sem.run, hi, hlen, hg, hf, add_mk', hst]
theorem app_none {t t' ty e : TypeId} {i : TypeInfo} {ux : Value} {w : World} {d' : TypeDesc}
    (hu : P.underlying t = some (.slice e)) (hu' : P.underlying t' = some d') (hd' : d' = .string ∨ ∃ e', d' = .slice e') (hi : P.info? e = some i)
    (hlen : ∀ w', (Builtin.lenOf ux).run P w' = .ok 0 w') (hnew : ∀ w', w'.heap = w.heap → (Builtin.firstCells i.size 0 ux).run P w' = .ok #[] w') (a : Option Addr) (n cap : Nat) (hc : n ≤ cap) :
    (Builtin.append_ #[t, t'] ty #[.slice a n cap, ux]).run P w = .ok (.slice a n cap) w := by
  have hf := hnew w rfl
  rcases hd' with rfl | ⟨e', rfl⟩
  · cases a <;> simp [Builtin.append_, run_und hu, run_und hu', Go.sizeOf, typeInfo, program, Sem.run, hi, hlen, hc, hf, storeCells]
  · cases a <;> simp [Builtin.append_, run_und hu, run_und hu', Go.sizeOf, typeInfo, program, Sem.run, hi, hlen, hc, hf, storeCells]
theorem row_end {e : TypeId} {i : TypeInfo} {z : Value} {m : BMap} {g : Nat → Option ABlk} {h' : Hp ABlk} {w : World} {old new : List AV} {vo vs : List Value} {n k cap B nx nx' : Nat} {t t' ty : TypeId} {ux v : Value} {frz : Nat}
    (hr : Rel ρ w0 base m g w) (hm : m B = none) (hlr : LR ρ m new vs) (hlo : LR ρ m old vo) (h1 : allOne new = true) (h2 : allOne old = true) (_hz : i.zero = some z)
    (hrun : (Builtin.append_ #[t, t'] ty #[v, ux]).run P w = .ok (.slice (some ⟨w.heap.size, 0, none⟩) (n + k) (grownCap w (n + k) cap e)) (w.drew.alloc (.cells (vo.toArray ++ vs.toArray ++ Builtin.zeroCells z.cells (grownCap w (n + k) cap e - (n + k))) e)))
    (hge : n + k ≤ grownCap w (n + k) cap e) (hsz : (vo ++ vs).length = (n + k) * i.size) (hzs : z.cells.size = i.size) (hh : h'.get = upd g B (.cells (putL .lf 0 (old ++ new)) (old ++ new).length e frz true)) (hn : nx' = nx + 1) (hB : B = nx) :
    ∃ b' w' m', (Builtin.append_ #[t, t'] ty #[v, ux]).run P w = .ok b' w' ∧ Ext m m' ∧ (∀ A, m A = none → m' A ≠ none → nx ≤ A ∧ A < nx') ∧ Rel ρ w0 base m' h'.get w' ∧ VRr ρ m' (.sl B 0 (n + k) (n + k) i.size false) b' := by
  have hl := (hlo.append hlr).length
  have hone : allOne (old ++ new) = true := by
    have : ∀ (a b : List AV), allOne (a ++ b) = (allOne a && allOne b) := fun a b => by
      induction a with
      | nil => rfl
      | cons x a ih => simp [allOne, ih, Bool.and_assoc]
    rw [this, h1, h2]; rfl
  have hrow := rel_row (e := e) (frz := frz) (l := old ++ new) (arr := vo.toArray ++ vs.toArray ++ Builtin.zeroCells z.cells (grownCap w (n + k) cap e - (n + k))) hr.drew hm (by
    simp only [Array.toList_append]
    rw [hl, List.take_append_of_le_length (by simp), List.take_of_length_le (by simp)]; exact hlo.append hlr) hone (by simp at hl ⊢; omega)
  have hsize2 : (vo.toArray ++ vs.toArray ++ Builtin.zeroCells z.cells (grownCap w (n + k) cap e - (n + k))).size = grownCap w (n + k) cap e * i.size := by
    simp only [Array.size_append, List.size_toArray, size_zeroCells, hzs]
    rw [← List.length_append, hsz, ← Nat.add_mul]; congr 1; omega
  refine ⟨_, _, mset m B (w.heap.size, 0, (vo.toArray ++ vs.toArray ++ Builtin.zeroCells z.cells (grownCap w (n + k) cap e - (n + k))).size), hrun, mset_ext hm, fun A h1 h2 => ?_, ?_, ?_⟩
  · have := mset_dom h1 h2; omega
  · rw [hh]; exact hrow
  · exact .sl _ _ _ _ _ _ _ 0 _ _ _ (mset_same _ _ _) hge (fun h => by cases h) (fun _ => rfl) (by rw [hsize2]; simp) (Nat.le_refl _) (Nat.le_refl _)
theorem grow_end {t t' ty e : TypeId} {i : TypeInfo} {z : Value} {d' : TypeDesc} {ux : Value} {new : List AV} {vs : List Value} {st1 st' : ASt} {w : World} {A j len cap k b d zz off cap' : Nat} {ex : Bool} {a : AV} (hq : Opq ρ)
    (hu : P.underlying t = some (.slice e)) (hu' : P.underlying t' = some d') (hd' : d' = .string ∨ ∃ e', d' = .slice e') (hi : P.info? e = some i) (hz : i.zero = some z) (hb : i.bytes ≤ 4096)
    (hlen : ∀ w', (Builtin.lenOf ux).run P w' = .ok k w') (hnew : ∀ w', w'.heap = w.heap → (Builtin.firstCells i.size k ux).run P w' = .ok vs.toArray w') (hlr : LR ρ m new vs) (b5 : allOne new = true) (b6 : z.cells.size = i.size) (hvl : vs.length = k * i.size) (hlk : len + k ≤ 1000000)
    (hr : Rel ρ w0 base m st1.heap.get w) (hf : ∀ A, st1.next ≤ A → A < st'.next → m A = none) (hA : m A = some (b, d, zz)) (hc : cap ≤ cap') (hexc : ex = true → cap' = cap) (ho : 0 < cap → off = d + j) (hzz : off + cap' * i.size ≤ zz) (hl : len ≤ cap) (hd : d ≤ off) (hroom : ¬ len + k ≤ cap)
    (h : growA A j len i.size k ex cap e new st1 = some (a, st')) :
    ∃ b' w' m', (Builtin.append_ #[t, t'] ty #[.slice (some ⟨b, off, none⟩) len cap', ux]).run P w = .ok b' w' ∧ Ext m m' ∧ (∀ A, m A = none → m' A ≠ none → st1.next ≤ A ∧ A < st'.next) ∧ Rel ρ w0 base m' st'.heap.get w' ∧ VRr ρ m' a b' := by
  unfold growA Zz.bnd at h
  cases h1 : Zz.rd A st1 with
  | none => rw [h1] at h; cases h
  | some p =>
    obtain ⟨blk, s2⟩ := p
    rw [h1] at h
    simp only at h
    obtain ⟨r1, r2, r3⟩ := rd_eq h1
    cases blk with
    | cells c n e' frz odd =>
      simp only at h
      cases ho1 : getN c j (len * i.size) with
      | none => rw [ho1] at h; cases h
      | some old =>
        rw [ho1] at h
        simp only [Zz.opt, Zz.ret] at h
        cases hcc : (allOne old && (bif Nat.beq cap 0 then Nat.beq frz 0 else Nat.ble frz (j + len * i.size)) && Nat.beq e' e) with
        | false => rw [hcc] at h; cases h
        | true =>
          rw [hcc, cond_true] at h
          simp only [Bool.and_eq_true, Nat.beq_eq] at hcc
          obtain ⟨⟨c1, c2⟩, rfl⟩ := hcc
          obtain ⟨arr, lo, hi2, q1, q2, q3, q4, q5, q6⟩ := rel_cells hr r1 hA
          simp only at q1 q2 q3 q4 q5
          obtain ⟨vo, k1, k2, k3⟩ := getN_vals q4 ho1
          have hvo : vo.length = len * i.size := by rw [← k1.length, k2]
          have hcells : ∀ (jj : Nat) (v : Value), vo[jj]? = some v → arr[off + jj]? = some v := fun jj v hj => by
            have hlt : jj < vo.length := (List.getElem?_eq_some_iff.1 hj).1
            have hpos : 0 < len := by
              rcases Nat.eq_zero_or_pos len with e0 | e0
              · subst e0; simp at hvo; rw [hvo] at hlt; simp at hlt
              · exact e0
            rw [ho (by omega)]; exact k3 jj v hj
          have hold : ∀ w', w'.heap = w.heap → (Builtin.firstCells i.size len (.slice (some ⟨b, off, none⟩) len cap')).run P w' = .ok vo.toArray w' := fun w' hw => by
            refine run_loadCells hvo.symm (fun jj v hj => ?_)
            rw [add_mk', cell_of (by rw [hw]; exact q1)]; exact hcells jj v hj
          have hsum : (vo ++ vs).length = (len + k) * i.size := by rw [List.length_append, hvo, hvl, Nat.add_mul]
          -- the step that forgets the old block
          have hkill : ∃ s3 B, ((bif ex then Zz.ret () else Zz.wr A .dead) s2 = some ((), s3)) ∧ nw (.cells (putL .lf 0 (old ++ new)) (old ++ new).length e' (bif ex then 0 else (frz - j)) true) s3 = some (B, st') ∧ a = .sl B 0 (len + k) (len + k) i.size false := by
            cases hw : (bif ex then Zz.ret () else Zz.wr A .dead) s2 with
            | none => rw [hw] at h; cases h
            | some q =>
              obtain ⟨⟨⟩, s3⟩ := q
              rw [hw] at h
              simp only at h
              cases hn2 : nw (.cells (putL .lf 0 (old ++ new)) (old ++ new).length e' (bif ex then 0 else (frz - j)) true) s3 with
              | none => rw [hn2] at h; cases h
              | some q2 =>
                obtain ⟨B, s4⟩ := q2
                rw [hn2] at h
                cases h
                exact ⟨s3, B, rfl, hn2, rfl⟩
          obtain ⟨s3, B, hw3, hn3, rfl⟩ := hkill
          obtain ⟨rfl, e2, e3⟩ := nw_eq hn3
          have hs3n : s3.next = st1.next := by
            cases ex with
            | true => cases hw3; exact r3
            | false => obtain ⟨_, h2⟩ := wr_eq hw3; rw [h2, r3]
          have hm : m s3.next = none := hf _ (by omega) (by omega)
          by_cases hin : len + k ≤ cap'
          · -- in place
            have hex : ex = false := by
              cases ex with
              | false => rfl
              | true => have := hexc rfl; omega
            subst hex
            obtain ⟨w1, _⟩ := wr_eq hw3
            have hsh : s3.heap = st1.heap.put A .dead := by rw [w1, r2]
            have hmul : (len + k) * i.size ≤ cap' * i.size := Nat.mul_le_mul_right _ hin
            rw [Nat.add_mul] at hmul
            have hfrz : d + frz ≤ off + len * i.size := by
              cases h0 : Nat.beq cap 0 with
              | true =>
                rw [h0, cond_true] at c2
                have : frz = 0 := by simpa using c2
                omega
              | false =>
                rw [h0, cond_false] at c2
                have h0' : 0 < cap := by
                  rcases Nat.eq_zero_or_pos cap with e0 | e0
                  · subst e0; cases h0
                  · exact e0
                have := ho h0'
                have : frz ≤ j + len * i.size := by simpa using c2
                omega
            obtain ⟨w', arr', g1, g2, g3, g4, g5, g6, g7, g8, g9⟩ := run_storeCells (P := P) b (off + len * i.size) e' lo hi2 vs 0 w arr q1 (by omega) (hlr.one hq b5) (fun jj h1 h2 => q5 jj (by omega) (by omega))
            have hrun := app_room (P := P) (ty := ty) (off := off) (cap := cap') hu hu' hd' hi hlen hnew hin g1
            have hrd := hr.write (new := .dead) r1 hA rfl g5 g6 g7 g8 g9 trivial
            have hbase : base ≤ b := by
              obtain ⟨p, f1, f2, _⟩ := hr.blk A _ r1
              rw [hA] at f1; cases f1; exact f2
            have hfresh := hrd.fresh (A := s3.next) (p := (b, off, zz)) (new := .cells (putL .lf 0 (old ++ new)) (old ++ new).length e' (frz - j) true) hm hbase (fun X blk q hX hdX hmX => by
                by_cases e0 : X = A
                · subst e0; rw [upd_same] at hX; cases hX; cases hdX
                · rw [upd_other e0] at hX
                  exact (show q.1 ≠ b from hr.sep X A blk _ q (b, d, zz) hX r1 hdX rfl e0 hmX hA)) ⟨arr', lo, hi2, g2, by rw [g3, q2], by
                    have := (k1.append hlr).length
                    show off + (old ++ new).length ≤ zz
                    rw [this, hsum, Nat.add_mul]; omega, fun jj x hj => ?_, fun jj h1 h2 => q5 jj (by
                      show d + frz ≤ jj
                      have h1' : off + (frz - j) ≤ jj := h1
                      cases h0 : Nat.beq cap 0 with
                      | true =>
                        rw [h0, cond_true] at c2
                        have : frz = 0 := by simpa using c2
                        omega
                      | false =>
                        have h0' : 0 < cap := by
                          rcases Nat.eq_zero_or_pos cap with e0 | e0
                          · subst e0; cases h0
                          · exact e0
                        have := ho h0'
                        omega) h2, fun h1 h2 => ?_⟩
            · refine ⟨_, w', mset m s3.next (b, off, zz), hrun, mset_ext hm, fun X h1 h2 => ?_, ?_, ?_⟩
              · have := mset_dom h1 h2; omega
              · rw [e2, get_upd, hsh, get_upd]; exact hfresh
              · exact .sl _ _ _ _ _ _ b off zz off cap' (mset_same _ _ _) hin (fun h => by cases h) (fun _ => rfl) hzz (Nat.le_refl _) (Nat.le_refl _)
            · rw [putL_get] at hj
              show jj < (old ++ new).length ∧ oneA x = true ∧ ∃ v, arr'[off + jj]? = some v ∧ VR ρ _ x v
              by_cases hin2 : 0 ≤ jj ∧ jj < 0 + (old ++ new).length
              · rw [if_pos hin2] at hj
                obtain ⟨v, f1, f2⟩ := (k1.append hlr).get (i := jj - 0) hj
                have hx1 : oneA x = true := by
                  rcases List.mem_append.1 (List.mem_of_getElem? hj) with h | h
                  · exact allOne_mem c1 x h
                  · exact allOne_mem b5 x h
                refine ⟨by omega, hx1, v, ?_, f2.ext (mset_ext hm)⟩
                rw [Nat.sub_zero] at f1
                rw [g4]
                by_cases hlo : jj < vo.length
                · rw [if_neg (by omega)]
                  rw [List.getElem?_append_left hlo] at f1
                  exact hcells jj v f1
                · rw [List.getElem?_append_right (by omega)] at f1
                  have hlt : jj - vo.length < vs.length := (List.getElem?_eq_some_iff.1 f1).1
                  rw [if_pos (by omega), show off + jj - (off + len * i.size + 0) = jj - vo.length by omega]
                  exact f1
              · rw [if_neg hin2] at hj; cases hj
            · cases h1
          · -- a new row
            have hrun := app_grow (P := P) (ty := ty) (w := w) (a := some ⟨b, off, none⟩) (cap := cap') hu hu' hd' hi hz hb hlen hnew hold (by omega) hlk
            cases ex with
            | true =>
              cases hw3
              rw [← r2] at hr
              exact row_end (nx := st1.next) hr (by rw [hs3n] at hm ⊢; exact hm) hlr k1 b5 c1 hz hrun (grownCap_ge w _ _ _) hsum b6 (by rw [e2, get_upd]) (by omega) hs3n
            | false =>
              obtain ⟨w1, _⟩ := wr_eq hw3
              have hk := hr.kill r1
              have hsh : s3.heap.get = upd st1.heap.get A .dead := by rw [w1, r2, get_upd]
              rw [← hsh] at hk
              exact row_end (nx := st1.next) hk hm hlr k1 b5 c1 hz hrun (grownCap_ge w _ _ _) hsum b6 (by rw [e2, get_upd]) (by omega) hs3n
    | _ => cases h
theorem LR.allSize {l : List AV} {vs : List Value} (h : LR ρ m l vs) : vs.length = l.length := h.length.symm
set_option maxHeartbeats 1600000 in
theorem append_ok {t t' ty e : TypeId} {s x : AV} {u ux : Value} {d' : TypeDesc} (hq : Opq ρ) (hu : P.underlying t = some (.slice e)) (hu' : P.underlying t' = some d') (hd' : d' = .string ∨ ∃ e', d' = .slice e') (hs : VR ρ m s u) (hx : VR ρ m x ux) :
    Ok P ρ w0 base (VRr ρ) m (Zz.bnd (Zz.opt (sizeT P e)) fun n => Zz.bnd (cellsIn n x) fun p => appendA P e s p.1 p.2) (Builtin.append_ #[t, t'] ty #[u, ux]) := by
  refine Ok.opt (fun size hsize => ?_)
  intro st w a st' h hr hf
  unfold Zz.bnd at h
  cases h1 : cellsIn size x st with
  | none => rw [h1] at h; cases h
  | some p =>
    obtain ⟨⟨k, new⟩, st1⟩ := p
    rw [h1] at h
    simp only at h
    obtain ⟨vs, hlen, hnew0, hlr, hh, hn, hvl0⟩ := cellsIn_ok (P := P) h1 hr hx
    have hnew : ∀ w', w'.heap = w.heap → (Builtin.firstCells size k ux).run P w' = .ok vs.toArray w' := fun w' hw => by
      have := hnew0 k w' (Nat.le_refl _) hw
      rwa [List.take_of_length_le (by omega)] at this
    clear hnew0 hvl0
    rw [← hh] at hr
    rw [← hn] at hf
    have goal_eq : st.next = st1.next := hn.symm
    rw [goal_eq]
    clear h1 hh hn goal_eq
    unfold appendA at h
    cases hi : P.info? e with
    | none => rw [hi] at h; cases h
    | some i =>
      rw [hi] at h
      simp only at h
      have hsz : size = i.size := by unfold sizeT at hsize; rw [hi] at hsize; cases hsize; rfl
      subst hsz
      cases hz : i.zero with
      | none => rw [hz] at h; cases h
      | some z =>
        rw [hz] at h
        simp only at h
        cases hc : (Nat.ble i.bytes 4096 && Nat.ble 1 i.bytes && Nat.ble 1 i.size && Nat.beq new.length (k * i.size) && allOne new && Nat.beq z.cells.size i.size) with
        | false => rw [hc] at h; cases h
        | true =>
          rw [hc, cond_true] at h
          simp only [Bool.and_eq_true, Nat.ble_eq, Nat.beq_eq] at hc
          obtain ⟨⟨⟨⟨⟨b1, b2⟩, b3⟩, b4⟩, b5⟩, b6⟩ := hc
          have hvl : vs.length = k * i.size := by rw [hlr.allSize, b4]
          have hnil : k = 0 → ∀ w', w'.heap = w.heap → (Builtin.firstCells i.size 0 ux).run P w' = .ok #[] w' := fun hk w' hw => by
            subst hk
            have : vs = [] := List.eq_nil_of_length_eq_zero (by rw [hvl]; simp)
            subst this
            exact hnew w' hw
          cases hs with
          | sl0 =>
            simp only at h
            cases hk : Nat.beq k 0 with
            | true =>
              rw [hk] at h; cases h
              have hk0 : k = 0 := by simpa using hk
              subst hk0
              exact ⟨_, w, m, app_none hu hu' hd' hi hlen (hnil rfl) none 0 0 (Nat.le_refl _), Ext.refl m, fun A h1 h2 => absurd h1 h2, hr, .sl0⟩
            | false =>
              rw [hk, cond_false] at h
              have hk0 : 0 < k := by
                rcases Nat.eq_zero_or_pos k with e | e
                · subst e; cases hk
                · exact e
              cases hkk : Nat.ble k 1000000 with
              | false => rw [hkk] at h; cases h
              | true =>
                rw [hkk, cond_true] at h
                have hkk' : k ≤ 1000000 := by simpa using hkk
                have hrun := app_grow (P := P) (ty := ty) (w := w) (n := 0) (cap := 0) (a := none) (old := []) hu hu' hd' hi hz b1 hlen hnew (fun w' _ => by simp [Builtin.firstCells]) (by omega) (by omega)
                unfold Zz.bnd newS at h
                rw [b5, cond_true] at h
                cases h2 : nw (.cells (putL .lf 0 new) new.length e 0 true) st1 with
                | none => rw [h2] at h; cases h
                | some q =>
                  obtain ⟨B, st2⟩ := q
                  rw [h2] at h
                  cases h
                  obtain ⟨rfl, e2, e3⟩ := nw_eq h2
                  have hm : m st1.next = none := hf _ (Nat.le_refl _) (by omega)
                  have := row_end (n := 0) (old := []) (vo := []) (h' := st'.heap) (e := e) (frz := 0) hr hm hlr .nil b5 rfl hz hrun (grownCap_ge w (0 + k) 0 e) (by simp [hvl]) b6 (by rw [e2, get_upd]; rfl) e3 rfl
                  simpa only [Nat.zero_add] using this
          | sl A j len cap sz ex b d zz off cap' hA hc hexc ho hzz hl hd =>
            simp only at h
            cases hk : Nat.beq k 0 with
            | true =>
              rw [hk] at h; cases h
              have hk0 : k = 0 := by simpa using hk
              subst hk0
              exact ⟨_, w, m, app_none hu hu' hd' hi hlen (hnil rfl) _ len cap' (by omega), Ext.refl m, fun A h1 h2 => absurd h1 h2, hr, .sl _ _ _ _ _ _ b d zz off cap' hA hc hexc ho hzz hl hd⟩
            | false =>
              rw [hk, cond_false] at h
              have hk0 : 0 < k := by
                rcases Nat.eq_zero_or_pos k with e | e
                · subst e; cases hk
                · exact e
              cases hkk : (Nat.beq sz i.size && Nat.ble (len + k) 1000000) with
              | false => rw [hkk] at h; cases h
              | true =>
                rw [hkk, cond_true] at h
                simp only [Bool.and_eq_true, Nat.ble_eq, Nat.beq_eq] at hkk
                obtain ⟨rfl, hlk⟩ := hkk
                cases hroom : Nat.ble (len + k) cap with
                | true =>
                  rw [hroom, cond_true] at h
                  have hroom' : len + k ≤ cap := by simpa using hroom
                  have ho' := ho (by omega)
                  unfold Zz.bnd at h
                  cases h2 : storeC A (j + len * i.size) new st1 with
                  | none => rw [h2] at h; cases h
                  | some q =>
                    obtain ⟨u2, st2⟩ := q
                    rw [h2] at h
                    cases h
                    obtain ⟨u3, w2, m2, g1, g2, g3, g4, _⟩ := storeC_ok (P := P) (ρ := ρ) (w0 := w0) (base := base) hq hA hlr st1 w u2 st' h2 hr hf
                    have hrun := app_room (P := P) (ty := ty) (off := off) (n := len) (cap := cap') hu hu' hd' hi hlen hnew (by omega) (by rw [ho', Nat.add_assoc]; exact g1)
                    exact ⟨_, w2, m2, hrun, g2, g3, g4, .sl _ _ _ _ _ _ b d zz off cap' (g2 _ _ hA) hc hexc ho hzz hroom' hd⟩
                | false =>
                  rw [hroom, cond_false] at h
                  have hroom' : ¬ len + k ≤ cap := fun h => by rw [show Nat.ble (len + k) cap = true from (by rw [Nat.ble_eq]; exact h)] at hroom; cases hroom
                  exact grow_end hq hu hu' hd' hi hz b1 hlen hnew hlr b5 b6 hvl hlk hr hf hA hc hexc ho hzz hl hd hroom' h
          | _ => cases h
end
end Go.Proofs.YtbecmcjibpamoaaGreatDoor.Zz
namespace Go.Proofs.YtbecmcjibpamoaaGreatDoor.Zz
open Go Go.RowKit
section
variable {P : Program} {ρ : Nat → Value} {w0 : World} {base : Nat} {m : BMap}
def TmR (ρ : Nat → Value) (m : BMap) (tm : Tm) (a : Act) : Prop := ∀ t, match tm.get t with
  | some (some x) => ∃ v, a.tmps[t]? = some v ∧ VR ρ m x v
  | some none => True
  | none => a.tmps.getD t undef = undef
theorem TmR.ext {m' : BMap} {tm : Tm} {a : Act} (h : TmR ρ m tm a) (he : Ext m m') : TmR ρ m' tm a := fun t => by
  have := h t
  cases e : tm.get t with
  | none => rw [e] at this; exact this
  | some x =>
    rw [e] at this
    cases x with
    | none => trivial
    | some x => obtain ⟨v, h1, h2⟩ := this; exact ⟨v, h1, h2.ext he⟩
theorem aval_ok {tm : Tm} {a : Act} {x : Operand} {y : AV} (h : aval tm x = some y) (ht : TmR ρ m tm a) : VR ρ m y (a.eval x) := by
  cases x with
  | tmp t =>
    have := ht t
    simp only [aval] at h
    cases e : tm.get t with
    | none =>
      rw [e] at h this
      cases h
      simp only at this
      show VR ρ m undefA (a.tmps.getD t undef)
      rw [this]
      exact .tup _ _ .nil
    | some z =>
      rw [e] at h this
      cases z with
      | none => cases h
      | some z =>
      cases h
      obtain ⟨v, h1, h2⟩ := this
      have : a.tmps.getD t undef = v := by simp [Array.getD_eq_getD_getElem?, h1]
      show VR ρ m y (a.tmps.getD t undef)
      rw [this]; exact h2
  | const v => exact ofV_ok h
  | global g => cases h
  | func f => cases h; exact .fn _ _ _ _ _ .nil .nil
theorem avals_ok {tm : Tm} {a : Act} (ht : TmR ρ m tm a) : ∀ {l : List Operand} {r : List AV}, avals tm l = some r → LR ρ m r (l.map a.eval)
  | [], r, h => by cases h; exact .nil
  | x :: l, r, h => by
    unfold avals at h
    cases h1 : aval tm x with
    | none => rw [h1] at h; cases h
    | some y =>
      rw [h1] at h
      simp only at h
      cases h2 : avals tm l with
      | none => rw [h2] at h; cases h
      | some r' => rw [h2] at h; cases h; exact .cons _ _ _ _ (aval_ok h1 ht) (avals_ok ht h2)
theorem oAval_ok {tm : Tm} {a : Act} {x : Option Operand} {y : Option AV} (h : oAval tm x = some y) (ht : TmR ρ m tm a) : VRo ρ m y (x.map a.eval) := by
  cases x with
  | none => cases h; trivial
  | some x =>
    simp only [oAval] at h
    cases h1 : aval tm x with
    | none => rw [h1] at h; cases h
    | some z => rw [h1] at h; cases h; exact aval_ok h1 ht
theorem foldl_fill : ∀ (l : List Value) (j off : Nat) (cs : Array Value), off + j + l.length ≤ cs.size →
    ((l.zipIdx j).foldl (fun cs (p : Value × Nat) => cs.setIfInBounds (off + p.2) p.1) cs).toList = cs.toList.take (off + j) ++ l ++ cs.toList.drop (off + j + l.length)
  | [], j, off, cs, h => by simp
  | v :: l, j, off, cs, h => by
    simp only [List.length_cons] at h
    rw [List.zipIdx_cons, List.foldl_cons, foldl_fill l (j + 1) off _ (by simp; omega)]
    simp only [Array.toList_setIfInBounds, List.length_cons]
    have h1 : off + (j + 1) = off + j + 1 := by omega
    rw [h1]
    have hlt : off + j < cs.toList.length := by simp; omega
    rw [List.take_add_one, List.getElem?_set_self hlt]
    rw [show (cs.toList.set (off + j) v).take (off + j) = cs.toList.take (off + j) by rw [List.take_set_of_le (Nat.le_refl _)]]
    rw [show (cs.toList.set (off + j) v).drop (off + j + 1 + l.length) = cs.toList.drop (off + j + 1 + l.length) by rw [List.drop_set_of_lt (by omega)]]
    simp
    omega
theorem fill_ok {place : Nat → Option (Nat × Nat)} : ∀ (ps : List (Nat × Value)) (l : List (Nat × List AV)) (cs : Array Value) (as0 rs : List AV), ps.length = l.length →
    (∀ (k i : Nat) (v : Value) (off : Nat) (al : List AV), ps[k]? = some (i, v) → l[k]? = some (off, al) → place i = some (off, al.length) ∧ LR ρ m al v.cells.toList) →
    LR ρ m as0 cs.toList → fillA as0 l = some rs → ∃ r, Instr.fill place cs ps = some r ∧ LR ρ m rs r.toList
  | [], [], cs, as0, rs, _, _, h, hr => by cases hr; exact ⟨cs, rfl, h⟩
  | [], _ :: _, _, _, _, h, _, _, _ => by cases h
  | _ :: _, [], _, _, _, h, _, _, _ => by cases h
  | (i, v) :: ps, (off, al) :: l, cs, as0, rs, hl, hp, h, hr => by
    obtain ⟨h1, h2⟩ := hp 0 i v off al rfl rfl
    unfold fillA at hr
    cases hc : Nat.ble (off + al.length) as0.length with
    | false => rw [hc] at hr; cases hr
    | true =>
      rw [hc, cond_true] at hr
      have hc' : off + al.length ≤ as0.length := by simpa using hc
      have hlen := h.length
      have hal := h2.length
      simp only [Array.length_toList] at hlen hal
      have hfill : Instr.fill place cs ((i, v) :: ps) = Instr.fill place (v.cells.zipIdx.foldl (fun cs (p : Value × Nat) => cs.setIfInBounds (off + p.2) p.1) cs) ps := by
        simp only [Instr.fill, h1]
        rw [if_neg (by simp [← hal]; omega)]
      have hfold : (v.cells.zipIdx.foldl (fun cs (p : Value × Nat) => cs.setIfInBounds (off + p.2) p.1) cs).toList = cs.toList.take off ++ v.cells.toList ++ cs.toList.drop (off + al.length) := by
        have := foldl_fill v.cells.toList 0 off cs (by simp; omega)
        rw [← Array.foldl_toList, Array.toList_zipIdx]
        rw [this, hal]; simp
      obtain ⟨r, e1, e2⟩ := fill_ok ps l _ _ rs (by simpa using hl) (fun k i v off al a b => hp (k + 1) i v off al (by simpa using a) (by simpa using b)) (by rw [hfold]; exact ((h.take off).append h2).append (h.drop _)) hr
      exact ⟨r, by rw [hfill]; exact e1, e2⟩
end
end Go.Proofs.YtbecmcjibpamoaaGreatDoor.Zz
namespace Go.Proofs.YtbecmcjibpamoaaGreatDoor.Zz
open Go Go.RowKit
section
variable {P : Program} {ρ : Nat → Value} {w0 : World} {base : Nat} {m : BMap}
def NVr (ρ : Nat → Value) (m : BMap) (a : AV) (n : Next) : Prop := (∃ v, n = .value v ∧ VR ρ m a v) ∨ (n = .skip ∧ a = undefA)
theorem vOk {x : M AV} {s : Sem Value} (h : Ok P ρ w0 base (VRr ρ) m x s) : Ok P ρ w0 base (NVr ρ) m x (s >>= fun v => pure (.value v)) := fun st w a st' h' hr hf => by
  obtain ⟨b, w', m', e1, e2, e3, e4, e5⟩ := h st w a st' h' hr hf
  exact ⟨.value b, w', m', by rw [Sem.run_bind, e1]; rfl, e2, e3, e4, .inl ⟨b, rfl, e5⟩⟩
theorem uOk {α : Type} {R : BMap → α → Unit → Prop} {x : M α} {s : Sem Unit} (hx : Fr x) (h : Ok P ρ w0 base R m x s) : Ok P ρ w0 base (NVr ρ) m (Zz.bnd x fun _ => Zz.ret undefA) (s >>= fun _ => pure .skip) :=
  Ok.bnd hx (fun _ => Fr.ret _) h (fun _ _ _ _ _ => Ok.ret (fun w => rfl) (.inr ⟨rfl, rfl⟩))
theorem pOk {a : AV} {v : Value} (h : VR ρ m a v) : Ok P ρ w0 base (NVr ρ) m (Zz.ret a) (pure (.value v)) := Ok.ret (fun w => rfl) (.inl ⟨v, rfl, h⟩)
theorem newVar_ok {t : TypeId} {a : AV} {v : Value} (hq : Opq ρ) (h : VR ρ m a v) : Ok P ρ w0 base (VRr ρ) m (Zz.bnd (newC t (cellsA a)) fun A => Zz.ret (.ptr A 0)) (newVar t v >>= fun ad => pure (.pointer (some ad))) := by
  refine Ok.bnd (Fr.newC _ _) (fun _ => Fr.ret _) (newC_ok (h.cells hq)) (fun A ad m' _ hA => ?_)
  obtain ⟨b, rfl, hm⟩ := hA
  exact Ok.ret (b := .pointer (some ⟨b, 0, none⟩)) (fun w => rfl) (.ptr A 0 b 0 _ hm)
theorem asNat_ok {a : AV} {u : Value} {γ δ : Type} {R : BMap → γ → δ → Prop} {f : Nat → M γ} {s : Sem δ} (hx : VR ρ m a u) (h : ∀ (k : IntKind) (n : Nat), u = .int k (n : Int) → Ok P ρ w0 base R m (f n) s) : Ok P ρ w0 base R m (Zz.bnd (asNat a) f) s := by
  cases hx with
  | int k n =>
    cases n with
    | ofNat n => exact h k n rfl
    | negSucc n => exact fun st w a st' h => by cases h
  | _ => exact fun st w a st' h => by cases h
theorem placesA_ok {pls : List (Nat × Nat)} : ∀ {ps : List (Nat × Operand)} {pl : List (Nat × Nat × Operand)}, placesA pls ps = some pl → pl.length = ps.length ∧ ∀ (k i : Nat) (x : Operand), ps[k]? = some (i, x) → ∃ off z, pls[i]? = some (off, z) ∧ pl[k]? = some (off, z, x)
  | [], pl, h => by cases h; exact ⟨rfl, fun k i x h => by cases h⟩
  | (i, x) :: r, pl, h => by
    unfold placesA at h
    cases h1 : pls[i]? with
    | none => rw [h1] at h; cases h
    | some p =>
      obtain ⟨off, z⟩ := p
      rw [h1] at h
      simp only at h
      cases h3 : placesA pls r with
      | none => rw [h3] at h; cases h
      | some l =>
        rw [h3] at h; cases h
        obtain ⟨g1, g2⟩ := placesA_ok h3
        refine ⟨by simp [g1], fun k j y hk => ?_⟩
        cases k with
        | zero => cases hk; exact ⟨off, z, h1, rfl⟩
        | succ k => simpa using g2 k j y (by simpa using hk)
theorem arrPlaces_ok (n : Nat) : ∀ (ps : List (Nat × Operand)), (arrPlaces n ps).length = ps.length ∧ ∀ (k i : Nat) (x : Operand), ps[k]? = some (i, x) → (arrPlaces n ps)[k]? = some (i * n, n, x)
  | [] => ⟨rfl, fun k i x h => by cases h⟩
  | (i, x) :: r => by
    obtain ⟨g1, g2⟩ := arrPlaces_ok n r
    refine ⟨by simp [arrPlaces, g1], fun k j y hk => ?_⟩
    cases k with
    | zero => cases hk; rfl
    | succ k => simpa [arrPlaces] using g2 k j y (by simpa using hk)
theorem partsA_ok {tm : Tm} {a : Act} (hq : Opq ρ) (ht : TmR ρ m tm a) : ∀ {pl : List (Nat × Nat × Operand)} {l : List (Nat × List AV)}, partsA tm pl = some l → l.length = pl.length ∧ ∀ (k off z : Nat) (x : Operand), pl[k]? = some (off, z, x) → ∃ al : List AV, l[k]? = some (off, al) ∧ al.length = z ∧ LR ρ m al (a.eval x).cells.toList
  | [], l, h => by cases h; exact ⟨rfl, fun k off z x h => by cases h⟩
  | (off, z, x) :: r, l, h => by
    unfold partsA at h
    cases h1 : aval tm x with
    | none => rw [h1] at h; cases h
    | some v =>
      rw [h1] at h
      simp only at h
      cases hc : Nat.beq (cellsA v).length z with
      | false => rw [hc] at h; cases h
      | true =>
        rw [hc, cond_true] at h
        cases h3 : partsA tm r with
        | none => rw [h3] at h; cases h
        | some l' =>
          rw [h3] at h; cases h
          obtain ⟨g1, g2⟩ := partsA_ok hq ht h3
          refine ⟨by simp [g1], fun k off' z' y hk => ?_⟩
          cases k with
          | zero => cases hk; exact ⟨_, rfl, by simpa using hc, (aval_ok h1 ht).cells hq⟩
          | succ k => simpa using g2 k off' z' y (by simpa using hk)
theorem parts_fill {tm : Tm} {a : Act} {place : Nat → Option (Nat × Nat)} {ps : List (Nat × Operand)} {pl : List (Nat × Nat × Operand)} {l : List (Nat × List AV)} {z : Array Value} {za cs : List AV} (hq : Opq ρ) (ht : TmR ρ m tm a)
    (hlen : pl.length = ps.length) (hpl : ∀ (k i : Nat) (x : Operand), ps[k]? = some (i, x) → ∃ off z, place i = some (off, z) ∧ pl[k]? = some (off, z, x)) (hl : partsA tm pl = some l) (hz : LR ρ m za z.toList) (hc : fillA za l = some cs) :
    ∃ r, Instr.fill place z (ps.map fun p => (p.1, a.eval p.2)) = some r ∧ LR ρ m cs r.toList := by
  obtain ⟨g1, g2⟩ := partsA_ok hq ht hl
  refine fill_ok _ l z za cs (by simp [g1, hlen]) (fun k i v off al hk hla => ?_) hz hc
  rw [List.getElem?_map] at hk
  cases hp : ps[k]? with
  | none => rw [hp] at hk; cases hk
  | some p =>
    obtain ⟨i', x⟩ := p
    rw [hp] at hk; cases hk
    obtain ⟨off', z', h1, h2⟩ := hpl k _ x hp
    obtain ⟨al', h3, h4, h5⟩ := g2 k off' z' x h2
    rw [hla] at h3; cases h3
    exact ⟨by rw [h1, h4], h5⟩
theorem map_pairs (ps : Array (Nat × Operand)) (f : Operand → Value) : (ps.map fun (i, x) => (i, f x)).toList = ps.toList.map fun p => (p.1, f p.2) := by
  rw [Array.toList_map]
theorem build_ok {t : TypeId} {ps : Array (Nat × Operand)} {tm : Tm} {a : Act} (hq : Opq ρ) (ht : TmR ρ m tm a) :
    Ok P ρ w0 base (VRr ρ) m (Zz.bnd (Zz.opt (zeroT P t)) fun z => (match P.underlying t with
      | some (.struct fs) => Zz.bnd (Zz.opt (fs.toList.mapM fun f => (P.info? f.type).map fun i => (f.offset, i.size))) fun pls => Zz.bnd (Zz.opt (placesA pls ps.toList)) fun pl => Zz.bnd (Zz.opt (partsA tm pl)) fun l => Zz.bnd (Zz.opt (fillA (cellsA z) l)) fun cs => Zz.ret (.agg cs)
      | some (.array _ el) => Zz.bnd (Zz.opt (sizeT P el)) fun n => Zz.bnd (Zz.opt (partsA tm (arrPlaces n ps.toList))) fun l => Zz.bnd (Zz.opt (fillA (cellsA z) l)) fun cs => Zz.ret (.agg cs)
      | _ => Zz.fail)) (Instr.build t (ps.map fun (i, x) => (i, a.eval x))) := by
  refine Ok.opt (fun z hz => ?_)
  have hz' := hz
  unfold zeroT at hz
  cases hi : P.info? t with
  | none => rw [hi] at hz; cases hz
  | some it =>
    rw [hi] at hz
    simp only at hz
    cases hzz : it.zero with
    | none => rw [hzz] at hz; cases hz
    | some zv =>
      rw [hzz] at hz
      have hzr : VR ρ m z zv := ofV_ok hz
      split
      · rename_i fs hu
        refine Ok.opt (fun pls hpls => Ok.opt (fun pl hpl => Ok.opt (fun l hl => Ok.opt (fun cs hcs => ?_))))
        obtain ⟨g1, g2⟩ := placesA_ok hpl
        obtain ⟨r, e1, e2⟩ := parts_fill (place := fun i => pls.toArray[i]?) hq ht g1 (fun k i x hk => by
          obtain ⟨off, z, h1, h2⟩ := g2 k i x hk
          exact ⟨off, z, by simpa using h1, h2⟩) hl (hzr.cells hq) hcs
        refine Ok.ret (b := .agg r) (fun w => run_build w t _ r ?_) (.agg _ _ e2)
        unfold Program.built
        rw [hi, hu]
        simp only [hzz, hpls, map_pairs]
        exact e1
      · rename_i nn el hu
        refine Ok.opt (fun n hn => Ok.opt (fun l hl => Ok.opt (fun cs hcs => ?_)))
        obtain ⟨g1, g2⟩ := arrPlaces_ok n ps.toList
        obtain ⟨r, e1, e2⟩ := parts_fill (place := fun i => some (i * n, n)) hq ht g1 (fun k i x hk => ⟨_, _, rfl, g2 k i x hk⟩) hl (hzr.cells hq) hcs
        refine Ok.ret (b := .agg r) (fun w => run_build w t _ r ?_) (.agg _ _ e2)
        unfold sizeT at hn
        cases hie : P.info? el with
        | none => rw [hie] at hn; cases hn
        | some ie =>
          rw [hie] at hn; cases hn
          unfold Program.built
          rw [hi, hu]
          simp only [hzz, hie, map_pairs]
          exact e1
      · exact Ok.fail
theorem fillA_len : ∀ {l : List (Nat × List AV)} {as0 rs : List AV}, fillA as0 l = some rs → rs.length = as0.length
  | [], as0, rs, h => by cases h; rfl
  | (off, al) :: l, as0, rs, h => by
    unfold fillA at h
    cases hc : Nat.ble (off + al.length) as0.length with
    | false => rw [hc] at h; cases h
    | true =>
      rw [hc, cond_true] at h
      have hc' : off + al.length ≤ as0.length := by simpa using hc
      rw [fillA_len h]
      simp
      omega
theorem repeatL_len (z : List AV) (n : Nat) : (repeatL z n).length = n * z.length := by
  induction n with
  | zero => simp [repeatL]
  | succ n ih => simp [repeatL, ih, Nat.add_mul]; omega
theorem repeatL_get (z : List AV) : ∀ (n i : Nat), i < n * z.length → (repeatL z n)[i]? = z[i % z.length]?
  | 0, i, h => by simp at h
  | n + 1, i, h => by
    rw [repeatL]
    by_cases hi : i < z.length
    · rw [List.getElem?_append_left hi, Nat.mod_eq_of_lt hi]
    · rw [List.getElem?_append_right (by omega), repeatL_get z n (i - z.length) (by rw [Nat.add_mul] at h; omega)]
      rw [Nat.mod_eq_sub_mod (a := i) (by omega)]
theorem newR_ok {m : BMap} {e : TypeId} {z : List AV} {k : Nat} {arr : Array Value} (hl : LR ρ m (repeatL z k) arr.toList) :
    Ok P ρ w0 base (fun m' A (ad : Addr) => ∃ b, ad = ⟨b, 0, none⟩ ∧ m' A = some (b, 0, arr.size)) m (newR e z k) (newRow e arr) := by
  have hn : (repeatL z k).length = arr.size := by have := hl.length; simpa using this
  unfold newR
  refine Ok.cond (fun h1 => ?_) (fun _ => Ok.fail)
  refine newRow_get (l := repeatL z k) (fun i a hi => ?_) (by rw [← hn, repeatL_len]) hl (fun a ha => ?_)
  · unfold CT.get at hi
    rw [Tr.get_lf] at hi
    dsimp only at hi
    cases hb : Nat.blt i (k * z.length) with
    | false => rw [hb] at hi; cases hi
    | true =>
      rw [hb, cond_true, nthL_eq] at hi
      have hlt : i < k * z.length := by simpa using hb
      exact ⟨hlt, by rw [repeatL_get z k i hlt]; exact hi⟩
  · have : ∀ k, a ∈ repeatL z k → a ∈ z := fun k => by
      induction k with
      | zero => intro h; cases h
      | succ k ih =>
        intro h
        rw [repeatL] at h
        rcases List.mem_append.1 h with h | h
        · exact h
        · exact ih h
    exact allOne_mem h1 a (this k ha)
theorem repeat_ok {z : List AV} {zv : Array Value} (h : LR ρ m z zv.toList) (n k : Nat) (hk : k = n * z.length) (hz : 0 < z.length) : LR ρ m (repeatL z n) ((Array.range k).map (zv[· % zv.size]!)).toList := by
  have hl := h.length
  simp only [Array.length_toList] at hl
  refine LR.of_get (by rw [repeatL_len]; simp [hk]) (fun i a v ha hv => ?_)
  have hi : i < n * z.length := by
    have := (List.getElem?_eq_some_iff.1 ha).1
    rwa [repeatL_len] at this
  rw [repeatL_get z n i hi] at ha
  obtain ⟨v', h1, h2⟩ := h.get ha
  have hlt : i % zv.size < zv.size := Nat.mod_lt _ (by omega)
  have hv' : v = zv[i % zv.size]! := by
    simp at hv
    obtain ⟨q, h3, h4⟩ := hv
    obtain ⟨hh, he⟩ := List.getElem?_eq_some_iff.1 h3
    have : q = i := by simpa using he.symm
    rw [← h4, this]
  rw [hl] at h1
  rw [Array.getElem?_toList, Array.getElem?_eq_getElem hlt] at h1
  cases h1
  rw [hv', getElem!_pos zv _ hlt]
  exact h2
end
end Go.Proofs.YtbecmcjibpamoaaGreatDoor.Zz
namespace Go.Proofs.YtbecmcjibpamoaaGreatDoor.Zz
open Go Go.RowKit
section
variable {P : Program} {ρ : Nat → Value} {w0 : World} {base : Nat} {m : BMap}
theorem keyOk_run {t : TypeId} {k : AV} {u : Value} (h : keyOk P t k = true) (hk : VR ρ m k u) (b : Bool) (w : World) : (Instr.checkKey b 10000 t u).run P w = .ok () w := by
  unfold keyOk at h
  split at h
  · rename_i hu; cases hk; exact (fun (n : Nat) => (by simp [Instr.checkKey, run_und hu] : (Instr.checkKey b (n + 1) t _).run P w = .ok () w)) 9999
  · rename_i hu; cases hk; exact (fun (n : Nat) => (by simp [Instr.checkKey, run_und hu] : (Instr.checkKey b (n + 1) t _).run P w = .ok () w)) 9999
  · rename_i hu; cases hk; exact (fun (n : Nat) => (by simp [Instr.checkKey, run_und hu] : (Instr.checkKey b (n + 1) t _).run P w = .ok () w)) 9999
  · cases h
def ER (ρ : Nat → Value) (m : BMap) (es : List (AV × AV × Nat)) (es' : List MapEntry) : Prop := es.length = es'.length ∧ ∀ (i : Nat) (k v : AV) (b : Nat), es[i]? = some (k, v, b) → ∃ en : MapEntry, es'[i]? = some en ∧ en.born = b ∧ VR ρ m k en.key ∧ VR ρ m v en.val
theorem ER.tail {e : AV × AV × Nat} {es : List (AV × AV × Nat)} {e' : MapEntry} {es' : List MapEntry} (h : ER ρ m (e :: es) (e' :: es')) : ER ρ m es es' :=
  ⟨by simpa using h.1, fun i k v b hi => by simpa using h.2 (i + 1) k v b (by simpa using hi)⟩
theorem findA_ok {t : TypeId} {k : AV} {u : Value} {d : TypeDesc} (hu : P.underlying t = some d) (h : keyOk P t k = true) (hk : VR ρ m k u) : ∀ {es : List (AV × AV × Nat)} {es' : List MapEntry} {i : Nat} {r : Option (Nat × AV)}, ER ρ m es es' → findA k es i = some r →
    ∃ r' : Option (Nat × Value), Instr.findNow d u es' i = some r' ∧ (match r, r' with | none, none => True | some (a, x), some (b, v) => a = b ∧ VR ρ m x v ∧ i ≤ a ∧ a < i + es.length | _, _ => False)
  | [], es', i, r, he, hf => by
    cases hf
    have : es' = [] := by have := he.1; cases es' with | nil => rfl | cons _ _ => cases this
    subst this
    exact ⟨none, rfl, trivial⟩
  | (k', v, b) :: es, [], i, r, he, hf => by have := he.1; cases this
  | (k', v, b) :: es, e' :: es', i, r, he, hf => by
    obtain ⟨en, h1, h2, h3, h4⟩ := he.2 0 k' v b rfl
    cases h1
    have hs : ∀ q, sameKey k k' = some q → Instr.sameNow d u e'.key = some q := fun q hq => by
      unfold keyOk at h
      rw [hu] at h
      revert h3
      generalize e'.key = kk
      intro h3
      unfold sameKey at hq
      split at hq
      · rename_i ka a kb b'
        cases hk; cases h3
        cases hkk : (ka == kb) with
        | false => rw [hkk] at hq; cases hq
        | true =>
          rw [hkk] at hq
          obtain rfl := beq_kind hkk
          cases hq
          cases d <;> first | (cases h; done) | (simp [Instr.sameNow, eqInt_iff])
      · cases hk; cases h3
        cases hq
        cases d <;> first | (cases h; done) | (simp [Instr.sameNow, str_beq', eqB_iff])
      · cases hk; cases h3
        cases hq
        cases d <;> first | (cases h; done) | (simp [Instr.sameNow])
      · cases hq
    unfold findA at hf
    cases hsk : sameKey k k' with
    | none => rw [hsk] at hf; cases hf
    | some q =>
      rw [hsk] at hf
      have := hs q hsk
      cases q with
      | true =>
        cases hf
        exact ⟨some (i, e'.val), by simp [Instr.findNow, this], rfl, h4, Nat.le_refl _, by simp⟩
      | false =>
        simp only at hf
        obtain ⟨r', g1, g2⟩ := findA_ok hu h hk he.tail hf
        refine ⟨r', by simp [Instr.findNow, this, g1], ?_⟩
        cases r with
        | none =>
          cases r' with
          | none => trivial
          | some p' => exact g2.elim
        | some p =>
          cases r' with
          | none => exact g2.elim
          | some p' => exact ⟨g2.1, g2.2.1, by have := g2.2.2.1; omega, by have := g2.2.2.2; simp; omega⟩
theorem run_findKey {t : TypeId} {d : TypeDesc} {u : Value} {es : List MapEntry} {r : Option (Nat × Value)} (hu : P.underlying t = some d) (h : Instr.findNow d u es 0 = some r) (w : World) : (Instr.findKey t u es).run P w = .ok r w := by
  simp [Instr.findKey, run_und hu, h]
theorem run_getMap {r : Nat} {es : Array MapEntry} {c : Nat} {w : World} (h : w.heap[r]? = some (.map es c)) : (Go.getObj r).run P w = .ok (.map es c) w := by
  simp [Go.getObj, Sem.run, h]
theorem keyOk_und {t : TypeId} {k : AV} (h : keyOk P t k = true) : ∃ d, P.underlying t = some d := by
  unfold keyOk at h
  split at h <;> first | exact ⟨_, by assumption⟩ | cases h
theorem lookFin_ok {kt et : TypeId} {k : AV} {v : Value} {d : TypeDesc} {ok : Bool} (hd : P.underlying kt = some d) (hko : keyOk P kt k = true) (hk : VR ρ m k v) {es : List (AV × AV × Nat)} {es' : List MapEntry} {st st' : ASt} {a : AV} (he : ER ρ m es es') (h : lookFin P et k ok es st = some (a, st')) :
    st' = st ∧ ((∃ i x', Instr.findNow d v es' 0 = some (some (i, x')) ∧ VR ρ m a (if ok then Value.tuple #[x', .bool true] else x')) ∨
      (Instr.findNow d v es' 0 = some none ∧ ∃ zv, (∀ w, (zeroValue et).run P w = .ok zv w) ∧ VR ρ m a (if ok then Value.tuple #[zv, .bool false] else zv))) := by
  unfold lookFin at h
  cases hf : findA k es 0 with
  | none => rw [hf] at h; cases h
  | some r =>
    rw [hf] at h
    obtain ⟨r', g1, g2⟩ := findA_ok hd hko hk he hf
    cases r with
    | some p =>
      cases r' with
      | none => exact g2.elim
      | some p' =>
        cases h
        refine ⟨rfl, .inl ⟨p'.1, p'.2, g1, ?_⟩⟩
        cases ok
        · exact g2.2.1
        · exact .tup _ _ (.cons _ _ _ _ g2.2.1 (.cons _ _ _ _ (.bool _) .nil))
    | none =>
      cases r' with
      | some _ => exact g2.elim
      | none =>
        simp only at h
        cases hz : zeroT P et with
        | none => rw [hz] at h; cases h
        | some z =>
          rw [hz] at h
          cases h
          obtain ⟨zv, e1, e2⟩ := run_zero hz
          refine ⟨rfl, .inr ⟨g1, zv, e1, ?_⟩⟩
          cases ok
          · exact e2 ρ m
          · exact .tup _ _ (.cons _ _ _ _ (e2 ρ m) (.cons _ _ _ _ (.bool _) .nil))
theorem rdMap_eq {A : Nat} {st st' : ASt} {α : Type} {a : α} {f : List (AV × AV × Nat) → Nat → M α} (h : (Zz.bnd (Zz.rd A) fun b => (match b with | .map es c => f es c | _ => Zz.fail)) st = some (a, st')) :
    ∃ es clk st1, st.heap.get A = some (.map es clk) ∧ st1.heap = st.heap ∧ st1.next = st.next ∧ f es clk st1 = some (a, st') := by
  unfold Zz.bnd at h
  cases h2 : Zz.rd A st with
  | none => rw [h2] at h; cases h
  | some q =>
    obtain ⟨blk, s2⟩ := q
    rw [h2] at h
    obtain ⟨r1, r2, r3⟩ := rd_eq h2
    cases blk with
    | map es' clk => exact ⟨es', clk, s2, r1, r2, r3, h⟩
    | _ => cases h
theorem rel_map {g : Nat → Option ABlk} {w : World} {A b d z clk : Nat} {es : List (AV × AV × Nat)} (hr : Rel ρ w0 base m g w) (hA : g A = some (.map es clk)) (hm : m A = some (b, d, z)) : ∃ es' : Array MapEntry, w.heap[b]? = some (.map es' clk) ∧ ER ρ m es es'.toList := by
  obtain ⟨p, f1, f2, es', f3, f4, f5⟩ := hr.blk A _ hA
  rw [hm] at f1; cases f1
  exact ⟨es', f3, by simpa using f4, fun i k v b hi => by simpa using f5 i k v b hi⟩
theorem lookA_ok {t : TypeId} {x k : AV} {u v : Value} {ok : Bool} (hx : VR ρ m x u) (hk : VR ρ m k v) : Ok P ρ w0 base (VRr ρ) m (lookA P t x k ok) (Instr.lookup t u v ok) := by
  unfold lookA
  split
  · rename_i kt et hu
    cases hx
    refine Ok.cond (fun hko => ?_) (fun _ => Ok.fail)
    obtain ⟨d, hd⟩ := keyOk_und hko
    intro st w a st' h hr hf
    obtain ⟨rfl, h1⟩ := lookFin_ok hd hko hk (es' := []) ⟨rfl, fun i k v b h => by cases h⟩ h
    rcases h1 with ⟨i, x', g1, g2⟩ | ⟨g1, zv, e1, g2⟩
    · cases g1
    · exact ⟨_, w, m, by simp [Instr.lookup, run_und hu, keyOk_run hko hk, run_findKey hd g1, e1], Ext.refl m, fun A h1 h2 => absurd h1 h2, hr, g2⟩
  · rename_i kt et A hu
    cases hx with | map _ b d2 z hA => _
    refine Ok.cond (fun hko => ?_) (fun _ => Ok.fail)
    obtain ⟨d, hd⟩ := keyOk_und hko
    intro st w a st' h hr hf
    obtain ⟨es, clk, st1, r1, r2, r3, h2⟩ := rdMap_eq (f := fun es _ => lookFin P et k ok es) h
    obtain ⟨es', f3, he⟩ := rel_map hr r1 hA
    obtain ⟨rfl, h1⟩ := lookFin_ok hd hko hk he h2
    rw [← r2] at hr
    rcases h1 with ⟨i, x', g1, g2⟩ | ⟨g1, zv, e1, g2⟩
    · exact ⟨_, w, m, by simp [Instr.lookup, run_und hu, run_getMap f3, keyOk_run hko hk, run_findKey hd g1], Ext.refl m, fun A h1 h2 => absurd h1 h2, hr, g2⟩
    · exact ⟨_, w, m, by simp [Instr.lookup, run_und hu, run_getMap f3, keyOk_run hko hk, run_findKey hd g1, e1], Ext.refl m, fun A h1 h2 => absurd h1 h2, hr, g2⟩
  · exact Ok.fail
end
end Go.Proofs.YtbecmcjibpamoaaGreatDoor.Zz
