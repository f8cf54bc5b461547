/- The executor: comparing, arithmetic. -/
import Derived.Test.YtckmcajnhobkpaaGreatDoorExE
import Derived.Laws.StructEq
import Derived.LaidEql
set_option linter.unusedVariables false
set_option linter.unusedSimpArgs false
set_option linter.deprecated false
namespace Go.Proofs.YtckmcajnhobkpaaGreatDoor.Zz
open Go Go.RowKit

section
variable {P : Program} {ρ : Nat → Value} {w0 : World} {base : Nat}
theorem eqB_iff : ∀ (a b : List UInt8), eqB a b = (a == b)
  | [], [] => rfl
  | [], _ :: _ => rfl
  | _ :: _, [] => rfl
  | x :: a, y :: b => by
    rw [eqB, eqB_iff a b, List.cons_beq_cons]
    congr 1
    rw [Bool.eq_iff_iff]
    simp only [Nat.beq_eq, beq_iff_eq]
    exact ⟨fun h => UInt8.toNat_inj.1 h, fun h => by rw [h]⟩
theorem eqInt_iff (a b : Int) : eqInt a b = (a == b) := by
  rw [Bool.eq_iff_iff]
  cases a <;> cases b <;> simp [eqInt] <;> omega
theorem str_beq (a b : List UInt8) : ((⟨a.toArray⟩ : ByteArray).toList == (⟨b.toArray⟩ : ByteArray).toList) = (a == b) := by
  rw [ByteArray.toList_eq, ByteArray.toList_eq]
theorem str_beq' (a b : List UInt8) : ((⟨a.toArray⟩ : ByteArray) == ⟨b.toArray⟩) = (a == b) := by
  rw [beq_toListBytes, str_beq]
theorem aliveC_eq {A : Nat} {st st' : ASt} {u : Unit} (h : aliveC A st = some (u, st')) : ∃ c n e, st.heap.get A = some (.cells c n e 0 false) ∧ st'.heap = st.heap ∧ st'.next = st.next := by
  unfold aliveC bnd at h
  cases h1 : rd A st with
  | none => rw [h1] at h; cases h
  | some p =>
    obtain ⟨b, st1⟩ := p
    obtain ⟨e1, e2, e3⟩ := rd_eq h1
    rw [h1] at h
    simp only at h
    split at h
    · cases h; exact ⟨_, _, _, e1, e2, e3⟩
    · cases h
theorem ptr_ne {m : BMap} {A i B j b d z b' d' z' : Nat} (hA : m A = some (b, d, z)) (hB : m B = some (b', d', z')) (hne : A ≠ B) :
    Ok P ρ w0 base (fun _ r (r' : Bool) => r = r') m (Zz.bnd (aliveC A) fun _ => Zz.bnd (aliveC B) fun _ => Zz.ret false) (sameAddr ⟨b, d + i, none⟩ ⟨b', d' + j, none⟩) := fun st w a st' h hr hf => by
  unfold Zz.bnd at h
  cases h1 : aliveC A st with
  | none => rw [h1] at h; cases h
  | some p =>
    obtain ⟨u, st1⟩ := p
    rw [h1] at h
    simp only at h
    cases h2 : aliveC B st1 with
    | none => rw [h2] at h; cases h
    | some q =>
      obtain ⟨u2, st2⟩ := q
      rw [h2] at h
      cases h
      obtain ⟨c, n, e, g1, g2, g3⟩ := aliveC_eq h1
      obtain ⟨c', n', e', k1, k2, k3⟩ := aliveC_eq h2
      rw [g2] at k1
      obtain ⟨arr, lo, hi, p1, p2, p3, p4, p5, p6⟩ := rel_cells hr g1 hA
      obtain ⟨arr', lo', hi', q1, q2, q3, q4, q5, q6⟩ := rel_cells hr k1 hB
      obtain ⟨⟨rfl, rfl⟩, _⟩ := p6 rfl rfl
      obtain ⟨⟨rfl, rfl⟩, _⟩ := q6 rfl rfl
      have hs := hr.sep A B _ _ _ _ g1 k1 rfl rfl hne hA hB
      exact ⟨false, w, m, run_sameAddr_other w (by intro e; exact hs (congrArg Addr.block e)) p1 q1, Ext.refl m, fun A h1 h2 => absurd h1 h2, by rw [k2, g2]; exact hr, rfl⟩
theorem Ok.rets {m : BMap} {a : Bool} {b : Bool} {s : Sem Bool} (hs : ∀ w, s.run P w = .ok b w) (h : a = b) : Ok P ρ w0 base (fun _ r (r' : Bool) => r = r') m (Zz.ret a) s := Ok.ret hs h
set_option maxHeartbeats 3200000 in
theorem eqA_ok : ∀ (n : Nat) (m : BMap) (t : TypeId) (x y : AV) (u v : Value), VR ρ m x u → VR ρ m y v → Ok P ρ w0 base (fun _ r (r' : Bool) => r = r') m (eqA P n t x y) (Op.equalIn n t u v) := by
  intro n
  induction n with
  | zero => intro m t x y u v _ _; exact Ok.fail
  | succ n ih =>
    intro m t x y u v hx hy
    unfold eqA
    split
    · rename_i hu; cases hx; cases hy; exact Ok.rets (fun w => by simp [Op.equalIn, run_und hu] <;> rfl) rfl
    · rename_i hu; cases hx; cases hy
      refine Ok.cond (fun h => ?_) (fun _ => Ok.fail)
      rename_i k a k' b
      have hk : k = k' := by revert h; cases k <;> cases k' <;> decide
      subst hk
      exact Ok.rets (fun w => by simp [Op.equalIn, run_und hu] <;> rfl) (eqInt_iff _ _)
    · rename_i hu; cases hx; cases hy; exact Ok.rets (fun w => by simp [Op.equalIn, run_und hu, str_beq'] <;> rfl) (eqB_iff _ _)
    · rename_i hu; cases hx; cases hy; exact Ok.rets (fun w => by simp [Op.equalIn, run_und hu] <;> rfl) rfl
    · rename_i hu; cases hx; cases hy; exact Ok.rets (fun w => by simp [Op.equalIn, run_und hu] <;> rfl) rfl
    · rename_i hu; cases hx; cases hy; exact Ok.rets (fun w => by simp [Op.equalIn, run_und hu] <;> rfl) rfl
    · rename_i e A i B j hu
      cases hx with | ptr _ _ b d z hA => _
      cases hy with | ptr _ _ b' d' z' hB => _
      split
      · rename_i q hq
        refine Ok.congr (s' := sameAddr ⟨b, d + i, none⟩ ⟨b', d' + j, none⟩) (fun w => by simp [Op.equalIn, run_und hu, run_size hq]) ?_
        refine Ok.cond (fun h => ?_) (fun h => ?_)
        · have h' : A = B := by simpa using h
          subst h'
          rw [hA] at hB; cases hB
          by_cases hij : i = j
          · subst hij; exact Ok.rets (fun w => run_sameAddr_same w _) (by simp)
          · exact Ok.rets (b := false) (fun w => by
              simp [sameAddr, hij]) (by rw [Bool.eq_false_iff]; intro h; exact hij (by simpa using h))
        · exact ptr_ne hA hB (by intro e; subst e; simp at h)
      · exact Ok.fail
    · rename_i hu; cases hx; cases hy; exact Ok.rets (fun w => by simp [Op.equalIn, run_und hu] <;> rfl) rfl
    · rename_i hu; cases hx; cases hy; exact Ok.rets (fun w => by simp [Op.equalIn, run_und hu] <;> rfl) rfl
    · rename_i hu; cases hx; cases hy; exact Ok.rets (fun w => by simp [Op.equalIn, run_und hu] <;> rfl) rfl
    · rename_i tx vx ty vy hu
      cases hx with | ifc _ _ u1 h1 => _
      cases hy with | ifc _ _ u2 h2 => _
      refine Ok.cond (fun h => ?_) (fun h => ?_)
      · have h' : tx = ty := by simpa using h
        subst h'
        split
        · rename_i info hi
          refine Ok.cond (fun hc => ?_) (fun _ => Ok.fail)
          exact Ok.congr (fun w => by simp [Op.equalIn, run_und hu, run_info hi, hc]) (ih m tx vx vy u1 u2 h1 h2)
        · exact Ok.fail
      · have h' : tx ≠ ty := by intro e; subst e; simp at h
        exact Ok.rets (b := false) (fun w => by simp [Op.equalIn, run_und hu, h']) rfl
    · rename_i fs xs ys hu
      cases hx with | agg _ us hxs => _
      cases hy with | agg _ vs hys => _
      refine Ok.cond (fun _ => Ok.fail) (fun hp => ?_)
      have hf : P.fieldsOf t = fs := by simp [Program.fieldsOf, hu]
      refine Ok.congr (s' := Op.eqFields n us vs fs.toList) (fun w => by rw [run_equalIn_struct w n t us vs (by rw [hf]; exact hu) hp, hf]) ?_
      generalize fs.toList = l
      clear hf hu
      induction l generalizing m with
      | nil => exact Ok.rets (fun w => rfl) rfl
      | cons f l ihl =>
        simp only [List.foldr_cons, Op.eqFields]
        refine Ok.cond (fun _ => Ok.fail) (fun hn => ?_)
        have hn' : f.name ≠ "_" := by simpa using hn
        have frf : ∀ (l : List Field), Fr (l.foldr (fun f k => bif f.name == "_" then Zz.fail else Zz.bnd (partT P f.type xs f.offset) fun a => Zz.bnd (partT P f.type ys f.offset) fun b => Zz.bnd (eqA P n f.type a b) fun r => bif r then k else Zz.ret false) (Zz.ret true)) := fun l =>
          Fr.foldr _ _ (Fr.ret _) (fun c k hk => Fr.cond Fr.fail (Fr.bnd (Fr.partT _ _ _ _) fun _ => Fr.bnd (Fr.partT _ _ _ _) fun _ => Fr.bnd (Fr.eqA _ _ _ _ _) fun _ => Fr.cond hk (Fr.ret _))) l
        rw [if_pos hn']
        refine Ok.bnd (Fr.partT _ _ _ _) (fun _ => Fr.bnd (Fr.partT _ _ _ _) fun _ => Fr.bnd (Fr.eqA _ _ _ _ _) fun _ => Fr.cond (frf l) (Fr.ret _)) (partT_ok hxs) (fun a u m1 he1 ha => ?_)
        refine Ok.bnd (Fr.partT _ _ _ _) (fun _ => Fr.bnd (Fr.eqA _ _ _ _ _) fun _ => Fr.cond (frf l) (Fr.ret _)) (partT_ok (hys.ext he1)) (fun b v m2 he2 hb => ?_)
        refine Ok.bnd (Fr.eqA _ _ _ _ _) (fun _ => Fr.cond (frf l) (Fr.ret _)) (ih m2 f.type a b u v (ha.ext he2) hb) (fun r r' m3 he3 hr => ?_)
        subst hr
        cases r with
        | false => exact Ok.rets (b := false) (fun w => by simp) rfl
        | true => exact Ok.congr (fun w => by simp) (ihl m3 (hxs.ext (he1.trans (he2.trans he3))) (hys.ext (he1.trans (he2.trans he3))))
    · rename_i hu; cases hx; cases hy; exact Ok.rets (fun w => by simp [Op.equalIn, run_und hu] <;> rfl) rfl
    · rename_i hu; cases hx; cases hy; exact Ok.rets (fun w => by simp [Op.equalIn, run_und hu] <;> rfl) rfl
    · rename_i hu; cases hx; cases hy; exact Ok.rets (fun w => by simp [Op.equalIn, run_und hu] <;> rfl) rfl
    · rename_i hu; cases hx; cases hy; exact Ok.rets (fun w => by simp [Op.equalIn, run_und hu] <;> rfl) rfl
    · rename_i hu; cases hx; cases hy; exact Ok.rets (fun w => by simp [Op.equalIn, run_und hu] <;> rfl) rfl
    · rename_i hu; cases hx; cases hy; exact Ok.rets (fun w => by simp [Op.equalIn, run_und hu] <;> rfl) rfl
    · rename_i hu; cases hx; cases hy; exact Ok.rets (fun w => by simp [Op.equalIn, run_und hu] <;> rfl) rfl
    · rename_i hu; cases hx; cases hy; exact Ok.rets (fun w => by simp [Op.equalIn, run_und hu] <;> rfl) rfl
    · rename_i hu; cases hx; cases hy; exact Ok.rets (fun w => by simp [Op.equalIn, run_und hu] <;> rfl) rfl
    · exact Ok.fail
end
end Go.Proofs.YtckmcajnhobkpaaGreatDoor.Zz
