/- The executor: slices, appends, conversions. -/
import Derived.Test.YtckmcajnhobkpaaGreatDoorExI
import Derived.Laws.BytesString
set_option linter.unusedVariables false
set_option linter.unusedSimpArgs false
set_option linter.deprecated false
namespace Go.Proofs.YtckmcajnhobkpaaGreatDoor.Zz
open Go Go.RowKit

section
variable {P : Program} {ρ : Nat → Value} {w0 : World} {base : Nat} {m : BMap}
def VRo (ρ : Nat → Value) (m : BMap) : Option AV → Option Value → Prop
  | none, none => True
  | some a, some v => VR ρ m a v
  | _, _ => False
theorem natOf_ok {a : AV} {u : Value} {n : Nat} (h : natOf a = some n) (hx : VR ρ m a u) : ∃ k, u = .int k (n : Int) := by
  unfold natOf at h
  split at h
  · cases h; cases hx; exact ⟨_, rfl⟩
  · cases h
theorem sliceBound_run {a : AV} {u : Value} {y y' n d : Nat} (c : BoundsCode) (h : boundP (some a) y d = some n) (hx : VR ρ m a u) (hy : y ≤ y') (w : World) : (Instr.sliceBound u y' c).run P w = .ok n w ∧ n ≤ y := by
  unfold boundP at h
  simp only at h
  cases hn : natOf a with
  | none => rw [hn] at h; cases h
  | some q =>
    rw [hn] at h
    simp only at h
    cases hc : Nat.ble q y with
    | false => rw [hc] at h; cases h
    | true =>
      rw [hc] at h; cases h
      obtain ⟨k, rfl⟩ := natOf_ok hn hx
      have hq : n ≤ y := by simpa using hc
      have hq' : (n : Int) ≤ (y' : Int) := by omega
      refine ⟨?_, hq⟩
      simp [Instr.sliceBound, asIntOf, hq']
theorem bounds_run {len cap cap' : Nat} {lo hi mx : Option AV} {lo' hi' mx' : Option Value} {l h k : Nat} (isS : Bool) (hb : boundsP len cap lo hi mx = some (l, h, k)) (h1 : VRo ρ m lo lo') (h2 : VRo ρ m hi hi') (h3 : VRo ρ m mx mx') (hc : cap ≤ cap') (hl : len ≤ cap) :
    ∃ k', (∀ w, (Instr.sliceBounds isS len cap' lo' hi' mx').run P w = .ok (l, h, k') w) ∧ l ≤ h ∧ h ≤ k ∧ k ≤ cap ∧ (mx.isSome = false → k = cap ∧ k' = cap') ∧ (mx.isSome = true → k' = k) := by
  unfold boundsP at hb
  cases hn : (mx.isSome && hi.isNone) with
  | true => rw [hn] at hb; cases hb
  | false =>
    rw [hn, cond_false] at hb
    simp only [Option.bind_eq_some_iff] at hb
    obtain ⟨m0, e1, h0, e2, l0, e3, e4⟩ := hb
    cases e4
    cases mx with
    | none =>
      cases mx' with
      | some _ => exact h3.elim
      | none =>
        cases e1
        have hh : h ≤ cap ∧ ∀ w, (match hi' with | some v => Instr.sliceBound v cap' (if isS then .sliceAcap else .sliceAlen) | none => (pure len : Sem Nat)).run P w = .ok h w := by
          cases hi with
          | none => cases hi' with | some _ => exact h2.elim | none => cases e2; exact ⟨hl, fun w => rfl⟩
          | some a => cases hi' with | none => exact h2.elim | some v => exact ⟨(sliceBound_run (P := P) .index e2 h2 hc default).2, fun w => (sliceBound_run _ e2 h2 hc w).1⟩
        have hll : l ≤ h ∧ ∀ w, (match lo' with | some v => Instr.sliceBound v h .sliceB | none => (pure 0 : Sem Nat)).run P w = .ok l w := by
          cases lo with
          | none => cases lo' with | some _ => exact h1.elim | none => cases e3; exact ⟨Nat.zero_le _, fun w => rfl⟩
          | some a => cases lo' with | none => exact h1.elim | some v => exact ⟨(sliceBound_run (P := P) .index e3 h1 (Nat.le_refl _) default).2, fun w => (sliceBound_run _ e3 h1 (Nat.le_refl _) w).1⟩
        refine ⟨cap', fun w => ?_, hll.1, hh.1, Nat.le_refl _, fun _ => ⟨rfl, rfl⟩, fun h => (by cases h)⟩
        have a1 := hh.2 w
        have a2 := hll.2 w
        cases hi' <;> cases lo' <;> simp [Instr.sliceBounds] at a1 a2 ⊢ <;> simp_all
    | some a =>
      cases mx' with
      | none => exact h3.elim
      | some v =>
        have b1 := fun c w => (sliceBound_run (P := P) c e1 h3 hc w).1
        have b2 := (sliceBound_run (P := P) .index e1 h3 hc default).2
        cases hi with
        | none => cases hn
        | some a' =>
          cases hi' with
          | none => exact h2.elim
          | some v' =>
            have c1 := fun c w => (sliceBound_run (P := P) c e2 h2 (Nat.le_refl _) w).1
            have c2 := (sliceBound_run (P := P) .index e2 h2 (Nat.le_refl _) default).2
            have hll : l ≤ h ∧ ∀ w, (match lo' with | some v => Instr.sliceBound v h .slice3C | none => (pure 0 : Sem Nat)).run P w = .ok l w := by
              cases lo with
              | none => cases lo' with | some _ => exact h1.elim | none => cases e3; exact ⟨Nat.zero_le _, fun w => rfl⟩
              | some a => cases lo' with | none => exact h1.elim | some v => exact ⟨(sliceBound_run (P := P) .index e3 h1 (Nat.le_refl _) default).2, fun w => (sliceBound_run _ e3 h1 (Nat.le_refl _) w).1⟩
            refine ⟨k, fun w => ?_, hll.1, c2, b2, fun h => (by cases h), fun _ => rfl⟩
            have a2 := hll.2 w
            cases lo' <;> simp [Instr.sliceBounds, b1, c1] at a2 ⊢ <;> simp_all
theorem slice_ok {t : TypeId} {x : AV} {u : Value} {lo hi mx : Option AV} {lo' hi' mx' : Option Value} (hx : VR ρ m x u) (h1 : VRo ρ m lo lo') (h2 : VRo ρ m hi hi') (h3 : VRo ρ m mx mx') :
    Ok P ρ w0 base (VRr ρ) m (sliceA P t x lo hi mx) (Instr.sliceAt t u lo' hi' mx') := by
  unfold sliceA
  split
  · rename_i s hu
    cases hx
    cases mx with
    | some _ => exact Ok.fail
    | none =>
      cases mx' with
      | some _ => exact h3.elim
      | none =>
        refine Ok.opt (fun p hp => ?_)
        obtain ⟨l, h, k⟩ := p
        have hsz : (ByteArray.mk s.toArray).size = s.length := by simp [ByteArray.size]
        obtain ⟨k', e1, _⟩ := bounds_run (P := P) (cap' := s.length) false hp h1 h2 (m := m) (ρ := ρ) (mx' := none) trivial (Nat.le_refl _) (Nat.le_refl _)
        have hex : (ByteArray.mk s.toArray).extract l h = ⟨((s.drop l).take (h - l)).toArray⟩ := by
          apply ByteArray.ext
          simp [ByteArray.data_extract]
        refine Ok.ret (b := .string ⟨((s.drop l).take (h - l)).toArray⟩) (fun w => ?_) (.str _)
        simp [Instr.sliceAt, run_und hu, Instr.slice, hsz, e1, hex]
  · rename_i e A i len cap sz ex hu
    cases hx with | sl _ _ _ _ _ _ b d z off cap' hA hc hexc ho hz hl hd => _
    refine Ok.opt (fun p hp => ?_)
    obtain ⟨l, h, k⟩ := p
    simp only
    refine Ok.opt (fun n hn => ?_)
    refine Ok.cond (fun hns => ?_) (fun _ => Ok.fail)
    have hns' : n = sz := by simpa using hns
    subst hns'
    obtain ⟨k', e1', q1, q2, q3, q4, q5⟩ := bounds_run (P := P) true hp h1 h2 h3 hc hl
    have hkk : k ≤ k' ∧ k' ≤ cap' := by
      cases hs : mx.isSome with
      | false => have := q4 hs; omega
      | true => have := q5 hs; omega
    refine Ok.ret (b := .slice (some (if k' = l then ⟨b, off, none⟩ else ⟨b, off + l * n, none⟩)) (h - l) (k' - l)) (fun w => ?_) ?_
    · simp only [Instr.sliceAt, Sem.run_bind, run_und hu, Result.andThen_ok, Instr.slice, e1', run_size hn, Option.map_some, add_mk']
      by_cases hkl : k' = l <;> simp [hkl]
    · have hmul : l * n ≤ k' * n := Nat.mul_le_mul_right n (by omega)
      have hmul2 : k' * n ≤ cap' * n := Nat.mul_le_mul_right n hkk.2
      by_cases hkl : k' = l
      · rw [if_pos hkl]
        refine .sl _ _ _ _ _ _ b d z off _ hA (by omega) (fun h => ?_) (fun h => by omega) (by rw [hkl]; simp; have := Nat.zero_le (cap' * n); omega) (by omega) hd
        omega
      · rw [if_neg hkl]
        refine .sl _ _ _ _ _ _ b d z _ _ hA (by omega) (fun h => ?_) (fun h => by have := ho (by omega); omega) ?_ (by omega) (by omega)
        · simp only [Bool.or_eq_true] at h
          rcases h with h | h
          · have := hexc h
            cases hs : mx.isSome with
            | false => have := q4 hs; omega
            | true => have := q5 hs; omega
          · have := q5 h; omega
        · rw [Nat.sub_mul]; omega
  · rename_i e hu
    cases hx
    refine Ok.opt (fun p hp => ?_)
    obtain ⟨l, h, k⟩ := p
    refine Ok.opt (fun n hn => ?_)
    obtain ⟨k', e1, q1, q2, q3, q4, q5⟩ := bounds_run (P := P) true hp h1 h2 h3 (Nat.le_refl _) (Nat.le_refl _)
    obtain rfl : k = 0 := by omega
    obtain rfl : h = 0 := by omega
    obtain rfl : l = 0 := by omega
    obtain rfl : k' = 0 := by
      cases hs : mx.isSome with
      | false => exact (q4 hs).2
      | true => exact q5 hs
    exact Ok.ret (b := .slice none 0 0) (fun w => by simp [Instr.sliceAt, run_und hu, Instr.slice, e1, run_size hn]) .sl0
  · rename_i n e A i hu
    cases hx with | ptr _ _ b d z hA => _
    refine Ok.opt (fun p hp => ?_)
    obtain ⟨l, h, k⟩ := p
    simp only
    refine Ok.opt (fun q hn => ?_)
    obtain ⟨k', e1, q1, q2, q3, q4, q5⟩ := bounds_run (P := P) false hp h1 h2 h3 (Nat.le_refl _) (Nat.le_refl _)
    have hkk : k' = k := by
      cases hs : mx.isSome with
      | false => have := q4 hs; omega
      | true => exact q5 hs
    subst hkk
    refine Ok.rd (fun blk st w a st' hh hB hr hf => ?_)
    cases blk with
    | cells c nn e2 frz odd =>
      simp only at hh
      cases hc : Nat.ble (i + n * q) nn with
      | false => rw [hc] at hh; cases hh
      | true =>
        rw [hc] at hh; cases hh
        have hc' : i + n * q ≤ nn := by simpa using hc
        obtain ⟨arr, lo2, hi2, g1, g2, g3, g4, g5⟩ := rel_cells hr hB hA
        simp only at g3
        have m1 : l * q ≤ k' * q := Nat.mul_le_mul_right q (by omega)
        have m2 : k' * q ≤ n * q := Nat.mul_le_mul_right q q3
        refine ⟨.slice (some (if k' = l then ⟨b, d + i, none⟩ else ⟨b, d + i + l * q, none⟩)) (h - l) (k' - l), w, m, ?_, Ext.refl m, fun A h1 h2 => absurd h1 h2, hr, ?_⟩
        · simp only [Instr.sliceAt, Sem.run_bind, run_und hu, Result.andThen_ok, Instr.sureAddr, Sem.run_pure, e1, run_size hn, add_mk']
        · by_cases hkl : k' = l
          · rw [if_pos hkl]
            exact .sl _ _ _ _ _ _ b d z _ _ hA (Nat.le_refl _) (fun _ => rfl) (fun h => by omega) (by rw [hkl]; simp; omega) (by omega) (by omega)
          · rw [if_neg hkl]
            exact .sl _ _ _ _ _ _ b d z _ _ hA (Nat.le_refl _) (fun _ => rfl) (fun h => by omega) (by rw [Nat.sub_mul]; omega) (by omega) (by omega)
    | _ => cases hh
  · exact Ok.fail
/-- the cells of a slice, or of a string's bytes: what is read of them, in every world with the same heap -/
theorem cellsIn_ok {size : Nat} {x : AV} {u : Value} {k : Nat} {l : List AV} {st st1 : ASt} {w : World} (h : cellsIn size x st = some ((k, l), st1)) (hr : Rel ρ w0 base m st.heap.get w) (hx : VR ρ m x u) :
    ∃ vs : List Value, (∀ w', (Builtin.lenOf u).run P w' = .ok k w') ∧ (∀ n w', n ≤ k → w'.heap = w.heap → (Builtin.firstCells size n u).run P w' = .ok (vs.take (n * size)).toArray w') ∧ LR ρ m l vs ∧ st1.heap = st.heap ∧ st1.next = st.next ∧ vs.length = k * size := by
  unfold cellsIn at h
  split at h
  · cases h; cases hx
    exact ⟨[], fun w' => rfl, fun n w' _ _ => by simp [Builtin.firstCells], .nil, rfl, rfl, by simp⟩
  · rename_i A i len cap sz ex
    cases hx with | sl _ _ _ _ _ _ b d z off cap' hA hc hexc ho hz hl hd => _
    cases hs : Nat.beq sz size with
    | false => rw [hs] at h; cases h
    | true =>
      rw [hs, cond_true] at h
      have hs' : sz = size := by simpa using hs
      subst hs'
      cases h0 : Nat.beq len 0 with
      | true =>
        rw [h0] at h
        cases h
        have hl0 : len = 0 := by simpa using h0
        subst hl0
        refine ⟨[], fun w' => rfl, fun n w' hn _ => ?_, .nil, rfl, rfl, by simp⟩
        obtain rfl : n = 0 := by omega
        simp [Builtin.firstCells, loadCells, loadCellsFrom]
      | false =>
        rw [h0, cond_false] at h
        have hlen : 0 < len := by
          rcases Nat.eq_zero_or_pos len with e | e
          · subst e; cases h0
          · exact e
        unfold bnd at h
        cases h1 : loadC A i (len * sz) st with
        | none => rw [h1] at h; cases h
        | some p =>
          obtain ⟨l', st2⟩ := p
          rw [h1] at h
          cases h
          have ho' := ho (by omega)
          subst ho'
          obtain ⟨c, n, e, frz, odd, hgA, hc', hst1, hst2⟩ := loadC_eq h1
          obtain ⟨arr, lo, hi, q1, q2, q3, q4, q5⟩ := rel_cells hr hgA hA
          obtain ⟨vs, k1, k2, k3⟩ := getN_vals q4 hc'
          have hvl : vs.length = k * sz := by rw [← k1.length, k2]
          refine ⟨vs, fun w' => rfl, fun n w' hn hw => ?_, k1, hst1, hst2, hvl⟩
          have hmul : n * sz ≤ k * sz := Nat.mul_le_mul_right sz hn
          refine run_loadCells (by rw [List.length_take]; omega) (fun j v hj => ?_)
          rw [← hw] at q1
          rw [add_mk', cell_of q1]
          rw [List.getElem?_take] at hj
          split at hj
          · exact k3 j v hj
          · cases hj
  · rename_i s
    cases hs1 : Nat.beq size 1 with
    | false => rw [hs1] at h; cases h
    | true =>
      rw [hs1, cond_true] at h
      have hs2 : size = 1 := by simpa using hs1
      subst hs2
      cases h; cases hx
      have hsz : (ByteArray.mk s.toArray).size = s.length := by simp [ByteArray.size]
      refine ⟨s.map fun b => Value.int .u8 b.toNat, fun w' => by simp [Builtin.lenOf, hsz], fun n w' hn _ => ?_, ?_, rfl, rfl, by simp⟩
      · have : (ByteArray.mk s.toArray).extract 0 n = ⟨(s.take n).toArray⟩ := by
          apply ByteArray.ext
          simp [ByteArray.data_extract]
        simp [Builtin.firstCells, this]
      · refine LR.of_get (by simp [ints]) (fun i a v ha hv => ?_)
        simp only [ints, List.getElem?_map] at ha hv
        cases hb : s[i]? with
        | none => rw [hb] at ha; cases ha
        | some b => rw [hb] at ha hv; cases ha; cases hv; exact .int _ _
  · cases h
end
end Go.Proofs.YtckmcajnhobkpaaGreatDoor.Zz
