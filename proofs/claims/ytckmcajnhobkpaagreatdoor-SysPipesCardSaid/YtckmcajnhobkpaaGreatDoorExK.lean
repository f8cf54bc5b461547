/- The executor: appends. -/
import Derived.Test.YtckmcajnhobkpaaGreatDoorExJ
import Derived.Laws.AppendOwn
set_option linter.unusedVariables false
set_option linter.unusedSimpArgs false
set_option linter.deprecated false
namespace Go.Proofs.YtckmcajnhobkpaaGreatDoor.Zz
open Go Go.RowKit

section
variable {P : Program} {ρ : Nat → Value} {w0 : World} {base : Nat} {m : BMap}
/-- the growing arm of 'append' -/
theorem app_grow {t t' ty e : TypeId} {i : TypeInfo} {z : Value} {n k cap : Nat} {a : Option Addr} {ux : Value} {old new : List Value} {w : World} {d' : TypeDesc}
    (hu : P.underlying t = some (.slice e)) (hu' : P.underlying t' = some d') (hd' : d' = .string ∨ ∃ e', d' = .slice e') (hi : P.info? e = some i) (hz : i.zero = some z) (hb : i.bytes ≤ 4096)
    (hlen : ∀ w', (Builtin.lenOf ux).run P w' = .ok k w') (hnew : ∀ w', w'.heap = w.heap → (Builtin.firstCells i.size k ux).run P w' = .ok new.toArray w')
    (hold : ∀ w', w'.heap = w.heap → (Builtin.firstCells i.size n (.slice a n cap)).run P w' = .ok old.toArray w') (hg : cap < n + k) (hm : n + k ≤ 1000000) :
    (Builtin.append_ #[t, t'] ty #[.slice a n cap, ux]).run P w = .ok (.slice (some ⟨w.heap.size, 0, none⟩) (n + k) (grownCap w (n + k) cap e)) (w.drew.alloc (.cells (old.toArray ++ new.toArray ++ Builtin.zeroCells z.cells (grownCap w (n + k) cap e - (n + k))) e)) := by
  have hn : ¬ (n + k ≤ cap) := by omega
  have h63' : ¬ (9223372036854775807 < ((n : Int) + (k : Int))) := by omega
  have hcap := nextslicecap_le hg
  have h48' : ¬ (281474976710656 < Builtin.nextslicecap (n + k) cap * i.bytes) := by
    have := Nat.mul_le_mul hcap hb
    omega
  have hf := hnew w.drew rfl
  have hfo := hold w.drew rfl
  rcases hd' with rfl | ⟨e', rfl⟩
  · simp [Builtin.append_, run_und hu, run_und hu', Go.sizeOf, typeInfo, program, Sem.run, zeroValue, hi, hz, hlen, hn, h63', h48', Question.forced, hf, hfo, newRow, newObj, grownCap, choose]
    congr 2; apply Array.ext'; simp
  · simp [Builtin.append_, run_und hu, run_und hu', Go.sizeOf, typeInfo, program, Sem.run, zeroValue, hi, hz, hlen, hn, h63', h48', Question.forced, hf, hfo, newRow, newObj, grownCap, choose]
    congr 2; apply Array.ext'; simp
/-- the arm with room -/
theorem app_room {t t' ty e : TypeId} {i : TypeInfo} {n k cap : Nat} {b off : Nat} {ux : Value} {new : List Value} {w w' : World} {d' : TypeDesc}
    (hu : P.underlying t = some (.slice e)) (hu' : P.underlying t' = some d') (hd' : d' = .string ∨ ∃ e', d' = .slice e') (hi : P.info? e = some i)
    (hlen : ∀ w', (Builtin.lenOf ux).run P w' = .ok k w') (hnew : ∀ w', w'.heap = w.heap → (Builtin.firstCells i.size k ux).run P w' = .ok new.toArray w')
    (hg : n + k ≤ cap) (hst : (storeCells ⟨b, off + n * i.size, none⟩ new).run P w = .ok () w') :
    (Builtin.append_ #[t, t'] ty #[.slice (some ⟨b, off, none⟩) n cap, ux]).run P w = .ok (.slice (some ⟨b, off, none⟩) (n + k) cap) w' := by
  have hf := hnew w rfl
  rcases hd' with rfl | ⟨e', rfl⟩
  · simp [Builtin.append_, run_und hu, run_und hu', Go.sizeOf, typeInfo, program, Sem.run, hi, hlen, hg, hf, add_mk', hst]
  · simp [Builtin.append_, run_und hu, run_und hu', Go.sizeOf, typeInfo, program, Sem.run, hi, hlen, hg, hf, add_mk', hst]
theorem app_none {t t' ty e : TypeId} {i : TypeInfo} {ux : Value} {w : World} {d' : TypeDesc}
    (hu : P.underlying t = some (.slice e)) (hu' : P.underlying t' = some d') (hd' : d' = .string ∨ ∃ e', d' = .slice e') (hi : P.info? e = some i)
    (hlen : ∀ w', (Builtin.lenOf ux).run P w' = .ok 0 w') (hnew : ∀ w', w'.heap = w.heap → (Builtin.firstCells i.size 0 ux).run P w' = .ok #[] w') (a : Option Addr) (n cap : Nat) (hc : n ≤ cap) :
    (Builtin.append_ #[t, t'] ty #[.slice a n cap, ux]).run P w = .ok (.slice a n cap) w := by
  have hf := hnew w rfl
  rcases hd' with rfl | ⟨e', rfl⟩
  · cases a <;> simp [Builtin.append_, run_und hu, run_und hu', Go.sizeOf, typeInfo, program, Sem.run, hi, hlen, hc, hf, storeCells]
  · cases a <;> simp [Builtin.append_, run_und hu, run_und hu', Go.sizeOf, typeInfo, program, Sem.run, hi, hlen, hc, hf, storeCells]
/-- the end of an 'append' that laid a new row -/
theorem row_end {e : TypeId} {i : TypeInfo} {z : Value} {m : BMap} {g : Nat → Option ABlk} {h' : Tr ABlk} {w : World} {old new : List AV} {vo vs : List Value} {n k cap B nx nx' : Nat} {t t' ty : TypeId} {ux v : Value} {frz : Nat}
    (hr : Rel ρ w0 base m g w) (hm : m B = none) (hlr : LR ρ m new vs) (hlo : LR ρ m old vo) (h1 : allOne new = true) (h2 : allOne old = true) (_hz : i.zero = some z)
    (hrun : (Builtin.append_ #[t, t'] ty #[v, ux]).run P w = .ok (.slice (some ⟨w.heap.size, 0, none⟩) (n + k) (grownCap w (n + k) cap e)) (w.drew.alloc (.cells (vo.toArray ++ vs.toArray ++ Builtin.zeroCells z.cells (grownCap w (n + k) cap e - (n + k))) e)))
    (hge : n + k ≤ grownCap w (n + k) cap e) (hsz : (vo ++ vs).length = (n + k) * i.size) (hzs : z.cells.size = i.size) (hh : h'.get = upd g B (.cells (putL .lf 0 (old ++ new)) (old ++ new).length e frz true)) (hn : nx' = nx + 1) (hB : B = nx) :
    ∃ b' w' m', (Builtin.append_ #[t, t'] ty #[v, ux]).run P w = .ok b' w' ∧ Ext m m' ∧ (∀ A, m A = none → m' A ≠ none → nx ≤ A ∧ A < nx') ∧ Rel ρ w0 base m' h'.get w' ∧ VRr ρ m' (.sl B 0 (n + k) (n + k) i.size false) b' := by
  have hl := (hlo.append hlr).length
  have hone : allOne (old ++ new) = true := by
    have : ∀ (a b : List AV), allOne (a ++ b) = (allOne a && allOne b) := fun a b => by
      induction a with
      | nil => rfl
      | cons x a ih => simp [allOne, ih, Bool.and_assoc]
    rw [this, h1, h2]; rfl
  have hrow := rel_row (e := e) (frz := frz) (l := old ++ new) (arr := vo.toArray ++ vs.toArray ++ Builtin.zeroCells z.cells (grownCap w (n + k) cap e - (n + k))) hr.drew hm (by
    simp only [Array.toList_append]
    rw [hl, List.take_append_of_le_length (by simp), List.take_of_length_le (by simp)]; exact hlo.append hlr) hone (by simp at hl ⊢; omega)
  have hsize2 : (vo.toArray ++ vs.toArray ++ Builtin.zeroCells z.cells (grownCap w (n + k) cap e - (n + k))).size = grownCap w (n + k) cap e * i.size := by
    simp only [Array.size_append, List.size_toArray, size_zeroCells, hzs]
    rw [← List.length_append, hsz, ← Nat.add_mul]; congr 1; omega
  refine ⟨_, _, mset m B (w.heap.size, 0, (vo.toArray ++ vs.toArray ++ Builtin.zeroCells z.cells (grownCap w (n + k) cap e - (n + k))).size), hrun, mset_ext hm, fun A h1 h2 => ?_, ?_, ?_⟩
  · have := mset_dom h1 h2; omega
  · rw [hh]; exact hrow
  · exact .sl _ _ _ _ _ _ _ 0 _ _ _ (mset_same _ _ _) hge (fun h => by cases h) (fun _ => rfl) (by rw [hsize2]; simp) (Nat.le_refl _) (Nat.le_refl _)
theorem grow_end {t t' ty e : TypeId} {i : TypeInfo} {z : Value} {d' : TypeDesc} {ux : Value} {new : List AV} {vs : List Value} {st1 st' : ASt} {w : World} {A j len cap k b d zz off cap' : Nat} {ex : Bool} {a : AV} (hq : Opq ρ)
    (hu : P.underlying t = some (.slice e)) (hu' : P.underlying t' = some d') (hd' : d' = .string ∨ ∃ e', d' = .slice e') (hi : P.info? e = some i) (hz : i.zero = some z) (hb : i.bytes ≤ 4096)
    (hlen : ∀ w', (Builtin.lenOf ux).run P w' = .ok k w') (hnew : ∀ w', w'.heap = w.heap → (Builtin.firstCells i.size k ux).run P w' = .ok vs.toArray w') (hlr : LR ρ m new vs) (b5 : allOne new = true) (b6 : z.cells.size = i.size) (hvl : vs.length = k * i.size) (hlk : len + k ≤ 1000000)
    (hr : Rel ρ w0 base m st1.heap.get w) (hf : ∀ A, st1.next ≤ A → A < st'.next → m A = none) (hA : m A = some (b, d, zz)) (hc : cap ≤ cap') (hexc : ex = true → cap' = cap) (ho : 0 < cap → off = d + j) (hzz : off + cap' * i.size ≤ zz) (hl : len ≤ cap) (hd : d ≤ off) (hroom : ¬ len + k ≤ cap)
    (h : growA A j len i.size k ex cap e new st1 = some (a, st')) :
    ∃ b' w' m', (Builtin.append_ #[t, t'] ty #[.slice (some ⟨b, off, none⟩) len cap', ux]).run P w = .ok b' w' ∧ Ext m m' ∧ (∀ A, m A = none → m' A ≠ none → st1.next ≤ A ∧ A < st'.next) ∧ Rel ρ w0 base m' st'.heap.get w' ∧ VRr ρ m' a b' := by
  unfold growA Zz.bnd at h
  cases h1 : Zz.rd A st1 with
  | none => rw [h1] at h; cases h
  | some p =>
    obtain ⟨blk, s2⟩ := p
    rw [h1] at h
    simp only at h
    obtain ⟨r1, r2, r3⟩ := rd_eq h1
    cases blk with
    | cells c n e' frz odd =>
      simp only at h
      cases ho1 : getN c j (len * i.size) with
      | none => rw [ho1] at h; cases h
      | some old =>
        rw [ho1] at h
        simp only [Zz.opt, Zz.ret] at h
        cases hcc : (allOne old && (bif Nat.beq cap 0 then Nat.beq frz 0 else Nat.ble frz (j + len * i.size)) && Nat.beq e' e) with
        | false => rw [hcc] at h; cases h
        | true =>
          rw [hcc, cond_true] at h
          simp only [Bool.and_eq_true, Nat.beq_eq] at hcc
          obtain ⟨⟨c1, c2⟩, rfl⟩ := hcc
          obtain ⟨arr, lo, hi2, q1, q2, q3, q4, q5, q6⟩ := rel_cells hr r1 hA
          simp only at q1 q2 q3 q4 q5
          obtain ⟨vo, k1, k2, k3⟩ := getN_vals q4 ho1
          have hvo : vo.length = len * i.size := by rw [← k1.length, k2]
          have hcells : ∀ (jj : Nat) (v : Value), vo[jj]? = some v → arr[off + jj]? = some v := fun jj v hj => by
            have hlt : jj < vo.length := (List.getElem?_eq_some_iff.1 hj).1
            have hpos : 0 < len := by
              rcases Nat.eq_zero_or_pos len with e0 | e0
              · subst e0; simp at hvo; rw [hvo] at hlt; simp at hlt
              · exact e0
            rw [ho (by omega)]; exact k3 jj v hj
          have hold : ∀ w', w'.heap = w.heap → (Builtin.firstCells i.size len (.slice (some ⟨b, off, none⟩) len cap')).run P w' = .ok vo.toArray w' := fun w' hw => by
            refine run_loadCells hvo.symm (fun jj v hj => ?_)
            rw [add_mk', cell_of (by rw [hw]; exact q1)]; exact hcells jj v hj
          have hsum : (vo ++ vs).length = (len + k) * i.size := by rw [List.length_append, hvo, hvl, Nat.add_mul]
          -- the step that forgets the old block
          have hkill : ∃ s3 B, ((bif ex then Zz.ret () else Zz.wr A .dead) s2 = some ((), s3)) ∧ nw (.cells (putL .lf 0 (old ++ new)) (old ++ new).length e' (bif ex then 0 else (frz - j)) true) s3 = some (B, st') ∧ a = .sl B 0 (len + k) (len + k) i.size false := by
            cases hw : (bif ex then Zz.ret () else Zz.wr A .dead) s2 with
            | none => rw [hw] at h; cases h
            | some q =>
              obtain ⟨⟨⟩, s3⟩ := q
              rw [hw] at h
              simp only at h
              cases hn2 : nw (.cells (putL .lf 0 (old ++ new)) (old ++ new).length e' (bif ex then 0 else (frz - j)) true) s3 with
              | none => rw [hn2] at h; cases h
              | some q2 =>
                obtain ⟨B, s4⟩ := q2
                rw [hn2] at h
                cases h
                exact ⟨s3, B, rfl, hn2, rfl⟩
          obtain ⟨s3, B, hw3, hn3, rfl⟩ := hkill
          obtain ⟨rfl, e2, e3⟩ := nw_eq hn3
          have hs3n : s3.next = st1.next := by
            cases ex with
            | true => cases hw3; exact r3
            | false => obtain ⟨_, h2⟩ := wr_eq hw3; rw [h2, r3]
          have hm : m s3.next = none := hf _ (by omega) (by omega)
          by_cases hin : len + k ≤ cap'
          · -- in place
            have hex : ex = false := by
              cases ex with
              | false => rfl
              | true => have := hexc rfl; omega
            subst hex
            obtain ⟨w1, _⟩ := wr_eq hw3
            have hsh : s3.heap = st1.heap.put A .dead := by rw [w1, r2]
            have hmul : (len + k) * i.size ≤ cap' * i.size := Nat.mul_le_mul_right _ hin
            rw [Nat.add_mul] at hmul
            have hfrz : d + frz ≤ off + len * i.size := by
              cases h0 : Nat.beq cap 0 with
              | true =>
                rw [h0, cond_true] at c2
                have : frz = 0 := by simpa using c2
                omega
              | false =>
                rw [h0, cond_false] at c2
                have h0' : 0 < cap := by
                  rcases Nat.eq_zero_or_pos cap with e0 | e0
                  · subst e0; cases h0
                  · exact e0
                have := ho h0'
                have : frz ≤ j + len * i.size := by simpa using c2
                omega
            obtain ⟨w', arr', g1, g2, g3, g4, g5, g6, g7, g8, g9⟩ := run_storeCells (P := P) b (off + len * i.size) e' lo hi2 vs 0 w arr q1 (by omega) (hlr.one hq b5) (fun jj h1 h2 => q5 jj (by omega) (by omega))
            have hrun := app_room (P := P) (ty := ty) (off := off) (cap := cap') hu hu' hd' hi hlen hnew hin g1
            have hrd := hr.write (new := .dead) r1 hA rfl g5 g6 g7 g8 g9 trivial
            have hbase : base ≤ b := by
              obtain ⟨p, f1, f2, _⟩ := hr.blk A _ r1
              rw [hA] at f1; cases f1; exact f2
            have hfresh := hrd.fresh (A := s3.next) (p := (b, off, zz)) (new := .cells (putL .lf 0 (old ++ new)) (old ++ new).length e' (frz - j) true) hm hbase (fun X blk q hX hdX hmX => by
                by_cases e0 : X = A
                · subst e0; rw [upd_same] at hX; cases hX; cases hdX
                · rw [upd_other e0] at hX
                  exact (show q.1 ≠ b from hr.sep X A blk _ q (b, d, zz) hX r1 hdX rfl e0 hmX hA)) ⟨arr', lo, hi2, g2, by rw [g3, q2], by
                    have := (k1.append hlr).length
                    show off + (old ++ new).length ≤ zz
                    rw [this, hsum, Nat.add_mul]; omega, fun jj x hj => ?_, fun jj h1 h2 => q5 jj (by
                      show d + frz ≤ jj
                      have h1' : off + (frz - j) ≤ jj := h1
                      cases h0 : Nat.beq cap 0 with
                      | true =>
                        rw [h0, cond_true] at c2
                        have : frz = 0 := by simpa using c2
                        omega
                      | false =>
                        have h0' : 0 < cap := by
                          rcases Nat.eq_zero_or_pos cap with e0 | e0
                          · subst e0; cases h0
                          · exact e0
                        have := ho h0'
                        omega) h2, fun h1 h2 => ?_⟩
            · refine ⟨_, w', mset m s3.next (b, off, zz), hrun, mset_ext hm, fun X h1 h2 => ?_, ?_, ?_⟩
              · have := mset_dom h1 h2; omega
              · rw [e2, get_upd, hsh, get_upd]; exact hfresh
              · exact .sl _ _ _ _ _ _ b off zz off cap' (mset_same _ _ _) hin (fun h => by cases h) (fun _ => rfl) hzz (Nat.le_refl _) (Nat.le_refl _)
            · rw [putL_get] at hj
              show jj < (old ++ new).length ∧ oneA x = true ∧ ∃ v, arr'[off + jj]? = some v ∧ VR ρ _ x v
              by_cases hin2 : 0 ≤ jj ∧ jj < 0 + (old ++ new).length
              · rw [if_pos hin2] at hj
                obtain ⟨v, f1, f2⟩ := (k1.append hlr).get (i := jj - 0) hj
                have hx1 : oneA x = true := by
                  rcases List.mem_append.1 (List.mem_of_getElem? hj) with h | h
                  · exact allOne_mem c1 x h
                  · exact allOne_mem b5 x h
                refine ⟨by omega, hx1, v, ?_, f2.ext (mset_ext hm)⟩
                rw [Nat.sub_zero] at f1
                rw [g4]
                by_cases hlo : jj < vo.length
                · rw [if_neg (by omega)]
                  rw [List.getElem?_append_left hlo] at f1
                  exact hcells jj v f1
                · rw [List.getElem?_append_right (by omega)] at f1
                  have hlt : jj - vo.length < vs.length := (List.getElem?_eq_some_iff.1 f1).1
                  rw [if_pos (by omega), show off + jj - (off + len * i.size + 0) = jj - vo.length by omega]
                  exact f1
              · rw [if_neg hin2] at hj; cases hj
            · cases h1
          · -- a new row
            have hrun := app_grow (P := P) (ty := ty) (w := w) (a := some ⟨b, off, none⟩) (cap := cap') hu hu' hd' hi hz hb hlen hnew hold (by omega) hlk
            cases ex with
            | true =>
              cases hw3
              rw [← r2] at hr
              exact row_end (nx := st1.next) hr (by rw [hs3n] at hm ⊢; exact hm) hlr k1 b5 c1 hz hrun (grownCap_ge w _ _ _) hsum b6 (by rw [e2, get_upd]) (by omega) hs3n
            | false =>
              obtain ⟨w1, _⟩ := wr_eq hw3
              have hk := hr.kill r1
              have hsh : s3.heap.get = upd st1.heap.get A .dead := by rw [w1, r2, get_upd]
              rw [← hsh] at hk
              exact row_end (nx := st1.next) hk hm hlr k1 b5 c1 hz hrun (grownCap_ge w _ _ _) hsum b6 (by rw [e2, get_upd]) (by omega) hs3n
    | _ => cases h
theorem LR.allSize {l : List AV} {vs : List Value} (h : LR ρ m l vs) : vs.length = l.length := h.length.symm
set_option maxHeartbeats 1600000 in
theorem append_ok {t t' ty e : TypeId} {s x : AV} {u ux : Value} {d' : TypeDesc} (hq : Opq ρ) (hu : P.underlying t = some (.slice e)) (hu' : P.underlying t' = some d') (hd' : d' = .string ∨ ∃ e', d' = .slice e') (hs : VR ρ m s u) (hx : VR ρ m x ux) :
    Ok P ρ w0 base (VRr ρ) m (Zz.bnd (Zz.opt (sizeT P e)) fun n => Zz.bnd (cellsIn n x) fun p => appendA P e s p.1 p.2) (Builtin.append_ #[t, t'] ty #[u, ux]) := by
  refine Ok.opt (fun size hsize => ?_)
  intro st w a st' h hr hf
  unfold Zz.bnd at h
  cases h1 : cellsIn size x st with
  | none => rw [h1] at h; cases h
  | some p =>
    obtain ⟨⟨k, new⟩, st1⟩ := p
    rw [h1] at h
    simp only at h
    obtain ⟨vs, hlen, hnew0, hlr, hh, hn, hvl0⟩ := cellsIn_ok (P := P) h1 hr hx
    have hnew : ∀ w', w'.heap = w.heap → (Builtin.firstCells size k ux).run P w' = .ok vs.toArray w' := fun w' hw => by
      have := hnew0 k w' (Nat.le_refl _) hw
      rwa [List.take_of_length_le (by omega)] at this
    clear hnew0 hvl0
    rw [← hh] at hr
    rw [← hn] at hf
    have goal_eq : st.next = st1.next := hn.symm
    rw [goal_eq]
    clear h1 hh hn goal_eq
    unfold appendA at h
    cases hi : P.info? e with
    | none => rw [hi] at h; cases h
    | some i =>
      rw [hi] at h
      simp only at h
      have hsz : size = i.size := by unfold sizeT at hsize; rw [hi] at hsize; cases hsize; rfl
      subst hsz
      cases hz : i.zero with
      | none => rw [hz] at h; cases h
      | some z =>
        rw [hz] at h
        simp only at h
        cases hc : (Nat.ble i.bytes 4096 && Nat.ble 1 i.bytes && Nat.ble 1 i.size && Nat.beq new.length (k * i.size) && allOne new && Nat.beq z.cells.size i.size) with
        | false => rw [hc] at h; cases h
        | true =>
          rw [hc, cond_true] at h
          simp only [Bool.and_eq_true, Nat.ble_eq, Nat.beq_eq] at hc
          obtain ⟨⟨⟨⟨⟨b1, b2⟩, b3⟩, b4⟩, b5⟩, b6⟩ := hc
          have hvl : vs.length = k * i.size := by rw [hlr.allSize, b4]
          have hnil : k = 0 → ∀ w', w'.heap = w.heap → (Builtin.firstCells i.size 0 ux).run P w' = .ok #[] w' := fun hk w' hw => by
            subst hk
            have : vs = [] := List.eq_nil_of_length_eq_zero (by rw [hvl]; simp)
            subst this
            exact hnew w' hw
          cases hs with
          | sl0 =>
            simp only at h
            cases hk : Nat.beq k 0 with
            | true =>
              rw [hk] at h; cases h
              have hk0 : k = 0 := by simpa using hk
              subst hk0
              exact ⟨_, w, m, app_none hu hu' hd' hi hlen (hnil rfl) none 0 0 (Nat.le_refl _), Ext.refl m, fun A h1 h2 => absurd h1 h2, hr, .sl0⟩
            | false =>
              rw [hk, cond_false] at h
              have hk0 : 0 < k := by
                rcases Nat.eq_zero_or_pos k with e | e
                · subst e; cases hk
                · exact e
              cases hkk : Nat.ble k 1000000 with
              | false => rw [hkk] at h; cases h
              | true =>
                rw [hkk, cond_true] at h
                have hkk' : k ≤ 1000000 := by simpa using hkk
                have hrun := app_grow (P := P) (ty := ty) (w := w) (n := 0) (cap := 0) (a := none) (old := []) hu hu' hd' hi hz b1 hlen hnew (fun w' _ => by simp [Builtin.firstCells]) (by omega) (by omega)
                unfold Zz.bnd newS at h
                rw [b5, cond_true] at h
                cases h2 : nw (.cells (putL .lf 0 new) new.length e 0 true) st1 with
                | none => rw [h2] at h; cases h
                | some q =>
                  obtain ⟨B, st2⟩ := q
                  rw [h2] at h
                  cases h
                  obtain ⟨rfl, e2, e3⟩ := nw_eq h2
                  have hm : m st1.next = none := hf _ (Nat.le_refl _) (by omega)
                  have := row_end (n := 0) (old := []) (vo := []) (h' := st'.heap) (e := e) (frz := 0) hr hm hlr .nil b5 rfl hz hrun (grownCap_ge w (0 + k) 0 e) (by simp [hvl]) b6 (by rw [e2, get_upd]; rfl) e3 rfl
                  simpa only [Nat.zero_add] using this
          | sl A j len cap sz ex b d zz off cap' hA hc hexc ho hzz hl hd =>
            simp only at h
            cases hk : Nat.beq k 0 with
            | true =>
              rw [hk] at h; cases h
              have hk0 : k = 0 := by simpa using hk
              subst hk0
              exact ⟨_, w, m, app_none hu hu' hd' hi hlen (hnil rfl) _ len cap' (by omega), Ext.refl m, fun A h1 h2 => absurd h1 h2, hr, .sl _ _ _ _ _ _ b d zz off cap' hA hc hexc ho hzz hl hd⟩
            | false =>
              rw [hk, cond_false] at h
              have hk0 : 0 < k := by
                rcases Nat.eq_zero_or_pos k with e | e
                · subst e; cases hk
                · exact e
              cases hkk : (Nat.beq sz i.size && Nat.ble (len + k) 1000000) with
              | false => rw [hkk] at h; cases h
              | true =>
                rw [hkk, cond_true] at h
                simp only [Bool.and_eq_true, Nat.ble_eq, Nat.beq_eq] at hkk
                obtain ⟨rfl, hlk⟩ := hkk
                cases hroom : Nat.ble (len + k) cap with
                | true =>
                  rw [hroom, cond_true] at h
                  have hroom' : len + k ≤ cap := by simpa using hroom
                  have ho' := ho (by omega)
                  unfold Zz.bnd at h
                  cases h2 : storeC A (j + len * i.size) new st1 with
                  | none => rw [h2] at h; cases h
                  | some q =>
                    obtain ⟨u2, st2⟩ := q
                    rw [h2] at h
                    cases h
                    obtain ⟨u3, w2, m2, g1, g2, g3, g4, _⟩ := storeC_ok (P := P) (ρ := ρ) (w0 := w0) (base := base) hq hA hlr st1 w u2 st' h2 hr hf
                    have hrun := app_room (P := P) (ty := ty) (off := off) (n := len) (cap := cap') hu hu' hd' hi hlen hnew (by omega) (by rw [ho', Nat.add_assoc]; exact g1)
                    exact ⟨_, w2, m2, hrun, g2, g3, g4, .sl _ _ _ _ _ _ b d zz off cap' (g2 _ _ hA) hc hexc ho hzz hroom' hd⟩
                | false =>
                  rw [hroom, cond_false] at h
                  have hroom' : ¬ len + k ≤ cap := fun h => by rw [show Nat.ble (len + k) cap = true from (by rw [Nat.ble_eq]; exact h)] at hroom; cases hroom
                  exact grow_end hq hu hu' hd' hi hz b1 hlen hnew hlr b5 b6 hvl hlk hr hf hA hc hexc ho hzz hl hd hroom' h
          | _ => cases h
end
end Go.Proofs.YtckmcajnhobkpaaGreatDoor.Zz
