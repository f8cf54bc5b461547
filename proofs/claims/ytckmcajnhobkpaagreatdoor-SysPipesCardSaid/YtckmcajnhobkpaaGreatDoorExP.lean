/- The executor: stores into maps, assertions, conversions, built-in functions. -/
import Derived.Test.YtckmcajnhobkpaaGreatDoorExO
set_option linter.unusedVariables false
set_option linter.unusedSimpArgs false
set_option linter.deprecated false
namespace Go.Proofs.YtckmcajnhobkpaaGreatDoor.Zz
open Go Go.RowKit

section
variable {P : Program} {ρ : Nat → Value} {w0 : World} {base : Nat} {m : BMap}
theorem findNow_at {d : TypeDesc} {u : Value} : ∀ {es : List MapEntry} {i j : Nat} {x : Value}, Instr.findNow d u es i = some (some (j, x)) → ∃ en, i ≤ j ∧ es[j - i]? = some en ∧ Instr.sameNow d u en.key = some true ∧ en.val = x
  | [], i, j, x, h => by cases h
  | e :: es, i, j, x, h => by
    unfold Instr.findNow at h
    cases hs : Instr.sameNow d u e.key with
    | none => rw [hs] at h; cases h
    | some b =>
      rw [hs] at h
      cases b with
      | true => cases h; exact ⟨e, Nat.le_refl _, by simp, hs, rfl⟩
      | false =>
        simp only at h
        obtain ⟨en, h1, h2, h3⟩ := findNow_at h
        exact ⟨en, by omega, by rw [show j - i = (j - (i + 1)) + 1 by omega]; simpa using h2, h3⟩
theorem sameNow_eq {d : TypeDesc} {u v : Value} (h : Instr.sameNow d u v = some true) : v = u := by
  unfold Instr.sameNow at h
  split at h
  · rename_i k a k' b
    split at h
    · rename_i hk
      subst hk
      simp at h; rw [h]
    · cases h
  · have h' := Option.some.inj h
    rw [beq_toListBytes, ByteArray.toList_eq, ByteArray.toList_eq, beq_iff_eq] at h'
    rw [ByteArray.ext (Array.ext' h')]
  · simp at h; rw [h]
  · cases h
theorem keyStays {d : TypeDesc} {u v : Value} (h : Instr.sameNow d u v = some true) (w : World) : (Instr.keyThatStays v u).run P w = .ok u w := by
  have hv := sameNow_eq h
  subst hv
  have hb : ∀ n, Instr.sameBits n v v = true := fun n => by
    unfold Instr.sameNow at h
    split at h <;> first | (cases h; done) | skip
    · simp [Instr.sameBits]
    · simp only [Instr.sameBits]; exact Option.some.inj h
    · simp [Instr.sameBits]
  simp [Instr.keyThatStays, hb]
theorem setObj_run {r : Nat} {es es' : Array MapEntry} {c c' : Nat} {w : World} (h : w.heap[r]? = some (.map es c)) : (Go.setObj r (.map es' c')).run P w = .ok () { w with heap := w.heap.setIfInBounds r (.map es' c') } := by
  simp [Go.setObj, Sem.run, h]
theorem setAt_get {α : Type} : ∀ (l : List α) (i j : Nat) (x : α), (setAt l i x)[j]? = if j = i ∧ i < l.length then some x else l[j]?
  | [], i, j, x => by simp [setAt]
  | y :: l, 0, j, x => by
    cases j with
    | zero => simp [setAt]
    | succ j => simp [setAt]
  | y :: l, i + 1, j, x => by
    cases j with
    | zero => simp [setAt]
    | succ j => simp [setAt, setAt_get l i j x]
theorem setAt_len {α : Type} : ∀ (l : List α) (i : Nat) (x : α), (setAt l i x).length = l.length
  | [], i, x => rfl
  | y :: l, 0, x => rfl
  | y :: l, i + 1, x => by simp [setAt, setAt_len l i x]
theorem wr_map {A b d z clk clk' : Nat} {es es2 : List (AV × AV × Nat)} {st1 st st' : ASt} {w : World} {u : Unit} {es' es2' : Array MapEntry} (hr : Rel ρ w0 base m st.heap.get w) (hA : st.heap.get A = some (.map es clk)) (hm : m A = some (b, d, z)) (h1 : st1.heap = st.heap) (h2 : st1.next = st.next)
    (h : wr A (.map es2 clk') st1 = some (u, st')) (hw : w.heap[b]? = some (.map es' clk)) (he : ER ρ m es2 es2'.toList) :
    Rel ρ w0 base m st'.heap.get { w with heap := w.heap.setIfInBounds b (.map es2' clk') } ∧ st'.next = st.next := by
  obtain ⟨g1, g2⟩ := wr_eq h
  have hlt : b < w.heap.size := by
    rcases Nat.lt_or_ge b w.heap.size with h' | h'
    · exact h'
    · rw [Array.getElem?_eq_none h'] at hw; cases hw
  refine ⟨?_, by rw [g2, h2]⟩
  rw [g1, h1, get_upd]
  refine hr.write hA hm rfl (fun k hk => ?_) (by simp) rfl rfl rfl ⟨es2', ?_, by simpa using he.1, fun i k v b hi => by simpa using he.2 i k v b hi⟩
  · show (w.heap.setIfInBounds b _)[k]? = _
    rw [Array.getElem?_setIfInBounds, if_neg (fun e => hk e.symm)]
  · show (w.heap.setIfInBounds b _)[b]? = _
    rw [Array.getElem?_setIfInBounds, if_pos rfl, if_pos hlt]
theorem mapUpA_ok {t : TypeId} {x k v : AV} {ux uk uv : Value} (hx : VR ρ m x ux) (hk : VR ρ m k uk) (hv : VR ρ m v uv) : Ok P ρ w0 base (fun _ _ (_ : Unit) => True) m (mapUpA P t x k v) (Instr.mapUpdate t ux uk uv) := by
  unfold mapUpA
  split
  · rename_i kt et A hu
    cases hx with | map _ b d2 z hA => _
    refine Ok.cond (fun hko => ?_) (fun _ => Ok.fail)
    obtain ⟨d, hd⟩ := keyOk_und hko
    intro st w a st' h hr hf
    obtain ⟨es, clk, st1, r1, r2, r3, h2⟩ := rdMap_eq (f := fun es clk => Zz.bnd (Zz.opt (findA k es 0)) fun r => (match r with
        | some (i, _) => (match es[i]? with
          | some (k', _, b) => wr A (.map (setAt es i (k', v, b)) clk)
          | none => Zz.fail)
        | none => wr A (.map (es ++ [(k, v, clk)]) (clk + 1)))) h
    obtain ⟨es', f3, he⟩ := rel_map hr r1 hA
    cases hfa : findA k es 0 with
    | none => rw [hfa] at h2; cases h2
    | some r =>
      rw [hfa] at h2
      simp only [Zz.bnd, Zz.opt, Zz.ret] at h2
      obtain ⟨r', g1, g2⟩ := findA_ok hd hko hk he hfa
      cases r with
      | some p =>
        obtain ⟨i, x0⟩ := p
        cases r' with
        | none => exact g2.elim
        | some p' =>
          obtain ⟨i', x'⟩ := p'
          simp only at g2 h2
          obtain ⟨rfl, g3, _, g4⟩ := g2
          obtain ⟨en, _, q1, q2, q3⟩ := findNow_at g1
          rw [Nat.sub_zero] at q1
          cases hei : es[i]? with
          | none => rw [hei] at h2; cases h2
          | some e0 =>
            obtain ⟨k', v0, b0⟩ := e0
            rw [hei] at h2
            simp only at h2
            obtain ⟨en', p1, p2, p3, p4⟩ := he.2 i k' v0 b0 hei
            rw [q1] at p1; cases p1
            have hkey := sameNow_eq q2
            have hER : ER ρ m (setAt es i (k', v, b0)) (es'.modify i fun e => { e with key := uk, val := uv }).toList := by
              refine ⟨by rw [setAt_len]; simpa using he.1, fun j kk vv bb hj => ?_⟩
              rw [setAt_get] at hj
              by_cases hji : j = i
              · subst hji
                have hlt : j < es.length := (List.getElem?_eq_some_iff.1 hei).1
                rw [if_pos ⟨rfl, hlt⟩] at hj
                cases hj
                refine ⟨{ en with key := uk, val := uv }, ?_, p2, by rw [← hkey]; exact p3, hv⟩
                have q1' : es'[j]? = some en := by simpa using q1
                simp [List.getElem?_modify, q1']
              · rw [if_neg (fun h => hji h.1)] at hj
                obtain ⟨en2, s1, s2⟩ := he.2 j kk vv bb hj
                refine ⟨en2, ?_, s2⟩
                have s1' : es'[j]? = some en2 := by simpa using s1
                simp [List.getElem?_modify, s1', Ne.symm hji]
            obtain ⟨t1, t2⟩ := wr_map hr r1 hA r2 r3 h2 f3 hER
            refine ⟨(), _, m, ?_, Ext.refl m, fun A h1 h2 => absurd h1 h2, t1, trivial⟩
            have q1' : es'[i]? = some en := by simpa using q1
            simp [Instr.mapUpdate, run_und hu, run_getMap f3, keyOk_run hko hk, run_findKey hd g1, q1', keyStays q2, setObj_run f3]
      | none =>
        cases r' with
        | some _ => exact g2.elim
        | none =>
          simp only at h2
          have hER : ER ρ m (es ++ [(k, v, clk)]) (es'.push { key := uk, val := uv, born := clk }).toList := by
            refine ⟨by simpa using he.1, fun j kk vv bb hj => ?_⟩
            have hl := he.1
            simp only [Array.length_toList] at hl
            rcases Nat.lt_or_ge j es.length with hj' | hj'
            · rw [List.getElem?_append_left hj'] at hj
              obtain ⟨en2, s1, s2⟩ := he.2 j kk vv bb hj
              refine ⟨en2, ?_, s2⟩
              rw [Array.toList_push, List.getElem?_append_left (by simp; omega)]; exact s1
            · rw [List.getElem?_append_right hj'] at hj
              have : j - es.length = 0 := by
                cases hq : j - es.length with
                | zero => rfl
                | succ q => rw [hq] at hj; simp at hj
              rw [this] at hj; cases hj
              refine ⟨{ key := uk, val := uv, born := clk }, ?_, rfl, hk, hv⟩
              rw [Array.toList_push, List.getElem?_append_right (by simp; omega)]
              rw [show j - es'.toList.length = 0 by simp; omega]; rfl
          obtain ⟨t1, t2⟩ := wr_map hr r1 hA r2 r3 h2 f3 hER
          refine ⟨(), _, m, ?_, Ext.refl m, fun A h1 h2 => absurd h1 h2, t1, trivial⟩
          simp [Instr.mapUpdate, run_und hu, run_getMap f3, keyOk_run hko hk, run_findKey hd g1, setObj_run f3]
  · exact Ok.fail
theorem ER.erase {es : List (AV × AV × Nat)} {es' : List MapEntry} (h : ER ρ m es es') (i : Nat) : ER ρ m (es.eraseIdx i) (es'.eraseIdx i) := by
  refine ⟨by simp [List.length_eraseIdx, h.1], fun j k v b hj => ?_⟩
  rw [List.getElem?_eraseIdx] at hj ⊢
  by_cases hji : j < i
  · rw [if_pos hji] at hj ⊢; exact h.2 j k v b hj
  · rw [if_neg hji] at hj ⊢; exact h.2 _ k v b hj
theorem deleteA_ok {t : TypeId} {x k : AV} {ux uk : Value} {ts : Array TypeId} {ty : TypeId} (hts : ts[0]? = some t) (hx : VR ρ m x ux) (hk : VR ρ m k uk) : Ok P ρ w0 base (VRr ρ) m (deleteA P t x k) (Builtin.delete_ ts ty #[ux, uk]) := by
  unfold deleteA
  split
  · rename_i kt et A hu
    cases hx with | map _ b d2 z hA => _
    refine Ok.cond (fun hko => ?_) (fun _ => Ok.fail)
    obtain ⟨d, hd⟩ := keyOk_und hko
    intro st w a st' h hr hf
    obtain ⟨es, clk, st1, r1, r2, r3, h2⟩ := rdMap_eq (f := fun es clk => Zz.bnd (Zz.opt (findA k es 0)) fun r => (match r with
        | some (i, _) => Zz.bnd (wr A (.map (es.eraseIdx i) clk)) fun _ => Zz.ret undefA
        | none => Zz.bnd (wr A (.map es clk)) fun _ => Zz.ret undefA)) h
    obtain ⟨es', f3, he⟩ := rel_map hr r1 hA
    cases hfa : findA k es 0 with
    | none => rw [hfa] at h2; cases h2
    | some r =>
      rw [hfa] at h2
      obtain ⟨r', g1, g2⟩ := findA_ok hd hko hk he hfa
      cases r with
      | some p =>
        obtain ⟨i, x0⟩ := p
        cases r' with
        | none => exact g2.elim
        | some p' =>
          obtain ⟨i', x'⟩ := p'
          simp only [Zz.bnd, Zz.opt, Zz.ret] at g2 h2
          obtain ⟨rfl, _⟩ := g2
          cases h3 : wr A (.map (es.eraseIdx i) clk) st1 with
          | none => rw [h3] at h2; cases h2
          | some q =>
            obtain ⟨u3, st3⟩ := q
            rw [h3] at h2; cases h2
            obtain ⟨t1, t2⟩ := wr_map (es2' := es'.eraseIdxIfInBounds i) hr r1 hA r2 r3 h3 f3 (by simpa using he.erase i)
            refine ⟨.tuple #[], _, m, ?_, Ext.refl m, fun A h1 h2 => absurd h1 h2, t1, .tup _ _ .nil⟩
            simp [Builtin.delete_, hts, run_und hu, run_getMap f3, keyOk_run hko hk, run_findKey hd g1, setObj_run f3]
      | none =>
        cases r' with
        | some _ => exact g2.elim
        | none =>
          simp only [Zz.bnd, Zz.opt, Zz.ret] at h2
          cases h3 : wr A (.map es clk) st1 with
          | none => rw [h3] at h2; cases h2
          | some q =>
            obtain ⟨u3, st3⟩ := q
            rw [h3] at h2; cases h2
            obtain ⟨t1, t2⟩ := wr_map (es2' := es') hr r1 hA r2 r3 h3 f3 he
            refine ⟨.tuple #[], _, m, ?_, Ext.refl m, fun A h1 h2 => absurd h1 h2, t1, .tup _ _ .nil⟩
            simp [Builtin.delete_, hts, run_und hu, run_getMap f3, keyOk_run hko hk, run_findKey hd g1, setObj_run f3]
  · exact Ok.fail
theorem assertA_ok {x : AV} {u : Value} {xt t : TypeId} {ok : Bool} (hx : VR ρ m x u) : Ok P ρ w0 base (VRr ρ) m (assertA P x t ok) (Instr.typeAssert u xt t ok) := by
  have miss : ∀ {s : Sem Value}, (∀ z w, (zeroValue t).run P w = .ok z w → ok = true → s.run P w = .ok (.tuple #[z, .bool false]) w) →
      Ok P ρ w0 base (VRr ρ) m (bif ok then Zz.bnd (Zz.opt (zeroT P t)) fun z => Zz.ret (.tup [z, .bool false]) else Zz.fail) s := fun {s} hs => by
    refine Ok.cond (fun hok => ?_) (fun _ => Ok.fail)
    refine Ok.opt (fun z hz => ?_)
    obtain ⟨zv, e1, e2⟩ := run_zero hz
    exact Ok.ret (fun w => hs zv w (e1 w) hok) (.tup _ _ (.cons _ _ _ _ (e2 ρ m) (.cons _ _ _ _ (.bool _) .nil)))
  unfold assertA
  split
  · rename_i want t' v hu
    cases hx with | ifc _ _ u1 h1 => _
    split
    · rename_i i hi
      split
      · rename_i hm
        refine Ok.ret (b := if ok then .tuple #[.iface t' u1, .bool true] else .iface t' u1) (fun w => ?_) ?_
        · cases ok <;> simp [Instr.typeAssert, run_und hu, run_info hi, hm]
        · cases ok
          · exact .ifc _ _ _ h1
          · exact .tup _ _ (.cons _ _ _ _ (.ifc _ _ _ h1) (.cons _ _ _ _ (.bool _) .nil))
      · rename_i mm hm
        exact miss (fun z w hz hok => by simp [Instr.typeAssert, run_und hu, run_info hi, hm, hz, hok])
    · exact Ok.fail
  · rename_i want hu
    cases hx
    exact miss (fun z w hz hok => by simp [Instr.typeAssert, run_und hu, hz, hok])
  · rename_i d hno hu
    cases hx
    refine miss (fun z w hz hok => ?_)
    cases d <;> first | exact (hno _ rfl).elim | simp [Instr.typeAssert, run_und hu, hz, hok]
  · rename_i d t' v hno hu
    cases hx with | ifc _ _ u1 h1 => _
    refine Ok.cond (fun htt => ?_) (fun htt => ?_)
    · have : t' = t := by simpa using htt
      subst this
      refine Ok.ret (b := if ok then .tuple #[u1, .bool true] else u1) (fun w => ?_) ?_
      · cases d <;> first | exact (hno _ rfl).elim | (cases ok <;> simp [Instr.typeAssert, run_und hu])
      · cases ok
        · exact h1
        · exact .tup _ _ (.cons _ _ _ _ h1 (.cons _ _ _ _ (.bool _) .nil))
    · have hne : t' ≠ t := by intro e; subst e; simp at htt
      refine miss (fun z w hz hok => ?_)
      cases d <;> first | exact (hno _ rfl).elim | simp [Instr.typeAssert, run_und hu, hz, hok, hne]
  · exact Ok.fail
end
end Go.Proofs.YtckmcajnhobkpaaGreatDoor.Zz
