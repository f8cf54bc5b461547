/- ExP ExQ ExR ExS ExT -/
import Derived.Test.YtbecmcjibpamoaaGreatDoorQ30
set_option linter.unusedVariables false
set_option linter.unusedSimpArgs false
set_option linter.deprecated false
set_option linter.unnecessarySimpa false
namespace Go.Proofs.YtbecmcjibpamoaaGreatDoor.Zz
open Go Go.RowKit
section
variable {P : Program} {ρ : Nat → Value} {w0 : World} {base : Nat} {m : BMap}
theorem findNow_at {d : TypeDesc} {u : Value} : ∀ {es : List MapEntry} {i j : Nat} {x : Value}, Instr.findNow d u es i = some (some (j, x)) → ∃ en, i ≤ j ∧ es[j - i]? = some en ∧ Instr.sameNow d u en.key = some true ∧ en.val = x
  | [], i, j, x, h => by cases h
  | e :: es, i, j, x, h => by
    unfold Instr.findNow at h
    cases hs : Instr.sameNow d u e.key with
    | none => rw [hs] at h; cases h
    | some b =>
      rw [hs] at h
      cases b with
      | true => cases h; exact ⟨e, Nat.le_refl _, by simp, hs, rfl⟩
      | false =>
        simp only at h
        obtain ⟨en, h1, h2, h3⟩ := findNow_at h
        exact ⟨en, by omega, by rw [show j - i = (j - (i + 1)) + 1 by omega]; simpa using h2, h3⟩
theorem sameNow_eq {d : TypeDesc} {u v : Value} (h : Instr.sameNow d u v = some true) : v = u := by
  unfold Instr.sameNow at h
  split at h
  · rename_i k a k' b
    split at h
    · rename_i hk
      subst hk
      simp at h; rw [h]
    · cases h
  · have h' := Option.some.inj h
    rw [beq_toListBytes, ByteArray.toList_eq, ByteArray.toList_eq, beq_iff_eq] at h'
    rw [ByteArray.ext (Array.ext' h')]
  · simp at h; rw [h]
  · cases h
theorem keyStays {d : TypeDesc} {u v : Value} (h : Instr.sameNow d u v = some true) (w : World) : (Instr.keyThatStays v u).run P w = .ok u w := by
  have hv := sameNow_eq h
  subst hv
  have hb : ∀ n, Instr.sameBits n v v = true := fun n => by
    unfold Instr.sameNow at h
    split at h <;> first | (cases h; done) | skip
    · simp [Instr.sameBits]
    · simp only [Instr.sameBits]; exact Option.some.inj h
    · simp [Instr.sameBits]
  simp [Instr.keyThatStays, hb]
theorem setObj_run {r : Nat} {es es' : Array MapEntry} {c c' : Nat} {w : World} (h : w.heap[r]? = some (.map es c)) : (Go.setObj r (.map es' c')).run P w = .ok () { w with heap := w.heap.setIfInBounds r (.map es' c') } := by
  simp [Go.setObj, Sem.run, h]
theorem setAt_get {α : Type} : ∀ (l : List α) (i j : Nat) (x : α), (setAt l i x)[j]? = if j = i ∧ i < l.length then some x else l[j]?
  | [], i, j, x => by simp [setAt]
  | y :: l, 0, j, x => by
    cases j with
    | zero => simp [setAt]
    | succ j => simp [setAt]
  | y :: l, i + 1, j, x => by
    cases j with
    | zero => simp [setAt]
    | succ j => simp [setAt, setAt_get l i j x]
theorem setAt_len {α : Type} : ∀ (l : List α) (i : Nat) (x : α), (setAt l i x).length = l.length
  | [], i, x => rfl
  | y :: l, 0, x => rfl
  | y :: l, i + 1, x => by simp [setAt, setAt_len l i x]
theorem wr_map {A b d z clk clk' : Nat} {es es2 : List (AV × AV × Nat)} {st1 st st' : ASt} {w : World} {u : Unit} {es' es2' : Array MapEntry} (hr : Rel ρ w0 base m st.heap.get w) (hA : st.heap.get A = some (.map es clk)) (hm : m A = some (b, d, z)) (h1 : st1.heap = st.heap) (h2 : st1.next = st.next)
    (h : wr A (.map es2 clk') st1 = some (u, st')) (hw : w.heap[b]? = some (.map es' clk)) (he : ER ρ m es2 es2'.toList) :
    Rel ρ w0 base m st'.heap.get { w with heap := w.heap.setIfInBounds b (.map es2' clk') } ∧ st'.next = st.next := by
  obtain ⟨g1, g2⟩ := wr_eq h
  have hlt : b < w.heap.size := by
    rcases Nat.lt_or_ge b w.heap.size with h' | h'
    · exact h'
    · rw [Array.getElem?_eq_none h'] at hw; cases hw
  refine ⟨?_, by rw [g2, h2]⟩
  rw [g1, h1, get_upd]
  refine hr.write hA hm rfl (fun k hk => ?_) (by simp) rfl rfl rfl ⟨es2', ?_, by simpa using he.1, fun i k v b hi => by simpa using he.2 i k v b hi⟩
  · show (w.heap.setIfInBounds b _)[k]? = _
    rw [Array.getElem?_setIfInBounds, if_neg (fun e => hk e.symm)]
  · show (w.heap.setIfInBounds b _)[b]? = _
    rw [Array.getElem?_setIfInBounds, if_pos rfl, if_pos hlt]
theorem mapUpA_ok {t : TypeId} {x k v : AV} {ux uk uv : Value} (hx : VR ρ m x ux) (hk : VR ρ m k uk) (hv : VR ρ m v uv) : Ok P ρ w0 base (fun _ _ (_ : Unit) => True) m (mapUpA P t x k v) (Instr.mapUpdate t ux uk uv) := by
  unfold mapUpA
  split
  · rename_i kt et A hu
    cases hx with | map _ b d2 z hA => _
    refine Ok.cond (fun hko => ?_) (fun _ => Ok.fail)
    obtain ⟨d, hd⟩ := keyOk_und hko
    intro st w a st' h hr hf
    obtain ⟨es, clk, st1, r1, r2, r3, h2⟩ := rdMap_eq (f := fun es clk => Zz.bnd (Zz.opt (findA k es 0)) fun r => (match r with
        | some (i, _) => (match es[i]? with
          | some (k', _, b) => wr A (.map (setAt es i (k', v, b)) clk)
          | none => Zz.fail)
        | none => wr A (.map (es ++ [(k, v, clk)]) (clk + 1)))) h
    obtain ⟨es', f3, he⟩ := rel_map hr r1 hA
    cases hfa : findA k es 0 with
    | none => rw [hfa] at h2; cases h2
    | some r =>
      rw [hfa] at h2
      simp only [Zz.bnd, Zz.opt, Zz.ret] at h2
      obtain ⟨r', g1, g2⟩ := findA_ok hd hko hk he hfa
      cases r with
      | some p =>
        obtain ⟨i, x0⟩ := p
        cases r' with
        | none => exact g2.elim
        | some p' =>
          obtain ⟨i', x'⟩ := p'
          simp only at g2 h2
          obtain ⟨rfl, g3, _, g4⟩ := g2
          obtain ⟨en, _, q1, q2, q3⟩ := findNow_at g1
          rw [Nat.sub_zero] at q1
          cases hei : es[i]? with
          | none => rw [hei] at h2; cases h2
          | some e0 =>
            obtain ⟨k', v0, b0⟩ := e0
            rw [hei] at h2
            simp only at h2
            obtain ⟨en', p1, p2, p3, p4⟩ := he.2 i k' v0 b0 hei
            rw [q1] at p1; cases p1
            have hkey := sameNow_eq q2
            have hER : ER ρ m (setAt es i (k', v, b0)) (es'.modify i fun e => { e with key := uk, val := uv }).toList := by
              refine ⟨by rw [setAt_len]; simpa using he.1, fun j kk vv bb hj => ?_⟩
              rw [setAt_get] at hj
              by_cases hji : j = i
              · subst hji
                have hlt : j < es.length := (List.getElem?_eq_some_iff.1 hei).1
                rw [if_pos ⟨rfl, hlt⟩] at hj
                cases hj
                refine ⟨{ en with key := uk, val := uv }, ?_, p2, by rw [← hkey]; exact p3, hv⟩
                have q1' : es'[j]? = some en := by simpa using q1
                simp [List.getElem?_modify, q1']
              · rw [if_neg (fun h => hji h.1)] at hj
                obtain ⟨en2, s1, s2⟩ := he.2 j kk vv bb hj
                refine ⟨en2, ?_, s2⟩
                have s1' : es'[j]? = some en2 := by simpa using s1
                simp [List.getElem?_modify, s1', Ne.symm hji]
            obtain ⟨t1, t2⟩ := wr_map hr r1 hA r2 r3 h2 f3 hER
            refine ⟨(), _, m, ?_, Ext.refl m, fun A h1 h2 => absurd h1 h2, t1, trivial⟩
            have q1' : es'[i]? = some en := by simpa using q1
            simp [Instr.mapUpdate, run_und hu, run_getMap f3, keyOk_run hko hk, run_findKey hd g1, q1', keyStays q2, setObj_run f3]
      | none =>
        cases r' with
        | some _ => exact g2.elim
        | none =>
          simp only at h2
          have hER : ER ρ m (es ++ [(k, v, clk)]) (es'.push { key := uk, val := uv, born := clk }).toList := by
            refine ⟨by simpa using he.1, fun j kk vv bb hj => ?_⟩
            have hl := he.1
            simp only [Array.length_toList] at hl
            rcases Nat.lt_or_ge j es.length with hj' | hj'
            · rw [List.getElem?_append_left hj'] at hj
              obtain ⟨en2, s1, s2⟩ := he.2 j kk vv bb hj
              refine ⟨en2, ?_, s2⟩
              rw [Array.toList_push, List.getElem?_append_left (by simp; omega)]; exact s1
            · rw [List.getElem?_append_right hj'] at hj
              have : j - es.length = 0 := by
                cases hq : j - es.length with
                | zero => rfl
                | succ q => rw [hq] at hj; simp at hj
              rw [this] at hj; cases hj
              refine ⟨{ key := uk, val := uv, born := clk }, ?_, rfl, hk, hv⟩
              rw [Array.toList_push, List.getElem?_append_right (by simp; omega)]
              rw [show j - es'.toList.length = 0 by simp; omega]; rfl
          obtain ⟨t1, t2⟩ := wr_map hr r1 hA r2 r3 h2 f3 hER
          refine ⟨(), _, m, ?_, Ext.refl m, fun A h1 h2 => absurd h1 h2, t1, trivial⟩
          simp [Instr.mapUpdate, run_und hu, run_getMap f3, keyOk_run hko hk, run_findKey hd g1, setObj_run f3]
  · exact Ok.fail
theorem ER.erase {es : List (AV × AV × Nat)} {es' : List MapEntry} (h : ER ρ m es es') (i : Nat) : ER ρ m (es.eraseIdx i) (es'.eraseIdx i) := by
  refine ⟨by simp [List.length_eraseIdx, h.1], fun j k v b hj => ?_⟩
  rw [List.getElem?_eraseIdx] at hj ⊢
  by_cases hji : j < i
  · rw [if_pos hji] at hj ⊢; exact h.2 j k v b hj
  · rw [if_neg hji] at hj ⊢; exact h.2 _ k v b hj
theorem deleteA_ok {t : TypeId} {x k : AV} {ux uk : Value} {ts : Array TypeId} {ty : TypeId} (hts : ts[0]? = some t) (hx : VR ρ m x ux) (hk : VR ρ m k uk) : Ok P ρ w0 base (VRr ρ) m (deleteA P t x k) (Builtin.delete_ ts ty #[ux, uk]) := by
  unfold deleteA
  split
  · rename_i kt et A hu
    cases hx with | map _ b d2 z hA => _
    refine Ok.cond (fun hko => ?_) (fun _ => Ok.fail)
    obtain ⟨d, hd⟩ := keyOk_und hko
    intro st w a st' h hr hf
    obtain ⟨es, clk, st1, r1, r2, r3, h2⟩ := rdMap_eq (f := fun es clk => Zz.bnd (Zz.opt (findA k es 0)) fun r => (match r with
        | some (i, _) => Zz.bnd (wr A (.map (es.eraseIdx i) clk)) fun _ => Zz.ret undefA
        | none => Zz.bnd (wr A (.map es clk)) fun _ => Zz.ret undefA)) h
    obtain ⟨es', f3, he⟩ := rel_map hr r1 hA
    cases hfa : findA k es 0 with
    | none => rw [hfa] at h2; cases h2
    | some r =>
      rw [hfa] at h2
      obtain ⟨r', g1, g2⟩ := findA_ok hd hko hk he hfa
      cases r with
      | some p =>
        obtain ⟨i, x0⟩ := p
        cases r' with
        | none => exact g2.elim
        | some p' =>
          obtain ⟨i', x'⟩ := p'
          simp only [Zz.bnd, Zz.opt, Zz.ret] at g2 h2
          obtain ⟨rfl, _⟩ := g2
          cases h3 : wr A (.map (es.eraseIdx i) clk) st1 with
          | none => rw [h3] at h2; cases h2
          | some q =>
            obtain ⟨u3, st3⟩ := q
            rw [h3] at h2; cases h2
            obtain ⟨t1, t2⟩ := wr_map (es2' := es'.eraseIdxIfInBounds i) hr r1 hA r2 r3 h3 f3 (by simpa using he.erase i)
            refine ⟨.tuple #[], _, m, ?_, Ext.refl m, fun A h1 h2 => absurd h1 h2, t1, .tup _ _ .nil⟩
            simp [Builtin.delete_, hts, run_und hu, run_getMap f3, keyOk_run hko hk, run_findKey hd g1, setObj_run f3]
      | none =>
        cases r' with
        | some _ => exact g2.elim
        | none =>
          simp only [Zz.bnd, Zz.opt, Zz.ret] at h2
          cases h3 : wr A (.map es clk) st1 with
          | none => rw [h3] at h2; cases h2
          | some q =>
            obtain ⟨u3, st3⟩ := q
            rw [h3] at h2; cases h2
            obtain ⟨t1, t2⟩ := wr_map (es2' := es') hr r1 hA r2 r3 h3 f3 he
            refine ⟨.tuple #[], _, m, ?_, Ext.refl m, fun A h1 h2 => absurd h1 h2, t1, .tup _ _ .nil⟩
            simp [Builtin.delete_, hts, run_und hu, run_getMap f3, keyOk_run hko hk, run_findKey hd g1, setObj_run f3]
  · exact Ok.fail
theorem assertA_ok {x : AV} {u : Value} {xt t : TypeId} {ok : Bool} (hx : VR ρ m x u) : Ok P ρ w0 base (VRr ρ) m (assertA P x t ok) (Instr.typeAssert u xt t ok) := by
  have miss : ∀ {s : Sem Value}, (∀ z w, (zeroValue t).run P w = .ok z w → ok = true → s.run P w = .ok (.tuple #[z, .bool false]) w) →
      Ok P ρ w0 base (VRr ρ) m (bif ok then Zz.bnd (Zz.opt (zeroT P t)) fun z => Zz.ret (.tup [z, .bool false]) else Zz.fail) s := fun {s} hs => by
    refine Ok.cond (fun hok => ?_) (fun _ => Ok.fail)
    refine Ok.opt (fun z hz => ?_)
    obtain ⟨zv, e1, e2⟩ := run_zero hz
    exact Ok.ret (fun w => hs zv w (e1 w) hok) (.tup _ _ (.cons _ _ _ _ (e2 ρ m) (.cons _ _ _ _ (.bool _) .nil)))
  unfold assertA
  split
  · rename_i want t' v hu
    cases hx with | ifc _ _ u1 h1 => _
    split
    · rename_i i hi
      split
      · rename_i hm
        refine Ok.ret (b := if ok then .tuple #[.iface t' u1, .bool true] else .iface t' u1) (fun w => ?_) ?_
        · cases ok <;> simp [Instr.typeAssert, run_und hu, run_info hi, hm]
        · cases ok
          · exact .ifc _ _ _ h1
          · exact .tup _ _ (.cons _ _ _ _ (.ifc _ _ _ h1) (.cons _ _ _ _ (.bool _) .nil))
      · rename_i mm hm
        exact miss (fun z w hz hok => by simp [Instr.typeAssert, run_und hu, run_info hi, hm, hz, hok])
    · exact Ok.fail
  · rename_i want hu
    cases hx
    exact miss (fun z w hz hok => by simp [Instr.typeAssert, run_und hu, hz, hok])
  · rename_i d hno hu
    cases hx
    refine miss (fun z w hz hok => ?_)
    cases d <;> first | exact (hno _ rfl).elim | simp [Instr.typeAssert, run_und hu, hz, hok]
  · rename_i d t' v hno hu
    cases hx with | ifc _ _ u1 h1 => _
    refine Ok.cond (fun htt => ?_) (fun htt => ?_)
    · have : t' = t := by simpa using htt
      subst this
      refine Ok.ret (b := if ok then .tuple #[u1, .bool true] else u1) (fun w => ?_) ?_
      · cases d <;> first | exact (hno _ rfl).elim | (cases ok <;> simp [Instr.typeAssert, run_und hu])
      · cases ok
        · exact h1
        · exact .tup _ _ (.cons _ _ _ _ h1 (.cons _ _ _ _ (.bool _) .nil))
    · have hne : t' ≠ t := by intro e; subst e; simp at htt
      refine miss (fun z w hz hok => ?_)
      cases d <;> first | exact (hno _ rfl).elim | simp [Instr.typeAssert, run_und hu, hz, hok, hne]
  · exact Ok.fail
end
end Go.Proofs.YtbecmcjibpamoaaGreatDoor.Zz
namespace Go.Proofs.YtbecmcjibpamoaaGreatDoor.Zz
open Go Go.RowKit
section
variable {P : Program} {ρ : Nat → Value} {w0 : World} {base : Nat} {m : BMap}
theorem bytesOf_ok : ∀ {l : List AV} {vs : List Value} {s : List UInt8}, bytesOf l = some s → LR ρ m l vs → ∃ ns : List Int, vs = ns.map (Value.int .u8) ∧ s = ns.map fun n => UInt8.ofNat n.toNat
  | [], vs, s, h, hl => by cases h; cases hl; exact ⟨[], rfl, rfl⟩
  | .int .u8 n :: l, vs, s, h, hl => by
    cases hl with
    | cons _ v _ r hv hr =>
      simp only [bytesOf] at h
      cases h1 : bytesOf l with
      | none => rw [h1] at h; cases h
      | some q =>
        rw [h1] at h; cases h
        cases hv
        obtain ⟨ns, e1, e2⟩ := bytesOf_ok h1 hr
        exact ⟨n :: ns, by rw [e1]; rfl, by rw [e2]; rfl⟩
  | .int .i8 n :: l, vs, s, h, hl => by cases h
  | .int .i16 n :: l, vs, s, h, hl => by cases h
  | .int .i32 n :: l, vs, s, h, hl => by cases h
  | .int .i64 n :: l, vs, s, h, hl => by cases h
  | .int .u16 n :: l, vs, s, h, hl => by cases h
  | .int .u32 n :: l, vs, s, h, hl => by cases h
  | .int .u64 n :: l, vs, s, h, hl => by cases h
  | .bool _ :: l, vs, s, h, hl => by cases h
  | .str _ :: l, vs, s, h, hl => by cases h
  | .ptr0 :: l, vs, s, h, hl => by cases h
  | .ptr _ _ :: l, vs, s, h, hl => by cases h
  | .sl0 :: l, vs, s, h, hl => by cases h
  | .sl _ _ _ _ _ _ :: l, vs, s, h, hl => by cases h
  | .map0 :: l, vs, s, h, hl => by cases h
  | .map _ :: l, vs, s, h, hl => by cases h
  | .fn _ _ _ :: l, vs, s, h, hl => by cases h
  | .fn0 :: l, vs, s, h, hl => by cases h
  | .ifc _ _ :: l, vs, s, h, hl => by cases h
  | .ifc0 :: l, vs, s, h, hl => by cases h
  | .agg _ :: l, vs, s, h, hl => by cases h
  | .tup _ :: l, vs, s, h, hl => by cases h
  | .opq _ :: l, vs, s, h, hl => by cases h
theorem push_fold : ∀ (ns : List Int) (s : List UInt8), ns.foldl (fun r n => r.push (UInt8.ofNat n.toNat)) (⟨s.toArray⟩ : ByteArray) = ⟨(s ++ ns.map fun n => UInt8.ofNat n.toNat).toArray⟩
  | [], s => by simp
  | n :: ns, s => by
    rw [List.foldl_cons]
    have : (ByteArray.mk s.toArray).push (UInt8.ofNat n.toNat) = ⟨(s ++ [UInt8.ofNat n.toNat]).toArray⟩ := by
      apply ByteArray.ext; simp [ByteArray.push]
    rw [this, push_fold ns]
    simp
theorem freeze_heap {w : World} {b o : Nat} {arr : Array Value} {e : TypeId} (h : w.heap[b]? = some (.cells arr e (0, 0))) : (w.freeze ⟨b, o, none⟩ 1).heap[b]? = some (.cells arr e (o, o + 1)) := by
  simp [World.freeze, Array.getElem?_modify, h]
theorem ints_ok (s : List UInt8) : LR ρ m (ints s) (s.map fun b => Value.int .u8 b.toNat) := by
  refine LR.of_get (by simp [ints]) (fun i a v ha hv => ?_)
  simp only [ints, List.getElem?_map] at ha hv
  cases hb : s[i]? with
  | none => rw [hb] at ha; cases ha
  | some b => rw [hb] at ha hv; cases ha; cases hv; exact .int _ _
theorem ints_one (s : List UInt8) : allOne (ints s) = true := by
  induction s with
  | nil => rfl
  | cons a s ih => simp only [ints, List.map_cons, allOne, oneA, Bool.true_and] at ih ⊢; exact ih
theorem strBytes_ok {e : TypeId} (s : List UInt8) : Ok P ρ w0 base (VRr ρ) m (Zz.bnd (nw (.cells (putL .lf 0 (ints s)) (ints s).length e 0 true)) fun A => Zz.ret (.sl A 0 s.length s.length 1 false)) (Conv.stringToBytes e ⟨s.toArray⟩) := by
  intro st w a st' h hr hf
  unfold Zz.bnd at h
  cases h1 : nw (.cells (putL .lf 0 (ints s)) (ints s).length e 0 true) st with
  | none => rw [h1] at h; cases h
  | some p =>
    obtain ⟨A, st1⟩ := p
    rw [h1] at h; cases h
    obtain ⟨rfl, e2, e3⟩ := nw_eq h1
    have hm : m st.next = none := hf _ (Nat.le_refl _) (by omega)
    have hsz : (ByteArray.mk s.toArray).size = s.length := by simp [ByteArray.size]
    have hge := grownCap_ge w s.length 0 e
    obtain ⟨arr, harr⟩ : ∃ arr : Array Value, arr = (s.map fun b => Value.int .u8 b.toNat).toArray ++ Array.replicate (grownCap w s.length 0 e - s.length) (.int .u8 0) := ⟨_, rfl⟩
    have hlen : (ints s).length = s.length := by simp [ints]
    have hasz : arr.size = grownCap w s.length 0 e := by rw [harr]; simp; omega
    have hrow := rel_row (e := e) (frz := 0) (l := ints s) (arr := arr) hr.drew hm (by
      rw [harr, Array.toList_append, hlen, List.take_append_of_le_length (by simp), List.take_of_length_le (by simp)]; exact ints_ok s) (ints_one s) (by rw [hasz, hlen]; exact hge)
    have hb := heap_new w.drew (.cells arr e)
    have hfz := freeze_heap (o := arr.size) hb
    have hrun : (Conv.stringToBytes e ⟨s.toArray⟩).run P w = .ok (.slice (some ⟨w.heap.size, 0, none⟩) s.length (grownCap w s.length 0 e)) ((w.drew.alloc (.cells arr e)).freeze ⟨w.heap.size, arr.size, none⟩ 1) := by
      have hs2 : (w.drew.alloc (.cells arr e)).shape? w.heap.size = some (e, arr.size) := by
        unfold World.shape?
        have : (w.drew.alloc (.cells arr e)).heap[w.heap.size]? = some (.cells arr e) := hb
        rw [this]
      have he : (List.map (fun b : UInt8 => Value.int IntKind.u8 b.toNat) s).toArray = (ByteArray.mk s.toArray).data.map fun b => Value.int .u8 b.toNat := by simp
      rw [he] at harr
      simp only [Conv.stringToBytes, hsz, Sem.run_bind, choose, Sem.run, Question.forced, Bool.false_eq_true, if_false, Result.andThen_ok]
      have hcut : Question.cut (.appendCap s.length 0 e) (w.tape w.drawn (.appendCap s.length 0 e)) = grownCap w s.length 0 e := rfl
      rw [hcut]
      simp only [newRow, newObj, Sem.run_bind, Sem.run, Result.andThen_ok, Sem.run_pure, ← harr]
      show Result.andThen (Sem.run P (markStringish ⟨w.heap.size, 0, none⟩) (w.drew.alloc (.cells arr e))) _ = _
      simp only [markStringish, shape, Sem.run_bind, Sem.run, hs2, Result.andThen_ok, freeze]
    refine ⟨_, _, mset m st.next (w.heap.size, 0, arr.size), hrun, mset_ext hm, fun A h1 h2 => ?_, ?_, ?_⟩
    · have := mset_dom h1 h2; omega
    · rw [e2, get_upd]
      have hrow' := hrow.write (A := st.next) (new := .cells (putL .lf 0 (ints s)) (ints s).length e 0 true) (w' := (w.drew.alloc (.cells arr e)).freeze ⟨w.heap.size, arr.size, none⟩ 1) (upd_same _ _ _) (mset_same _ _ _) rfl (fun k hk => by
        simp only [World.freeze, if_neg (show ¬ (1 = 0) by omega), Array.getElem?_modify]
        rw [if_neg (fun e => hk e.symm)]) (by simp [World.freeze]) (by simp [World.freeze]) (by simp [World.freeze]) (by simp [World.freeze]) ⟨arr, arr.size, arr.size + 1, hfz, rfl, by rw [hlen, hasz]; simpa using hge, fun j x hj => ?_, fun j _ hj => by have : j < arr.size := hj; omega, fun h => by cases h⟩
      · have : upd (upd st.heap.get st.next (.cells (putL .lf 0 (ints s)) (ints s).length e 0 true)) st.next (.cells (putL .lf 0 (ints s)) (ints s).length e 0 true) = upd st.heap.get st.next (.cells (putL .lf 0 (ints s)) (ints s).length e 0 true) := by
          funext B; unfold upd; split <;> rfl
        rw [this] at hrow'
        exact hrow'
      · obtain ⟨arr2, lo, hi, q1, q2, q3, q4, q5⟩ := rel_cells hrow (upd_same _ _ _) (mset_same _ _ _)
        have q1' : (w.drew.alloc (.cells arr e)).heap[w.drew.heap.size]? = some (.cells arr2 e (lo, hi)) := q1
        rw [hb] at q1'
        cases q1'
        exact q4 j x hj
    · exact .sl _ _ _ _ _ _ _ 0 _ _ _ (mset_same _ _ _) hge (fun h => by cases h) (fun _ => rfl) (by rw [hasz]; omega) (Nat.le_refl _) (Nat.le_refl _)
theorem cvtA_ok {src dst : TypeId} {x : AV} {u : Value} (hx : VR ρ m x u) : Ok P ρ w0 base (VRr ρ) m (cvtA P src dst x) (convert src dst u) := by
  unfold cvtA
  split
  · rename_i d k kk n hs hd
    cases hx
    rw [wrapA_eq]
    exact Ok.ret (fun w => by simp [convert, run_und hs, run_und hd, Conv.intToInt]) (.int _ _)
  · rename_i d s hs hd
    cases hx
    exact Ok.ret (fun w => by simp [convert, run_und hs, run_und hd]) (.str _)
  · rename_i d k n hs hd
    cases hx
    refine Ok.ret (b := .string (Utf8.encode n)) (fun w => by simp [convert, run_und hs, run_und hd, Conv.intToString]) ?_
    have := VR.str (ρ := ρ) (m := m) (Utf8.encode n).data.toList
    simpa using this
  · rename_i d e s hs hd
    cases hx
    split
    · rename_i he
      exact Ok.congr (fun w => by simp [convert, run_und hs, run_und hd, run_und he]) (strBytes_ok s)
    · exact Ok.fail
  · rename_i e hs hd
    cases hx
    split
    · rename_i he
      exact Ok.ret (b := .string ⟨[].toArray⟩) (fun w => by simp [convert, run_und hs, run_und hd, run_und he, Conv.bytesToString]; rfl) (.str [])
    · exact Ok.fail
  · rename_i e A i len cap sz ex hs hd
    split
    · rename_i he
      intro st w a st' h hr hf
      unfold Zz.bnd at h
      cases h1 : cellsIn 1 (.sl A i len cap sz ex) st with
      | none => rw [h1] at h; cases h
      | some p =>
        obtain ⟨⟨k, l⟩, st1⟩ := p
        rw [h1] at h
        simp only at h
        obtain ⟨vs, hlen, hnew0, hlr, hh, hn, hvl0⟩ := cellsIn_ok (P := P) h1 hr hx
        have hnew : ∀ w', w'.heap = w.heap → (Builtin.firstCells 1 k u).run P w' = .ok vs.toArray w' := fun w' hw => by
          have := hnew0 k w' (Nat.le_refl _) hw
          rwa [List.take_of_length_le (by omega)] at this
        clear hnew0 hvl0
        cases h2 : bytesOf l with
        | none => rw [h2] at h; cases h
        | some s =>
          rw [h2] at h
          cases h
          obtain ⟨ns, rfl, rfl⟩ := bytesOf_ok h2 hlr
          cases hx with | sl _ _ _ _ _ _ b d z off cap' hA hc hexc ho hz hl hd => _
          have hk : k = len := by
            have := hlen w
            simp [Builtin.lenOf] at this
            exact this.symm
          subst hk
          have hld := hnew w rfl
          simp only [Builtin.firstCells, Nat.mul_one] at hld
          have hrun := run_bytesToString (P := P) w ⟨b, off, none⟩ k cap' ns hld
          have hp := push_fold ns []
          refine ⟨.string ⟨(ns.map fun n => UInt8.ofNat n.toNat).toArray⟩, w, m, ?_, Ext.refl m, fun A h1 h2 => absurd h1 h2, by rw [hh]; exact hr, .str _⟩
          have hp' : ns.foldl (fun r n => r.push (UInt8.ofNat n.toNat)) ByteArray.empty = ⟨(ns.map fun n => UInt8.ofNat n.toNat).toArray⟩ := hp
          rw [← hp']
          simp only [convert, Sem.run_bind, run_und hs, Result.andThen_ok, run_und he]
          simp [run_und (show P.underlying dst = some .string by assumption), hrun, run_und he]
    · exact Ok.fail
  · exact Ok.fail
end
end Go.Proofs.YtbecmcjibpamoaaGreatDoor.Zz
namespace Go.Proofs.YtbecmcjibpamoaaGreatDoor.Zz
open Go Go.RowKit
section
variable {P : Program} {ρ : Nat → Value} {w0 : World} {base : Nat} {m : BMap}
theorem LR.two {x y : AV} {r : List Value} (h : LR ρ m [x, y] r) : ∃ u v, r = [u, v] ∧ VR ρ m x u ∧ VR ρ m y v := by
  cases h with | cons _ u _ r h1 hr => cases hr with | cons _ v _ r h2 hr => cases hr; exact ⟨u, v, rfl, h1, h2⟩
theorem LR.single {x : AV} {r : List Value} (h : LR ρ m [x] r) : ∃ u, r = [u] ∧ VR ρ m x u := by
  cases h with | cons _ u _ r h1 hr => cases hr; exact ⟨u, rfl, h1⟩
theorem arr_of {α : Type} {a : Array α} {l : List α} (h : a.toList = l) : a = l.toArray := by rw [← h]
theorem copy_ok {t e : TypeId} {ts : Array TypeId} {ty : TypeId} {d x : AV} {ud ux : Value} (hq : Opq ρ) (hts : ts[0]? = some t) (hu : P.underlying t = some (.slice e)) (hd : VR ρ m d ud) (hx : VR ρ m x ux) :
    Ok P ρ w0 base (VRr ρ) m (Zz.bnd (Zz.opt (sizeT P e)) fun n => Zz.bnd (cellsIn n x) fun p => copyFin d n p) (Builtin.copy_ ts ty #[ud, ux]) := by
  refine Ok.opt (fun n hn => ?_)
  intro st w a st' h hr hf
  unfold Zz.bnd at h
  cases h1 : cellsIn n x st with
  | none => rw [h1] at h; cases h
  | some p =>
    obtain ⟨⟨k, l⟩, st1⟩ := p
    rw [h1] at h
    simp only at h
    obtain ⟨vs, hlen, hnew, hlr, hh, hnx, hvl⟩ := cellsIn_ok (P := P) h1 hr hx
    have h0 := fun w' => hnew 0 w' (Nat.zero_le _)
    simp only [Nat.zero_mul, List.take_zero] at h0
    unfold copyFin at h
    cases hd with
    | sl0 =>
      cases h
      refine ⟨.int .i64 0, w, m, ?_, Ext.refl m, fun A h1 h2 => absurd h1 h2, by rw [hh]; exact hr, .int _ _⟩
      simp [Builtin.copy_, hts, run_und hu, hlen, run_size hn, h0 w rfl, goInt]
    | sl A i len cap sz ex b dd z off cap' hA hc hexc ho hz hl hdd =>
      simp only at h
      cases hl0 : Nat.beq len 0 with
      | true =>
        rw [hl0] at h; cases h
        have : len = 0 := by simpa using hl0
        subst this
        refine ⟨.int .i64 0, w, m, ?_, Ext.refl m, fun A h1 h2 => absurd h1 h2, by rw [hh]; exact hr, .int _ _⟩
        simp [Builtin.copy_, hts, run_und hu, hlen, run_size hn, h0 w rfl, goInt, storeCells]
      | false =>
        rw [hl0, cond_false] at h
        have hpos : 0 < len := by
          rcases Nat.eq_zero_or_pos len with e0 | e0
          · subst e0; cases hl0
          · exact e0
        cases hs : Nat.beq sz n with
        | false => rw [hs] at h; cases h
        | true =>
          rw [hs, cond_true] at h
          have hs' : sz = n := by simpa using hs
          subst hs'
          unfold Zz.bnd at h
          cases h2 : storeC A i (l.take (min k len * sz)) st1 with
          | none => rw [h2] at h; cases h
          | some q =>
            obtain ⟨u2, st2⟩ := q
            rw [h2] at h; cases h
            have ho' := ho (by omega)
            subst ho'
            rw [← hh] at hr
            rw [← hnx] at hf
            obtain ⟨u3, w2, m2, g1, g2, g3, g4, _⟩ := storeC_ok (P := P) (ρ := ρ) (w0 := w0) (base := base) hq hA (hlr.take (min k len * sz)) st1 w u2 st' h2 hr hf
            refine ⟨.int .i64 (min k len : Nat), w2, m2, ?_, g2, by rw [← hnx]; exact g3, g4, .int _ _⟩
            have hm := hnew (Nat.min k len) w (Nat.min_le_left _ _) rfl
            simp only [Builtin.copy_, List.getElem?_toArray, List.getElem?_cons_zero, List.getElem?_cons_succ, hts, Sem.run_bind, run_und hu, Result.andThen_ok, hlen, run_size hn, hm]
            rw [show (List.take (min k len * sz) vs) = List.take (Nat.min k len * sz) vs from rfl] at g1
            simp [g1, goInt]
    | _ => cases h
theorem built_ok {b : Builtin} {ts : Array TypeId} {ty : TypeId} {cs : Array Bool} {args : List AV} {us : Array Value} (hq : Opq ρ) (hl : LR ρ m args us.toList) : Ok P ρ w0 base (NVr ρ) m (builtA P b ts.toList args) (builtin b ts ty cs us) := by
  unfold builtA
  split
  · rename_i t t' s x hts
    obtain ⟨u, ux, hu2, h1, h2⟩ := hl.two
    obtain rfl := arr_of hu2
    obtain rfl := arr_of hts
    split
    · rename_i e d hu hu'
      exact vOk (append_ok hq hu hu' (.inr ⟨_, rfl⟩) h1 h2)
    · rename_i e hu hu'
      exact vOk (append_ok hq hu hu' (.inl rfl) h1 h2)
    · exact Ok.fail
  · rename_i t r x hts
    obtain ⟨u, hu2, h1⟩ := hl.single
    obtain rfl := arr_of hu2
    obtain rfl := arr_of hts
    refine vOk ?_
    split
    · rename_i s hu
      cases h1
      have hsz : (ByteArray.mk s.toArray).size = s.length := by simp [ByteArray.size]
      exact Ok.ret (fun w => by simp [Builtin.len_, run_und hu, hsz, goInt]) (.int _ _)
    · rename_i x n e hu
      exact Ok.ret (b := .int .i64 n) (fun w => by simp [Builtin.len_, run_und hu, goInt]) (.int _ _)
    · rename_i x a hu
      split
      · rename_i n e hu'
        exact Ok.ret (b := .int .i64 n) (fun w => by simp [Builtin.len_, run_und hu, run_und hu', goInt]) (.int _ _)
      · exact Ok.fail
    · rename_i e hu
      cases h1
      exact Ok.ret (b := .int .i64 0) (fun w => by simp [Builtin.len_, run_und hu, goInt]) (.int _ _)
    · rename_i e A i n cap sz ex hu
      cases h1
      exact Ok.ret (b := .int .i64 n) (fun w => by simp [Builtin.len_, run_und hu, goInt]) (.int _ _)
    · rename_i kt et hu
      cases h1
      exact Ok.ret (b := .int .i64 0) (fun w => by simp [Builtin.len_, run_und hu, goInt]) (.int _ _)
    · rename_i kt et A hu
      cases h1 with | map _ bb d2 z hA => _
      intro st w a st' h hr hf
      obtain ⟨es, clk, st1, r1, r2, r3, h2⟩ := rdMap_eq (f := fun es _ => Zz.ret (AV.int .i64 es.length)) h
      cases h2
      obtain ⟨es', f3, he⟩ := rel_map hr r1 hA
      have hl := he.1
      simp only [Array.length_toList] at hl
      refine ⟨.int .i64 es.length, w, m, ?_, Ext.refl m, fun A h1 h2 => absurd h1 h2, by rw [r2]; exact hr, .int _ _⟩
      simp [Builtin.len_, run_und hu, run_getMap f3, goInt, hl]
    · exact Ok.fail
  · rename_i t r d x hts
    obtain ⟨u, ux, hu2, h1, h2⟩ := hl.two
    obtain rfl := arr_of hu2
    obtain rfl := arr_of hts
    unfold copyA
    cases hu : P.underlying t with
    | none => exact Ok.fail
    | some dd =>
      cases dd with
      | slice e => exact vOk (copy_ok hq rfl hu h1 h2)
      | _ => exact Ok.fail
  · rename_i t r x k hts
    obtain ⟨u, ux, hu2, h1, h2⟩ := hl.two
    obtain rfl := arr_of hu2
    obtain rfl := arr_of hts
    exact vOk (deleteA_ok rfl h1 h2)
  · rename_i k a k' b
    obtain ⟨u, ux, hu2, h1, h2⟩ := hl.two
    obtain rfl := arr_of hu2
    cases h1; cases h2
    refine vOk (Ok.cond (fun h => ?_) (fun _ => Ok.fail))
    exact Ok.ret (fun w => by simp [Builtin.min_, Builtin.min2]) (.int _ _)
  · rename_i k a k' b
    obtain ⟨u, ux, hu2, h1, h2⟩ := hl.two
    obtain rfl := arr_of hu2
    cases h1; cases h2
    refine vOk (Ok.cond (fun h => ?_) (fun _ => Ok.fail))
    exact Ok.ret (fun w => by simp [Builtin.max_, Builtin.max2]) (.int _ _)
  · exact Ok.fail
end
end Go.Proofs.YtbecmcjibpamoaaGreatDoor.Zz
namespace Go.Proofs.YtbecmcjibpamoaaGreatDoor.Zz
open Go Go.RowKit
section
variable {P : Program} {ρ : Nat → Value} {w0 : World} {base : Nat} {m : BMap}
def isCall : Op → Bool
  | .call _ => true
  | _ => false
theorem nextStr (s : List UInt8) (pos : Nat) (c : UInt8) (h : s[pos]? = some c) (hc : c.toNat < 128) : Utf8.decode ⟨s.toArray⟩ pos = (c.toNat, 1) := by
  have hlt : pos < s.length := (List.getElem?_eq_some_iff.1 h).1
  have hg : (ByteArray.mk s.toArray).get! (pos + 0) = c := by
    show s.toArray[pos + 0]! = c
    rw [Nat.add_zero, getElem!_pos _ _ (by simpa using hlt)]
    have := (List.getElem?_eq_some_iff.1 h).2
    simpa using this
  unfold Utf8.decode
  simp only [hg]
  rw [if_pos (by simpa using hc)]
theorem bnd_eq {α β : Type} {x : M α} {f : α → M β} {st st' : ASt} {b : β} (h : Zz.bnd x f st = some (b, st')) : ∃ a s1, x st = some (a, s1) ∧ f a s1 = some (b, st') := by
  unfold Zz.bnd at h
  cases h1 : x st with
  | none => rw [h1] at h; cases h
  | some p => obtain ⟨a, s1⟩ := p; rw [h1] at h; exact ⟨a, s1, rfl, h⟩
theorem optb_eq {α β : Type} {o : Option α} {f : α → M β} {st st' : ASt} {b : β} (h : Zz.bnd (Zz.opt o) f st = some (b, st')) : ∃ a, o = some a ∧ f a st = some (b, st') := by
  cases o with
  | none => cases h
  | some a => exact ⟨a, rfl, h⟩
theorem lastN_eq : ∀ l : List Nat, lastN l = l.getLast?
  | [] => rfl
  | [x] => rfl
  | x :: y :: l => by
    show lastN (y :: l) = _
    rw [lastN_eq (y :: l), List.getLast?_cons_cons]
theorem born_find {n : Nat} {k u : AV} : ∀ (es : List (AV × AV × Nat)) (l : List MapEntry), es.length = l.length →
    (∀ (i : Nat) (k v : AV) (b : Nat), es[i]? = some (k, v, b) → ∃ en : MapEntry, l[i]? = some en ∧ en.born = b ∧ VR ρ m k en.key ∧ VR ρ m v en.val) → bornA (some n) es = some (k, u) →
    ∃ en : MapEntry, l.find? (fun x => x.born == n) = some en ∧ VR ρ m k en.key ∧ VR ρ m u en.val
  | [], l, hl, h, hb => by cases hb
  | (k0, u0, b0) :: es, [], hl, h, hb => by cases hl
  | (k0, u0, b0) :: es, en0 :: l, hl, h, hb => by
    unfold bornA at hb
    dsimp only at hb
    obtain ⟨en, q1, q2, q3, q4⟩ := h 0 k0 u0 b0 rfl
    cases q1
    cases hbb : Nat.beq b0 n with
    | true =>
      rw [hbb] at hb
      cases hb
      have : b0 = n := by simpa using hbb
      exact ⟨en0, by rw [List.find?_cons, show (en0.born == n) = true by simp [q2, this]], q3, q4⟩
    | false =>
      rw [hbb] at hb
      have : b0 ≠ n := by intro e; rw [e] at hbb; simp at hbb
      obtain ⟨en, r1, r2, r3⟩ := born_find es l (by simpa using hl) (fun i k v b hi => by simpa using h (i + 1) k v b (by simpa using hi)) hb
      exact ⟨en, by rw [List.find?_cons, show (en0.born == n) = false by simp [q2, this]]; exact r1, r2, r3⟩
theorem plain_ok {H : Hooks} {e : Ex} {o : Oper} {tm : Tm} {a : Act} (hq : Opq ρ) (ht : TmR ρ m tm a) (hc : isCall o.op = false) : Ok P ρ w0 base (NVr ρ) m (opA P H e o tm) (execOp a.eval o) := by
  obtain ⟨dst, op, ty, pos, after, guard⟩ := o
  unfold opA execOp
  cases op with
  | move x => exact Ok.optr (fun v hv => pOk (aval_ok hv ht))
  | assign x => exact Ok.optr (fun v hv => pOk (aval_ok hv ht))
  | pick c x y =>
    refine Ok.opt (fun v hv => ?_)
    have hv' := aval_ok hv ht
    simp only
    split
    · generalize hcv : a.eval c = cv at hv'
      cases hv'
      refine Ok.optr (fun u hu => ?_)
      exact Ok.ret (fun w => by simp [hcv, asBool]) (.inl ⟨_, rfl, aval_ok hu ht⟩)
    · generalize hcv : a.eval c = cv at hv'
      cases hv'
      refine Ok.optr (fun u hu => ?_)
      exact Ok.ret (fun w => by simp [hcv, asBool]) (.inl ⟨_, rfl, aval_ok hu ht⟩)
    · exact Ok.fail
  | alloc t =>
    refine Ok.opt (fun z hz => ?_)
    obtain ⟨zv, e1, e2⟩ := run_zero hz
    refine vOk (Ok.congr (fun w => ?_) (newVar_ok (t := t) hq (e2 ρ m)))
    simp [Instr.alloc, e1]
  | box t x =>
    refine Ok.opt (fun v hv => ?_)
    exact vOk (newVar_ok hq (aval_ok hv ht))
  | build t ps => exact vOk (build_ok hq ht)
  | buildSlice t len ps =>
    dsimp only
    split
    · rename_i el hu
      refine Ok.opt (fun n hn => Ok.opt (fun z hz => Ok.cond (fun hc => ?_) (fun _ => Ok.fail)))
      simp only [Bool.and_eq_true, Nat.ble_eq, Nat.beq_eq] at hc
      obtain ⟨⟨c1, c2⟩, c3⟩ := hc
      refine Ok.opt (fun l hl => Ok.opt (fun cs hcs => ?_))
      obtain ⟨zv, e1, e2⟩ := run_zero hz
      have hzr := (e2 ρ m).cells hq
      have hzl := hzr.length
      simp only [Array.length_toList] at hzl
      obtain ⟨g1, g2⟩ := arrPlaces_ok n ps.toList
      have hrep := repeat_ok hzr len (len * n) (by rw [c2]) (by omega)
      obtain ⟨r, f1, f2⟩ := parts_fill (place := fun i => some (i * n, n)) hq ht g1 (fun k i x hk => ⟨_, _, rfl, g2 k i x hk⟩) hl hrep hcs
      refine vOk (Ok.congr (s' := newRow el r >>= fun ad => pure (.slice (some ad) len len)) (fun w => ?_) ?_)
      · have hle : ¬ len * n > 2 ^ 24 := by omega
        by_cases h0 : len * n = 0
        · have hl0 : len = 0 := by
            rcases Nat.mul_eq_zero.1 h0 with h | h <;> omega
          subst hl0
          have hmp := map_pairs ps a.eval
          simp only [Nat.zero_mul] at f1
          have e0 : ∀ f : Nat → Value, (Array.range 0).map f = #[] := fun _ => by simp
          rw [e0] at f1
          simp [Instr.buildSlice, run_und hu, run_size hn]
          rw [e0, f1]
          simp
        · have hmp := map_pairs ps a.eval
          simp only [Instr.buildSlice, Sem.run_bind, run_und hu, Result.andThen_ok, run_size hn, hmp, if_neg hle, if_neg h0, e1, Sem.run_pure, f1]
      · refine Ok.bnd (Fr.newC _ _) (fun _ => Fr.ret _) (newC_ok f2) (fun A ad m' _ hA => ?_)
        obtain ⟨b, rfl, hm⟩ := hA
        have hrl := f2.length
        refine Ok.ret (b := .slice (some ⟨b, 0, none⟩) len len) (fun w => rfl) ?_
        have hcl : cs.length = len * n := by
          have := fillA_len hcs
          rw [this, repeatL_len, c2]
        refine .sl A 0 len len n true b 0 _ 0 len hm (Nat.le_refl _) (fun _ => rfl) (fun _ => rfl) ?_ (Nat.le_refl _) (Nat.le_refl _)
        simp only [Array.length_toList] at hrl
        omega
    · exact Ok.fail
  | insert t x y z =>
    refine Ok.opt (fun v hv => Ok.opt (fun k hk => Ok.opt (fun u hu => ?_)))
    exact uOk (Fr.mapUpA _ _ _ _ _) (mapUpA_ok (aval_ok hv ht) (aval_ok hk ht) (aval_ok hu ht))
  | mapUpdate t x y z =>
    refine Ok.opt (fun v hv => Ok.opt (fun k hk => Ok.opt (fun u hu => ?_)))
    exact uOk (Fr.mapUpA _ _ _ _ _) (mapUpA_ok (aval_ok hv ht) (aval_ok hk ht) (aval_ok hu ht))
  | load t x =>
    refine Ok.opt (fun v hv => ?_)
    have hv' := aval_ok hv ht
    simp only
    split
    · generalize hcv : a.eval x = cv at hv'
      cases hv' with | ptr A i b d z hA => _
      exact vOk (Ok.congr (fun w => by simp [Instr.loadAt, Instr.sureAddr]) (loadT_ok hA))
    · exact Ok.fail
  | store t x y =>
    refine Ok.opt (fun v hv => Ok.opt (fun u hu => ?_))
    have hv' := aval_ok hv ht
    simp only
    split
    · generalize hcv : a.eval x = cv at hv'
      cases hv' with | ptr A i b d z hA => _
      exact uOk (Fr.storeT _ _ _ _ _) (Ok.congr (fun w => by simp [Instr.storeAt, Instr.sureAddr]) (storeT_ok hq hA (aval_ok hu ht)))
    · exact Ok.fail
  | nilCheck x =>
    refine Ok.opt (fun v hv => ?_)
    have hv' := aval_ok hv ht
    simp only
    split
    · generalize hcv : a.eval x = cv at hv'
      cases hv' with | ptr _ _ b d z hA => exact pOk (.ptr _ _ b d z hA)
    · generalize hcv : a.eval x = cv at hv'
      cases hv' with | ifc _ _ uv h => exact pOk (.ifc _ _ uv h)
    · generalize hcv : a.eval x = cv at hv'
      cases hv' with | fn _ _ _ u v h1 h2 => exact pOk (.fn _ _ _ u v h1 h2)
    · exact Ok.fail
  | binOp bop t x y yt =>
    refine Ok.opt (fun v hv => Ok.opt (fun u hu => Ok.cond (fun hg => ?_) (fun _ => Ok.fail)))
    exact vOk (bin_ok hg (aval_ok hv ht) (aval_ok hu ht))
  | unOp uop t x =>
    refine Ok.opt (fun v hv => ?_)
    exact vOk (un_ok (aval_ok hv ht))
  | convert src dst x =>
    refine Ok.opt (fun v hv => ?_)
    exact vOk (cvtA_ok (aval_ok hv ht))
  | makeInterface t x =>
    refine Ok.opt (fun v hv => ?_)
    simp only
    split
    · exact Ok.fail
    · rename_i d hno hu
      refine vOk (Ok.ret (b := .iface t (a.eval x)) (fun w => ?_) (.ifc _ _ _ (aval_ok hv ht)))
      cases d <;> first | exact (hno _ rfl).elim | simp [Instr.makeInterface, run_und hu]
    · exact Ok.fail
  | makeFunc f x y =>
    refine Ok.opt (fun u hu => Ok.opt (fun v hv => ?_))
    refine vOk (Ok.ret (b := .func f (x.map a.eval) (y.map a.eval)) (fun w => rfl) (.fn _ _ _ _ _ ?_ ?_))
    · rw [Array.toList_map]; exact avals_ok ht hu
    · rw [Array.toList_map]; exact avals_ok ht hv
  | makeMap t r =>
    have key : ∀ s : Sem Value, (∀ w, s.run P w = .ok (.map (some w.heap.size)) (w.alloc (.map #[] 0))) → Ok P ρ w0 base (VRr ρ) m (Zz.bnd (nw (.map [] 0)) fun A => Zz.ret (.map A)) s := fun s hs st w a' st' h hr hf => by
      unfold Zz.bnd at h
      cases h1 : nw (.map [] 0) st with
      | none => rw [h1] at h; cases h
      | some p =>
        obtain ⟨A, st1⟩ := p
        rw [h1] at h; cases h
        obtain ⟨rfl, e2, e3⟩ := nw_eq h1
        have hm : m st.next = none := hf _ (Nat.le_refl _) (by omega)
        refine ⟨_, _, mset m st.next (w.heap.size, 0, 0), hs w, mset_ext hm, fun A h1 h2 => ?_, ?_, .map _ _ 0 0 (mset_same _ _ _)⟩
        · have := mset_dom h1 h2; omega
        · rw [e2, get_upd]
          exact hr.new hm ⟨#[], heap_new w _, rfl, fun i k v b hi => by cases hi⟩
    cases r with
    | none => exact vOk (key _ (fun w => by simp [Instr.makeMap, newObj, Sem.run]))
    | some x =>
      refine Ok.opt (fun v hv => ?_)
      have hv' := aval_ok hv ht
      simp only
      split
      · rename_i kt et k n hu
        generalize hcv : a.eval x = cv at hv'
        cases hv'
        exact vOk (key _ (fun w => by simp [Instr.makeMap, newObj, Sem.run, hcv, run_und hu, Go.asInt, asIntOf]))
      · exact Ok.fail
  | makeSlice t l c =>
    refine Ok.opt (fun lv hl => Ok.opt (fun cv hc => ?_))
    refine asNat_ok (aval_ok hl ht) (fun k1 n1 h1 => asNat_ok (aval_ok hc ht) (fun k2 n2 h2 => ?_))
    split
    · rename_i el hu
      refine Ok.opt (fun n hn => Ok.opt (fun z hz => Ok.cond (fun hcc => ?_) (fun _ => Ok.fail)))
      simp only [Bool.and_eq_true, Nat.ble_eq, Nat.beq_eq] at hcc
      obtain ⟨⟨⟨⟨c1, c2⟩, c3⟩, c4⟩, c5⟩ := hcc
      obtain ⟨zv, e1, e2⟩ := run_zero hz
      have hzr := (e2 ρ m).cells hq
      have hzl := hzr.length
      simp only [Array.length_toList] at hzl
      have hrep := repeat_ok hzr n2 (n2 * n) (by rw [c2]) (by omega)
      have hinfo : ∃ i, P.info? el = some i ∧ i.size = n := by
        unfold sizeT at hn
        cases hi : P.info? el with
        | none => rw [hi] at hn; cases hn
        | some i => rw [hi] at hn; cases hn; exact ⟨i, rfl, rfl⟩
      obtain ⟨i, hi, hsz⟩ := hinfo
      have hby : i.bytes ≤ 65536 := by
        have : P.bytesOf el = i.bytes := by simp [Program.bytesOf, hi]
        omega
      refine vOk (Ok.congr (s' := newRow el ((Array.range (n2 * n)).map (zv.cells[· % zv.cells.size]!)) >>= fun ad => pure (.slice (some ad) n1 n2)) (fun w => ?_) ?_)
      · have hw1 : IntKind.i64.wrap (n1 : Int) = n1 := by
          have := wrapA_eq .i64 (n1 : Int)
          rw [← this]; unfold wrapA inK
          have : Nat.blt n1 9223372036854775808 = true := by rw [Nat.blt_eq]; omega
          simp [this]
        have hw2 : IntKind.i64.wrap (n2 : Int) = n2 := by
          have := wrapA_eq .i64 (n2 : Int)
          rw [← this]; unfold wrapA inK
          have : Nat.blt n2 9223372036854775808 = true := by rw [Nat.blt_eq]; omega
          simp [this]
        have hbig : ¬ ((i.bytes : Int) * (n2 : Int) > 2 ^ 48) := by
          have h3 : i.bytes * n2 ≤ 65536 * 65536 := Nat.mul_le_mul hby c4
          have : ((i.bytes * n2 : Nat) : Int) = (i.bytes : Int) * (n2 : Int) := by push_cast; rfl
          rw [← this]; omega
        have hbig2 : ¬ ((i.bytes : Int) * (n1 : Int) > 2 ^ 48) := by
          have h3 : i.bytes * n1 ≤ 65536 * 65536 := Nat.mul_le_mul hby (by omega)
          have : ((i.bytes * n1 : Nat) : Int) = (i.bytes : Int) * (n1 : Int) := by push_cast; rfl
          rw [← this]; omega
        have hroom : ∀ w, (askRoom (n2 * i.bytes)).run P w = .ok () w := fun w => by
          unfold askRoom
          split
          · simp [mark, Sem.run]
          · rfl
        have hlc : ¬ (n1 : Int) > (n2 : Int) := by omega
        have hn1 : ¬ (n1 : Int) < 0 := by omega
        have hn2 : ¬ (n2 : Int) < 0 := by omega
        simp only [Instr.makeSlice, Sem.run_bind, run_und hu, Result.andThen_ok, h1, h2, Go.asInt, asIntOf, Sem.run_pure, run_info hi, hw1, hw2]
        simp only [decide_eq_false hbig, decide_eq_false hn1, decide_eq_false hn2, decide_eq_false hlc, Bool.or_false, Bool.false_eq_true, if_false, Int.toNat_natCast, Sem.run_bind, hroom, Result.andThen_ok, run_size hn, run_info hi]
        by_cases h0 : n2 * n = 0
        · have hl0 : n2 = 0 := by
            rcases Nat.mul_eq_zero.1 h0 with h | h <;> omega
          subst hl0
          have e0 : ∀ f : Nat → Value, (Array.range 0).map f = #[] := fun _ => by simp
          simp [e0]
        · simp only [if_neg h0, e1, Result.andThen_ok, Sem.run_bind, Sem.run_pure]
      · refine Ok.bnd (Fr.newR _ _ _) (fun _ => Fr.ret _) (newR_ok hrep) (fun A ad m' _ hA => ?_)
        obtain ⟨b, rfl, hm⟩ := hA
        refine Ok.ret (b := .slice (some ⟨b, 0, none⟩) n1 n2) (fun w => rfl) ?_
        exact .sl A 0 n1 n2 n true b 0 _ 0 n2 hm (Nat.le_refl _) (fun _ => rfl) (fun _ => rfl) (by simp) c3 (Nat.le_refl _)
    · exact Ok.fail
  | slice t x lo hi mx =>
    refine Ok.opt (fun v hv => Ok.opt (fun l hl => Ok.opt (fun h hh => Ok.opt (fun k hk => ?_))))
    exact vOk (slice_ok (aval_ok hv ht) (oAval_ok hl ht) (oAval_ok hh ht) (oAval_ok hk ht))
  | fieldAddr t x f =>
    refine Ok.opt (fun v hv => ?_)
    have hv' := aval_ok hv ht
    simp only
    split
    · rename_i fs A i hu
      generalize hcv : a.eval x = cv at hv'
      cases hv' with | ptr _ _ b d z hA => _
      split
      · rename_i fd hfd
        split
        · rename_i q hsz
          refine vOk (Ok.ret (b := .pointer (some ⟨b, d + (i + fd.offset), none⟩)) (fun w => ?_) (.ptr _ _ b d z hA))
          simp [Instr.fieldAt, run_und hu, hfd, Instr.sureAddr, fieldPlace, run_size hsz, add_mk', Nat.add_assoc]
        · exact Ok.fail
      · exact Ok.fail
    · exact Ok.fail
  | field t x f =>
    refine Ok.opt (fun v hv => ?_)
    have hv' := aval_ok hv ht
    simp only
    split
    · rename_i fs l hu
      generalize hcv : a.eval x = cv at hv'
      cases hv' with | agg _ u h => _
      split
      · rename_i fd hfd
        exact vOk (Ok.congr (fun w => by simp [Instr.field, run_und hu, hfd, asAgg]) (partT_ok h))
      · exact Ok.fail
    · exact Ok.fail
  | indexAddr t x y =>
    refine Ok.opt (fun v hv => Ok.opt (fun j hj => ?_))
    have hv' := aval_ok hv ht
    refine asNat_ok (aval_ok hj ht) (fun k1 j h1 => ?_)
    simp only
    split
    · rename_i n el A i hu
      generalize hcv : a.eval x = cv at hv'
      cases hv' with | ptr _ _ b d z hA => _
      refine Ok.opt (fun q hq2 => Ok.cond (fun hlt => ?_) (fun _ => Ok.fail))
      have hlt' : j < n := by simpa using hlt
      have hlt2 : ¬ n ≤ j := by omega
      refine vOk (Ok.ret (b := .pointer (some ⟨b, d + (i + j * q), none⟩)) (fun w => ?_) (.ptr _ _ b d z hA))
      simp [Instr.indexAt, h1, asIntOf, run_und hu, Instr.sureAddr, hlt2, run_size hq2, add_mk', Nat.add_assoc]
    · rename_i el A i len cap sz ex hu
      generalize hcv : a.eval x = cv at hv'
      cases hv' with | sl _ _ _ _ _ _ b d z off cap' hA hc hexc ho hz hl hd => _
      refine Ok.opt (fun q hq2 => Ok.cond (fun hlt => ?_) (fun _ => Ok.fail))
      simp only [Bool.and_eq_true, Nat.blt_eq, Nat.beq_eq] at hlt
      obtain ⟨g1, rfl⟩ := hlt
      have hlt2 : ¬ len ≤ j := by omega
      have ho' := ho (by omega)
      subst ho'
      refine vOk (Ok.ret (b := .pointer (some ⟨b, d + (i + j * q), none⟩)) (fun w => ?_) (.ptr _ _ b d z hA))
      simp [Instr.indexAt, h1, asIntOf, run_und hu, hlt2, run_size hq2, add_mk', Nat.add_assoc]
    · exact Ok.fail
  | index t x y =>
    refine Ok.opt (fun v hv => Ok.opt (fun j hj => ?_))
    have hv' := aval_ok hv ht
    refine asNat_ok (aval_ok hj ht) (fun k1 j h1 => ?_)
    simp only
    split
    · rename_i n el l hu
      generalize hcv : a.eval x = cv at hv'
      cases hv' with | agg _ u h => _
      refine Ok.opt (fun q hq2 => Ok.cond (fun hlt => ?_) (fun _ => Ok.fail))
      have hlt' : j < n := by simpa using hlt
      have hlt2 : ¬ n ≤ j := by omega
      exact vOk (Ok.congr (fun w => by simp [Instr.index, h1, asIntOf, run_und hu, hlt2, run_size hq2]) (partT_ok h))
    · rename_i s hu
      generalize hcv : a.eval x = cv at hv'
      cases hv'
      split
      · rename_i b hb
        refine vOk (Ok.ret (b := .int .u8 b.toNat) (fun w => ?_) (.int _ _))
        have hlt : j < s.length := (List.getElem?_eq_some_iff.1 hb).1
        have hget : (ByteArray.mk s.toArray)[j]? = some b := by
          have hsz : j < (ByteArray.mk s.toArray).size := by simpa [ByteArray.size] using hlt
          rw [getElem?_pos (ByteArray.mk s.toArray) j hsz]
          have := (List.getElem?_eq_some_iff.1 hb).2
          show some (s.toArray[j]'(by simpa using hlt)) = some b
          simpa using this
        simp [Instr.index, h1, asIntOf, run_und hu, hget]
      · exact Ok.fail
    · exact Ok.fail
  | lookup t x y ok =>
    refine Ok.opt (fun v hv => Ok.opt (fun k hk => ?_))
    exact vOk (lookA_ok (aval_ok hv ht) (aval_ok hk ht))
  | range t x =>
    refine Ok.opt (fun v hv => ?_)
    have hv' := aval_ok hv ht
    simp only
    split
    · rename_i s hu
      generalize hcv : a.eval x = cv at hv'
      cases hv'
      refine vOk (fun st w a' st' h hr hf => ?_)
      unfold Zz.bnd at h
      cases h1 : nw (.siter s 0) st with
      | none => rw [h1] at h; cases h
      | some p =>
        obtain ⟨A, st1⟩ := p
        rw [h1] at h; cases h
        obtain ⟨rfl, e2, e3⟩ := nw_eq h1
        have hm : m st.next = none := hf _ (Nat.le_refl _) (by omega)
        refine ⟨.pointer (some ⟨w.heap.size, 0, none⟩), w.alloc (.stringIter ⟨s.toArray⟩ 0), mset m st.next (w.heap.size, 0, 0), ?_, mset_ext hm, fun A h1 h2 => ?_, ?_, .ptr _ 0 _ 0 0 (mset_same _ _ _)⟩
        · simp [Instr.range, run_und hu, newObj, Sem.run]
        · have := mset_dom h1 h2; omega
        · rw [e2, get_upd]
          exact hr.new hm ⟨rfl, heap_new w _⟩
    · rename_i kt et hu
      generalize hcv : a.eval x = cv at hv'
      cases hv'
      refine vOk (fun st w a' st' h hr hf => ?_)
      unfold Zz.bnd at h
      cases h1 : nw (.miter none 0 [] 0) st with
      | none => rw [h1] at h; cases h
      | some p =>
        obtain ⟨A, st1⟩ := p
        rw [h1] at h; cases h
        obtain ⟨rfl, e2, e3⟩ := nw_eq h1
        have hm : m st.next = none := hf _ (Nat.le_refl _) (by omega)
        refine ⟨.pointer (some ⟨w.heap.size, 0, none⟩), w.alloc (.mapIter none 0 #[] 0), mset m st.next (w.heap.size, 0, 0), ?_, mset_ext hm, fun A h1 h2 => ?_, ?_, .ptr _ 0 _ 0 0 (mset_same _ _ _)⟩
        · simp [Instr.range, run_und hu, newObj, Sem.run]
        · have := mset_dom h1 h2; omega
        · rw [e2, get_upd]
          exact hr.new hm ⟨rfl, none, rfl, heap_new w _⟩
    · rename_i kt et mA hu
      generalize hcv : a.eval x = cv at hv'
      cases hv' with | map _ b d z hA => _
      refine vOk (Ok.rd (fun blk st w a' st' h hB hr hf => ?_))
      cases blk with
      | map es clk =>
        simp only at h
        obtain ⟨p, f1, f2, f3⟩ := hr.blk mA _ hB
        rw [hA] at f1; cases f1
        obtain ⟨es', g1, g2, g3⟩ := f3
        unfold Zz.bnd at h
        cases h1 : nw (.miter (some mA) clk [] clk) st with
        | none => rw [h1] at h; cases h
        | some p =>
          obtain ⟨A, st1⟩ := p
          rw [h1] at h; cases h
          obtain ⟨rfl, e2, e3⟩ := nw_eq h1
          have hm : m st.next = none := hf _ (Nat.le_refl _) (by omega)
          refine ⟨.pointer (some ⟨w.heap.size, 0, none⟩), w.alloc (.mapIter (some b) clk #[] clk), mset m st.next (w.heap.size, 0, 0), ?_, mset_ext hm, fun A h1 h2 => ?_, ?_, .ptr _ 0 _ 0 0 (mset_same _ _ _)⟩
          · simp [Instr.range, run_und hu, newObj, Go.getObj, g1, Sem.run]
          · have := mset_dom h1 h2; omega
          · rw [e2, get_upd]
            exact hr.new hm ⟨rfl, some b, ⟨_, mset_ext hm _ _ hA, rfl⟩, heap_new w _⟩
      | _ => cases h
    · exact Ok.fail
  | entry x =>
    refine Ok.opt (fun v hv => ?_)
    have hv' := aval_ok hv ht
    simp only
    split
    · rename_i A
      generalize hcv : a.eval x = cv at hv'
      cases hv' with | ptr _ _ b d z hA => _
      refine vOk (Ok.rd (fun blk st w a' st' h hB hr hf => ?_))
      cases blk with
      | miter am since seen last =>
        obtain ⟨p, f1, f2, f3, r, f4, f5⟩ := hr.blk A _ hB
        rw [hA] at f1; cases f1
        simp only at f3 f5
        subst f3
        cases am with
        | none => cases h
        | some mA =>
          obtain ⟨q, k1, rfl⟩ := f4
          simp only at h
          obtain ⟨blk, s1, h1, h2⟩ := bnd_eq h
          obtain ⟨e1, e2, e3⟩ := rd_eq h1
          cases blk with
          | map es clk =>
            simp only at h2
            cases hck : Nat.beq clk last with
            | false => rw [hck] at h2; cases h2
            | true =>
              rw [hck, cond_true] at h2
              have hcl : clk = last := by simpa using hck
              obtain ⟨ku, hku, h3⟩ := optb_eq h2
              obtain ⟨k, u⟩ := ku
              cases h3
              obtain ⟨p', k1', k2', es', k3, k4, k5⟩ := hr.blk mA _ e1
              rw [k1] at k1'; cases k1'
              cases hln : lastN seen with
              | none => rw [hln] at hku; unfold bornA at hku; cases hku
              | some nb =>
                rw [hln] at hku
                obtain ⟨en, j1, j2, j3⟩ := born_find es es'.toList (by simpa using k4) (fun i k v b hi => by
                  obtain ⟨en, q1, q2, q3, q4⟩ := k5 i k v b hi
                  exact ⟨en, by simpa using q1, q2, q3, q4⟩) hku
                have hback : seen.toArray.back? = some nb := by rw [List.back?_toArray, ← lastN_eq]; exact hln
                have hfind : es'.find? (fun x => x.born == nb) = some en := by rw [← Array.find?_toList]; exact j1
                refine ⟨.tuple #[en.key, en.val], w, m, ?_, Ext.refl m, fun A h1 h2 => absurd h1 h2, (by rw [e2]; exact hr), .tup _ _ (.cons _ _ _ _ j2 (.cons _ _ _ _ j3 .nil))⟩
                subst hcl
                simp [Instr.entry, Go.getObj, Sem.run, f5, k3, hback, hfind]
          | _ => cases h2
      | _ => cases h
    · exact Ok.fail
  | next x isS =>
    cases isS with
    | false =>
      refine Ok.opt (fun v hv => ?_)
      simp only
      split
      · refine vOk (Ok.rd (fun blk st w a' st' h hB hr hf => ?_))
        cases blk with
        | mforce am since seen last c clk =>
          obtain ⟨p, f1, f2, f3⟩ := hr.blk _ _ hB
          cases f3
        | _ => cases h
      · exact Ok.fail
    | true =>
      refine Ok.opt (fun v hv => ?_)
      have hv' := aval_ok hv ht
      simp only
      split
      · rename_i A
        generalize hcv : a.eval x = cv at hv'
        cases hv' with | ptr _ _ b d z hA => _
        refine vOk (Ok.rd (fun blk st w a' st' h hB hr hf => ?_))
        cases blk with
        | siter s pos =>
          simp only at h
          obtain ⟨p, f1, f2, f3, f4⟩ := hr.blk A _ hB
          rw [hA] at f1; cases f1
          simp only at f3 f4
          subst f3
          have hsz : (ByteArray.mk s.toArray).size = s.length := by simp [ByteArray.size]
          cases hp : s[pos]? with
          | none =>
            rw [hp] at h; cases h
            have hge : ¬ pos < s.length := fun hlt => by rw [List.getElem?_eq_getElem hlt] at hp; cases hp
            refine ⟨.tuple #[.bool false], w, m, ?_, Ext.refl m, fun A h1 h2 => absurd h1 h2, hr, .tup _ _ (.cons _ _ _ _ (.bool _) .nil)⟩
            simp [Instr.next, Go.getObj, Sem.run, f4, hsz, hge]
          | some c =>
            rw [hp] at h
            simp only at h
            cases hc2 : Nat.blt c.toNat 128 with
            | false => rw [hc2] at h; cases h
            | true =>
              rw [hc2, cond_true] at h
              have hc3 : c.toNat < 128 := by simpa using hc2
              have hlt : pos < s.length := (List.getElem?_eq_some_iff.1 hp).1
              have hdec := nextStr s pos c hp hc3
              unfold Zz.bnd at h
              cases h1 : wr A (.siter s (pos + 1)) st with
              | none => rw [h1] at h; cases h
              | some q =>
                obtain ⟨u, st1⟩ := q
                rw [h1] at h; cases h
                obtain ⟨g1, g2⟩ := wr_eq h1
                have hbl : b < w.heap.size := by
                  rcases Nat.lt_or_ge b w.heap.size with h' | h'
                  · exact h'
                  · rw [Array.getElem?_eq_none h'] at f4; cases f4
                refine ⟨.tuple #[.bool true, goInt pos, .int .i32 c.toNat], { w with heap := w.heap.setIfInBounds b (.stringIter ⟨s.toArray⟩ (pos + 1)) }, m, ?_, Ext.refl m, fun A h1 h2 => absurd h1 h2, ?_, .tup _ _ (.cons _ _ _ _ (.bool _) (.cons _ _ _ _ (.int _ _) (.cons _ _ _ _ (.int _ _) .nil)))⟩
                · simp [Instr.next, Go.getObj, Go.setObj, Sem.run, f4, hsz, hlt, hdec]
                · rw [g1, get_upd]
                  refine hr.write hB hA rfl (fun k hk => ?_) (by simp) rfl rfl rfl ⟨rfl, ?_⟩
                  · show (w.heap.setIfInBounds b _)[k]? = _
                    rw [Array.getElem?_setIfInBounds, if_neg (fun e => hk e.symm)]
                  · show (w.heap.setIfInBounds b _)[b]? = _
                    rw [Array.getElem?_setIfInBounds, if_pos rfl, if_pos hbl]
        | _ => cases h
      · exact Ok.fail
  | typeAssert x xt t ok =>
    refine Ok.opt (fun v hv => ?_)
    exact vOk (assertA_ok (aval_ok hv ht))
  | extract x i =>
    refine Ok.opt (fun v hv => ?_)
    have hv' := aval_ok hv ht
    simp only
    split
    · generalize hcv : a.eval x = cv at hv'
      cases hv' with | tup l u h => _
      refine Ok.optr (fun y hy => ?_)
      obtain ⟨uv, e1, e2⟩ := h.get hy
      rw [Array.getElem?_toList] at e1
      exact vOk (Ok.ret (fun w => by simp [Instr.extract, e1]) e2)
    · exact Ok.fail
  | call c => cases hc
  | _ => exact Ok.fail
end
end Go.Proofs.YtbecmcjibpamoaaGreatDoor.Zz
namespace Go.Proofs.YtbecmcjibpamoaaGreatDoor.Zz
open Go Go.RowKit
section
variable {P : Program} {ρ : Nat → Value} {w0 : World} {base : Nat} {m : BMap}
def Fresh (m : BMap) (lo hi : Nat) : Prop := ∀ A, lo ≤ A → A < hi → m A = none
def Dom (m m' : BMap) (lo hi : Nat) : Prop := ∀ A, m A = none → m' A ≠ none → lo ≤ A ∧ A < hi
def EndR (ρ : Nat → Value) (m : BMap) (v : AV) (en : Ending) : Prop := (∃ v', en = .returned v' ∧ VR ρ m v v') ∨ ∃ x u, v = .pan x ∧ en = .panicked [{ v := u, recovered := false }] ∧ VR ρ m x u
def CallOk (P : Program) (ρ : Nat → Value) (w0 : World) (base : Nat) (call : FuncId → List AV → M AV) : Prop :=
  ∀ f args us m st w v st', call f args st = some (v, st') → Rel ρ w0 base m st.heap.get w → Fresh m st.next st'.next → LR ρ m args us.toList →
    Calls P f us w fun en w' => ∃ m', Ext m m' ∧ Dom m m' st.next st'.next ∧ Rel ρ w0 base m' st'.heap.get w' ∧ EndR ρ m' v en
def HookFn (P : Program) (ρ : Nat → Value) (w0 : World) (base : Nat) (f : FuncId) (h : List AV → M AV) : Prop :=
  ∀ args us m st w v st', h args st = some (v, st') → Rel ρ w0 base m st.heap.get w → Fresh m st.next st'.next → LR ρ m args us.toList →
    ∀ (o : Oper) (a : Act) (K : Act → World → Prop) (Q : Exit → Act → World → Prop), (∀ v' w' m', Ext m m' → Dom m m' st.next st'.next → Rel ρ w0 base m' st'.heap.get w' → VR ρ m' v v' → K (a.put o.dst v') w') →
      o.upon P a K Q ((callFunc f us).run P w)
def OraOk (P : Program) (ρ : Nat → Value) (w0 : World) (base : Nat) (q : Q) (r : AV) : Prop :=
  ∀ (o : Oper) (tm : Tm) (a : Act) (m : BMap) (st : ASt) (w : World), oraKey tm o.op = some q → TmR ρ m tm a → Rel ρ w0 base m st.heap.get w → ∃ u w' m', (execOp a.eval o).run P w = .ok (.value u) w' ∧ Ext m m' ∧ Dom m m' st.next st.next ∧ Rel ρ w0 base m' st.heap.get w' ∧ VR ρ m' r u
def HookOk (P : Program) (ρ : Nat → Value) (w0 : World) (base : Nat) (H : Hooks) : Prop :=
  (∀ f h, H.fn f = some h → HookFn P ρ w0 base f h) ∧ ∀ q r, H.ora q = some r → OraOk P ρ w0 base q r
def Upon (P : Program) (ρ : Nat → Value) (w0 : World) (base : Nat) (m : BMap) (st st' : ASt) (v : AV) (r : Result Next) : Prop :=
  ∀ (o : Oper) (a : Act) (K : Act → World → Prop) (Q : Exit → Act → World → Prop), (∀ v' w' m', Ext m m' → Dom m m' st.next st'.next → Rel ρ w0 base m' st'.heap.get w' → VR ρ m' v v' → K (a.put o.dst v') w') →
    (∀ x u w' m', v = .pan x → Ext m m' → Dom m m' st.next st'.next → Rel ρ w0 base m' st'.heap.get w' → VR ρ m' x u → Q (.panic [{ v := u, recovered := false }]) a w') → o.upon P a K Q r
theorem funcA_ok {H : Hooks} {e : Ex} {f : FuncId} {args : List AV} {us : Array Value} {st st' : ASt} {w : World} {v : AV} (hc : CallOk P ρ w0 base e.call) (hH : HookOk P ρ w0 base H)
    (h : funcA P H e f args st = some (v, st')) (hr : Rel ρ w0 base m st.heap.get w) (hf : Fresh m st.next st'.next) (hl : LR ρ m args us.toList) : Upon P ρ w0 base m st st' v ((callFunc f us).run P w) := by
  intro o a K Q hK hQ
  unfold funcA at h
  cases hh : H.fn f with
  | some h' => rw [hh] at h; exact hH.1 f h' hh args us m st w v st' h hr hf hl o a K Q hK
  | none =>
    rw [hh] at h
    simp only at h
    cases hfn : P.funcs[f]? with
    | none => rw [hfn] at h; cases h
    | some fn =>
      rw [hfn] at h
      simp only at h
      cases hb : (fn.name == "runtime.NumGoroutine" || fn.body.isNone) with
      | true => rw [hb] at h; cases h
      | false =>
        rw [hb, cond_false] at h
        simp only [Bool.or_eq_false_iff] at hb
        have hb1 : ¬ fn.name = "runtime.NumGoroutine" := by simpa using hb.1
        have hb2 : ¬ fn.body = none := by
          intro e0; rw [e0] at hb; cases hb.2
        have hrun : (callFunc f us).run P w = .ok (.enter f us) w := by
          simp [callFunc, program, Sem.run, hfn, hb1, hb2]
        rw [hrun, Oper.upon_enter]
        refine (hc f args us m st w v st' h hr hf hl).mono ?_
        rintro en w' ⟨m', h1, h2, h3, ⟨v', rfl, h4⟩ | ⟨x, u, rfl, rfl, h4⟩⟩
        · exact hK v' w' m' h1 h2 h3 h4
        · exact hQ x u w' m' rfl h1 h2 h3 h4
theorem load1_eq {A i : Nat} {st st' : ASt} {x : AV} (h : load1 A i st = some (x, st')) : ∃ c n e frz odd, st.heap.get A = some (.cells c n e frz odd) ∧ c.get i = some x ∧ st'.heap = st.heap ∧ st'.next = st.next := by
  unfold load1 at h
  obtain ⟨b, s1, h1, h2⟩ := bnd_eq h
  obtain ⟨e1, e2, e3⟩ := rd_eq h1
  cases b with
  | cells c n e frz odd =>
    dsimp only at h2
    cases hc : c.get i with
    | none => rw [hc] at h2; cases h2
    | some y => rw [hc] at h2; cases h2; exact ⟨c, n, e, frz, odd, e1, hc, e2, e3⟩
  | _ => cases h2
theorem loadT_same {t : TypeId} {A i b d z : Nat} {st st' : ASt} {x : AV} {w : World} (h : loadT P t A i st = some (x, st')) (hr : Rel ρ w0 base m st.heap.get w) (hp : m A = some (b, d, z)) :
    ∃ v, (loadVar t ⟨b, d + i, none⟩).run P w = .ok v w ∧ VR ρ m x v ∧ st'.heap = st.heap ∧ st'.next = st.next := by
  unfold loadT at h
  cases hb : isAggT P t with
  | none => rw [hb] at h; cases h
  | some r =>
    rw [hb] at h
    cases r with
    | false =>
      obtain ⟨c, n, e, frz, odd, hA, hc, e2, e3⟩ := load1_eq h
      obtain ⟨arr, lo, hi, h1, h2, h3, h4, h5⟩ := rel_cells hr hA hp
      obtain ⟨q1, q2, v, q3, q4⟩ := h4 i x hc
      have hl : (Go.load ⟨b, d + i, none⟩).run P w = .ok v w := run_load (by rw [cell_of h1]; exact q3)
      exact ⟨v, by simp only [loadVar, Sem.run_bind, run_isAgg hb, Result.andThen_ok, Bool.false_eq_true, ↓reduceIte, hl], q4, e2, e3⟩
    | true =>
      dsimp only at h
      obtain ⟨n, hn, h⟩ := optb_eq h
      obtain ⟨l, s1, g1, g2⟩ := bnd_eq h
      cases g2
      obtain ⟨c, nn, e, frz, odd, hA, hc, e2, e3⟩ := loadC_eq g1
      obtain ⟨arr, lo, hi, h1, h2, h3, h4, h5⟩ := rel_cells hr hA hp
      obtain ⟨vs, k1, k2, k3⟩ := getN_vals h4 hc
      refine ⟨.agg vs.toArray, ?_, .agg _ _ k1, e2, e3⟩
      have := run_loadCells (P := P) (w := w) (a := ⟨b, d + i, none⟩) (vs := vs) (n := n) (by rw [← k1.length, k2]) (fun j v hj => by rw [add_mk', cell_of h1]; exact k3 j v hj)
      simp [loadVar, run_isAgg hb, run_size hn, this]
def Same {α β : Type} (P : Program) (ρ : Nat → Value) (w0 : World) (base : Nat) (m : BMap) (w : World) (R : α → β → Prop) (x : M α) (s : Sem β) : Prop :=
  ∀ st st' a, x st = some (a, st') → Rel ρ w0 base m st.heap.get w → ∃ b, s.run P w = .ok b w ∧ R a b ∧ st'.heap = st.heap ∧ st'.next = st.next
theorem Same.fail {α β : Type} {w : World} {R : α → β → Prop} {s : Sem β} : Same P ρ w0 base m w R (Zz.fail : M α) s := fun st st' a h _ => by cases h
theorem Same.ret {α β : Type} {w : World} {R : α → β → Prop} {s : Sem β} {a : α} {b : β} (hs : s.run P w = .ok b w) (h : R a b) : Same P ρ w0 base m w R (Zz.ret a) s := fun st st' a' h' _ => by
  cases h'; exact ⟨b, hs, h, rfl, rfl⟩
theorem Same.bnd {α β γ δ : Type} {w : World} {R : α → β → Prop} {R' : γ → δ → Prop} {x : M α} {s : Sem β} {f : α → M γ} {g : β → Sem δ} (h : Same P ρ w0 base m w R x s) (hf : ∀ a b, R a b → Same P ρ w0 base m w R' (f a) (g b)) :
    Same P ρ w0 base m w R' (Zz.bnd x f) (s >>= g) := fun st st' c hc hr => by
  obtain ⟨a, s1, h1, h2⟩ := bnd_eq hc
  obtain ⟨b, e1, e2, e3, e4⟩ := h st s1 a h1 hr
  obtain ⟨d, f1, f2, f3, f4⟩ := hf a b e2 s1 st' c h2 (by rw [e3]; exact hr)
  exact ⟨d, by rw [Sem.run_bind, e1, Result.andThen_ok]; exact f1, f2, f3.trans e3, f4.trans e4⟩
theorem Same.congr {α β : Type} {w : World} {R : α → β → Prop} {x : M α} {s s' : Sem β} (hs : s'.run P w = s.run P w) (h : Same P ρ w0 base m w R x s) : Same P ρ w0 base m w R x s' := fun st st' a ha hr => by
  obtain ⟨b, e1, e2⟩ := h st st' a ha hr
  exact ⟨b, hs.trans e1, e2⟩
inductive PlR (ρ : Nat → Value) (m : BMap) : Pl → Place → Prop where
  | val (v : AV) (u : Value) (h : VR ρ m v u) : PlR ρ m (.val v) (.val u)
  | var (A i b d z : Nat) (h : m A = some (b, d, z)) : PlR ρ m (.var A i) (.var ⟨b, d + i, none⟩)
theorem getP_same {w : World} {t : TypeId} {x : Pl} {y : Place} (h : PlR ρ m x y) : Same P ρ w0 base m w (VR ρ m) (getP P t x) (y.get t) := by
  cases h with
  | val v u h => exact Same.ret (Sem.run_pure ..) h
  | var A i b d z h =>
    intro st st' a ha hr
    obtain ⟨v, e1, e2, e3, e4⟩ := loadT_same ha hr h
    exact ⟨v, e1, e2, e3, e4⟩
theorem partT_same {w : World} {t : TypeId} {l : List AV} {off : Nat} {cs : Array Value} (hl : LR ρ m l cs.toList) : Same P ρ w0 base m w (VR ρ m) (partT P t l off) (part t cs off) := by
  unfold partT
  cases hb : isAggT P t with
  | none => exact Same.fail
  | some r =>
    cases r with
    | false =>
      intro st st' a ha hr
      have ha' : (Zz.opt (l[off]?)) st = some (a, st') := ha
      cases hx : l[off]? with
      | none => rw [hx] at ha'; cases ha'
      | some x =>
        rw [hx] at ha'
        cases ha'
        obtain ⟨v, h1, h2⟩ := hl.get hx
        rw [Array.getElem?_toList] at h1
        exact ⟨v, by simp [part, run_isAgg hb, h1], h2, rfl, rfl⟩
    | true =>
      intro st st' a ha hr
      obtain ⟨n, hn, h2⟩ := optb_eq ha
      cases h2
      refine ⟨.agg (cs.extract off (off + n)), by simp [part, run_isAgg hb, run_size hn], .agg _ _ ?_, rfl, rfl⟩
      have := (hl.drop off).take n
      rw [Array.toList_extract, List.extract_eq_drop_take]
      simpa using this
def TPl (ρ : Nat → Value) (m : BMap) (a : TypeId × Pl) (b : TypeId × Place) : Prop := a.1 = b.1 ∧ PlR ρ m a.2 b.2
theorem followA_same {w : World} : ∀ (l : List FieldStep) (t : TypeId) (x : Pl) (y : Place), PlR ρ m x y → Same P ρ w0 base m w (TPl ρ m) (followA P l t x) (follow l t y)
  | [], t, x, y, h => Same.ret (Sem.run_pure ..) ⟨rfl, h⟩
  | s :: r, t, x, y, h => by
    have ih := followA_same (w := w) r
    unfold followA
    split
    · rename_i fs hu
      split
      · rename_i f hf
        split
        · rename_i q hsz
          have hfp : ∀ b d i : Nat, (fieldPlace ⟨b, d + i, none⟩ f).run P w = .ok ⟨b, d + (i + f.offset), none⟩ w := fun b d i => by
            simp [fieldPlace, run_size hsz, add_mk', Nat.add_assoc]
          cases hd : s.deref with
          | true =>
            rw [cond_true]
            refine Same.congr (s := y.get t >>= fun v => asAddr v >>= fun a => fieldPlace a f >>= fun p => follow r f.type (.var p)) ?_ (Same.bnd (getP_same h) (fun v u hv => ?_))
            · simp [follow, run_und hu, hf, hd]
            · split
              · rename_i A i
                cases hv with | ptr _ _ b d z hA => _
                refine Same.congr (s := follow r f.type (.var ⟨b, d + (i + f.offset), none⟩)) ?_ (ih _ _ _ (.var A _ b d z hA))
                simp [asAddr, hfp]
              · exact Same.fail
          | false =>
            rw [cond_false]
            split
            · rename_i A i
              cases h with | var _ _ b d z hA => _
              refine Same.congr (s := follow r f.type (.var ⟨b, d + (i + f.offset), none⟩)) ?_ (ih _ _ _ (.var A _ b d z hA))
              simp [follow, run_und hu, hf, hd, hfp]
            · rename_i l
              cases h with | val _ u hv => _
              cases hv with | agg _ cs hl => _
              refine Same.congr (s := part f.type cs f.offset >>= fun v => follow r f.type (.val v)) ?_ (Same.bnd (partT_same hl) (fun v u hv => ih _ _ _ (.val _ _ hv)))
              simp [follow, run_und hu, hf, hd]
            · exact Same.fail
        · exact Same.fail
      · exact Same.fail
    · exact Same.fail
theorem run_wrapchk {w : World} {t : TypeId} {ad : Addr} {s name : String} : (Builtin.ssaWrapNilChk_ #[t] t #[.pointer (some ad), strVal s, strVal name]).run P w = .ok (.pointer (some ad)) w := by
  have : Builtin.ssaWrapNilChk_ #[t] t #[.pointer (some ad), strVal s, strVal name] = pure (.pointer (some ad)) := rfl
  rw [this]; exact Sem.run_pure ..
theorem recvA_same {w : World} {t : TypeId} {x : Pl} {y : Place} {pr : Bool} {wr : Option String} (h : PlR ρ m x y) : Same P ρ w0 base m w (VR ρ m) (recvA P t x pr) (receiverAt t y pr wr) := by
  unfold recvA
  split
  · rename_i e hu
    refine Same.congr (s := y.get t) ?_ (getP_same h)
    simp [receiverAt, run_und hu]
  · rename_i e hu
    intro st st' a ha hr
    obtain ⟨v, s1, h1, h2⟩ := bnd_eq ha
    obtain ⟨u, e1, e2, e3, e4⟩ := getP_same h st s1 v h1 hr
    cases v with
    | ptr A i =>
      cases e2 with | ptr _ _ b d z hA => _
      obtain ⟨x', f1, f2, f3, f4⟩ := loadT_same h2 (by rw [e3]; exact hr) hA
      refine ⟨x', ?_, f2, f3.trans e3, f4.trans e4⟩
      cases wr with
      | none => simp [receiverAt, run_und hu, e1, asAddr, f1]
      | some name => simp [receiverAt, run_und hu, e1, run_wrapchk, asAddr, f1]
    | _ => cases h2
  · rename_i d hne hu
    split
    · rename_i A i
      cases h with | var _ _ b d' z hA => _
      refine Same.ret (b := .pointer (some ⟨b, d' + i, none⟩)) ?_ (.ptr _ _ b d' z hA)
      cases d <;> first | exact absurd rfl (hne _) | simp [receiverAt, run_und hu]
    · exact Same.fail
  · rename_i d hne hu
    refine Same.congr (s := y.get t) ?_ (getP_same h)
    cases d <;> first | exact absurd rfl (hne _) | simp [receiverAt, run_und hu]
  · exact Same.fail
theorem methN_same {w : World} : ∀ (n k : Nat) (t : TypeId) (v : AV) (name : String) (u : Value), VR ρ m v u → Same P ρ w0 base m w (fun a b => a.1 = b.1 ∧ VR ρ m a.2 b.2) (methN P n t v name) (method (n + k) t u name)
  | 0, k, t, v, name, u, hv => Same.fail
  | n + 1, k, t, v, name, u, hv => by
    unfold methN
    split
    · exact Same.fail
    · rename_i i hi
      split
      · exact Same.fail
      · rename_i mt hm
        intro st st' a ha hr
        obtain ⟨⟨xt, x⟩, s1, h1, h2⟩ := bnd_eq ha
        obtain ⟨⟨xt', y⟩, e1, ⟨e2, e2'⟩, e3, e4⟩ := followA_same (P := P) mt.path.toList t (.val v) (.val u) (.val v u hv) st s1 _ h1 hr
        simp only at e2 e2'
        subst e2
        have hr1 : Rel ρ w0 base m s1.heap.get w := by rw [e3]; exact hr
        rw [show n + 1 + k = (n + k) + 1 by omega]
        cases hfn : mt.func with
        | none =>
          rw [hfn] at h2
          dsimp only at h2
          obtain ⟨z, s2, h3, h4⟩ := bnd_eq h2
          obtain ⟨zv, f1, f2, f3, f4⟩ := getP_same e2' s1 s2 z h3 hr1
          cases z with
          | ifc t' v' =>
            cases f2 with | ifc _ _ vv hvv => _
            obtain ⟨r, g1, g2, g3, g4⟩ := methN_same n k t' v' name vv hvv s2 st' a h4 (by rw [f3]; exact hr1)
            refine ⟨r, ?_, g2, g3.trans (f3.trans e3), g4.trans (f4.trans e4)⟩
            simp only [method, Sem.run_bind, run_info hi, Result.andThen_ok, hm, e1, hfn, f1]
            exact g1
          | _ => cases h4
        | some fp =>
          obtain ⟨f, pr⟩ := fp
          rw [hfn] at h2
          dsimp only at h2
          obtain ⟨r, s2, h3, h4⟩ := bnd_eq h2
          cases h4
          obtain ⟨rv, f1, f2, f3, f4⟩ := recvA_same (wr := if mt.path.isEmpty then some ((name.splitOn ".").getLastD name) else none) e2' s1 _ r h3 hr1
          refine ⟨(f, rv), ?_, ⟨rfl, f2⟩, f3.trans e3, f4.trans e4⟩
          simp only [method, Sem.run_bind, run_info hi, Result.andThen_ok, hm, e1, hfn, f1, Sem.run_pure]
theorem methA_eq {t : TypeId} {v : AV} {name : String} {st st' : ASt} {f : FuncId} {rc : AV} {w : World} {u : Value} (k : Nat) (h : methA P t v name st = some ((f, rc), st')) (hv : VR ρ m v u) (hr : Rel ρ w0 base m st.heap.get w) :
    ∃ u', (method (4 + k) t u name).run P w = .ok (f, u') w ∧ VR ρ m rc u' ∧ st'.heap = st.heap ∧ st'.next = st.next := by
  obtain ⟨⟨f0, u'⟩, e1, ⟨e2, e2'⟩, e3, e4⟩ := methN_same (P := P) 4 k t v name u hv st st' _ h hr
  simp only at e2 e2'
  subst e2
  exact ⟨u', e1, e2', e3, e4⟩
theorem call_ok {H : Hooks} {e : Ex} {o : Oper} {c : Call} {tm : Tm} {a : Act} {st st' : ASt} {w : World} {v : AV} (hq : Opq ρ) (ho : o.op = .call c) (hc : CallOk P ρ w0 base e.call) (hH : HookOk P ρ w0 base H)
    (h : opA P H e o tm st = some (v, st')) (hr : Rel ρ w0 base m st.heap.get w) (hf : Fresh m st.next st'.next) (ht : TmR ρ m tm a) : Upon P ρ w0 base m st st' v ((execOp a.eval o).run P w) := by
  unfold opA at h
  rw [ho] at h
  simp only at h
  obtain ⟨args, hargs, h⟩ := optb_eq h
  have hl : LR ρ m args (c.args.map a.eval).toList := by rw [Array.toList_map]; exact avals_ok ht hargs
  have hexec : execOp a.eval o = (resolve a.eval c o.type >>= fun d => invoke d.target d.args) := by
    unfold execOp; rw [ho]
  have hd0 : 4 + (P.types.size + Made.depth - 4) = P.types.size + Made.depth := by
    have : 4 < Made.depth := by decide
    omega
  rw [hexec]
  cases hcal : c.callee with
  | builtin b =>
    rw [hcal] at h
    dsimp only at h
    intro o' a' K Q hK hQ
    obtain ⟨n, w', m', e1, e2, e3, e4, e5⟩ := built_ok (P := P) (ρ := ρ) (w0 := w0) (base := base) (ty := o.type) (cs := c.args.map fun | .const _ => true | _ => false) hq hl st w v st' h hr hf
    have hrun : (resolve a.eval c o.type >>= fun d => invoke d.target d.args).run P w = .ok n w' := by
      simp only [resolve, hcal, Sem.run_bind, Sem.run_pure, Result.andThen_ok, invoke]
      exact e1
    rw [hrun]
    rcases e5 with ⟨v', rfl, hv⟩ | ⟨rfl, rfl⟩
    · exact hK v' w' m' e2 e3 e4 hv
    · exact hK undef w' m' e2 e3 e4 (.tup _ _ .nil)
  | invoke r name =>
    rw [hcal] at h
    dsimp only at h
    obtain ⟨rv, hrv, h⟩ := optb_eq h
    have hvr := aval_ok hrv ht
    generalize hev : a.eval r = ev at hvr
    cases hvr with
    | ifc t u uv hu =>
      dsimp only at h
      obtain ⟨⟨f, rc⟩, st1, hm, h⟩ := bnd_eq h
      dsimp only at h
      obtain ⟨u', g1, g2, g3, g4⟩ := methA_eq (P := P) (w := w) (P.types.size + Made.depth - 4) hm hu hr
      have := funcA_ok (us := #[u'] ++ c.args.map a.eval) hc hH h (by rw [g3]; exact hr) (by rw [g4]; exact hf) (by
        rw [Array.toList_append]
        exact .cons _ _ _ _ g2 hl)
      intro o' a' K Q hK hQ
      have hrun : (resolve a.eval c o.type >>= fun d => invoke d.target d.args).run P w = (callFunc f (#[u'] ++ c.args.map a.eval)).run P w := by
        have hg := g1
        rw [hd0] at hg
        have q0 : (#[Value.iface t uv] ++ c.args.map a.eval)[0]? = some (Value.iface t uv) := by simp [Array.getElem?_append]
        have q1 : (#[Value.iface t uv] ++ c.args.map a.eval).extract 1 (#[Value.iface t uv] ++ c.args.map a.eval).size = c.args.map a.eval := by
          apply Array.ext'
          simp
          exact List.take_of_length_le (by simp)
        simp only [resolve, hcal, Sem.run_bind, Sem.run_pure, Result.andThen_ok, invoke, hev, q0, q1]
        simp [callMethod, program, Sem.run, hg]
      rw [hrun]
      exact this o' a' K Q (by rw [g4]; exact hK) (by rw [g4]; exact hQ)
    | _ => cases h
  | value fo =>
    rw [hcal] at h
    dsimp only at h
    obtain ⟨fv, hfv, h⟩ := optb_eq h
    have hvf := aval_ok hfv ht
    generalize hev : a.eval fo = ev at hvf
    cases hvf with
    | fn f first cap u1 u2 h1 h2 =>
      cases f with
      | func f =>
        dsimp only at h
        have := funcA_ok (us := u1 ++ c.args.map a.eval ++ u2) hc hH h hr hf (by
          rw [Array.toList_append, Array.toList_append]
          exact (h1.append hl).append h2)
        intro o' a' K Q hK hQ
        have hrun : (resolve a.eval c o.type >>= fun d => invoke d.target d.args).run P w = (callFunc f (u1 ++ c.args.map a.eval ++ u2)).run P w := by
          simp only [resolve, hcal, hev, Deferred.ofValue, Sem.run_bind, Sem.run_pure, Result.andThen_ok, invoke]
        rw [hrun]
        exact this o' a' K Q hK hQ
      | method name =>
        dsimp only at h
        have hall := h1.append hl
        cases hfa : first ++ args with
        | nil => rw [hfa] at h; cases h
        | cons x rest =>
          rw [hfa] at h hall
          cases hrest : u1.toList ++ (c.args.map a.eval).toList with
          | nil => rw [hrest] at hall; cases hall
          | cons y ys =>
            rw [hrest] at hall
            cases hall with | cons _ _ _ _ hy hys => _
            cases hy with
            | ifc t u uv hu =>
              dsimp only at h
              obtain ⟨⟨f, rc⟩, st1, hm, h⟩ := bnd_eq h
              dsimp only at h
              obtain ⟨u', g1, g2, g3, g4⟩ := methA_eq (P := P) (w := w) (P.types.size + Made.depth - 4) hm hu hr
              have := funcA_ok (us := #[u'] ++ ys.toArray) hc hH h (by rw [g3]; exact hr) (by rw [g4]; exact hf) (by
                rw [Array.toList_append]
                exact .cons _ _ _ _ g2 hys)
              intro o' a' K Q hK hQ
              have hua : u1 ++ c.args.map a.eval = (.iface t uv :: ys).toArray := by
                have := congrArg List.toArray hrest
                simpa using this
              have hrun : (resolve a.eval c o.type >>= fun d => invoke d.target d.args).run P w = (callFunc f (#[u'] ++ ys.toArray)).run P w := by
                have hg := g1
                rw [hd0] at hg
                simp only [resolve, hcal, hev, Deferred.ofValue, Sem.run_bind, Sem.run_pure, Result.andThen_ok, invoke, hua]
                simp [callMethod, program, Sem.run, hg]
              rw [hrun]
              exact this o' a' K Q (by rw [g4]; exact hK) (by rw [g4]; exact hQ)
            | _ => cases h
      | _ => cases h
    | _ => cases h
theorem put_ok {N : Nat} {tm tmv : Tm} {a : Act} {dst : Option Tmp} {m' : BMap} {v : AV} {u : Value} {ds : List Deferred} (ht : TmR ρ m tm a) (hN : a.tmps.size = N) (hd : a.defers = ds) (he : Ext m m') (hv : VR ρ m' v u) (hp : ∃ s1 s2, putA N tm dst v s1 = some (tmv, s2)) :
    TmR ρ m' tmv (a.put dst u) ∧ (a.put dst u).tmps.size = N ∧ (a.put dst u).defers = ds ∧ tmv.d = tm.d ∧ tmv.p = tm.p := by
  obtain ⟨s1, s2, hp⟩ := hp
  unfold putA at hp
  cases hds : dst with
  | none => rw [hds] at hp; cases hp; exact ⟨ht.ext he, hN, hd, rfl, rfl⟩
  | some d =>
    rw [hds] at hp
    simp only at hp
    cases hlt : Nat.blt d N with
    | false => rw [hlt] at hp; cases hp
    | true =>
      rw [hlt] at hp; cases hp
      have hlt' : d < a.tmps.size := by rw [hN]; simpa using hlt
      refine ⟨fun t => ?_, by simp [Act.put, hN], hd, rfl, rfl⟩
      rw [Tm.get_put]
      by_cases htd : t = d
      · subst htd
        rw [if_pos rfl]
        exact ⟨u, by simp [Act.put, hlt'], hv⟩
      · rw [if_neg htd]
        have := ht.ext he t
        cases e0 : tm.get t with
        | none => rw [e0] at this; simp only at this ⊢; simpa [Act.put, Array.getD_eq_getD_getElem?, Array.getElem?_setIfInBounds_ne (Ne.symm htd)] using this
        | some x =>
          rw [e0] at this
          cases x with
          | none => trivial
          | some x => simp only at this ⊢; simpa [Act.put, Array.getElem?_setIfInBounds_ne (Ne.symm htd)] using this
theorem put_same {N : Nat} {tm tmv : Tm} {dst : Option Tmp} {v : AV} {s1 s2 : ASt} (hp : putA N tm dst v s1 = some (tmv, s2)) : s2 = s1 := by
  unfold putA at hp
  cases hds : dst with
  | none => rw [hds] at hp; cases hp; rfl
  | some d =>
    rw [hds] at hp
    simp only at hp
    cases hlt : Nat.blt d N with
    | false => rw [hlt] at hp; cases hp
    | true => rw [hlt] at hp; cases hp; rfl
theorem want_ok {ops : Array Oper} {o : Oper} {tm : Tm} {a : Act} (ht : TmR ρ m tm a) : ∀ b, wantA ops o tm = some b → Region.wanted o (yielded ops a.tmps) = b := by
  intro b hb
  unfold wantA at hb
  unfold Region.wanted
  cases hg : o.guard with
  | none => rw [hg] at hb; cases hb; rfl
  | some p =>
    obtain ⟨j, want⟩ := p
    rw [hg] at hb
    simp only at hb ⊢
    unfold yielded
    cases hoj : ops[j]? with
    | none => rw [hoj] at hb; cases hb; rfl
    | some g =>
      rw [hoj] at hb
      simp only [Option.bind_some] at hb ⊢
      cases hgd : g.dst with
      | none => rw [hgd] at hb; cases hb; rfl
      | some d =>
        rw [hgd] at hb
        simp only [Option.bind_some] at hb ⊢
        have htd := ht d
        cases hx : tm.get d with
        | none =>
          rw [hx] at hb htd
          cases hb
          simp only [Array.getD_eq_getD_getElem?] at htd
          cases hv : a.tmps[d]? with
          | none => rfl
          | some u =>
            rw [hv] at htd
            simp only [Option.getD_some] at htd
            rw [htd]; rfl
        | some x =>
          rw [hx] at hb htd
          cases x with
          | none => cases hb
          | some x =>
          obtain ⟨u, h1, h2⟩ := htd
          rw [h1]
          cases h2 <;> first | (cases hb; done) | (cases hb; rfl)
theorem op_ok {H : Hooks} {e : Ex} {o : Oper} {tm : Tm} {a : Act} {st st1 : ASt} {w : World} {v : AV} (hq : Opq ρ) (hc : CallOk P ρ w0 base e.call) (hH : HookOk P ρ w0 base H)
    (h : askA H tm o.op (opA P H e o tm) st = some (v, st1)) (hr : Rel ρ w0 base m st.heap.get w) (hf : Fresh m st.next st1.next) (ht : TmR ρ m tm a) : Upon P ρ w0 base m st st1 v ((execOp a.eval o).run P w) ∨ ∀ (K : Act → World → Prop) (Q : Exit → Act → World → Prop),
    (∀ v' w' m', Ext m m' → Dom m m' st.next st1.next → Rel ρ w0 base m' st1.heap.get w' → VR ρ m' v v' → K (a.put o.dst v') w') → o.wp P a w K Q := by
  have hask : (∃ q r, oraKey tm o.op = some q ∧ H.ora q = some r ∧ askA H tm o.op (opA P H e o tm) = Zz.ret r) ∨ askA H tm o.op (opA P H e o tm) = opA P H e o tm := by
    unfold askA
    cases hk : oraKey tm o.op with
    | none => exact .inr rfl
    | some q =>
      dsimp only
      cases hq2 : H.ora q with
      | none => exact .inr rfl
      | some r => exact .inl ⟨q, r, rfl, hq2, rfl⟩
  rcases hask with ⟨q, r, hk, hqr, hask⟩ | hask
  · rw [hask] at h
    cases h
    right
    intro K Q fin
    obtain ⟨u, w', m', hrun, e1, e2, e3, hv⟩ := hH.2 q _ hqr o tm a m _ w hk ht hr
    unfold Oper.wp
    rw [hrun, Oper.upon_value]
    exact fin u w' m' e1 e2 e3 hv
  · rw [hask] at h
    cases hic : isCall o.op with
    | true =>
      cases hoo : o.op with
      | call c => exact .inl (call_ok hq hoo hc hH h hr hf ht)
      | _ => rw [hoo] at hic; cases hic
    | false =>
      right
      intro K Q fin
      unfold Oper.wp
      obtain ⟨n, w', m', e1, e2, e3, e4, e5⟩ := plain_ok (P := P) (H := H) (e := e) (w0 := w0) (base := base) hq ht hic st w v st1 h hr hf
      rw [e1]
      rcases e5 with ⟨v', rfl, hv⟩ | ⟨rfl, rfl⟩
      · exact fin v' w' m' e2 e3 e4 hv
      · exact fin undef w' m' e2 e3 e4 (.tup _ _ .nil)
theorem operW_ok {H : Hooks} {e : Ex} {N : Nat} {ops : Array Oper} {o : Oper} {tm tm' : Tm} {a : Act} {st st' : ASt} {w : World} {ds : List Deferred} (hq : Opq ρ) (hc : CallOk P ρ w0 base e.call) (hH : HookOk P ρ w0 base H)
    (h : operA P H e N ops o tm st = some (tm', st')) (hr : Rel ρ w0 base m st.heap.get w) (hf : Fresh m st.next st'.next) (ht : TmR ρ m tm a) (hN : a.tmps.size = N) (hd : a.defers = ds)
    (K : Act → World → Prop) (Q : Exit → Act → World → Prop) (hK : ∀ a' w' m', Ext m m' → Dom m m' st.next st'.next → Rel ρ w0 base m' st'.heap.get w' → TmR ρ m' tm' a' → a'.tmps.size = N → a'.defers = ds → tm'.d = tm.d → tm'.p = tm.p → K a' w') :
    if Region.wanted o (yielded ops a.tmps) then o.wp P a w K Q else K (a.put o.dst undef) w := by
  unfold operA at h
  cases hw : wantA ops o tm with
  | none => rw [hw] at h; cases h
  | some b =>
    rw [hw] at h
    rw [want_ok ht b hw]
    cases b with
    | false =>
      rw [if_neg (by simp)]
      have hst := put_same h
      subst hst
      obtain ⟨h1, h2, h3, h4, h5⟩ := put_ok ht hN hd (Ext.refl m) (.tup _ _ .nil : VR ρ m undefA undef) ⟨_, _, h⟩
      exact hK _ w m (Ext.refl m) (fun A h1 h2 => absurd h1 h2) hr h1 h2 h3 h4 h5
    | true =>
      rw [if_pos rfl]
      simp only at h
      obtain ⟨v, st1, h1, h2⟩ := bnd_eq h
      have h2' : putA N tm o.dst v st1 = some (tm', st') ∧ ∀ x, v ≠ .pan x := by
        cases v with
        | pan x => cases h2
        | _ => exact ⟨h2, fun x e => by cases e⟩
      obtain ⟨h2, hnp⟩ := h2'
      have hst := put_same h2
      subst hst
      have fin : ∀ v' w' m', Ext m m' → Dom m m' st.next st'.next → Rel ρ w0 base m' st'.heap.get w' → VR ρ m' v v' → K (a.put o.dst v') w' := fun v' w' m' e1 e2 e3 e4 => by
        obtain ⟨g1, g2, g3, g4, g5⟩ := put_ok ht hN hd e1 e4 ⟨_, _, h2⟩
        exact hK _ w' m' e1 e2 e3 g1 g2 g3 g4 g5
      rcases op_ok hq hc hH h1 hr hf ht with hu | hu
      · exact hu o a K Q fin (fun x u w' m' e => absurd e (hnp x))
      · exact hu K Q fin
theorem oper_ok {H : Hooks} {e : Ex} {N : Nat} {ops : Array Oper} {o : Oper} {tm tm' : Tm} {a : Act} {st st' : ASt} {w : World} {ds : List Deferred} (hq : Opq ρ) (hc : CallOk P ρ w0 base e.call) (hH : HookOk P ρ w0 base H)
    (h : operA P H e N ops o tm st = some (tm', st')) (hr : Rel ρ w0 base m st.heap.get w) (hf : Fresh m st.next st'.next) (ht : TmR ρ m tm a) (hN : a.tmps.size = N) (hd : a.defers = ds)
    (K : Act → World → Prop) (Q : Exit → Act → World → Prop) (hK : ∀ a' w' m', Ext m m' → Dom m m' st.next st'.next → Rel ρ w0 base m' st'.heap.get w' → TmR ρ m' tm' a' → a'.tmps.size = N → a'.defers = ds → tm'.d = tm.d → tm'.p = tm.p → K a' w') :
    if Region.wanted o (yielded ops a.tmps) then o.wp P a w K Q ∨ (o.asks P a w ∧ LetsOut Q) else K (a.put o.dst undef) w := by
  have := operW_ok hq hc hH h hr hf ht hN hd K Q hK
  split
  · rename_i hw; rw [if_pos hw] at this; exact .inl this
  · rename_i hw; rw [if_neg hw] at this; exact this
inductive DfR (P : Program) (ρ : Nat → Value) (m : BMap) : List AV → List Deferred → Prop where
  | nil : DfR P ρ m [] []
  | cons (f : FuncId) (l : List AV) (fv : Fn) (cap dargs us : Array Value) (ds : List AV) (es : List Deferred) (hi : ∀ w : World, (invoke (.fn fv cap) dargs).run P w = .ok (.enter f us) w) (hl : LR ρ m l us.toList) (h : DfR P ρ m ds es) :
      DfR P ρ m (.fn (.func f) l [] :: ds) ({ target := .fn fv cap, args := dargs } :: es)
theorem DfR.ext {m' : BMap} {l : List AV} {r : List Deferred} (h : DfR P ρ m l r) (he : Ext m m') : DfR P ρ m' l r := by
  induction h with
  | nil => exact .nil
  | cons f l fv cap dargs us ds es hi hl _ ih => exact .cons f l fv cap dargs us ds es hi (hl.ext he) ih
theorem defer_ok {tm : Tm} {a : Act} {c : Call} {ty : TypeId} {st st' : ASt} {v : AV} {w : World} (ht : TmR ρ m tm a) (h : deferA P tm c st = some (v, st')) :
    st' = st ∧ ∃ d, (resolve a.eval c ty).run P w = .ok d w ∧ ∀ ds es, DfR P ρ m ds es → DfR P ρ m (v :: ds) (d :: es) := by
  unfold deferA at h
  obtain ⟨args, hargs, h⟩ := optb_eq h
  have hl : LR ρ m args (c.args.map a.eval).toList := by rw [Array.toList_map]; exact avals_ok ht hargs
  cases hcal : c.callee with
  | value fo =>
    rw [hcal] at h
    dsimp only at h
    obtain ⟨fv, hfv, h⟩ := optb_eq h
    have hvf := aval_ok hfv ht
    generalize hev : a.eval fo = ev at hvf
    cases hvf with
    | fn f first cap u1 u2 h1 h2 =>
      cases f with
      | func f =>
        dsimp only at h
        cases hfn : P.funcs[f]? with
        | none => rw [hfn] at h; cases h
        | some fn =>
          rw [hfn] at h
          dsimp only at h
          cases hb : (fn.name == "runtime.NumGoroutine" || fn.body.isNone) with
          | true => rw [hb] at h; cases h
          | false =>
            rw [hb, cond_false] at h
            cases h
            simp only [Bool.or_eq_false_iff] at hb
            have hb1 : ¬ fn.name = "runtime.NumGoroutine" := by simpa using hb.1
            have hb2 : ¬ fn.body = none := by
              intro e0; rw [e0] at hb; cases hb.2
            refine ⟨rfl, { target := .fn (.func f) u2, args := u1 ++ c.args.map a.eval }, by simp only [resolve, hcal, hev, Deferred.ofValue, Sem.run_pure], fun ds es hd => .cons f _ _ _ _ (u1 ++ c.args.map a.eval ++ u2) _ _ (fun w => ?_) ?_ hd⟩
            · simp [invoke, callFunc, program, Sem.run, hfn, hb1, hb2]
            · rw [Array.toList_append, Array.toList_append]
              exact (h1.append hl).append h2
      | _ => cases h
    | _ => cases h
  | builtin b => rw [hcal] at h; cases h
  | invoke r name => rw [hcal] at h; cases h
theorem operP_ok {H : Hooks} {e : Ex} {N : Nat} {ops : Array Oper} {o : Oper} {tm tm' : Tm} {a : Act} {st st' : ASt} {w : World} (hq : Opq ρ) (hc : CallOk P ρ w0 base e.call) (hH : HookOk P ρ w0 base H)
    (h : operP P H e N ops o tm st = some (tm', st')) (hr : Rel ρ w0 base m st.heap.get w) (hf : Fresh m st.next st'.next) (ht : TmR ρ m tm a) (hN : a.tmps.size = N) (hd : DfR P ρ m tm.d a.defers) (hp : tm.p = none)
    (K : Act → World → Prop) (Q : Exit → Act → World → Prop) (hK : tm'.p = none → ∀ a' w' m', Ext m m' → Dom m m' st.next st'.next → Rel ρ w0 base m' st'.heap.get w' → TmR ρ m' tm' a' → a'.tmps.size = N → DfR P ρ m' tm'.d a'.defers → K a' w')
    (hQ : ∀ x, tm'.p = some x → ∀ a' w' m' u, Ext m m' → Dom m m' st.next st'.next → Rel ρ w0 base m' st'.heap.get w' → TmR ρ m' tm' a' → a'.tmps.size = N → DfR P ρ m' tm'.d a'.defers → VR ρ m' x u → Q (.panic [{ v := u, recovered := false }]) a' w') :
    if Region.wanted o (yielded ops a.tmps) then o.wp P a w K Q ∨ (o.asks P a w ∧ LetsOut Q) else K (a.put o.dst undef) w := by
  -- an operation that is not wanted
  have skip : ∀ {tm2 : Tm} {s2 : ASt}, putA N tm o.dst undefA st = some (tm2, s2) → tm2 = tm' → s2 = st' → K (a.put o.dst undef) w := by
    intro tm2 s2 g e1 e2
    subst e1 e2
    have hst := put_same g
    subst hst
    obtain ⟨h1, h2, h3, h4, h5⟩ := put_ok ht hN rfl (Ext.refl m) (.tup _ _ .nil : VR ρ m undefA undef) ⟨_, _, g⟩
    exact hK (by rw [h5, hp]) _ w m (Ext.refl m) (fun A h1 h2 => absurd h1 h2) hr h1 h2 (by have h3' : (a.put o.dst undef).defers = a.defers := h3; rw [h3', h4]; exact hd)
  have plain : operA P H e N ops o tm st = some (tm', st') → if Region.wanted o (yielded ops a.tmps) then o.wp P a w K Q ∨ (o.asks P a w ∧ LetsOut Q) else K (a.put o.dst undef) w := fun h =>
    oper_ok hq hc hH h hr hf ht hN rfl K Q (fun a' w' m' e1 e2 e3 e4 e5 e6 e7 e8 => hK (by rw [e8, hp]) a' w' m' e1 e2 e3 e4 e5 (by rw [e6, e7]; exact hd.ext e1))
  unfold operP at h
  cases hop : o.op with
  | defer c =>
    rw [hop] at h
    dsimp only at h
    cases hw : wantA ops o tm with
    | none => rw [hw] at h; cases h
    | some b =>
      rw [hw] at h
      rw [want_ok ht b hw]
      cases b with
      | false => rw [if_neg (by simp)]; exact skip h rfl rfl
      | true =>
        rw [if_pos rfl]
        left
        dsimp only at h
        obtain ⟨x, s1, h1, h2⟩ := bnd_eq h
        obtain ⟨tm1, s2, h3, h4⟩ := bnd_eq h2
        cases h4
        obtain ⟨rfl, d, hrun, hdf⟩ := defer_ok (ty := o.type) (w := w) ht h1
        have hst := put_same h3
        subst hst
        obtain ⟨g1, g2, g3, g4, g5⟩ := put_ok (a := { a with defers := d :: a.defers }) (ds := d :: a.defers) (show TmR ρ m tm { a with defers := d :: a.defers } from ht) hN rfl (Ext.refl m) (.tup _ _ .nil : VR ρ m undefA undef) ⟨_, _, h3⟩
        unfold Oper.wp
        have hex : (execOp a.eval o).run P w = .ok (.defer d) w := by
          have : execOp a.eval o = (resolve a.eval c o.type >>= fun d => pure (.defer d)) := by unfold execOp; rw [hop]
          rw [this, Sem.run_bind, hrun, Result.andThen_ok, Sem.run_pure]
        rw [hex, Oper.upon_defer]
        exact hK (by show tm1.p = none; rw [g5, hp]) _ w m (Ext.refl m) (fun A h1 h2 => absurd h1 h2) hr g1 g2 (by have g3' : (({ a with defers := d :: a.defers } : Act).put o.dst undef).defers = d :: a.defers := g3; rw [g3']; show DfR P ρ m (x :: tm1.d) _; rw [g4]; exact hdf _ _ hd)
  | panic x =>
    rw [hop] at h
    dsimp only at h
    cases hw : wantA ops o tm with
    | none => rw [hw] at h; cases h
    | some b =>
      rw [hw] at h
      rw [want_ok ht b hw]
      cases b with
      | false => rw [if_neg (by simp)]; exact skip h rfl rfl
      | true =>
        rw [if_pos rfl]
        left
        dsimp only at h
        obtain ⟨v, hv, h⟩ := optb_eq h
        have hvr := aval_ok hv ht
        cases v with
        | ifc t y =>
          cases h
          generalize hev : a.eval x = ev at hvr
          cases hvr with | ifc _ _ yv hy => _
          unfold Oper.wp
          have hex : (execOp a.eval o).run P w = .halt (.panic (.iface t yv)) w := by
            have : execOp a.eval o = (Instr.panic (a.eval x) >>= fun v => pure (.value v)) := by unfold execOp; rw [hop]
            rw [this, hev]
            rfl
          rw [hex, Oper.upon_panic]
          exact hQ _ rfl a w m _ (Ext.refl m) (fun A h1 h2 => absurd h1 h2) hr ht hN hd (.ifc _ _ _ hy)
        | _ => cases h
  | call c =>
    rw [hop] at h
    dsimp only at h
    cases hw : wantA ops o tm with
    | none => rw [hw] at h; cases h
    | some b =>
      rw [hw] at h
      rw [want_ok ht b hw]
      cases b with
      | false => rw [if_neg (by simp)]; exact skip h rfl rfl
      | true =>
        rw [if_pos rfl]
        left
        dsimp only at h
        obtain ⟨v, st1, h1, h2⟩ := bnd_eq h
        rw [← hop] at h1
        by_cases hpn : ∃ x, v = .pan x
        · obtain ⟨x, rfl⟩ := hpn
          cases h2
          rcases op_ok hq hc hH h1 hr hf ht with hu | hu
          · refine hu o a K Q (fun v' w' m' _ _ _ hv => by cases hv) (fun y u w' m' e e1 e2 e3 hv => ?_)
            cases e
            exact hQ _ rfl a w' m' u e1 e2 e3 (ht.ext e1) hN (hd.ext e1) hv
          · exact hu K Q (fun v' w' m' _ _ _ hv => by cases hv)
        · have h2' : putA N tm o.dst v st1 = some (tm', st') := by
            cases v with
            | pan x => exact absurd ⟨x, rfl⟩ hpn
            | _ => exact h2
          have hst := put_same h2'
          subst hst
          have fin : ∀ v' w' m', Ext m m' → Dom m m' st.next st'.next → Rel ρ w0 base m' st'.heap.get w' → VR ρ m' v v' → K (a.put o.dst v') w' := fun v' w' m' e1 e2 e3 e4 => by
            obtain ⟨g1, g2, g3, g4, g5⟩ := put_ok ht hN rfl e1 e4 ⟨_, _, h2'⟩
            exact hK (by rw [g5, hp]) _ w' m' e1 e2 e3 g1 g2 (by rw [g3, g4]; exact hd.ext e1)
          rcases op_ok hq hc hH h1 hr hf ht with hu | hu
          · exact hu o a K Q fin (fun x u w' m' e => absurd ⟨x, e⟩ hpn)
          · exact hu K Q fin
  | _ => rw [hop] at h; exact plain h
end
end Go.Proofs.YtbecmcjibpamoaaGreatDoor.Zz
