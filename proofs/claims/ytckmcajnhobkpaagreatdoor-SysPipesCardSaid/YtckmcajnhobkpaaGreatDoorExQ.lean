/- The executor: conversions, built-in functions. -/
import Derived.Test.YtckmcajnhobkpaaGreatDoorExP
set_option linter.unusedVariables false
set_option linter.unusedSimpArgs false
set_option linter.deprecated false
namespace Go.Proofs.YtckmcajnhobkpaaGreatDoor.Zz
open Go Go.RowKit

section
variable {P : Program} {ρ : Nat → Value} {w0 : World} {base : Nat} {m : BMap}
theorem und_of {t : TypeId} {d : TypeDesc} (h : P.underlying t = some d) (w : World) : (underlying t).run P w = .ok d w := run_und h w
theorem bytesOf_ok : ∀ {l : List AV} {vs : List Value} {s : List UInt8}, bytesOf l = some s → LR ρ m l vs → ∃ ns : List Int, vs = ns.map (Value.int .u8) ∧ s = ns.map fun n => UInt8.ofNat n.toNat
  | [], vs, s, h, hl => by cases h; cases hl; exact ⟨[], rfl, rfl⟩
  | .int .u8 n :: l, vs, s, h, hl => by
    cases hl with
    | cons _ v _ r hv hr =>
      simp only [bytesOf] at h
      cases h1 : bytesOf l with
      | none => rw [h1] at h; cases h
      | some q =>
        rw [h1] at h; cases h
        cases hv
        obtain ⟨ns, e1, e2⟩ := bytesOf_ok h1 hr
        exact ⟨n :: ns, by rw [e1]; rfl, by rw [e2]; rfl⟩
  | .int .i8 n :: l, vs, s, h, hl => by cases h
  | .int .i16 n :: l, vs, s, h, hl => by cases h
  | .int .i32 n :: l, vs, s, h, hl => by cases h
  | .int .i64 n :: l, vs, s, h, hl => by cases h
  | .int .u16 n :: l, vs, s, h, hl => by cases h
  | .int .u32 n :: l, vs, s, h, hl => by cases h
  | .int .u64 n :: l, vs, s, h, hl => by cases h
  | .bool _ :: l, vs, s, h, hl => by cases h
  | .str _ :: l, vs, s, h, hl => by cases h
  | .ptr0 :: l, vs, s, h, hl => by cases h
  | .ptr _ _ :: l, vs, s, h, hl => by cases h
  | .sl0 :: l, vs, s, h, hl => by cases h
  | .sl _ _ _ _ _ _ :: l, vs, s, h, hl => by cases h
  | .map0 :: l, vs, s, h, hl => by cases h
  | .map _ :: l, vs, s, h, hl => by cases h
  | .fn _ _ _ :: l, vs, s, h, hl => by cases h
  | .fn0 :: l, vs, s, h, hl => by cases h
  | .ifc _ _ :: l, vs, s, h, hl => by cases h
  | .ifc0 :: l, vs, s, h, hl => by cases h
  | .agg _ :: l, vs, s, h, hl => by cases h
  | .tup _ :: l, vs, s, h, hl => by cases h
  | .opq _ :: l, vs, s, h, hl => by cases h
theorem push_fold : ∀ (ns : List Int) (s : List UInt8), ns.foldl (fun r n => r.push (UInt8.ofNat n.toNat)) (⟨s.toArray⟩ : ByteArray) = ⟨(s ++ ns.map fun n => UInt8.ofNat n.toNat).toArray⟩
  | [], s => by simp
  | n :: ns, s => by
    rw [List.foldl_cons]
    have : (ByteArray.mk s.toArray).push (UInt8.ofNat n.toNat) = ⟨(s ++ [UInt8.ofNat n.toNat]).toArray⟩ := by
      apply ByteArray.ext; simp [ByteArray.push]
    rw [this, push_fold ns]
    simp
theorem freeze_heap {w : World} {b o : Nat} {arr : Array Value} {e : TypeId} (h : w.heap[b]? = some (.cells arr e (0, 0))) : (w.freeze ⟨b, o, none⟩ 1).heap[b]? = some (.cells arr e (o, o + 1)) := by
  simp [World.freeze, Array.getElem?_modify, h]
theorem ints_ok (s : List UInt8) : LR ρ m (ints s) (s.map fun b => Value.int .u8 b.toNat) := by
  refine LR.of_get (by simp [ints]) (fun i a v ha hv => ?_)
  simp only [ints, List.getElem?_map] at ha hv
  cases hb : s[i]? with
  | none => rw [hb] at ha; cases ha
  | some b => rw [hb] at ha hv; cases ha; cases hv; exact .int _ _
theorem ints_one (s : List UInt8) : allOne (ints s) = true := by
  induction s with
  | nil => rfl
  | cons a s ih => simp only [ints, List.map_cons, allOne, oneA, Bool.true_and] at ih ⊢; exact ih
theorem strBytes_ok {e : TypeId} (s : List UInt8) : Ok P ρ w0 base (VRr ρ) m (Zz.bnd (nw (.cells (putL .lf 0 (ints s)) (ints s).length e 0 true)) fun A => Zz.ret (.sl A 0 s.length s.length 1 false)) (Conv.stringToBytes e ⟨s.toArray⟩) := by
  intro st w a st' h hr hf
  unfold Zz.bnd at h
  cases h1 : nw (.cells (putL .lf 0 (ints s)) (ints s).length e 0 true) st with
  | none => rw [h1] at h; cases h
  | some p =>
    obtain ⟨A, st1⟩ := p
    rw [h1] at h; cases h
    obtain ⟨rfl, e2, e3⟩ := nw_eq h1
    have hm : m st.next = none := hf _ (Nat.le_refl _) (by omega)
    have hsz : (ByteArray.mk s.toArray).size = s.length := by simp [ByteArray.size]
    have hge := grownCap_ge w s.length 0 e
    obtain ⟨arr, harr⟩ : ∃ arr : Array Value, arr = (s.map fun b => Value.int .u8 b.toNat).toArray ++ Array.replicate (grownCap w s.length 0 e - s.length) (.int .u8 0) := ⟨_, rfl⟩
    have hlen : (ints s).length = s.length := by simp [ints]
    have hasz : arr.size = grownCap w s.length 0 e := by rw [harr]; simp; omega
    have hrow := rel_row (e := e) (frz := 0) (l := ints s) (arr := arr) hr.drew hm (by
      rw [harr, Array.toList_append, hlen, List.take_append_of_le_length (by simp), List.take_of_length_le (by simp)]; exact ints_ok s) (ints_one s) (by rw [hasz, hlen]; exact hge)
    have hb := heap_new w.drew (.cells arr e)
    have hfz := freeze_heap (o := arr.size) hb
    have hrun : (Conv.stringToBytes e ⟨s.toArray⟩).run P w = .ok (.slice (some ⟨w.heap.size, 0, none⟩) s.length (grownCap w s.length 0 e)) ((w.drew.alloc (.cells arr e)).freeze ⟨w.heap.size, arr.size, none⟩ 1) := by
      have hs2 : (w.drew.alloc (.cells arr e)).shape? w.heap.size = some (e, arr.size) := by
        unfold World.shape?
        have : (w.drew.alloc (.cells arr e)).heap[w.heap.size]? = some (.cells arr e) := hb
        rw [this]
      have he : (List.map (fun b : UInt8 => Value.int IntKind.u8 b.toNat) s).toArray = (ByteArray.mk s.toArray).data.map fun b => Value.int .u8 b.toNat := by simp
      rw [he] at harr
      simp only [Conv.stringToBytes, hsz, Sem.run_bind, choose, Sem.run, Question.forced, Bool.false_eq_true, if_false, Result.andThen_ok]
      have hcut : Question.cut (.appendCap s.length 0 e) (w.tape w.drawn (.appendCap s.length 0 e)) = grownCap w s.length 0 e := rfl
      rw [hcut]
      simp only [newRow, newObj, Sem.run_bind, Sem.run, Result.andThen_ok, Sem.run_pure, ← harr]
      show Result.andThen (Sem.run P (markStringish ⟨w.heap.size, 0, none⟩) (w.drew.alloc (.cells arr e))) _ = _
      simp only [markStringish, shape, Sem.run_bind, Sem.run, hs2, Result.andThen_ok, freeze]
    refine ⟨_, _, mset m st.next (w.heap.size, 0, arr.size), hrun, mset_ext hm, fun A h1 h2 => ?_, ?_, ?_⟩
    · have := mset_dom h1 h2; omega
    · rw [e2, get_upd]
      have hrow' := hrow.write (A := st.next) (new := .cells (putL .lf 0 (ints s)) (ints s).length e 0 true) (w' := (w.drew.alloc (.cells arr e)).freeze ⟨w.heap.size, arr.size, none⟩ 1) (upd_same _ _ _) (mset_same _ _ _) rfl (fun k hk => by
        simp only [World.freeze, if_neg (show ¬ (1 = 0) by omega), Array.getElem?_modify]
        rw [if_neg (fun e => hk e.symm)]) (by simp [World.freeze]) (by simp [World.freeze]) (by simp [World.freeze]) (by simp [World.freeze]) ⟨arr, arr.size, arr.size + 1, hfz, rfl, by rw [hlen, hasz]; simpa using hge, fun j x hj => ?_, fun j _ hj => by have : j < arr.size := hj; omega, fun h => by cases h⟩
      · have : upd (upd st.heap.get st.next (.cells (putL .lf 0 (ints s)) (ints s).length e 0 true)) st.next (.cells (putL .lf 0 (ints s)) (ints s).length e 0 true) = upd st.heap.get st.next (.cells (putL .lf 0 (ints s)) (ints s).length e 0 true) := by
          funext B; unfold upd; split <;> rfl
        rw [this] at hrow'
        exact hrow'
      · obtain ⟨arr2, lo, hi, q1, q2, q3, q4, q5⟩ := rel_cells hrow (upd_same _ _ _) (mset_same _ _ _)
        have q1' : (w.drew.alloc (.cells arr e)).heap[w.drew.heap.size]? = some (.cells arr2 e (lo, hi)) := q1
        rw [hb] at q1'
        cases q1'
        exact q4 j x hj
    · exact .sl _ _ _ _ _ _ _ 0 _ _ _ (mset_same _ _ _) hge (fun h => by cases h) (fun _ => rfl) (by rw [hasz]; omega) (Nat.le_refl _) (Nat.le_refl _)
theorem cvtA_ok {src dst : TypeId} {x : AV} {u : Value} (hx : VR ρ m x u) : Ok P ρ w0 base (VRr ρ) m (cvtA P src dst x) (convert src dst u) := by
  unfold cvtA
  split
  · rename_i d k kk n hs hd
    cases hx
    rw [wrapA_eq]
    exact Ok.ret (fun w => by simp [convert, run_und hs, run_und hd, Conv.intToInt]) (.int _ _)
  · rename_i d s hs hd
    cases hx
    exact Ok.ret (fun w => by simp [convert, run_und hs, run_und hd]) (.str _)
  · rename_i d k n hs hd
    cases hx
    refine Ok.ret (b := .string (Utf8.encode n)) (fun w => by simp [convert, run_und hs, run_und hd, Conv.intToString]) ?_
    have := VR.str (ρ := ρ) (m := m) (Utf8.encode n).data.toList
    simpa using this
  · rename_i d e s hs hd
    cases hx
    split
    · rename_i he
      exact Ok.congr (fun w => by simp [convert, run_und hs, run_und hd, run_und he]) (strBytes_ok s)
    · exact Ok.fail
  · rename_i e hs hd
    cases hx
    split
    · rename_i he
      exact Ok.ret (b := .string ⟨[].toArray⟩) (fun w => by simp [convert, run_und hs, run_und hd, run_und he, Conv.bytesToString]; rfl) (.str [])
    · exact Ok.fail
  · rename_i e A i len cap sz ex hs hd
    split
    · rename_i he
      intro st w a st' h hr hf
      unfold Zz.bnd at h
      cases h1 : cellsIn 1 (.sl A i len cap sz ex) st with
      | none => rw [h1] at h; cases h
      | some p =>
        obtain ⟨⟨k, l⟩, st1⟩ := p
        rw [h1] at h
        simp only at h
        obtain ⟨vs, hlen, hnew0, hlr, hh, hn, hvl0⟩ := cellsIn_ok (P := P) h1 hr hx
        have hnew : ∀ w', w'.heap = w.heap → (Builtin.firstCells 1 k u).run P w' = .ok vs.toArray w' := fun w' hw => by
          have := hnew0 k w' (Nat.le_refl _) hw
          rwa [List.take_of_length_le (by omega)] at this
        clear hnew0 hvl0
        cases h2 : bytesOf l with
        | none => rw [h2] at h; cases h
        | some s =>
          rw [h2] at h
          cases h
          obtain ⟨ns, rfl, rfl⟩ := bytesOf_ok h2 hlr
          cases hx with | sl _ _ _ _ _ _ b d z off cap' hA hc hexc ho hz hl hd => _
          have hk : k = len := by
            have := hlen w
            simp [Builtin.lenOf] at this
            exact this.symm
          subst hk
          have hld := hnew w rfl
          simp only [Builtin.firstCells, Nat.mul_one] at hld
          have hrun := run_bytesToString (P := P) w ⟨b, off, none⟩ k cap' ns hld
          have hp := push_fold ns []
          refine ⟨.string ⟨(ns.map fun n => UInt8.ofNat n.toNat).toArray⟩, w, m, ?_, Ext.refl m, fun A h1 h2 => absurd h1 h2, by rw [hh]; exact hr, .str _⟩
          have hp' : ns.foldl (fun r n => r.push (UInt8.ofNat n.toNat)) ByteArray.empty = ⟨(ns.map fun n => UInt8.ofNat n.toNat).toArray⟩ := hp
          rw [← hp']
          simp only [convert, Sem.run_bind, run_und hs, Result.andThen_ok, run_und he]
          simp [run_und (show P.underlying dst = some .string by assumption), hrun, run_und he]
    · exact Ok.fail
  · exact Ok.fail
end
end Go.Proofs.YtckmcajnhobkpaaGreatDoor.Zz
