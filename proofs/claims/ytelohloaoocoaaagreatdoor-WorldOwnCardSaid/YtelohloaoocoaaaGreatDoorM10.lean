/- Texts of one proof, packed: ExS, ExT, ExU -/
import Derived.Test.YtelohloaoocoaaaGreatDoorM09
import Derived.Maps.RangeRun
set_option linter.unusedVariables false
set_option linter.unusedSimpArgs false
set_option linter.deprecated false
set_option linter.unnecessarySimpa false
/- The executor: one operation without a call. -/
set_option linter.unusedVariables false
set_option linter.unusedSimpArgs false
set_option linter.deprecated false
namespace Go.Proofs.YtelohloaoocoaaaGreatDoor.Zz
open Go Go.RowKit

section
variable {P : Program} {ρ : Nat → Value} {w0 : World} {base : Nat} {m : BMap}
def isCall : Op → Bool
  | .call _ => true
  | _ => false
theorem nextStr (s : List UInt8) (pos : Nat) (c : UInt8) (h : s[pos]? = some c) (hc : c.toNat < 128) : Utf8.decode ⟨s.toArray⟩ pos = (c.toNat, 1) := by
  have hlt : pos < s.length := (List.getElem?_eq_some_iff.1 h).1
  have hg : (ByteArray.mk s.toArray).get! (pos + 0) = c := by
    show s.toArray[pos + 0]! = c
    rw [Nat.add_zero, getElem!_pos _ _ (by simpa using hlt)]
    have := (List.getElem?_eq_some_iff.1 h).2
    simpa using this
  unfold Utf8.decode
  simp only [hg]
  rw [if_pos (by simpa using hc)]
theorem bnd_eq {α β : Type} {x : M α} {f : α → M β} {st st' : ASt} {b : β} (h : Zz.bnd x f st = some (b, st')) : ∃ a s1, x st = some (a, s1) ∧ f a s1 = some (b, st') := by
  unfold Zz.bnd at h
  cases h1 : x st with
  | none => rw [h1] at h; cases h
  | some p => obtain ⟨a, s1⟩ := p; rw [h1] at h; exact ⟨a, s1, rfl, h⟩
theorem optb_eq {α β : Type} {o : Option α} {f : α → M β} {st st' : ASt} {b : β} (h : Zz.bnd (Zz.opt o) f st = some (b, st')) : ∃ a, o = some a ∧ f a st = some (b, st') := by
  cases o with
  | none => cases h
  | some a => exact ⟨a, rfl, h⟩
theorem lastN_eq : ∀ l : List Nat, lastN l = l.getLast?
  | [] => rfl
  | [x] => rfl
  | x :: y :: l => by
    show lastN (y :: l) = _
    rw [lastN_eq (y :: l), List.getLast?_cons_cons]
theorem born_find {n : Nat} {k u : AV} : ∀ (es : List (AV × AV × Nat)) (l : List MapEntry), es.length = l.length →
    (∀ (i : Nat) (k v : AV) (b : Nat), es[i]? = some (k, v, b) → ∃ en : MapEntry, l[i]? = some en ∧ en.born = b ∧ VR ρ m k en.key ∧ VR ρ m v en.val) → bornA (some n) es = some (k, u) →
    ∃ en : MapEntry, l.find? (fun x => x.born == n) = some en ∧ VR ρ m k en.key ∧ VR ρ m u en.val
  | [], l, hl, h, hb => by cases hb
  | (k0, u0, b0) :: es, [], hl, h, hb => by cases hl
  | (k0, u0, b0) :: es, en0 :: l, hl, h, hb => by
    unfold bornA at hb
    dsimp only at hb
    obtain ⟨en, q1, q2, q3, q4⟩ := h 0 k0 u0 b0 rfl
    cases q1
    cases hbb : Nat.beq b0 n with
    | true =>
      rw [hbb] at hb
      cases hb
      have : b0 = n := by simpa using hbb
      exact ⟨en0, by rw [List.find?_cons, show (en0.born == n) = true by simp [q2, this]], q3, q4⟩
    | false =>
      rw [hbb] at hb
      have : b0 ≠ n := by intro e; rw [e] at hbb; simp at hbb
      obtain ⟨en, r1, r2, r3⟩ := born_find es l (by simpa using hl) (fun i k v b hi => by simpa using h (i + 1) k v b (by simpa using hi)) hb
      exact ⟨en, by rw [List.find?_cons, show (en0.born == n) = false by simp [q2, this]]; exact r1, r2, r3⟩
theorem plain_ok {H : Hooks} {e : Ex} {o : Oper} {tm : Tm} {a : Act} (hq : Opq ρ) (ht : TmR ρ m tm a) (hc : isCall o.op = false) : Ok P ρ w0 base (NVr ρ) m (opA P H e o tm) (execOp a.eval o) := by
  obtain ⟨dst, op, ty, pos, after, guard⟩ := o
  unfold opA execOp
  cases op with
  | move x => exact Ok.optr (fun v hv => pOk (aval_ok hv ht))
  | assign x => exact Ok.optr (fun v hv => pOk (aval_ok hv ht))
  | pick c x y =>
    refine Ok.opt (fun v hv => ?_)
    have hv' := aval_ok hv ht
    simp only
    split
    · generalize hcv : a.eval c = cv at hv'
      cases hv'
      refine Ok.optr (fun u hu => ?_)
      exact Ok.ret (fun w => by simp [hcv, asBool]) (.inl ⟨_, rfl, aval_ok hu ht⟩)
    · generalize hcv : a.eval c = cv at hv'
      cases hv'
      refine Ok.optr (fun u hu => ?_)
      exact Ok.ret (fun w => by simp [hcv, asBool]) (.inl ⟨_, rfl, aval_ok hu ht⟩)
    · exact Ok.fail
  | alloc t =>
    refine Ok.opt (fun z hz => ?_)
    obtain ⟨zv, e1, e2⟩ := run_zero hz
    refine vOk (Ok.congr (fun w => ?_) (newVar_ok (t := t) hq (e2 ρ m)))
    simp [Instr.alloc, e1]
  | box t x =>
    refine Ok.opt (fun v hv => ?_)
    exact vOk (newVar_ok hq (aval_ok hv ht))
  | build t ps => exact vOk (build_ok hq ht)
  | buildSlice t len ps =>
    dsimp only
    split
    · rename_i el hu
      refine Ok.opt (fun n hn => Ok.opt (fun z hz => Ok.cond (fun hc => ?_) (fun _ => Ok.fail)))
      simp only [Bool.and_eq_true, Nat.ble_eq, Nat.beq_eq] at hc
      obtain ⟨⟨c1, c2⟩, c3⟩ := hc
      refine Ok.opt (fun l hl => Ok.opt (fun cs hcs => ?_))
      obtain ⟨zv, e1, e2⟩ := run_zero hz
      have hzr := (e2 ρ m).cells hq
      have hzl := hzr.length
      simp only [Array.length_toList] at hzl
      obtain ⟨g1, g2⟩ := arrPlaces_ok n ps.toList
      have hrep := repeat_ok hzr len (len * n) (by rw [c2]) (by omega)
      obtain ⟨r, f1, f2⟩ := parts_fill (place := fun i => some (i * n, n)) hq ht g1 (fun k i x hk => ⟨_, _, rfl, g2 k i x hk⟩) hl hrep hcs
      refine vOk (Ok.congr (s' := newRow el r >>= fun ad => pure (.slice (some ad) len len)) (fun w => ?_) ?_)
      · have hle : ¬ len * n > 2 ^ 24 := by omega
        by_cases h0 : len * n = 0
        · have hl0 : len = 0 := by
            rcases Nat.mul_eq_zero.1 h0 with h | h <;> omega
          subst hl0
          have hmp := map_pairs ps a.eval
          simp only [Nat.zero_mul] at f1
          have e0 : ∀ f : Nat → Value, (Array.range 0).map f = #[] := fun _ => by simp
          rw [e0] at f1
          simp [Instr.buildSlice, run_und hu, run_size hn]
          rw [e0, f1]
          simp
        · have hmp := map_pairs ps a.eval
          simp only [Instr.buildSlice, Sem.run_bind, run_und hu, Result.andThen_ok, run_size hn, hmp, if_neg hle, if_neg h0, e1, Sem.run_pure, f1]
      · refine Ok.bnd (Fr.newC _ _) (fun _ => Fr.ret _) (newC_ok f2) (fun A ad m' _ hA => ?_)
        obtain ⟨b, rfl, hm⟩ := hA
        have hrl := f2.length
        refine Ok.ret (b := .slice (some ⟨b, 0, none⟩) len len) (fun w => rfl) ?_
        have hcl : cs.length = len * n := by
          have := fillA_len hcs
          rw [this, repeatL_len, c2]
        refine .sl A 0 len len n true b 0 _ 0 len hm (Nat.le_refl _) (fun _ => rfl) (fun _ => rfl) ?_ (Nat.le_refl _) (Nat.le_refl _)
        simp only [Array.length_toList] at hrl
        omega
    · exact Ok.fail
  | insert t x y z =>
    refine Ok.opt (fun v hv => Ok.opt (fun k hk => Ok.opt (fun u hu => ?_)))
    exact uOk (Fr.mapUpA _ _ _ _ _) (mapUpA_ok (aval_ok hv ht) (aval_ok hk ht) (aval_ok hu ht))
  | mapUpdate t x y z =>
    refine Ok.opt (fun v hv => Ok.opt (fun k hk => Ok.opt (fun u hu => ?_)))
    exact uOk (Fr.mapUpA _ _ _ _ _) (mapUpA_ok (aval_ok hv ht) (aval_ok hk ht) (aval_ok hu ht))
  | load t x =>
    refine Ok.opt (fun v hv => ?_)
    have hv' := aval_ok hv ht
    simp only
    split
    · generalize hcv : a.eval x = cv at hv'
      cases hv' with | ptr A i b d z hA => _
      exact vOk (Ok.congr (fun w => by simp [Instr.loadAt, Instr.sureAddr]) (loadT_ok hA))
    · exact Ok.fail
  | store t x y =>
    refine Ok.opt (fun v hv => Ok.opt (fun u hu => ?_))
    have hv' := aval_ok hv ht
    simp only
    split
    · generalize hcv : a.eval x = cv at hv'
      cases hv' with | ptr A i b d z hA => _
      exact uOk (Fr.storeT _ _ _ _ _) (Ok.congr (fun w => by simp [Instr.storeAt, Instr.sureAddr]) (storeT_ok hq hA (aval_ok hu ht)))
    · exact Ok.fail
  | nilCheck x =>
    refine Ok.opt (fun v hv => ?_)
    have hv' := aval_ok hv ht
    simp only
    split
    · generalize hcv : a.eval x = cv at hv'
      cases hv' with | ptr _ _ b d z hA => exact pOk (.ptr _ _ b d z hA)
    · generalize hcv : a.eval x = cv at hv'
      cases hv' with | ifc _ _ uv h => exact pOk (.ifc _ _ uv h)
    · generalize hcv : a.eval x = cv at hv'
      cases hv' with | fn _ _ _ u v h1 h2 => exact pOk (.fn _ _ _ u v h1 h2)
    · exact Ok.fail
  | binOp bop t x y yt =>
    refine Ok.opt (fun v hv => Ok.opt (fun u hu => Ok.cond (fun hg => ?_) (fun _ => Ok.fail)))
    exact vOk (bin_ok hg (aval_ok hv ht) (aval_ok hu ht))
  | unOp uop t x =>
    refine Ok.opt (fun v hv => ?_)
    exact vOk (un_ok (aval_ok hv ht))
  | convert src dst x =>
    refine Ok.opt (fun v hv => ?_)
    exact vOk (cvtA_ok (aval_ok hv ht))
  | makeInterface t x =>
    refine Ok.opt (fun v hv => ?_)
    simp only
    split
    · exact Ok.fail
    · rename_i d hno hu
      refine vOk (Ok.ret (b := .iface t (a.eval x)) (fun w => ?_) (.ifc _ _ _ (aval_ok hv ht)))
      cases d <;> first | exact (hno _ rfl).elim | simp [Instr.makeInterface, run_und hu]
    · exact Ok.fail
  | makeFunc f x y =>
    refine Ok.opt (fun u hu => Ok.opt (fun v hv => ?_))
    refine vOk (Ok.ret (b := .func f (x.map a.eval) (y.map a.eval)) (fun w => rfl) (.fn _ _ _ _ _ ?_ ?_))
    · rw [Array.toList_map]; exact avals_ok ht hu
    · rw [Array.toList_map]; exact avals_ok ht hv
  | makeMap t r =>
    have key : ∀ s : Sem Value, (∀ w, s.run P w = .ok (.map (some w.heap.size)) (w.alloc (.map #[] 0))) → Ok P ρ w0 base (VRr ρ) m (Zz.bnd (nw (.map [] 0)) fun A => Zz.ret (.map A)) s := fun s hs st w a' st' h hr hf => by
      unfold Zz.bnd at h
      cases h1 : nw (.map [] 0) st with
      | none => rw [h1] at h; cases h
      | some p =>
        obtain ⟨A, st1⟩ := p
        rw [h1] at h; cases h
        obtain ⟨rfl, e2, e3⟩ := nw_eq h1
        have hm : m st.next = none := hf _ (Nat.le_refl _) (by omega)
        refine ⟨_, _, mset m st.next (w.heap.size, 0, 0), hs w, mset_ext hm, fun A h1 h2 => ?_, ?_, .map _ _ 0 0 (mset_same _ _ _)⟩
        · have := mset_dom h1 h2; omega
        · rw [e2, get_upd]
          exact hr.new hm ⟨#[], heap_new w _, rfl, fun i k v b hi => by cases hi⟩
    cases r with
    | none => exact vOk (key _ (fun w => by simp [Instr.makeMap, newObj, Sem.run]))
    | some x =>
      refine Ok.opt (fun v hv => ?_)
      have hv' := aval_ok hv ht
      simp only
      split
      · rename_i kt et k n hu
        generalize hcv : a.eval x = cv at hv'
        cases hv'
        exact vOk (key _ (fun w => by simp [Instr.makeMap, newObj, Sem.run, hcv, run_und hu, Go.asInt, asIntOf]))
      · exact Ok.fail
  | makeSlice t l c =>
    refine Ok.opt (fun lv hl => Ok.opt (fun cv hc => ?_))
    refine asNat_ok (aval_ok hl ht) (fun k1 n1 h1 => asNat_ok (aval_ok hc ht) (fun k2 n2 h2 => ?_))
    split
    · rename_i el hu
      refine Ok.opt (fun n hn => Ok.opt (fun z hz => Ok.cond (fun hcc => ?_) (fun _ => Ok.fail)))
      simp only [Bool.and_eq_true, Nat.ble_eq, Nat.beq_eq] at hcc
      obtain ⟨⟨⟨⟨c1, c2⟩, c3⟩, c4⟩, c5⟩ := hcc
      obtain ⟨zv, e1, e2⟩ := run_zero hz
      have hzr := (e2 ρ m).cells hq
      have hzl := hzr.length
      simp only [Array.length_toList] at hzl
      have hrep := repeat_ok hzr n2 (n2 * n) (by rw [c2]) (by omega)
      have hinfo : ∃ i, P.info? el = some i ∧ i.size = n := by
        unfold sizeT at hn
        cases hi : P.info? el with
        | none => rw [hi] at hn; cases hn
        | some i => rw [hi] at hn; cases hn; exact ⟨i, rfl, rfl⟩
      obtain ⟨i, hi, hsz⟩ := hinfo
      have hby : i.bytes ≤ 65536 := by
        have : P.bytesOf el = i.bytes := by simp [Program.bytesOf, hi]
        omega
      refine vOk (Ok.congr (s' := newRow el ((Array.range (n2 * n)).map (zv.cells[· % zv.cells.size]!)) >>= fun ad => pure (.slice (some ad) n1 n2)) (fun w => ?_) ?_)
      · have hw1 : IntKind.i64.wrap (n1 : Int) = n1 := by
          have := wrapA_eq .i64 (n1 : Int)
          rw [← this]; unfold wrapA inK
          have : Nat.blt n1 9223372036854775808 = true := by rw [Nat.blt_eq]; omega
          simp [this]
        have hw2 : IntKind.i64.wrap (n2 : Int) = n2 := by
          have := wrapA_eq .i64 (n2 : Int)
          rw [← this]; unfold wrapA inK
          have : Nat.blt n2 9223372036854775808 = true := by rw [Nat.blt_eq]; omega
          simp [this]
        have hbig : ¬ ((i.bytes : Int) * (n2 : Int) > 2 ^ 48) := by
          have h3 : i.bytes * n2 ≤ 65536 * 65536 := Nat.mul_le_mul hby c4
          have : ((i.bytes * n2 : Nat) : Int) = (i.bytes : Int) * (n2 : Int) := by push_cast; rfl
          rw [← this]; omega
        have hbig2 : ¬ ((i.bytes : Int) * (n1 : Int) > 2 ^ 48) := by
          have h3 : i.bytes * n1 ≤ 65536 * 65536 := Nat.mul_le_mul hby (by omega)
          have : ((i.bytes * n1 : Nat) : Int) = (i.bytes : Int) * (n1 : Int) := by push_cast; rfl
          rw [← this]; omega
        have hroom : ∀ w, (askRoom (n2 * i.bytes)).run P w = .ok () w := fun w => by
          unfold askRoom
          split
          · simp [mark, Sem.run]
          · rfl
        have hlc : ¬ (n1 : Int) > (n2 : Int) := by omega
        have hn1 : ¬ (n1 : Int) < 0 := by omega
        have hn2 : ¬ (n2 : Int) < 0 := by omega
        simp only [Instr.makeSlice, Sem.run_bind, run_und hu, Result.andThen_ok, h1, h2, Go.asInt, asIntOf, Sem.run_pure, run_info hi, hw1, hw2]
        simp only [decide_eq_false hbig, decide_eq_false hn1, decide_eq_false hn2, decide_eq_false hlc, Bool.or_false, Bool.false_eq_true, if_false, Int.toNat_natCast, Sem.run_bind, hroom, Result.andThen_ok, run_size hn, run_info hi]
        by_cases h0 : n2 * n = 0
        · have hl0 : n2 = 0 := by
            rcases Nat.mul_eq_zero.1 h0 with h | h <;> omega
          subst hl0
          have e0 : ∀ f : Nat → Value, (Array.range 0).map f = #[] := fun _ => by simp
          simp [e0]
        · simp only [if_neg h0, e1, Result.andThen_ok, Sem.run_bind, Sem.run_pure]
      · refine Ok.bnd (Fr.newR _ _ _) (fun _ => Fr.ret _) (newR_ok hrep) (fun A ad m' _ hA => ?_)
        obtain ⟨b, rfl, hm⟩ := hA
        refine Ok.ret (b := .slice (some ⟨b, 0, none⟩) n1 n2) (fun w => rfl) ?_
        exact .sl A 0 n1 n2 n true b 0 _ 0 n2 hm (Nat.le_refl _) (fun _ => rfl) (fun _ => rfl) (by simp) c3 (Nat.le_refl _)
    · exact Ok.fail
  | slice t x lo hi mx =>
    refine Ok.opt (fun v hv => Ok.opt (fun l hl => Ok.opt (fun h hh => Ok.opt (fun k hk => ?_))))
    exact vOk (slice_ok (aval_ok hv ht) (oAval_ok hl ht) (oAval_ok hh ht) (oAval_ok hk ht))
  | fieldAddr t x f =>
    refine Ok.opt (fun v hv => ?_)
    have hv' := aval_ok hv ht
    simp only
    split
    · rename_i fs A i hu
      generalize hcv : a.eval x = cv at hv'
      cases hv' with | ptr _ _ b d z hA => _
      split
      · rename_i fd hfd
        split
        · rename_i q hsz
          refine vOk (Ok.ret (b := .pointer (some ⟨b, d + (i + fd.offset), none⟩)) (fun w => ?_) (.ptr _ _ b d z hA))
          simp [Instr.fieldAt, run_und hu, hfd, Instr.sureAddr, fieldPlace, run_size hsz, add_mk', Nat.add_assoc]
        · exact Ok.fail
      · exact Ok.fail
    · exact Ok.fail
  | field t x f =>
    refine Ok.opt (fun v hv => ?_)
    have hv' := aval_ok hv ht
    simp only
    split
    · rename_i fs l hu
      generalize hcv : a.eval x = cv at hv'
      cases hv' with | agg _ u h => _
      split
      · rename_i fd hfd
        exact vOk (Ok.congr (fun w => by simp [Instr.field, run_und hu, hfd, asAgg]) (partT_ok h))
      · exact Ok.fail
    · exact Ok.fail
  | indexAddr t x y =>
    refine Ok.opt (fun v hv => Ok.opt (fun j hj => ?_))
    have hv' := aval_ok hv ht
    refine asNat_ok (aval_ok hj ht) (fun k1 j h1 => ?_)
    simp only
    split
    · rename_i n el A i hu
      generalize hcv : a.eval x = cv at hv'
      cases hv' with | ptr _ _ b d z hA => _
      refine Ok.opt (fun q hq2 => Ok.cond (fun hlt => ?_) (fun _ => Ok.fail))
      have hlt' : j < n := by simpa using hlt
      have hlt2 : ¬ n ≤ j := by omega
      refine vOk (Ok.ret (b := .pointer (some ⟨b, d + (i + j * q), none⟩)) (fun w => ?_) (.ptr _ _ b d z hA))
      simp [Instr.indexAt, h1, asIntOf, run_und hu, Instr.sureAddr, hlt2, run_size hq2, add_mk', Nat.add_assoc]
    · rename_i el A i len cap sz ex hu
      generalize hcv : a.eval x = cv at hv'
      cases hv' with | sl _ _ _ _ _ _ b d z off cap' hA hc hexc ho hz hl hd => _
      refine Ok.opt (fun q hq2 => Ok.cond (fun hlt => ?_) (fun _ => Ok.fail))
      simp only [Bool.and_eq_true, Nat.blt_eq, Nat.beq_eq] at hlt
      obtain ⟨g1, rfl⟩ := hlt
      have hlt2 : ¬ len ≤ j := by omega
      have ho' := ho (by omega)
      subst ho'
      refine vOk (Ok.ret (b := .pointer (some ⟨b, d + (i + j * q), none⟩)) (fun w => ?_) (.ptr _ _ b d z hA))
      simp [Instr.indexAt, h1, asIntOf, run_und hu, hlt2, run_size hq2, add_mk', Nat.add_assoc]
    · exact Ok.fail
  | index t x y =>
    refine Ok.opt (fun v hv => Ok.opt (fun j hj => ?_))
    have hv' := aval_ok hv ht
    refine asNat_ok (aval_ok hj ht) (fun k1 j h1 => ?_)
    simp only
    split
    · rename_i n el l hu
      generalize hcv : a.eval x = cv at hv'
      cases hv' with | agg _ u h => _
      refine Ok.opt (fun q hq2 => Ok.cond (fun hlt => ?_) (fun _ => Ok.fail))
      have hlt' : j < n := by simpa using hlt
      have hlt2 : ¬ n ≤ j := by omega
      exact vOk (Ok.congr (fun w => by simp [Instr.index, h1, asIntOf, run_und hu, hlt2, run_size hq2]) (partT_ok h))
    · rename_i s hu
      generalize hcv : a.eval x = cv at hv'
      cases hv'
      split
      · rename_i b hb
        refine vOk (Ok.ret (b := .int .u8 b.toNat) (fun w => ?_) (.int _ _))
        have hlt : j < s.length := (List.getElem?_eq_some_iff.1 hb).1
        have hget : (ByteArray.mk s.toArray)[j]? = some b := by
          have hsz : j < (ByteArray.mk s.toArray).size := by simpa [ByteArray.size] using hlt
          rw [getElem?_pos (ByteArray.mk s.toArray) j hsz]
          have := (List.getElem?_eq_some_iff.1 hb).2
          show some (s.toArray[j]'(by simpa using hlt)) = some b
          simpa using this
        simp [Instr.index, h1, asIntOf, run_und hu, hget]
      · exact Ok.fail
    · exact Ok.fail
  | lookup t x y ok =>
    refine Ok.opt (fun v hv => Ok.opt (fun k hk => ?_))
    exact vOk (lookA_ok (aval_ok hv ht) (aval_ok hk ht))
  | range t x =>
    refine Ok.opt (fun v hv => ?_)
    have hv' := aval_ok hv ht
    simp only
    split
    · rename_i s hu
      generalize hcv : a.eval x = cv at hv'
      cases hv'
      refine vOk (fun st w a' st' h hr hf => ?_)
      unfold Zz.bnd at h
      cases h1 : nw (.siter s 0) st with
      | none => rw [h1] at h; cases h
      | some p =>
        obtain ⟨A, st1⟩ := p
        rw [h1] at h; cases h
        obtain ⟨rfl, e2, e3⟩ := nw_eq h1
        have hm : m st.next = none := hf _ (Nat.le_refl _) (by omega)
        refine ⟨.pointer (some ⟨w.heap.size, 0, none⟩), w.alloc (.stringIter ⟨s.toArray⟩ 0), mset m st.next (w.heap.size, 0, 0), ?_, mset_ext hm, fun A h1 h2 => ?_, ?_, .ptr _ 0 _ 0 0 (mset_same _ _ _)⟩
        · simp [Instr.range, run_und hu, newObj, Sem.run]
        · have := mset_dom h1 h2; omega
        · rw [e2, get_upd]
          exact hr.new hm ⟨rfl, heap_new w _⟩
    · rename_i kt et hu
      generalize hcv : a.eval x = cv at hv'
      cases hv'
      refine vOk (fun st w a' st' h hr hf => ?_)
      unfold Zz.bnd at h
      cases h1 : nw (.miter none 0 [] 0) st with
      | none => rw [h1] at h; cases h
      | some p =>
        obtain ⟨A, st1⟩ := p
        rw [h1] at h; cases h
        obtain ⟨rfl, e2, e3⟩ := nw_eq h1
        have hm : m st.next = none := hf _ (Nat.le_refl _) (by omega)
        refine ⟨.pointer (some ⟨w.heap.size, 0, none⟩), w.alloc (.mapIter none 0 #[] 0), mset m st.next (w.heap.size, 0, 0), ?_, mset_ext hm, fun A h1 h2 => ?_, ?_, .ptr _ 0 _ 0 0 (mset_same _ _ _)⟩
        · simp [Instr.range, run_und hu, newObj, Sem.run]
        · have := mset_dom h1 h2; omega
        · rw [e2, get_upd]
          exact hr.new hm ⟨rfl, none, rfl, heap_new w _⟩
    · rename_i kt et mA hu
      generalize hcv : a.eval x = cv at hv'
      cases hv' with | map _ b d z hA => _
      refine vOk (Ok.rd (fun blk st w a' st' h hB hr hf => ?_))
      cases blk with
      | map es clk =>
        simp only at h
        obtain ⟨p, f1, f2, f3⟩ := hr.blk mA _ hB
        rw [hA] at f1; cases f1
        obtain ⟨es', g1, g2, g3⟩ := f3
        unfold Zz.bnd at h
        cases h1 : nw (.miter (some mA) clk [] clk) st with
        | none => rw [h1] at h; cases h
        | some p =>
          obtain ⟨A, st1⟩ := p
          rw [h1] at h; cases h
          obtain ⟨rfl, e2, e3⟩ := nw_eq h1
          have hm : m st.next = none := hf _ (Nat.le_refl _) (by omega)
          refine ⟨.pointer (some ⟨w.heap.size, 0, none⟩), w.alloc (.mapIter (some b) clk #[] clk), mset m st.next (w.heap.size, 0, 0), ?_, mset_ext hm, fun A h1 h2 => ?_, ?_, .ptr _ 0 _ 0 0 (mset_same _ _ _)⟩
          · simp [Instr.range, run_und hu, newObj, Go.getObj, g1, Sem.run]
          · have := mset_dom h1 h2; omega
          · rw [e2, get_upd]
            exact hr.new hm ⟨rfl, some b, ⟨_, mset_ext hm _ _ hA, rfl⟩, heap_new w _⟩
      | _ => cases h
    · exact Ok.fail
  | entry x =>
    refine Ok.opt (fun v hv => ?_)
    have hv' := aval_ok hv ht
    simp only
    split
    · rename_i A
      generalize hcv : a.eval x = cv at hv'
      cases hv' with | ptr _ _ b d z hA => _
      refine vOk (Ok.rd (fun blk st w a' st' h hB hr hf => ?_))
      cases blk with
      | miter am since seen last =>
        obtain ⟨p, f1, f2, f3, r, f4, f5⟩ := hr.blk A _ hB
        rw [hA] at f1; cases f1
        simp only at f3 f5
        subst f3
        cases am with
        | none => cases h
        | some mA =>
          obtain ⟨q, k1, rfl⟩ := f4
          simp only at h
          obtain ⟨blk, s1, h1, h2⟩ := bnd_eq h
          obtain ⟨e1, e2, e3⟩ := rd_eq h1
          cases blk with
          | map es clk =>
            simp only at h2
            cases hck : Nat.beq clk last with
            | false => rw [hck] at h2; cases h2
            | true =>
              rw [hck, cond_true] at h2
              have hcl : clk = last := by simpa using hck
              obtain ⟨ku, hku, h3⟩ := optb_eq h2
              obtain ⟨k, u⟩ := ku
              cases h3
              obtain ⟨p', k1', k2', es', k3, k4, k5⟩ := hr.blk mA _ e1
              rw [k1] at k1'; cases k1'
              cases hln : lastN seen with
              | none => rw [hln] at hku; unfold bornA at hku; cases hku
              | some nb =>
                rw [hln] at hku
                obtain ⟨en, j1, j2, j3⟩ := born_find es es'.toList (by simpa using k4) (fun i k v b hi => by
                  obtain ⟨en, q1, q2, q3, q4⟩ := k5 i k v b hi
                  exact ⟨en, by simpa using q1, q2, q3, q4⟩) hku
                have hback : seen.toArray.back? = some nb := by rw [List.back?_toArray, ← lastN_eq]; exact hln
                have hfind : es'.find? (fun x => x.born == nb) = some en := by rw [← Array.find?_toList]; exact j1
                refine ⟨.tuple #[en.key, en.val], w, m, ?_, Ext.refl m, fun A h1 h2 => absurd h1 h2, (by rw [e2]; exact hr), .tup _ _ (.cons _ _ _ _ j2 (.cons _ _ _ _ j3 .nil))⟩
                subst hcl
                simp [Instr.entry, Go.getObj, Sem.run, f5, k3, hback, hfind]
          | _ => cases h2
      | _ => cases h
    · exact Ok.fail
  | next x isS =>
    cases isS with
    | false =>
      refine Ok.opt (fun v hv => ?_)
      simp only
      split
      · refine vOk (Ok.rd (fun blk st w a' st' h hB hr hf => ?_))
        cases blk with
        | mforce am since seen last c clk =>
          obtain ⟨p, f1, f2, f3⟩ := hr.blk _ _ hB
          cases f3
        | _ => cases h
      · exact Ok.fail
    | true =>
      refine Ok.opt (fun v hv => ?_)
      have hv' := aval_ok hv ht
      simp only
      split
      · rename_i A
        generalize hcv : a.eval x = cv at hv'
        cases hv' with | ptr _ _ b d z hA => _
        refine vOk (Ok.rd (fun blk st w a' st' h hB hr hf => ?_))
        cases blk with
        | siter s pos =>
          simp only at h
          obtain ⟨p, f1, f2, f3, f4⟩ := hr.blk A _ hB
          rw [hA] at f1; cases f1
          simp only at f3 f4
          subst f3
          have hsz : (ByteArray.mk s.toArray).size = s.length := by simp [ByteArray.size]
          cases hp : s[pos]? with
          | none =>
            rw [hp] at h; cases h
            have hge : ¬ pos < s.length := fun hlt => by rw [List.getElem?_eq_getElem hlt] at hp; cases hp
            refine ⟨.tuple #[.bool false], w, m, ?_, Ext.refl m, fun A h1 h2 => absurd h1 h2, hr, .tup _ _ (.cons _ _ _ _ (.bool _) .nil)⟩
            simp [Instr.next, Go.getObj, Sem.run, f4, hsz, hge]
          | some c =>
            rw [hp] at h
            simp only at h
            cases hc2 : Nat.blt c.toNat 128 with
            | false => rw [hc2] at h; cases h
            | true =>
              rw [hc2, cond_true] at h
              have hc3 : c.toNat < 128 := by simpa using hc2
              have hlt : pos < s.length := (List.getElem?_eq_some_iff.1 hp).1
              have hdec := nextStr s pos c hp hc3
              unfold Zz.bnd at h
              cases h1 : wr A (.siter s (pos + 1)) st with
              | none => rw [h1] at h; cases h
              | some q =>
                obtain ⟨u, st1⟩ := q
                rw [h1] at h; cases h
                obtain ⟨g1, g2⟩ := wr_eq h1
                have hbl : b < w.heap.size := by
                  rcases Nat.lt_or_ge b w.heap.size with h' | h'
                  · exact h'
                  · rw [Array.getElem?_eq_none h'] at f4; cases f4
                refine ⟨.tuple #[.bool true, goInt pos, .int .i32 c.toNat], { w with heap := w.heap.setIfInBounds b (.stringIter ⟨s.toArray⟩ (pos + 1)) }, m, ?_, Ext.refl m, fun A h1 h2 => absurd h1 h2, ?_, .tup _ _ (.cons _ _ _ _ (.bool _) (.cons _ _ _ _ (.int _ _) (.cons _ _ _ _ (.int _ _) .nil)))⟩
                · simp [Instr.next, Go.getObj, Go.setObj, Sem.run, f4, hsz, hlt, hdec]
                · rw [g1, get_upd]
                  refine hr.write hB hA rfl (fun k hk => ?_) (by simp) rfl rfl rfl ⟨rfl, ?_⟩
                  · show (w.heap.setIfInBounds b _)[k]? = _
                    rw [Array.getElem?_setIfInBounds, if_neg (fun e => hk e.symm)]
                  · show (w.heap.setIfInBounds b _)[b]? = _
                    rw [Array.getElem?_setIfInBounds, if_pos rfl, if_pos hbl]
        | _ => cases h
      · exact Ok.fail
  | typeAssert x xt t ok =>
    refine Ok.opt (fun v hv => ?_)
    exact vOk (assertA_ok (aval_ok hv ht))
  | extract x i =>
    refine Ok.opt (fun v hv => ?_)
    have hv' := aval_ok hv ht
    simp only
    split
    · generalize hcv : a.eval x = cv at hv'
      cases hv' with | tup l u h => _
      refine Ok.optr (fun y hy => ?_)
      obtain ⟨uv, e1, e2⟩ := h.get hy
      rw [Array.getElem?_toList] at e1
      exact vOk (Ok.ret (fun w => by simp [Instr.extract, e1]) e2)
    · exact Ok.fail
  | call c => cases hc
  | _ => exact Ok.fail
end
end Go.Proofs.YtelohloaoocoaaaGreatDoor.Zz
/- The executor: operations with calls. -/
set_option linter.unusedVariables false
set_option linter.unusedSimpArgs false
set_option linter.deprecated false
namespace Go.Proofs.YtelohloaoocoaaaGreatDoor.Zz
open Go Go.RowKit

section
variable {P : Program} {ρ : Nat → Value} {w0 : World} {base : Nat} {m : BMap}
def Fresh (m : BMap) (lo hi : Nat) : Prop := ∀ A, lo ≤ A → A < hi → m A = none
def Dom (m m' : BMap) (lo hi : Nat) : Prop := ∀ A, m A = none → m' A ≠ none → lo ≤ A ∧ A < hi
/-- how a call ends -/
def EndR (ρ : Nat → Value) (m : BMap) (v : AV) (en : Ending) : Prop := (∃ v', en = .returned v' ∧ VR ρ m v v') ∨ ∃ x u, v = .pan x ∧ en = .panicked [{ v := u, recovered := false }] ∧ VR ρ m x u
/-- what a call is to show, for what the executor says of it -/
def CallOk (P : Program) (ρ : Nat → Value) (w0 : World) (base : Nat) (call : FuncId → List AV → M AV) : Prop :=
  ∀ f args us m st w v st', call f args st = some (v, st') → Rel ρ w0 base m st.heap.get w → Fresh m st.next st'.next → LR ρ m args us.toList →
    Calls P f us w fun en w' => ∃ m', Ext m m' ∧ Dom m m' st.next st'.next ∧ Rel ρ w0 base m' st'.heap.get w' ∧ EndR ρ m' v en
/-- what stands in for a function -/
def HookFn (P : Program) (ρ : Nat → Value) (w0 : World) (base : Nat) (f : FuncId) (h : List AV → M AV) : Prop :=
  ∀ args us m st w v st', h args st = some (v, st') → Rel ρ w0 base m st.heap.get w → Fresh m st.next st'.next → LR ρ m args us.toList →
    ∀ (o : Oper) (a : Act) (K : Act → World → Prop) (Q : Exit → Act → World → Prop), (∀ v' w' m', Ext m m' → Dom m m' st.next st'.next → Rel ρ w0 base m' st'.heap.get w' → VR ρ m' v v' → K (a.put o.dst v') w') →
      o.upon P a K Q ((callFunc f us).run P w)
/-- what is said of an operation on a value that is not known -/
def OraOk (P : Program) (ρ : Nat → Value) (w0 : World) (base : Nat) (q : Q) (r : AV) : Prop :=
  ∀ (o : Oper) (tm : Tm) (a : Act) (m : BMap) (st : ASt) (w : World), oraKey tm o.op = some q → TmR ρ m tm a → Rel ρ w0 base m st.heap.get w → ∃ u w' m', (execOp a.eval o).run P w = .ok (.value u) w' ∧ Ext m m' ∧ Dom m m' st.next st.next ∧ Rel ρ w0 base m' st.heap.get w' ∧ VR ρ m' r u
def HookOk (P : Program) (ρ : Nat → Value) (w0 : World) (base : Nat) (H : Hooks) : Prop :=
  (∀ f h, H.fn f = some h → HookFn P ρ w0 base f h) ∧ ∀ q r, H.ora q = some r → OraOk P ρ w0 base q r
/-- an operation that was done: what the walk is to go on with -/
def Upon (P : Program) (ρ : Nat → Value) (w0 : World) (base : Nat) (m : BMap) (st st' : ASt) (v : AV) (r : Result Next) : Prop :=
  ∀ (o : Oper) (a : Act) (K : Act → World → Prop) (Q : Exit → Act → World → Prop), (∀ v' w' m', Ext m m' → Dom m m' st.next st'.next → Rel ρ w0 base m' st'.heap.get w' → VR ρ m' v v' → K (a.put o.dst v') w') →
    (∀ x u w' m', v = .pan x → Ext m m' → Dom m m' st.next st'.next → Rel ρ w0 base m' st'.heap.get w' → VR ρ m' x u → Q (.panic [{ v := u, recovered := false }]) a w') → o.upon P a K Q r
theorem funcA_ok {H : Hooks} {e : Ex} {f : FuncId} {args : List AV} {us : Array Value} {st st' : ASt} {w : World} {v : AV} (hc : CallOk P ρ w0 base e.call) (hH : HookOk P ρ w0 base H)
    (h : funcA P H e f args st = some (v, st')) (hr : Rel ρ w0 base m st.heap.get w) (hf : Fresh m st.next st'.next) (hl : LR ρ m args us.toList) : Upon P ρ w0 base m st st' v ((callFunc f us).run P w) := by
  intro o a K Q hK hQ
  unfold funcA at h
  cases hh : H.fn f with
  | some h' => rw [hh] at h; exact hH.1 f h' hh args us m st w v st' h hr hf hl o a K Q hK
  | none =>
    rw [hh] at h
    simp only at h
    cases hfn : P.funcs[f]? with
    | none => rw [hfn] at h; cases h
    | some fn =>
      rw [hfn] at h
      simp only at h
      cases hb : (fn.name == "runtime.NumGoroutine" || fn.body.isNone) with
      | true => rw [hb] at h; cases h
      | false =>
        rw [hb, cond_false] at h
        simp only [Bool.or_eq_false_iff] at hb
        have hb1 : ¬ fn.name = "runtime.NumGoroutine" := by simpa using hb.1
        have hb2 : ¬ fn.body = none := by
          intro e0; rw [e0] at hb; cases hb.2
        have hrun : (callFunc f us).run P w = .ok (.enter f us) w := by
          simp [callFunc, program, Sem.run, hfn, hb1, hb2]
        rw [hrun, Oper.upon_enter]
        refine (hc f args us m st w v st' h hr hf hl).mono ?_
        rintro en w' ⟨m', h1, h2, h3, ⟨v', rfl, h4⟩ | ⟨x, u, rfl, rfl, h4⟩⟩
        · exact hK v' w' m' h1 h2 h3 h4
        · exact hQ x u w' m' rfl h1 h2 h3 h4
theorem load1_eq {A i : Nat} {st st' : ASt} {x : AV} (h : load1 A i st = some (x, st')) : ∃ c n e frz odd, st.heap.get A = some (.cells c n e frz odd) ∧ c.get i = some x ∧ st'.heap = st.heap ∧ st'.next = st.next := by
  unfold load1 at h
  obtain ⟨b, s1, h1, h2⟩ := bnd_eq h
  obtain ⟨e1, e2, e3⟩ := rd_eq h1
  cases b with
  | cells c n e frz odd =>
    dsimp only at h2
    cases hc : c.get i with
    | none => rw [hc] at h2; cases h2
    | some y => rw [hc] at h2; cases h2; exact ⟨c, n, e, frz, odd, e1, hc, e2, e3⟩
  | _ => cases h2
theorem loadT_same {t : TypeId} {A i b d z : Nat} {st st' : ASt} {x : AV} {w : World} (h : loadT P t A i st = some (x, st')) (hr : Rel ρ w0 base m st.heap.get w) (hp : m A = some (b, d, z)) :
    ∃ v, (loadVar t ⟨b, d + i, none⟩).run P w = .ok v w ∧ VR ρ m x v ∧ st'.heap = st.heap ∧ st'.next = st.next := by
  unfold loadT at h
  cases hb : isAggT P t with
  | none => rw [hb] at h; cases h
  | some r =>
    rw [hb] at h
    cases r with
    | false =>
      obtain ⟨c, n, e, frz, odd, hA, hc, e2, e3⟩ := load1_eq h
      obtain ⟨arr, lo, hi, h1, h2, h3, h4, h5⟩ := rel_cells hr hA hp
      obtain ⟨q1, q2, v, q3, q4⟩ := h4 i x hc
      have hl : (Go.load ⟨b, d + i, none⟩).run P w = .ok v w := run_load (by rw [cell_of h1]; exact q3)
      exact ⟨v, by simp only [loadVar, Sem.run_bind, run_isAgg hb, Result.andThen_ok, Bool.false_eq_true, ↓reduceIte, hl], q4, e2, e3⟩
    | true =>
      dsimp only at h
      obtain ⟨n, hn, h⟩ := optb_eq h
      obtain ⟨l, s1, g1, g2⟩ := bnd_eq h
      cases g2
      obtain ⟨c, nn, e, frz, odd, hA, hc, e2, e3⟩ := loadC_eq g1
      obtain ⟨arr, lo, hi, h1, h2, h3, h4, h5⟩ := rel_cells hr hA hp
      obtain ⟨vs, k1, k2, k3⟩ := getN_vals h4 hc
      refine ⟨.agg vs.toArray, ?_, .agg _ _ k1, e2, e3⟩
      have := run_loadCells (P := P) (w := w) (a := ⟨b, d + i, none⟩) (vs := vs) (n := n) (by rw [← k1.length, k2]) (fun j v hj => by rw [add_mk', cell_of h1]; exact k3 j v hj)
      simp [loadVar, run_isAgg hb, run_size hn, this]
/-- a reading: the world and the blocks stay -/
def Same {α β : Type} (P : Program) (ρ : Nat → Value) (w0 : World) (base : Nat) (m : BMap) (w : World) (R : α → β → Prop) (x : M α) (s : Sem β) : Prop :=
  ∀ st st' a, x st = some (a, st') → Rel ρ w0 base m st.heap.get w → ∃ b, s.run P w = .ok b w ∧ R a b ∧ st'.heap = st.heap ∧ st'.next = st.next
theorem Same.fail {α β : Type} {w : World} {R : α → β → Prop} {s : Sem β} : Same P ρ w0 base m w R (Zz.fail : M α) s := fun st st' a h _ => by cases h
theorem Same.ret {α β : Type} {w : World} {R : α → β → Prop} {s : Sem β} {a : α} {b : β} (hs : s.run P w = .ok b w) (h : R a b) : Same P ρ w0 base m w R (Zz.ret a) s := fun st st' a' h' _ => by
  cases h'; exact ⟨b, hs, h, rfl, rfl⟩
theorem Same.bnd {α β γ δ : Type} {w : World} {R : α → β → Prop} {R' : γ → δ → Prop} {x : M α} {s : Sem β} {f : α → M γ} {g : β → Sem δ} (h : Same P ρ w0 base m w R x s) (hf : ∀ a b, R a b → Same P ρ w0 base m w R' (f a) (g b)) :
    Same P ρ w0 base m w R' (Zz.bnd x f) (s >>= g) := fun st st' c hc hr => by
  obtain ⟨a, s1, h1, h2⟩ := bnd_eq hc
  obtain ⟨b, e1, e2, e3, e4⟩ := h st s1 a h1 hr
  obtain ⟨d, f1, f2, f3, f4⟩ := hf a b e2 s1 st' c h2 (by rw [e3]; exact hr)
  exact ⟨d, by rw [Sem.run_bind, e1, Result.andThen_ok]; exact f1, f2, f3.trans e3, f4.trans e4⟩
theorem Same.congr {α β : Type} {w : World} {R : α → β → Prop} {x : M α} {s s' : Sem β} (hs : s'.run P w = s.run P w) (h : Same P ρ w0 base m w R x s) : Same P ρ w0 base m w R x s' := fun st st' a ha hr => by
  obtain ⟨b, e1, e2⟩ := h st st' a ha hr
  exact ⟨b, hs.trans e1, e2⟩
inductive PlR (ρ : Nat → Value) (m : BMap) : Pl → Place → Prop where
  | val (v : AV) (u : Value) (h : VR ρ m v u) : PlR ρ m (.val v) (.val u)
  | var (A i b d z : Nat) (h : m A = some (b, d, z)) : PlR ρ m (.var A i) (.var ⟨b, d + i, none⟩)
theorem getP_same {w : World} {t : TypeId} {x : Pl} {y : Place} (h : PlR ρ m x y) : Same P ρ w0 base m w (VR ρ m) (getP P t x) (y.get t) := by
  cases h with
  | val v u h => exact Same.ret (Sem.run_pure ..) h
  | var A i b d z h =>
    intro st st' a ha hr
    obtain ⟨v, e1, e2, e3, e4⟩ := loadT_same ha hr h
    exact ⟨v, e1, e2, e3, e4⟩
theorem partT_same {w : World} {t : TypeId} {l : List AV} {off : Nat} {cs : Array Value} (hl : LR ρ m l cs.toList) : Same P ρ w0 base m w (VR ρ m) (partT P t l off) (part t cs off) := by
  unfold partT
  cases hb : isAggT P t with
  | none => exact Same.fail
  | some r =>
    cases r with
    | false =>
      intro st st' a ha hr
      have ha' : (Zz.opt (l[off]?)) st = some (a, st') := ha
      cases hx : l[off]? with
      | none => rw [hx] at ha'; cases ha'
      | some x =>
        rw [hx] at ha'
        cases ha'
        obtain ⟨v, h1, h2⟩ := hl.get hx
        rw [Array.getElem?_toList] at h1
        exact ⟨v, by simp [part, run_isAgg hb, h1], h2, rfl, rfl⟩
    | true =>
      intro st st' a ha hr
      obtain ⟨n, hn, h2⟩ := optb_eq ha
      cases h2
      refine ⟨.agg (cs.extract off (off + n)), by simp [part, run_isAgg hb, run_size hn], .agg _ _ ?_, rfl, rfl⟩
      have := (hl.drop off).take n
      rw [Array.toList_extract, List.extract_eq_drop_take]
      simpa using this
def TPl (ρ : Nat → Value) (m : BMap) (a : TypeId × Pl) (b : TypeId × Place) : Prop := a.1 = b.1 ∧ PlR ρ m a.2 b.2
theorem followA_same {w : World} : ∀ (l : List FieldStep) (t : TypeId) (x : Pl) (y : Place), PlR ρ m x y → Same P ρ w0 base m w (TPl ρ m) (followA P l t x) (follow l t y)
  | [], t, x, y, h => Same.ret (Sem.run_pure ..) ⟨rfl, h⟩
  | s :: r, t, x, y, h => by
    have ih := followA_same (w := w) r
    unfold followA
    split
    · rename_i fs hu
      split
      · rename_i f hf
        split
        · rename_i q hsz
          have hfp : ∀ b d i : Nat, (fieldPlace ⟨b, d + i, none⟩ f).run P w = .ok ⟨b, d + (i + f.offset), none⟩ w := fun b d i => by
            simp [fieldPlace, run_size hsz, add_mk', Nat.add_assoc]
          cases hd : s.deref with
          | true =>
            rw [cond_true]
            refine Same.congr (s := y.get t >>= fun v => asAddr v >>= fun a => fieldPlace a f >>= fun p => follow r f.type (.var p)) ?_ (Same.bnd (getP_same h) (fun v u hv => ?_))
            · simp [follow, run_und hu, hf, hd]
            · split
              · rename_i A i
                cases hv with | ptr _ _ b d z hA => _
                refine Same.congr (s := follow r f.type (.var ⟨b, d + (i + f.offset), none⟩)) ?_ (ih _ _ _ (.var A _ b d z hA))
                simp [asAddr, hfp]
              · exact Same.fail
          | false =>
            rw [cond_false]
            split
            · rename_i A i
              cases h with | var _ _ b d z hA => _
              refine Same.congr (s := follow r f.type (.var ⟨b, d + (i + f.offset), none⟩)) ?_ (ih _ _ _ (.var A _ b d z hA))
              simp [follow, run_und hu, hf, hd, hfp]
            · rename_i l
              cases h with | val _ u hv => _
              cases hv with | agg _ cs hl => _
              refine Same.congr (s := part f.type cs f.offset >>= fun v => follow r f.type (.val v)) ?_ (Same.bnd (partT_same hl) (fun v u hv => ih _ _ _ (.val _ _ hv)))
              simp [follow, run_und hu, hf, hd]
            · exact Same.fail
        · exact Same.fail
      · exact Same.fail
    · exact Same.fail
theorem run_wrapchk {w : World} {t : TypeId} {ad : Addr} {s name : String} : (Builtin.ssaWrapNilChk_ #[t] t #[.pointer (some ad), strVal s, strVal name]).run P w = .ok (.pointer (some ad)) w := by
  have : Builtin.ssaWrapNilChk_ #[t] t #[.pointer (some ad), strVal s, strVal name] = pure (.pointer (some ad)) := rfl
  rw [this]; exact Sem.run_pure ..
theorem recvA_same {w : World} {t : TypeId} {x : Pl} {y : Place} {pr : Bool} {wr : Option String} (h : PlR ρ m x y) : Same P ρ w0 base m w (VR ρ m) (recvA P t x pr) (receiverAt t y pr wr) := by
  unfold recvA
  split
  · rename_i e hu
    refine Same.congr (s := y.get t) ?_ (getP_same h)
    simp [receiverAt, run_und hu]
  · rename_i e hu
    intro st st' a ha hr
    obtain ⟨v, s1, h1, h2⟩ := bnd_eq ha
    obtain ⟨u, e1, e2, e3, e4⟩ := getP_same h st s1 v h1 hr
    cases v with
    | ptr A i =>
      cases e2 with | ptr _ _ b d z hA => _
      obtain ⟨x', f1, f2, f3, f4⟩ := loadT_same h2 (by rw [e3]; exact hr) hA
      refine ⟨x', ?_, f2, f3.trans e3, f4.trans e4⟩
      cases wr with
      | none => simp [receiverAt, run_und hu, e1, asAddr, f1]
      | some name => simp [receiverAt, run_und hu, e1, run_wrapchk, asAddr, f1]
    | _ => cases h2
  · rename_i d hne hu
    split
    · rename_i A i
      cases h with | var _ _ b d' z hA => _
      refine Same.ret (b := .pointer (some ⟨b, d' + i, none⟩)) ?_ (.ptr _ _ b d' z hA)
      cases d <;> first | exact absurd rfl (hne _) | simp [receiverAt, run_und hu]
    · exact Same.fail
  · rename_i d hne hu
    refine Same.congr (s := y.get t) ?_ (getP_same h)
    cases d <;> first | exact absurd rfl (hne _) | simp [receiverAt, run_und hu]
  · exact Same.fail
theorem methN_same {w : World} : ∀ (n k : Nat) (t : TypeId) (v : AV) (name : String) (u : Value), VR ρ m v u → Same P ρ w0 base m w (fun a b => a.1 = b.1 ∧ VR ρ m a.2 b.2) (methN P n t v name) (method (n + k) t u name)
  | 0, k, t, v, name, u, hv => Same.fail
  | n + 1, k, t, v, name, u, hv => by
    unfold methN
    split
    · exact Same.fail
    · rename_i i hi
      split
      · exact Same.fail
      · rename_i mt hm
        intro st st' a ha hr
        obtain ⟨⟨xt, x⟩, s1, h1, h2⟩ := bnd_eq ha
        obtain ⟨⟨xt', y⟩, e1, ⟨e2, e2'⟩, e3, e4⟩ := followA_same (P := P) mt.path.toList t (.val v) (.val u) (.val v u hv) st s1 _ h1 hr
        simp only at e2 e2'
        subst e2
        have hr1 : Rel ρ w0 base m s1.heap.get w := by rw [e3]; exact hr
        rw [show n + 1 + k = (n + k) + 1 by omega]
        cases hfn : mt.func with
        | none =>
          rw [hfn] at h2
          dsimp only at h2
          obtain ⟨z, s2, h3, h4⟩ := bnd_eq h2
          obtain ⟨zv, f1, f2, f3, f4⟩ := getP_same e2' s1 s2 z h3 hr1
          cases z with
          | ifc t' v' =>
            cases f2 with | ifc _ _ vv hvv => _
            obtain ⟨r, g1, g2, g3, g4⟩ := methN_same n k t' v' name vv hvv s2 st' a h4 (by rw [f3]; exact hr1)
            refine ⟨r, ?_, g2, g3.trans (f3.trans e3), g4.trans (f4.trans e4)⟩
            simp only [method, Sem.run_bind, run_info hi, Result.andThen_ok, hm, e1, hfn, f1]
            exact g1
          | _ => cases h4
        | some fp =>
          obtain ⟨f, pr⟩ := fp
          rw [hfn] at h2
          dsimp only at h2
          obtain ⟨r, s2, h3, h4⟩ := bnd_eq h2
          cases h4
          obtain ⟨rv, f1, f2, f3, f4⟩ := recvA_same (wr := if mt.path.isEmpty then some ((name.splitOn ".").getLastD name) else none) e2' s1 _ r h3 hr1
          refine ⟨(f, rv), ?_, ⟨rfl, f2⟩, f3.trans e3, f4.trans e4⟩
          simp only [method, Sem.run_bind, run_info hi, Result.andThen_ok, hm, e1, hfn, f1, Sem.run_pure]
theorem methA_eq {t : TypeId} {v : AV} {name : String} {st st' : ASt} {f : FuncId} {rc : AV} {w : World} {u : Value} (k : Nat) (h : methA P t v name st = some ((f, rc), st')) (hv : VR ρ m v u) (hr : Rel ρ w0 base m st.heap.get w) :
    ∃ u', (method (4 + k) t u name).run P w = .ok (f, u') w ∧ VR ρ m rc u' ∧ st'.heap = st.heap ∧ st'.next = st.next := by
  obtain ⟨⟨f0, u'⟩, e1, ⟨e2, e2'⟩, e3, e4⟩ := methN_same (P := P) 4 k t v name u hv st st' _ h hr
  simp only at e2 e2'
  subst e2
  exact ⟨u', e1, e2', e3, e4⟩
theorem call_ok {H : Hooks} {e : Ex} {o : Oper} {c : Call} {tm : Tm} {a : Act} {st st' : ASt} {w : World} {v : AV} (hq : Opq ρ) (ho : o.op = .call c) (hc : CallOk P ρ w0 base e.call) (hH : HookOk P ρ w0 base H)
    (h : opA P H e o tm st = some (v, st')) (hr : Rel ρ w0 base m st.heap.get w) (hf : Fresh m st.next st'.next) (ht : TmR ρ m tm a) : Upon P ρ w0 base m st st' v ((execOp a.eval o).run P w) := by
  unfold opA at h
  rw [ho] at h
  simp only at h
  obtain ⟨args, hargs, h⟩ := optb_eq h
  have hl : LR ρ m args (c.args.map a.eval).toList := by rw [Array.toList_map]; exact avals_ok ht hargs
  have hexec : execOp a.eval o = (resolve a.eval c o.type >>= fun d => invoke d.target d.args) := by
    unfold execOp; rw [ho]
  have hd0 : 4 + (P.types.size + Made.depth - 4) = P.types.size + Made.depth := by
    have : 4 < Made.depth := by decide
    omega
  rw [hexec]
  cases hcal : c.callee with
  | builtin b =>
    rw [hcal] at h
    dsimp only at h
    intro o' a' K Q hK hQ
    obtain ⟨n, w', m', e1, e2, e3, e4, e5⟩ := built_ok (P := P) (ρ := ρ) (w0 := w0) (base := base) (ty := o.type) (cs := c.args.map fun | .const _ => true | _ => false) hq hl st w v st' h hr hf
    have hrun : (resolve a.eval c o.type >>= fun d => invoke d.target d.args).run P w = .ok n w' := by
      simp only [resolve, hcal, Sem.run_bind, Sem.run_pure, Result.andThen_ok, invoke]
      exact e1
    rw [hrun]
    rcases e5 with ⟨v', rfl, hv⟩ | ⟨rfl, rfl⟩
    · exact hK v' w' m' e2 e3 e4 hv
    · exact hK undef w' m' e2 e3 e4 (.tup _ _ .nil)
  | invoke r name =>
    rw [hcal] at h
    dsimp only at h
    obtain ⟨rv, hrv, h⟩ := optb_eq h
    have hvr := aval_ok hrv ht
    generalize hev : a.eval r = ev at hvr
    cases hvr with
    | ifc t u uv hu =>
      dsimp only at h
      obtain ⟨⟨f, rc⟩, st1, hm, h⟩ := bnd_eq h
      dsimp only at h
      obtain ⟨u', g1, g2, g3, g4⟩ := methA_eq (P := P) (w := w) (P.types.size + Made.depth - 4) hm hu hr
      have := funcA_ok (us := #[u'] ++ c.args.map a.eval) hc hH h (by rw [g3]; exact hr) (by rw [g4]; exact hf) (by
        rw [Array.toList_append]
        exact .cons _ _ _ _ g2 hl)
      intro o' a' K Q hK hQ
      have hrun : (resolve a.eval c o.type >>= fun d => invoke d.target d.args).run P w = (callFunc f (#[u'] ++ c.args.map a.eval)).run P w := by
        have hg := g1
        rw [hd0] at hg
        have q0 : (#[Value.iface t uv] ++ c.args.map a.eval)[0]? = some (Value.iface t uv) := by simp [Array.getElem?_append]
        have q1 : (#[Value.iface t uv] ++ c.args.map a.eval).extract 1 (#[Value.iface t uv] ++ c.args.map a.eval).size = c.args.map a.eval := by
          apply Array.ext'
          simp
          exact List.take_of_length_le (by simp)
        simp only [resolve, hcal, Sem.run_bind, Sem.run_pure, Result.andThen_ok, invoke, hev, q0, q1]
        simp [callMethod, program, Sem.run, hg]
      rw [hrun]
      exact this o' a' K Q (by rw [g4]; exact hK) (by rw [g4]; exact hQ)
    | _ => cases h
  | value fo =>
    rw [hcal] at h
    dsimp only at h
    obtain ⟨fv, hfv, h⟩ := optb_eq h
    have hvf := aval_ok hfv ht
    generalize hev : a.eval fo = ev at hvf
    cases hvf with
    | fn f first cap u1 u2 h1 h2 =>
      cases f with
      | func f =>
        dsimp only at h
        have := funcA_ok (us := u1 ++ c.args.map a.eval ++ u2) hc hH h hr hf (by
          rw [Array.toList_append, Array.toList_append]
          exact (h1.append hl).append h2)
        intro o' a' K Q hK hQ
        have hrun : (resolve a.eval c o.type >>= fun d => invoke d.target d.args).run P w = (callFunc f (u1 ++ c.args.map a.eval ++ u2)).run P w := by
          simp only [resolve, hcal, hev, Deferred.ofValue, Sem.run_bind, Sem.run_pure, Result.andThen_ok, invoke]
        rw [hrun]
        exact this o' a' K Q hK hQ
      | method name =>
        dsimp only at h
        have hall := h1.append hl
        cases hfa : first ++ args with
        | nil => rw [hfa] at h; cases h
        | cons x rest =>
          rw [hfa] at h hall
          cases hrest : u1.toList ++ (c.args.map a.eval).toList with
          | nil => rw [hrest] at hall; cases hall
          | cons y ys =>
            rw [hrest] at hall
            cases hall with | cons _ _ _ _ hy hys => _
            cases hy with
            | ifc t u uv hu =>
              dsimp only at h
              obtain ⟨⟨f, rc⟩, st1, hm, h⟩ := bnd_eq h
              dsimp only at h
              obtain ⟨u', g1, g2, g3, g4⟩ := methA_eq (P := P) (w := w) (P.types.size + Made.depth - 4) hm hu hr
              have := funcA_ok (us := #[u'] ++ ys.toArray) hc hH h (by rw [g3]; exact hr) (by rw [g4]; exact hf) (by
                rw [Array.toList_append]
                exact .cons _ _ _ _ g2 hys)
              intro o' a' K Q hK hQ
              have hua : u1 ++ c.args.map a.eval = (.iface t uv :: ys).toArray := by
                have := congrArg List.toArray hrest
                simpa using this
              have hrun : (resolve a.eval c o.type >>= fun d => invoke d.target d.args).run P w = (callFunc f (#[u'] ++ ys.toArray)).run P w := by
                have hg := g1
                rw [hd0] at hg
                simp only [resolve, hcal, hev, Deferred.ofValue, Sem.run_bind, Sem.run_pure, Result.andThen_ok, invoke, hua]
                simp [callMethod, program, Sem.run, hg]
              rw [hrun]
              exact this o' a' K Q (by rw [g4]; exact hK) (by rw [g4]; exact hQ)
            | _ => cases h
      | _ => cases h
    | _ => cases h
/-- a temporary is written -/
theorem put_ok {N : Nat} {tm tmv : Tm} {a : Act} {dst : Option Tmp} {m' : BMap} {v : AV} {u : Value} {ds : List Deferred} (ht : TmR ρ m tm a) (hN : a.tmps.size = N) (hd : a.defers = ds) (he : Ext m m') (hv : VR ρ m' v u) (hp : ∃ s1 s2, putA N tm dst v s1 = some (tmv, s2)) :
    TmR ρ m' tmv (a.put dst u) ∧ (a.put dst u).tmps.size = N ∧ (a.put dst u).defers = ds ∧ tmv.d = tm.d ∧ tmv.p = tm.p := by
  obtain ⟨s1, s2, hp⟩ := hp
  unfold putA at hp
  cases hds : dst with
  | none => rw [hds] at hp; cases hp; exact ⟨ht.ext he, hN, hd, rfl, rfl⟩
  | some d =>
    rw [hds] at hp
    simp only at hp
    cases hlt : Nat.blt d N with
    | false => rw [hlt] at hp; cases hp
    | true =>
      rw [hlt] at hp; cases hp
      have hlt' : d < a.tmps.size := by rw [hN]; simpa using hlt
      refine ⟨fun t => ?_, by simp [Act.put, hN], hd, rfl, rfl⟩
      rw [Tm.get_put]
      by_cases htd : t = d
      · subst htd
        rw [if_pos rfl]
        exact ⟨u, by simp [Act.put, hlt'], hv⟩
      · rw [if_neg htd]
        have := ht.ext he t
        cases e0 : tm.get t with
        | none => rw [e0] at this; simp only at this ⊢; simpa [Act.put, Array.getD_eq_getD_getElem?, Array.getElem?_setIfInBounds_ne (Ne.symm htd)] using this
        | some x =>
          rw [e0] at this
          cases x with
          | none => trivial
          | some x => simp only at this ⊢; simpa [Act.put, Array.getElem?_setIfInBounds_ne (Ne.symm htd)] using this
theorem put_same {N : Nat} {tm tmv : Tm} {dst : Option Tmp} {v : AV} {s1 s2 : ASt} (hp : putA N tm dst v s1 = some (tmv, s2)) : s2 = s1 := by
  unfold putA at hp
  cases hds : dst with
  | none => rw [hds] at hp; cases hp; rfl
  | some d =>
    rw [hds] at hp
    simp only at hp
    cases hlt : Nat.blt d N with
    | false => rw [hlt] at hp; cases hp
    | true => rw [hlt] at hp; cases hp; rfl
theorem want_ok {ops : Array Oper} {o : Oper} {tm : Tm} {a : Act} (ht : TmR ρ m tm a) : ∀ b, wantA ops o tm = some b → Region.wanted o (yielded ops a.tmps) = b := by
  intro b hb
  unfold wantA at hb
  unfold Region.wanted
  cases hg : o.guard with
  | none => rw [hg] at hb; cases hb; rfl
  | some p =>
    obtain ⟨j, want⟩ := p
    rw [hg] at hb
    simp only at hb ⊢
    unfold yielded
    cases hoj : ops[j]? with
    | none => rw [hoj] at hb; cases hb; rfl
    | some g =>
      rw [hoj] at hb
      simp only [Option.bind_some] at hb ⊢
      cases hgd : g.dst with
      | none => rw [hgd] at hb; cases hb; rfl
      | some d =>
        rw [hgd] at hb
        simp only [Option.bind_some] at hb ⊢
        have htd := ht d
        cases hx : tm.get d with
        | none =>
          rw [hx] at hb htd
          cases hb
          simp only [Array.getD_eq_getD_getElem?] at htd
          cases hv : a.tmps[d]? with
          | none => rfl
          | some u =>
            rw [hv] at htd
            simp only [Option.getD_some] at htd
            rw [htd]; rfl
        | some x =>
          rw [hx] at hb htd
          cases x with
          | none => cases hb
          | some x =>
          obtain ⟨u, h1, h2⟩ := htd
          rw [h1]
          cases h2 <;> first | (cases hb; done) | (cases hb; rfl)
/-- an operation that is wanted: what it comes to -/
theorem op_ok {H : Hooks} {e : Ex} {o : Oper} {tm : Tm} {a : Act} {st st1 : ASt} {w : World} {v : AV} (hq : Opq ρ) (hc : CallOk P ρ w0 base e.call) (hH : HookOk P ρ w0 base H)
    (h : askA H tm o.op (opA P H e o tm) st = some (v, st1)) (hr : Rel ρ w0 base m st.heap.get w) (hf : Fresh m st.next st1.next) (ht : TmR ρ m tm a) : Upon P ρ w0 base m st st1 v ((execOp a.eval o).run P w) ∨ ∀ (K : Act → World → Prop) (Q : Exit → Act → World → Prop),
    (∀ v' w' m', Ext m m' → Dom m m' st.next st1.next → Rel ρ w0 base m' st1.heap.get w' → VR ρ m' v v' → K (a.put o.dst v') w') → o.wp P a w K Q := by
  have hask : (∃ q r, oraKey tm o.op = some q ∧ H.ora q = some r ∧ askA H tm o.op (opA P H e o tm) = Zz.ret r) ∨ askA H tm o.op (opA P H e o tm) = opA P H e o tm := by
    unfold askA
    cases hk : oraKey tm o.op with
    | none => exact .inr rfl
    | some q =>
      dsimp only
      cases hq2 : H.ora q with
      | none => exact .inr rfl
      | some r => exact .inl ⟨q, r, rfl, hq2, rfl⟩
  rcases hask with ⟨q, r, hk, hqr, hask⟩ | hask
  · rw [hask] at h
    cases h
    right
    intro K Q fin
    obtain ⟨u, w', m', hrun, e1, e2, e3, hv⟩ := hH.2 q _ hqr o tm a m _ w hk ht hr
    unfold Oper.wp
    rw [hrun, Oper.upon_value]
    exact fin u w' m' e1 e2 e3 hv
  · rw [hask] at h
    cases hic : isCall o.op with
    | true =>
      cases hoo : o.op with
      | call c => exact .inl (call_ok hq hoo hc hH h hr hf ht)
      | _ => rw [hoo] at hic; cases hic
    | false =>
      right
      intro K Q fin
      unfold Oper.wp
      obtain ⟨n, w', m', e1, e2, e3, e4, e5⟩ := plain_ok (P := P) (H := H) (e := e) (w0 := w0) (base := base) hq ht hic st w v st1 h hr hf
      rw [e1]
      rcases e5 with ⟨v', rfl, hv⟩ | ⟨rfl, rfl⟩
      · exact fin v' w' m' e2 e3 e4 hv
      · exact fin undef w' m' e2 e3 e4 (.tup _ _ .nil)
/-- one operation, guarded or not; it neither defers nor panics -/
theorem operW_ok {H : Hooks} {e : Ex} {N : Nat} {ops : Array Oper} {o : Oper} {tm tm' : Tm} {a : Act} {st st' : ASt} {w : World} {ds : List Deferred} (hq : Opq ρ) (hc : CallOk P ρ w0 base e.call) (hH : HookOk P ρ w0 base H)
    (h : operA P H e N ops o tm st = some (tm', st')) (hr : Rel ρ w0 base m st.heap.get w) (hf : Fresh m st.next st'.next) (ht : TmR ρ m tm a) (hN : a.tmps.size = N) (hd : a.defers = ds)
    (K : Act → World → Prop) (Q : Exit → Act → World → Prop) (hK : ∀ a' w' m', Ext m m' → Dom m m' st.next st'.next → Rel ρ w0 base m' st'.heap.get w' → TmR ρ m' tm' a' → a'.tmps.size = N → a'.defers = ds → tm'.d = tm.d → tm'.p = tm.p → K a' w') :
    if Region.wanted o (yielded ops a.tmps) then o.wp P a w K Q else K (a.put o.dst undef) w := by
  unfold operA at h
  cases hw : wantA ops o tm with
  | none => rw [hw] at h; cases h
  | some b =>
    rw [hw] at h
    rw [want_ok ht b hw]
    cases b with
    | false =>
      rw [if_neg (by simp)]
      have hst := put_same h
      subst hst
      obtain ⟨h1, h2, h3, h4, h5⟩ := put_ok ht hN hd (Ext.refl m) (.tup _ _ .nil : VR ρ m undefA undef) ⟨_, _, h⟩
      exact hK _ w m (Ext.refl m) (fun A h1 h2 => absurd h1 h2) hr h1 h2 h3 h4 h5
    | true =>
      rw [if_pos rfl]
      simp only at h
      obtain ⟨v, st1, h1, h2⟩ := bnd_eq h
      have h2' : putA N tm o.dst v st1 = some (tm', st') ∧ ∀ x, v ≠ .pan x := by
        cases v with
        | pan x => cases h2
        | _ => exact ⟨h2, fun x e => by cases e⟩
      obtain ⟨h2, hnp⟩ := h2'
      have hst := put_same h2
      subst hst
      have fin : ∀ v' w' m', Ext m m' → Dom m m' st.next st'.next → Rel ρ w0 base m' st'.heap.get w' → VR ρ m' v v' → K (a.put o.dst v') w' := fun v' w' m' e1 e2 e3 e4 => by
        obtain ⟨g1, g2, g3, g4, g5⟩ := put_ok ht hN hd e1 e4 ⟨_, _, h2⟩
        exact hK _ w' m' e1 e2 e3 g1 g2 g3 g4 g5
      rcases op_ok hq hc hH h1 hr hf ht with hu | hu
      · exact hu o a K Q fin (fun x u w' m' e => absurd e (hnp x))
      · exact hu K Q fin
theorem oper_ok {H : Hooks} {e : Ex} {N : Nat} {ops : Array Oper} {o : Oper} {tm tm' : Tm} {a : Act} {st st' : ASt} {w : World} {ds : List Deferred} (hq : Opq ρ) (hc : CallOk P ρ w0 base e.call) (hH : HookOk P ρ w0 base H)
    (h : operA P H e N ops o tm st = some (tm', st')) (hr : Rel ρ w0 base m st.heap.get w) (hf : Fresh m st.next st'.next) (ht : TmR ρ m tm a) (hN : a.tmps.size = N) (hd : a.defers = ds)
    (K : Act → World → Prop) (Q : Exit → Act → World → Prop) (hK : ∀ a' w' m', Ext m m' → Dom m m' st.next st'.next → Rel ρ w0 base m' st'.heap.get w' → TmR ρ m' tm' a' → a'.tmps.size = N → a'.defers = ds → tm'.d = tm.d → tm'.p = tm.p → K a' w') :
    if Region.wanted o (yielded ops a.tmps) then o.wp P a w K Q ∨ (o.asks P a w ∧ LetsOut Q) else K (a.put o.dst undef) w := by
  have := operW_ok hq hc hH h hr hf ht hN hd K Q hK
  split
  · rename_i hw; rw [if_pos hw] at this; exact .inl this
  · rename_i hw; rw [if_neg hw] at this; exact this
/-- what is deferred -/
inductive DfR (P : Program) (ρ : Nat → Value) (m : BMap) : List AV → List Deferred → Prop where
  | nil : DfR P ρ m [] []
  | cons (f : FuncId) (l : List AV) (fv : Fn) (cap dargs us : Array Value) (ds : List AV) (es : List Deferred) (hi : ∀ w : World, (invoke (.fn fv cap) dargs).run P w = .ok (.enter f us) w) (hl : LR ρ m l us.toList) (h : DfR P ρ m ds es) :
      DfR P ρ m (.fn (.func f) l [] :: ds) ({ target := .fn fv cap, args := dargs } :: es)
theorem DfR.ext {m' : BMap} {l : List AV} {r : List Deferred} (h : DfR P ρ m l r) (he : Ext m m') : DfR P ρ m' l r := by
  induction h with
  | nil => exact .nil
  | cons f l fv cap dargs us ds es hi hl _ ih => exact .cons f l fv cap dargs us ds es hi (hl.ext he) ih
theorem defer_ok {tm : Tm} {a : Act} {c : Call} {ty : TypeId} {st st' : ASt} {v : AV} {w : World} (ht : TmR ρ m tm a) (h : deferA P tm c st = some (v, st')) :
    st' = st ∧ ∃ d, (resolve a.eval c ty).run P w = .ok d w ∧ ∀ ds es, DfR P ρ m ds es → DfR P ρ m (v :: ds) (d :: es) := by
  unfold deferA at h
  obtain ⟨args, hargs, h⟩ := optb_eq h
  have hl : LR ρ m args (c.args.map a.eval).toList := by rw [Array.toList_map]; exact avals_ok ht hargs
  cases hcal : c.callee with
  | value fo =>
    rw [hcal] at h
    dsimp only at h
    obtain ⟨fv, hfv, h⟩ := optb_eq h
    have hvf := aval_ok hfv ht
    generalize hev : a.eval fo = ev at hvf
    cases hvf with
    | fn f first cap u1 u2 h1 h2 =>
      cases f with
      | func f =>
        dsimp only at h
        cases hfn : P.funcs[f]? with
        | none => rw [hfn] at h; cases h
        | some fn =>
          rw [hfn] at h
          dsimp only at h
          cases hb : (fn.name == "runtime.NumGoroutine" || fn.body.isNone) with
          | true => rw [hb] at h; cases h
          | false =>
            rw [hb, cond_false] at h
            cases h
            simp only [Bool.or_eq_false_iff] at hb
            have hb1 : ¬ fn.name = "runtime.NumGoroutine" := by simpa using hb.1
            have hb2 : ¬ fn.body = none := by
              intro e0; rw [e0] at hb; cases hb.2
            refine ⟨rfl, { target := .fn (.func f) u2, args := u1 ++ c.args.map a.eval }, by simp only [resolve, hcal, hev, Deferred.ofValue, Sem.run_pure], fun ds es hd => .cons f _ _ _ _ (u1 ++ c.args.map a.eval ++ u2) _ _ (fun w => ?_) ?_ hd⟩
            · simp [invoke, callFunc, program, Sem.run, hfn, hb1, hb2]
            · rw [Array.toList_append, Array.toList_append]
              exact (h1.append hl).append h2
      | _ => cases h
    | _ => cases h
  | builtin b => rw [hcal] at h; cases h
  | invoke r name => rw [hcal] at h; cases h
/-- an operation of a region that is not drawn -/
theorem operP_ok {H : Hooks} {e : Ex} {N : Nat} {ops : Array Oper} {o : Oper} {tm tm' : Tm} {a : Act} {st st' : ASt} {w : World} (hq : Opq ρ) (hc : CallOk P ρ w0 base e.call) (hH : HookOk P ρ w0 base H)
    (h : operP P H e N ops o tm st = some (tm', st')) (hr : Rel ρ w0 base m st.heap.get w) (hf : Fresh m st.next st'.next) (ht : TmR ρ m tm a) (hN : a.tmps.size = N) (hd : DfR P ρ m tm.d a.defers) (hp : tm.p = none)
    (K : Act → World → Prop) (Q : Exit → Act → World → Prop) (hK : tm'.p = none → ∀ a' w' m', Ext m m' → Dom m m' st.next st'.next → Rel ρ w0 base m' st'.heap.get w' → TmR ρ m' tm' a' → a'.tmps.size = N → DfR P ρ m' tm'.d a'.defers → K a' w')
    (hQ : ∀ x, tm'.p = some x → ∀ a' w' m' u, Ext m m' → Dom m m' st.next st'.next → Rel ρ w0 base m' st'.heap.get w' → TmR ρ m' tm' a' → a'.tmps.size = N → DfR P ρ m' tm'.d a'.defers → VR ρ m' x u → Q (.panic [{ v := u, recovered := false }]) a' w') :
    if Region.wanted o (yielded ops a.tmps) then o.wp P a w K Q ∨ (o.asks P a w ∧ LetsOut Q) else K (a.put o.dst undef) w := by
  -- an operation that is not wanted
  have skip : ∀ {tm2 : Tm} {s2 : ASt}, putA N tm o.dst undefA st = some (tm2, s2) → tm2 = tm' → s2 = st' → K (a.put o.dst undef) w := by
    intro tm2 s2 g e1 e2
    subst e1 e2
    have hst := put_same g
    subst hst
    obtain ⟨h1, h2, h3, h4, h5⟩ := put_ok ht hN rfl (Ext.refl m) (.tup _ _ .nil : VR ρ m undefA undef) ⟨_, _, g⟩
    exact hK (by rw [h5, hp]) _ w m (Ext.refl m) (fun A h1 h2 => absurd h1 h2) hr h1 h2 (by have h3' : (a.put o.dst undef).defers = a.defers := h3; rw [h3', h4]; exact hd)
  have plain : operA P H e N ops o tm st = some (tm', st') → if Region.wanted o (yielded ops a.tmps) then o.wp P a w K Q ∨ (o.asks P a w ∧ LetsOut Q) else K (a.put o.dst undef) w := fun h =>
    oper_ok hq hc hH h hr hf ht hN rfl K Q (fun a' w' m' e1 e2 e3 e4 e5 e6 e7 e8 => hK (by rw [e8, hp]) a' w' m' e1 e2 e3 e4 e5 (by rw [e6, e7]; exact hd.ext e1))
  unfold operP at h
  cases hop : o.op with
  | defer c =>
    rw [hop] at h
    dsimp only at h
    cases hw : wantA ops o tm with
    | none => rw [hw] at h; cases h
    | some b =>
      rw [hw] at h
      rw [want_ok ht b hw]
      cases b with
      | false => rw [if_neg (by simp)]; exact skip h rfl rfl
      | true =>
        rw [if_pos rfl]
        left
        dsimp only at h
        obtain ⟨x, s1, h1, h2⟩ := bnd_eq h
        obtain ⟨tm1, s2, h3, h4⟩ := bnd_eq h2
        cases h4
        obtain ⟨rfl, d, hrun, hdf⟩ := defer_ok (ty := o.type) (w := w) ht h1
        have hst := put_same h3
        subst hst
        obtain ⟨g1, g2, g3, g4, g5⟩ := put_ok (a := { a with defers := d :: a.defers }) (ds := d :: a.defers) (show TmR ρ m tm { a with defers := d :: a.defers } from ht) hN rfl (Ext.refl m) (.tup _ _ .nil : VR ρ m undefA undef) ⟨_, _, h3⟩
        unfold Oper.wp
        have hex : (execOp a.eval o).run P w = .ok (.defer d) w := by
          have : execOp a.eval o = (resolve a.eval c o.type >>= fun d => pure (.defer d)) := by unfold execOp; rw [hop]
          rw [this, Sem.run_bind, hrun, Result.andThen_ok, Sem.run_pure]
        rw [hex, Oper.upon_defer]
        exact hK (by show tm1.p = none; rw [g5, hp]) _ w m (Ext.refl m) (fun A h1 h2 => absurd h1 h2) hr g1 g2 (by have g3' : (({ a with defers := d :: a.defers } : Act).put o.dst undef).defers = d :: a.defers := g3; rw [g3']; show DfR P ρ m (x :: tm1.d) _; rw [g4]; exact hdf _ _ hd)
  | panic x =>
    rw [hop] at h
    dsimp only at h
    cases hw : wantA ops o tm with
    | none => rw [hw] at h; cases h
    | some b =>
      rw [hw] at h
      rw [want_ok ht b hw]
      cases b with
      | false => rw [if_neg (by simp)]; exact skip h rfl rfl
      | true =>
        rw [if_pos rfl]
        left
        dsimp only at h
        obtain ⟨v, hv, h⟩ := optb_eq h
        have hvr := aval_ok hv ht
        cases v with
        | ifc t y =>
          cases h
          generalize hev : a.eval x = ev at hvr
          cases hvr with | ifc _ _ yv hy => _
          unfold Oper.wp
          have hex : (execOp a.eval o).run P w = .halt (.panic (.iface t yv)) w := by
            have : execOp a.eval o = (Instr.panic (a.eval x) >>= fun v => pure (.value v)) := by unfold execOp; rw [hop]
            rw [this, hev]
            rfl
          rw [hex, Oper.upon_panic]
          exact hQ _ rfl a w m _ (Ext.refl m) (fun A h1 h2 => absurd h1 h2) hr ht hN hd (.ifc _ _ _ hy)
        | _ => cases h
  | call c =>
    rw [hop] at h
    dsimp only at h
    cases hw : wantA ops o tm with
    | none => rw [hw] at h; cases h
    | some b =>
      rw [hw] at h
      rw [want_ok ht b hw]
      cases b with
      | false => rw [if_neg (by simp)]; exact skip h rfl rfl
      | true =>
        rw [if_pos rfl]
        left
        dsimp only at h
        obtain ⟨v, st1, h1, h2⟩ := bnd_eq h
        rw [← hop] at h1
        by_cases hpn : ∃ x, v = .pan x
        · obtain ⟨x, rfl⟩ := hpn
          cases h2
          rcases op_ok hq hc hH h1 hr hf ht with hu | hu
          · refine hu o a K Q (fun v' w' m' _ _ _ hv => by cases hv) (fun y u w' m' e e1 e2 e3 hv => ?_)
            cases e
            exact hQ _ rfl a w' m' u e1 e2 e3 (ht.ext e1) hN (hd.ext e1) hv
          · exact hu K Q (fun v' w' m' _ _ _ hv => by cases hv)
        · have h2' : putA N tm o.dst v st1 = some (tm', st') := by
            cases v with
            | pan x => exact absurd ⟨x, rfl⟩ hpn
            | _ => exact h2
          have hst := put_same h2'
          subst hst
          have fin : ∀ v' w' m', Ext m m' → Dom m m' st.next st'.next → Rel ρ w0 base m' st'.heap.get w' → VR ρ m' v v' → K (a.put o.dst v') w' := fun v' w' m' e1 e2 e3 e4 => by
            obtain ⟨g1, g2, g3, g4, g5⟩ := put_ok ht hN rfl e1 e4 ⟨_, _, h2'⟩
            exact hK (by rw [g5, hp]) _ w' m' e1 e2 e3 g1 g2 (by rw [g3, g4]; exact hd.ext e1)
          rcases op_ok hq hc hH h1 hr hf ht with hu | hu
          · exact hu o a K Q fin (fun x u w' m' e => absurd ⟨x, e⟩ hpn)
          · exact hu K Q fin
  | _ => rw [hop] at h; exact plain h
end
end Go.Proofs.YtelohloaoocoaaaGreatDoor.Zz
/- The executor: code, calls. -/
set_option linter.unusedVariables false
set_option linter.unusedSimpArgs false
set_option linter.deprecated false
namespace Go.Proofs.YtelohloaoocoaaaGreatDoor.Zz
open Go Go.RowKit

section
variable {P : Program} {ρ : Nat → Value} {w0 : World} {base : Nat} {m : BMap}
theorem Dom.trans {a b c : BMap} {l k h : Nat} (h1 : Dom a b l k) (h2 : Dom b c k h) (hl : l ≤ k) (hk : k ≤ h) : Dom a c l h := fun A e1 e2 => by
  cases hb : b A with
  | none => have := h2 A hb e2; omega
  | some p => have := h1 A e1 (by rw [hb]; simp); omega
theorem Fresh.rest {a b : BMap} {l k h : Nat} (hf : Fresh a l h) (hd : Dom a b l k) (hl : l ≤ k) : Fresh b k h := fun A e1 e2 => by
  have := hf A (by omega) e2
  cases hb : b A with
  | none => rfl
  | some p => have := hd A this (by rw [hb]; simp); omega
/-- the state of a walk -/
structure At (P : Program) (ρ : Nat → Value) (w0 : World) (base N : Nat) (m : BMap) (st : ASt) (tm : Tm) (a : Act) (w : World) : Prop where
  rel : Rel ρ w0 base m st.heap.get w
  tmr : TmR ρ m tm a
  size : a.tmps.size = N
  defers : DfR P ρ m tm.d a.defers
/-- what is to be shown behind a piece of code -/
def Post (P : Program) (ρ : Nat → Value) (w0 : World) (base N : Nat) (m : BMap) (st st' : ASt) (tm' : Tm) (K : BMap → Act → World → Prop) : Prop :=
  ∀ a' w' m', Ext m m' → Dom m m' st.next st'.next → At P ρ w0 base N m' st' tm' a' w' → K m' a' w'
/-- behind a piece of code, by its exit: of a panic, whatever it was panicked with -/
def QX (ρ : Nat → Value) (Q : Exit → Act → World → Prop) (x : Exit) (tm : Tm) (m : BMap) (a : Act) (w : World) : Prop := match x with
  | .panic _ => ∀ p u, tm.p = some p → VR ρ m p u → Q (.panic [{ v := u, recovered := false }]) a w
  | x => Q x a w
theorem QX_p {Q : Exit → Act → World → Prop} {x : Exit} {tm tm' : Tm} (h : tm.p = tm'.p) : QX ρ Q x tm = QX ρ Q x tm' := by
  funext m a w
  unfold QX
  rw [h]
/-- behind a region -/
def QE (ρ : Nat → Value) (Q : Exit → Act → World → Prop) (tm : Tm) (m : BMap) (a : Act) (w : World) : Prop := match tm.p with
  | some p => ∀ u, VR ρ m p u → Q (.panic [{ v := u, recovered := false }]) a w
  | none => Q .normal a w
theorem endP_eq {tm tm' : Tm} {x : Exit} {st st' : ASt} (h : endP tm st = some ((x, tm'), st')) : tm' = tm ∧ st' = st ∧ ∀ (Q : Exit → Act → World → Prop) m a w, QX ρ Q x tm m a w → QE ρ Q tm m a w := by
  unfold endP at h
  cases hp : tm.p with
  | none =>
    rw [hp] at h; cases h
    refine ⟨rfl, rfl, fun Q m a w hx => ?_⟩
    unfold QE; rw [hp]; exact hx
  | some p =>
    rw [hp] at h; cases h
    refine ⟨rfl, rfl, fun Q m a w hx => ?_⟩
    unfold QE; rw [hp]; exact fun u hu => hx p u hp hu
theorem fr_next {α : Type} {x : M α} (hx : Fr x) {st st' : ASt} {a : α} (h : x st = some (a, st')) : st.next ≤ st'.next := by
  obtain ⟨L, q⟩ := hx st a st' h
  exact q.next
theorem ops_ok {H : Hooks} {e : Ex} {N : Nat} {ops : Array Oper} (hq : Opq ρ) (hc : CallOk P ρ w0 base e.call) (hH : HookOk P ρ w0 base H) (hFH : FrH H) (hFE : FrE e) {Q : Exit → Act → World → Prop} :
    ∀ (l : List Nat) (os : List Oper) (m : BMap) (st st' : ASt) (tm tm' : Tm) (a : Act) (w : World), (∀ k : Nat, l[k]?.bind (ops[·]?) = os[k]?) → l.length = os.length → opsP P H e N ops os tm st = some (tm', st') → tm.p = none → At P ρ w0 base N m st tm a w → Fresh m st.next st'.next →
      Post P ρ w0 base N m st st' tm' (QE ρ Q tm') → wpOps P ops Q l a w
  | [], [], m, st, st', tm, tm', a, w, _, _, h, hp, hA, hf, hP => by
    cases h
    have := hP a w m (Ext.refl m) (fun A h1 h2 => absurd h1 h2) hA
    unfold QE at this
    rw [hp] at this
    exact this
  | [], _ :: _, _, _, _, _, _, _, _, _, h, _, _, _, _, _ => by cases h
  | _ :: _, [], _, _, _, _, _, _, _, _, h, _, _, _, _, _ => by cases h
  | i :: l, o :: os, m, st, st', tm, tm', a, w, hi, hl, h, hp, hA, hf, hP => by
    unfold opsP at h
    obtain ⟨tm1, st1, h1, h2⟩ := bnd_eq h
    have h0 := hi 0
    simp only [List.getElem?_cons_zero, Option.bind_some] at h0
    have n1 := fr_next (Fr.operP P hFH hFE N ops o tm) h1
    have n2 : st1.next ≤ st'.next := by
      cases hp1 : tm1.p with
      | some p => rw [hp1] at h2; cases h2; exact Nat.le_refl _
      | none => rw [hp1] at h2; exact fr_next (Fr.opsP P hFH hFE N ops os tm1) h2
    have := operP_ok hq hc hH h1 hA.rel (fun A e1 e2 => hf A e1 (by omega)) hA.tmr hA.size hA.defers hp (wpOps P ops Q l) Q (fun hp1 a' w' m' e1 e2 e3 e4 e5 e6 => by
      rw [hp1] at h2
      refine ops_ok hq hc hH hFH hFE l os m' st1 st' tm1 tm' a' w' (fun k => by simpa using hi (k + 1)) (by simpa using hl) h2 hp1 ⟨e3, e4, e5, e6⟩ (hf.rest e2 n1) ?_
      intro a2 w2 m2 f1 f2 f3
      exact hP a2 w2 m2 (e1.trans f1) (e2.trans f2 n1 n2) f3) (fun x hp1 a' w' m' u e1 e2 e3 e4 e5 e6 e7 => by
      rw [hp1] at h2
      cases h2
      have := hP a' w' m' e1 e2 ⟨e3, e4, e5, e6⟩
      unfold QE at this
      rw [hp1] at this
      exact this u e7)
    unfold wpOps
    rw [h0]
    exact this
/-- what a drawn region is to show -/
def DrawOk (P : Program) (ρ : Nat → Value) (w0 : World) (base : Nat) (H : Hooks) (e : Ex) : Prop :=
  ∀ (N id : Nat) (ops : Array Oper) (m : BMap) (st st' : ASt) (tm tm' : Tm) (logs : List (List Nat)) (a : Act) (w : World) (Q : Exit → Act → World → Prop),
    drawA P H e N ops ops.toList tm st = some ((tm', logs), st') → allOk ops ops.toList logs 0 ops.toList (ancs ops.toList) logs = true → At P ρ w0 base N m st tm a w → Fresh m st.next st'.next →
      Post P ρ w0 base N m st st' tm' (fun _ => Q .normal) → (Code.region id ops true).wp P Q a w
theorem exists_least (p : Nat → Prop) (h : ∃ k, p k) : ∃ k, p k ∧ ∀ j, p j → k ≤ j := by
  obtain ⟨k, hk⟩ := h
  induction k using Nat.strongRecOn with
  | _ k ih =>
    by_cases hj : ∃ j, j < k ∧ p j
    · obtain ⟨j, h1, h2⟩ := hj
      exact ih j h1 h2
    · exact ⟨k, hk, fun j hpj => by
        rcases Nat.lt_or_ge j k with h | h
        · exact absurd ⟨j, h, hpj⟩ hj
        · exact h⟩
/-- code: what the executor says of it -/
def CodeOk (P : Program) (ρ : Nat → Value) (w0 : World) (base : Nat) (H : Hooks) (c : Code) : Prop :=
  ∀ (n : Nat), (∀ k, k ≤ n → CallOk P ρ w0 base (exec P H k).call ∧ DrawOk P ρ w0 base H (exec P H k)) →
    ∀ (N : Nat) (m : BMap) (st st' : ASt) (tm tm' : Tm) (x : Exit) (a : Act) (w : World) (Q : Exit → Act → World → Prop), codeA P H (exec P H n) N c tm st = some ((x, tm'), st') → At P ρ w0 base N m st tm a w → Fresh m st.next st'.next →
      Post P ρ w0 base N m st st' tm' (QX ρ Q x tm') → c.wp P Q a w

/-! ### a round of a loop over a map -/
/-- less is known -/
structure Weak (st : ASt) (tm : Tm) (st' : ASt) (tm' : Tm) : Prop where
  heap : ∀ A b, st.heap.get A = some b → st'.heap.get A = some b
  tmr : ∀ t, tm.get t = some none ∨ tm.get t = tm'.get t
  next : st'.next ≤ st.next
  d : tm.d = tm'.d
  p : tm.p = tm'.p
theorem Weak.refl (st : ASt) (tm : Tm) : Weak st tm st tm := ⟨fun _ _ h => h, fun _ => .inr rfl, Nat.le_refl _, rfl, rfl⟩
theorem Weak.trans {s1 s2 s3 : ASt} {t1 t2 t3 : Tm} (h : Weak s1 t1 s2 t2) (k : Weak s2 t2 s3 t3) : Weak s1 t1 s3 t3 :=
  ⟨fun A b e => k.heap A b (h.heap A b e), fun t => by
    rcases h.tmr t with e | e
    · exact .inl e
    · rcases k.tmr t with e2 | e2
      · exact .inl (e.trans e2)
      · exact .inr (e.trans e2), Nat.le_trans k.next h.next, h.d.trans k.d, h.p.trans k.p⟩
theorem Weak.at {N : Nat} {s1 s2 : ASt} {t1 t2 : Tm} {a : Act} {w : World} (h : Weak s1 t1 s2 t2) (k : At P ρ w0 base N m s2 t2 a w) : At P ρ w0 base N m s1 t1 a w :=
  ⟨⟨fun A b e => k.rel.blk A b (h.heap A b e), fun A B x y p q e1 e2 e3 e4 e5 e6 e7 => k.rel.sep A B x y p q (h.heap _ _ e1) (h.heap _ _ e2) e3 e4 e5 e6 e7, k.rel.old, k.rel.le⟩, fun t => by
    have := k.tmr t
    rcases h.tmr t with e | e
    · rw [e]; trivial
    · rw [e]; exact this, k.size, by rw [h.d]; exact k.defers⟩
theorem Weak.post {N : Nat} {s0 s1 s2 : ASt} {t1 t2 : Tm} {K : BMap → Act → World → Prop} (h : Weak s1 t1 s2 t2) (k : Post P ρ w0 base N m s0 s1 t1 K) : Post P ρ w0 base N m s0 s2 t2 K :=
  fun a w m' e1 e2 e3 => k a w m' e1 (fun A h1 h2 => by have := e2 A h1 h2; have := h.next; omega) (h.at e3)
theorem bothB_left {x y : Option ABlk} {b : ABlk} (h : bothB x y = some b) : x = some b ∧ y = some b := by
  cases x with
  | none => cases h
  | some p =>
    cases y with
    | none => cases h
    | some q =>
      have h' : (bif eqBlk p q then some p else none) = some b := h
      cases he : eqBlk p q with
      | false => rw [he] at h'; cases h'
      | true => rw [he] at h'; cases h'; exact ⟨rfl, by rw [← eqBlk_eq he]⟩
theorem bothT_left (x y : Option (Option AV)) : (bothT x y = some none ∨ bothT x y = x) ∧ (bothT x y = some none ∨ bothT x y = y) := by
  cases x with
  | none => cases y <;> simp [bothT]
  | some x =>
    cases x with
    | none => cases y <;> simp [bothT]
    | some x =>
      cases y with
      | none => simp [bothT]
      | some y =>
        cases y with
        | none => simp [bothT]
        | some y =>
          have h' : bothT (some (some x)) (some (some y)) = (bif eqAV x y then some (some x) else some none) := rfl
          rw [h']
          cases he : eqAV x y with
          | false => simp
          | true => rw [eqAV_eq he]; simp
theorem join2_weak {x y : M (Exit × Tm)} {s sF : ASt} {ex : Exit} {t : Tm} (h : join2 x y s = some ((ex, t), sF)) :
    (∃ t1 s1, x s = some ((ex, t1), s1) ∧ Weak sF t s1 t1) ∧ ∃ s' t2 s2, s'.heap = s.heap ∧ s'.next = s.next ∧ y s' = some ((ex, t2), s2) ∧ Weak sF t s2 t2 := by
  unfold join2 at h
  cases h1 : x s with
  | none => rw [h1] at h; cases h
  | some p =>
    obtain ⟨⟨ex1, t1⟩, s1⟩ := p
    rw [h1] at h
    dsimp only at h
    cases h2 : y ⟨s.heap, s.next, s1.log⟩ with
    | none => rw [h2] at h; cases h
    | some p2 =>
      obtain ⟨⟨ex2, t2⟩, s2⟩ := p2
      rw [h2] at h
      dsimp only at h
      cases he : (exEq ex1 ex2 && eqAVs t1.d t2.d && (t1.p.isNone && t2.p.isNone)) with
      | false => rw [he] at h; cases h
      | true =>
        rw [he, cond_true] at h
        cases h
        obtain ⟨he12, he3⟩ := Bool.and_eq_true _ _ |>.mp he
        obtain ⟨he1, he2⟩ := Bool.and_eq_true _ _ |>.mp he12
        obtain ⟨he4, he5⟩ := Bool.and_eq_true _ _ |>.mp he3
        have hee := exEq_eq he1
        subst hee
        have hdd := eqAVs_eq he2
        have hp1 : t1.p = none := by simpa using he4
        have hp2 : t2.p = none := by simpa using he5
        have hle : s1.next ≤ (bif Nat.ble s1.next s2.next then s2.next else s1.next) ∧ s2.next ≤ (bif Nat.ble s1.next s2.next then s2.next else s1.next) := by
          cases hb : Nat.ble s1.next s2.next with
          | true => have := Nat.le_of_ble_eq_true hb; simp; omega
          | false =>
            have : ¬ s1.next ≤ s2.next := fun hle => by rw [Nat.ble_eq_true_of_le hle] at hb; cases hb
            simp; omega
        refine ⟨⟨t1, s1, rfl, fun A b e => ?_, fun t => ?_, hle.1, rfl, hp1.symm⟩, ⟨⟨s.heap, s.next, s1.log⟩, t2, s2, rfl, rfl, h2, fun A b e => ?_, fun t => ?_, hle.2, hdd, hp2.symm⟩⟩
        · rw [Tr.get_zip rfl] at e; exact (bothB_left e).1
        · show (Tr.zip bothT t1.t t2.t).get t = _ ∨ (Tr.zip bothT t1.t t2.t).get t = t1.t.get t
          rw [Tr.get_zip rfl]; exact (bothT_left _ _).1
        · rw [Tr.get_zip rfl] at e; exact (bothB_left e).2
        · show (Tr.zip bothT t1.t t2.t).get t = _ ∨ (Tr.zip bothT t1.t t2.t).get t = t2.t.get t
          rw [Tr.get_zip rfl]; exact (bothT_left _ _).2
theorem joinAll_weak : ∀ {l : List (M (Exit × Tm))} {x : M (Exit × Tm)} {s sF : ASt} {ex : Exit} {t : Tm}, joinAll x l s = some ((ex, t), sF) →
    ∀ y ∈ x :: l, ∃ s' t2 s2, s'.heap = s.heap ∧ s'.next = s.next ∧ y s' = some ((ex, t2), s2) ∧ Weak sF t s2 t2
  | [], x, s, sF, ex, t, h, y, hy => by
    simp at hy
    subst hy
    exact ⟨s, t, sF, rfl, rfl, h, Weak.refl _ _⟩
  | z :: l, x, s, sF, ex, t, h, y, hy => by
    obtain ⟨⟨t1, s1, h1, w1⟩, s', t2, s2, e1, e2, h2, w2⟩ := join2_weak h
    rcases List.mem_cons.1 hy with e | e
    · subst e
      exact ⟨s, t1, s1, rfl, rfl, h1, w1⟩
    · obtain ⟨s3, t3, s4, f1, f2, f3, f4⟩ := joinAll_weak h2 y e
      exact ⟨s3, t3, s4, f1.trans e1, f2.trans e2, f3, w2.trans f4⟩
/-- what the next entry is -/
def nextTup : Option (AV × AV × Nat) → AV
  | none => .tup [.bool false]
  | some (k, u, _) => .tup [.bool true, k, u]
def nextIt (am : Option Nat) (since : Nat) (seen : List Nat) (last clk : Nat) : Option (AV × AV × Nat) → ABlk
  | none => .miter am since seen last
  | some (_, _, n) => .miter am since (seen ++ [n]) clk
theorem round_ok {H : Hooks} (hq : Opq ρ) (hH : HookOk P ρ w0 base H) (hFH : FrH H) {id : Nat} {ops : Array Oper} {rest : Code} {o : Oper} {os : List Oper} {x : Operand} (hops : ops.toList = o :: os) (hop : o.op = .next x false) (hg : o.guard = none)
    (hrest : CodeOk P ρ w0 base H rest) (n : Nat) (hn : ∀ k, k ≤ n → CallOk P ρ w0 base (exec P H k).call ∧ DrawOk P ρ w0 base H (exec P H k))
    {N : Nat} {st1 stf st2 : ASt} {tm1 tm2 : Tm} {x2 : Exit} {a : Act} {w w1 : World} {Q : Exit → Act → World → Prop} {A : Nat} {am : Option Nat} {since last clk : Nat} {seen : List Nat} {c : Option (AV × AV × Nat)} {v : Value}
    (h : codeA P H (exec P H n) N (.seq (.region id ops false) rest) tm1 stf = some ((x2, tm2), st2)) (hx : aval tm1 x = some (.ptr A 0)) (hF : stf.heap.get = upd st1.heap.get A (.mforce am since seen last c clk)) (hn' : stf.next = st1.next)
    (hA : At P ρ w0 base N m st1 tm1 a w) (hrun : (Instr.next (a.eval x) false o.type).run P w = .ok v w1) (hv : VR ρ m (nextTup c) v) (hrel : Rel ρ w0 base m (upd st1.heap.get A (nextIt am since seen last clk c)) w1)
    (hf : Fresh m st1.next st2.next) (hP : Post P ρ w0 base N m st1 st2 tm2 (QX ρ Q x2 tm2)) : (Code.seq (.region id ops false) rest).wp P Q a w := by
  simp only [codeA] at h
  obtain ⟨⟨x3, tm3⟩, st3, h1, h2⟩ := bnd_eq h
  cases hp1 : tm1.p with
  | some p => rw [hp1] at h1; cases h1
  | none =>
  rw [hp1] at h1
  dsimp only at h1
  obtain ⟨tm4, st4, h3, h4⟩ := bnd_eq h1
  obtain ⟨rfl, rfl, hqe⟩ := endP_eq (ρ := ρ) h4
  dsimp only at h2
  rw [hops] at h3
  unfold opsP at h3
  obtain ⟨tm5, st5, g1, g2⟩ := bnd_eq h3
  have g1 : operA P H (exec P H n) N ops o tm1 stf = some (tm5, st5) := by
    unfold operP at g1
    rw [hop] at g1
    exact g1
  -- the first operation
  have hput : putA N tm1 o.dst (nextTup c) st5 = some (tm5, st5) ∧ st5.heap.get = upd st1.heap.get A (nextIt am since seen last clk c) ∧ st5.next = st1.next := by
    unfold operA at g1
    have hw : wantA ops o tm1 = some true := by unfold wantA; rw [hg]
    rw [hw] at g1
    dsimp only at g1
    obtain ⟨u, s6, k1, k2⟩ := bnd_eq g1
    have k2 : putA N tm1 o.dst u s6 = some (tm5, st5) := by
      cases u with
      | pan x => cases k2
      | _ => exact k2
    unfold askA at k1
    rw [hop] at k1
    dsimp only [oraKey] at k1
    unfold opA at k1
    rw [hop] at k1
    dsimp only at k1
    rw [hx] at k1
    obtain ⟨u2, e1, k1⟩ := optb_eq k1
    cases e1
    obtain ⟨blk, s7, j1, j2⟩ := bnd_eq k1
    obtain ⟨r1, r2, r3⟩ := rd_eq j1
    rw [hF, upd_same] at r1
    cases r1
    dsimp only at j2
    have hs6 : s6.heap.get = upd st1.heap.get A (nextIt am since seen last clk c) ∧ s6.next = st1.next ∧ u = nextTup c := by
      cases c with
      | none =>
        dsimp only at j2
        obtain ⟨_, s8, p1, p2⟩ := bnd_eq j2
        cases p2
        obtain ⟨q1, q2⟩ := wr_eq p1
        refine ⟨?_, by rw [q2, r3, hn'], rfl⟩
        rw [q1, get_upd, r2, hF]
        funext B
        unfold upd nextIt
        split <;> rfl
      | some c =>
        obtain ⟨k, uu, nb⟩ := c
        dsimp only at j2
        obtain ⟨_, s8, p1, p2⟩ := bnd_eq j2
        cases p2
        obtain ⟨q1, q2⟩ := wr_eq p1
        refine ⟨?_, by rw [q2, r3, hn'], rfl⟩
        rw [q1, get_upd, r2, hF]
        funext B
        unfold upd nextIt
        split <;> rfl
    obtain ⟨b1, b2, b3⟩ := hs6
    subst b3
    have hst : st5 = s6 := by
      unfold putA at k2
      cases hds : o.dst with
      | none => rw [hds] at k2; cases k2; rfl
      | some d =>
        rw [hds] at k2
        simp only at k2
        cases hlt : Nat.blt d N with
        | false => rw [hlt] at k2; cases k2
        | true => rw [hlt] at k2; cases k2; rfl
    subst hst
    exact ⟨k2, b1, b2⟩
  obtain ⟨hput, hh5, hn5⟩ := hput
  have hA5 : At P ρ w0 base N m st5 tm5 (a.put o.dst v) w1 ∧ tm5.p = none := by
    obtain ⟨q1, q2, q3, q4, q5⟩ := put_ok hA.tmr hA.size rfl (Ext.refl m) hv ⟨_, _, hput⟩
    exact ⟨⟨by rw [hh5]; exact hrel, q1, q2, by rw [q3, q4]; exact hA.defers⟩, by rw [q5, hp1]⟩
  obtain ⟨hA5, hp5⟩ := hA5
  rw [hp5] at g2
  dsimp only at g2
  have n3 := fr_next (Fr.opsP P hFH (FrE.exec P hFH n) N ops os tm5) g2
  have n4 : st3.next ≤ st2.next := by
    cases x3 <;> first | exact fr_next (Fr.codeA P hFH (FrE.exec P hFH n) N rest tm3) h2 | (cases h2; exact Nat.le_refl _)
  have hsz : ops.size = os.length + 1 := by rw [← Array.length_toList, hops]; rfl
  refine wp_seq (wp_region ?_)
  rw [hsz, List.range_succ_eq_map]
  unfold wpOps
  have h0 : ops[0]? = some o := by rw [← Array.getElem?_toList, hops]; rfl
  rw [h0]
  dsimp only
  have hwt : Region.wanted o (yielded ops a.tmps) = true := by unfold Region.wanted; rw [hg]
  rw [if_pos hwt]
  refine .inl ?_
  unfold Oper.wp
  have hex : (execOp a.eval o).run P w = .ok (.value v) w1 := by
    obtain ⟨dst, op, ty, pos, after, guard⟩ := o
    simp only at hop hg hrun
    subst hop
    simp [execOp, hrun]
  rw [hex, Oper.upon_value]
  refine ops_ok hq (hn n (Nat.le_refl n)).1 hH hFH (FrE.exec P hFH n) _ os m st5 st3 tm5 tm3 (a.put o.dst v) w1 (fun k => ?_) (by simp) g2 hp5 hA5 (fun B e1 e2 => hf B (by omega) (by omega)) ?_
  · rw [List.getElem?_map]
    rcases Nat.lt_or_ge k os.length with hk | hk
    · rw [List.getElem?_range hk]
      simp only [Option.map_some, Option.bind_some]
      rw [← Array.getElem?_toList, hops]; rfl
    · rw [List.getElem?_eq_none (by simpa using hk), List.getElem?_eq_none hk]; rfl
  · intro a3 w3 m3 e1 e2 e3
    refine hqe _ m3 a3 w3 ?_
    cases x3 with
    | normal =>
      refine hrest n hn N m3 st3 st2 tm3 tm2 x2 a3 w3 Q h2 e3 (fun B b1 b2 => ?_) (fun a4 w4 m4 f1 f2 f3 => hP a4 w4 m4 (e1.trans f1) (fun B h1 h2 => ?_) f3)
      · have := hf B (by omega) b2
        cases hb : m3 B with
        | none => rfl
        | some p => have := e2 B this (by rw [hb]; simp); omega
      · cases hb : m3 B with
        | none => have := f2 B hb h2; omega
        | some p => have := e2 B h1 (by rw [hb]; simp); omega
    | _ =>
      cases h2
      exact hP a3 w3 m3 e1 (fun B h1 h2 => by have := e2 B h1 h2; omega) e3
theorem rangeOf_eq {b : Code} {x : Operand} (h : rangeOf b = some x) : ∃ id ops rest o os, b = .seq (.region id ops false) rest ∧ ops.toList = o :: os ∧ o.op = .next x false ∧ o.guard = none := by
  unfold rangeOf at h
  split at h
  · rename_i id ops rest
    split at h
    · rename_i o os ho
      split at h
      · rename_i y h1 h2
        cases h
        exact ⟨id, ops, rest, o, os, rfl, ho, h1, h2⟩
      · cases h
    · cases h
  · cases h
theorem elemN_iff {x : Nat} : ∀ {l : List Nat}, elemN x l = true ↔ x ∈ l
  | [] => by simp [elemN]
  | y :: l => by
    unfold elemN
    rw [Bool.or_eq_true, elemN_iff, List.mem_cons]
    simp
theorem mem_leftA {seen : List Nat} {k u : AV} {b : Nat} : ∀ {es : List (AV × AV × Nat)}, (k, u, b) ∈ leftA seen es ↔ (k, u, b) ∈ es ∧ b ∉ seen
  | [] => by simp [leftA]
  | (k0, u0, b0) :: es => by
    unfold leftA
    cases hb : elemN b0 seen with
    | true =>
      rw [cond_true, mem_leftA, List.mem_cons]
      have := elemN_iff.1 hb
      constructor
      · rintro ⟨h1, h2⟩; exact ⟨.inr h1, h2⟩
      · rintro ⟨h1 | h1, h2⟩
        · cases h1; exact absurd this h2
        · exact ⟨h1, h2⟩
    | false =>
      rw [cond_false, List.mem_cons, mem_leftA, List.mem_cons]
      have : b0 ∉ seen := fun h => by rw [elemN_iff.2 h] at hb; cases hb
      constructor
      · rintro (h1 | ⟨h1, h2⟩)
        · cases h1; exact ⟨.inl rfl, this⟩
        · exact ⟨.inr h1, h2⟩
      · rintro ⟨h1 | h1, h2⟩
        · exact .inl h1
        · exact .inr ⟨h1, h2⟩
/-- what the walk of a map's entries comes to -/
def EntR (ρ : Nat → Value) (m : BMap) (es : List (AV × AV × Nat)) (es' : Array MapEntry) : Prop :=
  es.length = es'.size ∧ ∀ (i : Nat) (k v : AV) (b : Nat), es[i]? = some (k, v, b) → ∃ en : MapEntry, es'[i]? = some en ∧ en.born = b ∧ VR ρ m k en.key ∧ VR ρ m v en.val
theorem left_in {es : List (AV × AV × Nat)} {es' : Array MapEntry} {seen : List Nat} (h : EntR ρ m es es') {e : MapEntry} (he : e ∈ (leftOf es' seen.toArray).toList) : ∃ k u, (k, u, e.born) ∈ leftA seen es ∧ VR ρ m k e.key ∧ VR ρ m u e.val := by
  unfold leftOf at he
  have he' : e ∈ es' ∧ e.born ∉ seen := by simpa using he
  obtain ⟨i, hi⟩ := Array.mem_iff_getElem?.1 he'.1
  have hlt : i < es.length := by rw [h.1]; exact (Array.getElem?_eq_some_iff.1 hi).1
  obtain ⟨en, q1, q2, q3, q4⟩ := h.2 i es[i].1 es[i].2.1 es[i].2.2 (by simp [hlt])
  rw [hi] at q1
  cases q1
  exact ⟨es[i].1, es[i].2.1, mem_leftA.2 ⟨by rw [q2]; exact List.getElem_mem hlt, he'.2⟩, q3, q4⟩
theorem left_some {es : List (AV × AV × Nat)} {es' : Array MapEntry} {seen : List Nat} (h : EntR ρ m es es') {c : AV × AV × Nat} {l : List (AV × AV × Nat)} (hl : leftA seen es = c :: l) : (leftOf es' seen.toArray).size ≠ 0 := by
  obtain ⟨k, u, b⟩ := c
  have hm : (k, u, b) ∈ leftA seen es := by rw [hl]; simp
  obtain ⟨h1, h2⟩ := mem_leftA.1 hm
  obtain ⟨i, hi⟩ := List.mem_iff_getElem?.1 h1
  obtain ⟨en, q1, q2, q3, q4⟩ := h.2 i k u b hi
  have : en ∈ (leftOf es' seen.toArray) := by
    unfold leftOf
    simp
    exact ⟨Array.mem_of_getElem? q1, by rw [q2]; exact h2⟩
  intro h0
  rw [Array.eq_empty_of_size_eq_zero h0] at this
  simp at this
theorem before_all {since : Nat} : ∀ {es : List (AV × AV × Nat)}, allBefore since es = true → ∀ c ∈ es, c.2.2 < since
  | [], _, c, hc => by cases hc
  | (k, u, b) :: es, h, c, hc => by
    unfold allBefore at h
    obtain ⟨h1, h2⟩ := Bool.and_eq_true _ _ |>.mp h
    rcases List.mem_cons.1 hc with e | e
    · rw [e]; simpa using h1
    · exact before_all h2 c e
theorem set_block {w : World} {b : Nat} {o : Obj} {k : Nat} (hk : k ≠ b) : (Go.ChangeMaps.setBlock w b o).heap[k]? = w.heap[k]? := by
  show (w.heap.setIfInBounds b o)[k]? = _
  rw [Array.getElem?_setIfInBounds, if_neg (fun e => hk e.symm)]
theorem set_block_same {w : World} {b : Nat} {o : Obj} (hb : b < w.heap.size) : (Go.ChangeMaps.setBlock w b o).heap[b]? = some o := by
  show (w.heap.setIfInBounds b o)[b]? = _
  rw [Array.getElem?_setIfInBounds, if_pos rfl, if_pos hb]
/-- the real next entry, and the one of the executor's that it is -/
theorem next_real {st : ASt} {w : World} {A i0 : Nat} {since last : Nat} {seen : List Nat} {mA : Nat} {es : List (AV × AV × Nat)} {clk : Nat} {ty : TypeId} {v : Value} (hr : Rel ρ w0 base m st.heap.get w) (hv : VR ρ m (.ptr A i0) v) (hi : i0 = 0)
    (h1 : st.heap.get A = some (.miter (some mA) since seen last)) (h2 : st.heap.get mA = some (.map es clk)) (hb : allBefore since es = true) (hs : since ≤ last) :
    ∃ c u w1, (Instr.next v false ty).run P w = .ok u w1 ∧ VR ρ m (nextTup c) u ∧ Rel ρ w0 base m (upd st.heap.get A (nextIt (some mA) since seen last clk c)) w1 ∧
      (match c with | none => leftA seen es = [] | some c => c ∈ leftA seen es) := by
  subst hi
  cases hv with | ptr _ _ b d z hA => _
  obtain ⟨p, f1, f2, f3, r, f4, f5⟩ := hr.blk A _ h1
  rw [hA] at f1; cases f1
  simp only at f3 f5
  subst f3
  obtain ⟨q, k1, rfl⟩ := f4
  obtain ⟨p', k1', k2', es', k3, k4, k5⟩ := hr.blk mA _ h2
  rw [k1] at k1'; cases k1'
  have hE : EntR ρ m es es' := ⟨k4, k5⟩
  have hold : ∀ x ∈ es'.toList, x.born < since := fun x hx => by
    obtain ⟨i, hi⟩ := Array.mem_iff_getElem?.1 (by simpa using hx : x ∈ es')
    have hlt : i < es.length := by rw [k4]; exact (Array.getElem?_eq_some_iff.1 hi).1
    obtain ⟨en, q1, q2, _, _⟩ := k5 i es[i].1 es[i].2.1 es[i].2.2 (by simp [hlt])
    rw [hi] at q1; cases q1
    rw [q2]
    exact before_all hb _ (List.getElem_mem hlt)
  have hbl : b < w.heap.size := by
    rcases Nat.lt_or_ge b w.heap.size with h' | h'
    · exact h'
    · rw [Array.getElem?_eq_none h'] at f5; cases f5
  rcases run_next_at (P := P) w ty b q.1 since last seen.toArray es' clk f5 k3 hold hs with ⟨g1, g2⟩ | ⟨e, g1, w1, g2, g3⟩
  · refine ⟨none, _, w, g2, .tup _ _ (.cons _ _ _ _ (.bool _) .nil), ?_, ?_⟩
    · have : upd st.heap.get A (nextIt (some mA) since seen last clk none) = st.heap.get := by
        funext B
        unfold upd nextIt
        split
        · rename_i e; rw [e, h1]
        · rfl
      rw [this]; exact hr
    · show leftA seen es = []
      cases hl : leftA seen es with
      | nil => rfl
      | cons c l => exact absurd g1 (left_some hE hl)
  · obtain ⟨k, u, j1, j2, j3⟩ := left_in hE g1
    have hr1 : Rel ρ w0 base m st.heap.get w1 := by rcases g2 with rfl | rfl <;> first | exact hr | exact hr.drew
    have hbl1 : b < w1.heap.size := by rcases g2 with rfl | rfl <;> exact hbl
    refine ⟨some (k, u, e.born), _, _, g3, .tup _ _ (.cons _ _ _ _ (.bool _) (.cons _ _ _ _ j2 (.cons _ _ _ _ j3 .nil))), ?_, j1⟩
    refine hr1.write h1 hA rfl (fun k hk => set_block hk) (by simp [Go.ChangeMaps.setBlock]) rfl rfl rfl ⟨rfl, some q.1, ⟨q, k1, rfl⟩, ?_⟩
    rw [show (seen ++ [e.born]).toArray = seen.toArray.push e.born by simp]
    exact set_block_same hbl1
theorem next_none {st : ASt} {w : World} {A i0 : Nat} {since last clk : Nat} {seen : List Nat} {ty : TypeId} {v : Value} (hr : Rel ρ w0 base m st.heap.get w) (hv : VR ρ m (.ptr A i0) v) (hi : i0 = 0)
    (h1 : st.heap.get A = some (.miter none since seen last)) :
    ∃ u w1, (Instr.next v false ty).run P w = .ok u w1 ∧ VR ρ m (nextTup none) u ∧ Rel ρ w0 base m (upd st.heap.get A (nextIt none since seen last clk none)) w1 := by
  subst hi
  cases hv with | ptr _ _ b d z hA => _
  obtain ⟨p, f1, f2, f3, r, f4, f5⟩ := hr.blk A _ h1
  rw [hA] at f1; cases f1
  simp only at f3 f5
  subst f3
  have f4' : r = none := f4
  subst f4'
  refine ⟨.tuple #[.bool false], w, ?_, .tup _ _ (.cons _ _ _ _ (.bool _) .nil), ?_⟩
  · simp [Instr.next, Go.getObj, Sem.run, f5]
  · have : upd st.heap.get A (nextIt none since seen last clk none) = st.heap.get := by
      funext B
      unfold upd nextIt
      split
      · rename_i e; rw [e, h1]
      · rfl
    rw [this]; exact hr
/-- the end of a round -/
def afterA (e : Ex) (N : Nat) (b : Code) (x : Exit) (tm : Tm) : M (Exit × Tm) := match x with
  | .normal => e.loop N b tm
  | x => ret (x, tm)
theorem loop_ok {H : Hooks} (hq : Opq ρ) (hH : HookOk P ρ w0 base H) (hFH : FrH H) {b : Code} (ih : CodeOk P ρ w0 base H b) (iht : ∀ c1 c2, b = .seq c1 c2 → CodeOk P ρ w0 base H c2) : CodeOk P ρ w0 base H (.loop b) := by
  intro n hn N m st st' tm tm' x a w Q h hA hf hP
  let J : Nat → Act → World → Prop := fun k a w => k ≤ n ∧ ∃ m st tm stF tmF xF, codeA P H (exec P H k) N (.loop b) tm st = some ((xF, tmF), stF) ∧ At P ρ w0 base N m st tm a w ∧ Fresh m st.next stF.next ∧ Post P ρ w0 base N m st stF tmF (QX ρ Q xF tmF)
  haveI : ∀ a w, DecidablePred fun k => J k a w := fun a w k => Classical.propDecidable _
  have hdec : ∀ a w, Decidable (∃ k, J k a w) := fun a w => Classical.propDecidable _
  let μ : Act → World → Nat := fun a w => @dite _ (∃ k, J k a w) (hdec a w) (fun h => Classical.choose (exists_least (fun k => J k a w) h)) (fun _ => 0)
  refine wp_loop (fun a w => ∃ k, J k a w) μ ⟨n, Nat.le_refl n, m, st, tm, st', tm', x, h, hA, hf, hP⟩ ?_
  intro a w hI
  have hμ : J (μ a w) a w ∧ ∀ k, J k a w → μ a w ≤ k := by
    have hs := Classical.choose_spec (exists_least (fun k => J k a w) hI)
    have : μ a w = Classical.choose (exists_least (fun k => J k a w) hI) := by
      show @dite _ _ (hdec a w) _ _ = _
      rw [dif_pos hI]
    rw [this]; exact hs
  obtain ⟨k, hk⟩ : ∃ k, μ a w = k := ⟨_, rfl⟩
  rw [hk] at hμ
  rw [hk]
  obtain ⟨⟨hkn, m1, st1, tm1, stF, tmF, xF, hc, hA1, hf1, hP1⟩, hmin⟩ := hμ
  have hn' : ∀ k', k' ≤ k → CallOk P ρ w0 base (exec P H k').call ∧ DrawOk P ρ w0 base H (exec P H k') := fun k' hk' => hn k' (by omega)
  have nafter : ∀ {x2 : Exit} {tm2 : Tm} {st2 stc : ASt} {r : Exit × Tm}, afterA (exec P H k) N b x2 tm2 st2 = some (r, stc) → st2.next ≤ stc.next := fun {x2} {tm2} {st2} {stc} {r} g => by
    cases x2 <;> first | exact fr_next ((FrE.exec P hFH k).2.1 _ _ _) g | (cases g; exact Nat.le_refl _)
  -- behind a round
  have fin : ∀ {x2 : Exit} {tm2 tmc : Tm} {st2 stc : ASt}, afterA (exec P H k) N b x2 tm2 st2 = some ((xF, tmc), stc) → Weak stF tmF stc tmc → st1.next ≤ st2.next → Post P ρ w0 base N m1 st1 st2 tm2 (QX ρ (Exit.then (fun a' w' => (∃ k, J k a' w') ∧ μ a' w' < k) Q) x2 tm2) := by
    intro x2 tm2 tmc st2 stc g2 hW n1 a2 w2 m2 e1 e2 e3
    have n2 := nafter g2
    have hP2 := hW.post hP1
    rw [QX_p hW.p] at hP2
    have hf2 : Fresh m1 st1.next stc.next := fun A b1 b2 => hf1 A b1 (by have := hW.next; omega)
    cases x2 with
    | normal =>
      cases k with
      | zero => cases g2
      | succ k' =>
        have hJ : J k' a2 w2 := ⟨by omega, m2, st2, tm2, stc, tmc, xF, g2, e3, hf2.rest e2 n1, fun a3 w3 m3 f1 f2 f3 => hP2 a3 w3 m3 (e1.trans f1) (e2.trans f2 n1 n2) f3⟩
        refine ⟨⟨k', hJ⟩, ?_⟩
        have hs := Classical.choose_spec (exists_least (fun k => J k a2 w2) ⟨k', hJ⟩)
        have hμ2 : μ a2 w2 = Classical.choose (exists_least (fun k => J k a2 w2) ⟨k', hJ⟩) := by
          show @dite _ _ (hdec a2 w2) _ _ = _
          rw [dif_pos ⟨k', hJ⟩]
        have := hs.2 k' hJ
        rw [hμ2]
        omega
    | _ =>
      cases g2
      exact hP2 a2 w2 m2 e1 e2 e3
  have hc' : rangeA (rangeOf b) tm1 (fun F => Zz.bnd F fun _ => Zz.bnd (codeA P H (exec P H k) N b tm1) fun p => afterA (exec P H k) N b p.1 p.2) st1 = some ((xF, tmF), stF) := by
    have : codeA P H (exec P H k) N (.loop b) tm1 = rangeA (rangeOf b) tm1 (fun F => Zz.bnd F fun _ => Zz.bnd (codeA P H (exec P H k) N b tm1) fun p => afterA (exec P H k) N b p.1 p.2) := rfl
    rw [← this]; exact hc
  unfold rangeA at hc'
  cases hro : rangeOf b with
  | none =>
    rw [hro] at hc'
    dsimp only at hc'
    obtain ⟨_, s1, r1, hc'⟩ := bnd_eq hc'
    cases r1
    obtain ⟨⟨x2, tm2⟩, st2, g1, g2⟩ := bnd_eq hc'
    have n1 := fr_next (Fr.codeA P hFH (FrE.exec P hFH k) N b tm1) g1
    have n2 := nafter g2
    exact ih k hn' N m1 st1 st2 tm1 tm2 x2 a w _ g1 hA1 (fun A e1 e2 => hf1 A e1 (by omega)) (fin g2 (Weak.refl _ _) n1)
  | some x =>
    obtain ⟨id, ops, rest, o, os, rfl, hops, hop, hg⟩ := rangeOf_eq hro
    have hrest := iht _ _ rfl
    rw [hro] at hc'
    dsimp only at hc'
    obtain ⟨v, hx, hc'⟩ := optb_eq hc'
    have hvr := aval_ok hx hA1.tmr
    -- one round, the next entry known
    have round : ∀ {A : Nat} {am : Option Nat} {since last clk : Nat} {seen : List Nat} {c : Option (AV × AV × Nat)} {s1 s2 stc : ASt} {tmc : Tm} {w1 : World} {u : Value}, s1.heap = st1.heap → s1.next = st1.next → aval tm1 x = some (.ptr A 0) →
        (Zz.bnd (wr A (.mforce am since seen last c clk)) fun _ => Zz.bnd (codeA P H (exec P H k) N (.seq (.region id ops false) rest) tm1) fun p => afterA (exec P H k) N (.seq (.region id ops false) rest) p.1 p.2) s1 = some ((xF, tmc), stc) → Weak stF tmF stc tmc →
        (Instr.next (a.eval x) false o.type).run P w = .ok u w1 → VR ρ m1 (nextTup c) u → Rel ρ w0 base m1 (upd st1.heap.get A (nextIt am since seen last clk c)) w1 →
        (Code.seq (.region id ops false) rest).wp P (Exit.then (fun a' w' => (∃ k, J k a' w') ∧ μ a' w' < k) Q) a w := by
      intro A am since last clk seen c s1 s2 stc tmc w1 u q1 q2 hxa hr hW hrun hv hrel
      obtain ⟨_, stf, r1, r2⟩ := bnd_eq hr
      obtain ⟨⟨x2, tm2⟩, st2, g1, g2⟩ := bnd_eq r2
      obtain ⟨j1, j2⟩ := wr_eq r1
      have n1 := fr_next (Fr.codeA P hFH (FrE.exec P hFH k) N _ tm1) g1
      have n2 := nafter g2
      have n3 := hW.next
      refine round_ok hq hH hFH hops hop hg hrest k hn' g1 hxa ?_ (j2.trans q2) hA1 hrun hv hrel (fun B e1 e2 => hf1 B e1 (by omega)) (fin g2 hW (by rw [← q2, ← j2]; exact n1))
      rw [j1, get_upd, q1]
    cases v with
    | ptr A i =>
      cases i with
      | zero =>
        obtain ⟨blk, s1, r1, hc'⟩ := bnd_eq hc'
        obtain ⟨e1, e2, e3⟩ := rd_eq r1
        cases blk with
        | miter am since seen last =>
          cases am with
          | none =>
            dsimp only at hc'
            obtain ⟨u, w1, p1, p2, p3⟩ := next_none (P := P) (ty := o.type) (clk := 0) hA1.rel hvr rfl e1
            exact round (s2 := s1) e2 e3 hx hc' (Weak.refl _ _) p1 p2 p3
          | some mA =>
            dsimp only at hc'
            obtain ⟨blk, s2, r2, hc'⟩ := bnd_eq hc'
            obtain ⟨e4, e5, e6⟩ := rd_eq r2
            cases blk with
            | map es clk =>
              dsimp only at hc'
              cases hbe : (allBefore since es && Nat.ble since last) with
              | false => rw [hbe] at hc'; cases hc'
              | true =>
                rw [hbe, cond_true] at hc'
                obtain ⟨b1, b2⟩ := Bool.and_eq_true _ _ |>.mp hbe
                obtain ⟨c, u, w1, p1, p2, p3, p4⟩ := next_real (P := P) (ty := o.type) hA1.rel hvr rfl e1 (by rw [← e2]; exact e4) b1 (Nat.le_of_ble_eq_true b2)
                have hh : s2.heap = st1.heap := e5.trans e2
                have hnx : s2.next = st1.next := e6.trans e3
                cases hl : leftA seen es with
                | nil =>
                  rw [hl] at hc'
                  dsimp only at hc'
                  cases c with
                  | some c => rw [hl] at p4; cases p4
                  | none => exact round (s2 := s1) hh hnx hx hc' (Weak.refl _ _) p1 p2 p3
                | cons c0 l =>
                  rw [hl] at hc'
                  dsimp only at hc'
                  cases c with
                  | none => rw [hl] at p4; cases p4
                  | some c =>
                    rw [hl] at p4
                    have hin : (Zz.bnd (wr A (.mforce (some mA) since seen last (some c) clk)) fun _ => Zz.bnd (codeA P H (exec P H k) N (.seq (.region id ops false) rest) tm1) fun p => afterA (exec P H k) N (.seq (.region id ops false) rest) p.1 p.2) ∈
                        (Zz.bnd (wr A (.mforce (some mA) since seen last (some c0) clk)) fun _ => Zz.bnd (codeA P H (exec P H k) N (.seq (.region id ops false) rest) tm1) fun p => afterA (exec P H k) N (.seq (.region id ops false) rest) p.1 p.2) ::
                        l.map fun c => Zz.bnd (wr A (.mforce (some mA) since seen last (some c) clk)) fun _ => Zz.bnd (codeA P H (exec P H k) N (.seq (.region id ops false) rest) tm1) fun p => afterA (exec P H k) N (.seq (.region id ops false) rest) p.1 p.2 := by
                      rcases List.mem_cons.1 p4 with e | e
                      · rw [e]; simp
                      · exact List.mem_cons_of_mem _ (List.mem_map.2 ⟨c, e, rfl⟩)
                    obtain ⟨s', t2, s3, q1, q2, q3, q4⟩ := joinAll_weak hc' _ hin
                    exact round (s2 := s1) (q1.trans hh) (q2.trans hnx) hx q3 q4 p1 p2 p3
            | _ => cases hc'
        | _ => cases hc'
      | succ i => cases hc'
    | _ => cases hc'
theorem code_ok2 {H : Hooks} (hq : Opq ρ) (hH : HookOk P ρ w0 base H) (hFH : FrH H) (c : Code) : CodeOk P ρ w0 base H c ∧ ∀ c1 c2, c = .seq c1 c2 → CodeOk P ρ w0 base H c2 := by
  induction c with
  | skip =>
    refine ⟨?_, (fun _ _ e => by cases e)⟩
    intro n hn N m st st' tm tm' x a w Q h hA hf hP
    cases h
    exact wp_skip (hP a w m (Ext.refl m) (fun A h1 h2 => absurd h1 h2) hA)
  | label l =>
    refine ⟨?_, (fun _ _ e => by cases e)⟩
    intro n hn N m st st' tm tm' x a w Q h hA hf hP
    cases h
    exact wp_label (hP a w m (Ext.refl m) (fun A h1 h2 => absurd h1 h2) hA)
  | exit id =>
    refine ⟨?_, (fun _ _ e => by cases e)⟩
    intro n hn N m st st' tm tm' x a w Q h hA hf hP
    cases h
    exact wp_exit (hP a w m (Ext.refl m) (fun A h1 h2 => absurd h1 h2) hA)
  | ret =>
    refine ⟨?_, (fun _ _ e => by cases e)⟩
    intro n hn N m st st' tm tm' x a w Q h hA hf hP
    cases h
    exact wp_ret (hP a w m (Ext.refl m) (fun A h1 h2 => absurd h1 h2) hA)
  | region id ops d =>
    refine ⟨?_, (fun _ _ e => by cases e)⟩
    intro n hn N m st st' tm tm' x a w Q h hA hf hP
    cases d with
    | false =>
      simp only [codeA] at h
      cases hp : tm.p with
      | some p => rw [hp] at h; cases h
      | none =>
      rw [hp] at h
      dsimp only at h
      obtain ⟨tm1, st1, h1, h2⟩ := bnd_eq h
      obtain ⟨rfl, rfl, hqe⟩ := endP_eq (ρ := ρ) h2
      refine wp_region (ops_ok hq (hn n (Nat.le_refl n)).1 hH hFH (FrE.exec P hFH n) _ ops.toList m st _ tm _ a w (fun k => ?_) (by simp) h1 hp hA hf (fun a1 w1 m1 e1 e2 e3 => hqe _ _ _ _ (hP a1 w1 m1 e1 e2 e3)))
      rw [Array.getElem?_toList]
      rcases Nat.lt_or_ge k ops.size with hk | hk
      · simp [hk]
      · simp [hk]
    | true =>
      simp only [codeA] at h
      obtain ⟨⟨tm1, logs⟩, st1, h1, h2⟩ := bnd_eq h
      dsimp only at h2
      cases hok : allOk ops ops.toList logs 0 ops.toList (ancs ops.toList) logs with
      | false => rw [hok] at h2; cases h2
      | true =>
        rw [hok] at h2
        cases h2
        exact (hn n (Nat.le_refl n)).2 N id ops m st st' tm tm' logs a w Q h1 hok hA hf hP
  | seq c1 c2 ih1 ih2 =>
    refine ⟨?_, (fun _ _ e => by cases e; exact ih2.1)⟩
    intro n hn N m st st' tm tm' x a w Q h hA hf hP
    simp only [codeA] at h
    obtain ⟨⟨x1, tm1⟩, st1, h1, h2⟩ := bnd_eq h
    dsimp only at h2
    have n1 := fr_next (Fr.codeA P hFH (FrE.exec P hFH n) N c1 tm) h1
    refine wp_seq (ih1.1 n hn N m st st1 tm tm1 x1 a w _ h1 hA (fun A e1 e2 => hf A e1 (by
      have n2 : st1.next ≤ st'.next := by
        cases x1 <;> first | exact fr_next (Fr.codeA P hFH (FrE.exec P hFH n) N c2 tm1) h2 | (cases h2; exact Nat.le_refl _)
      omega)) ?_)
    intro a1 w1 m1 e1 e2 e3
    cases x1 with
    | normal =>
      have n2 := fr_next (Fr.codeA P hFH (FrE.exec P hFH n) N c2 tm1) h2
      refine ih2.1 n hn N m1 st1 st' tm1 tm' x a1 w1 Q h2 e3 (hf.rest e2 n1) ?_
      intro a2 w2 m2 f1 f2 f3
      exact hP a2 w2 m2 (e1.trans f1) (e2.trans f2 n1 n2) f3
    | _ =>
      cases h2
      exact hP a1 w1 m1 e1 e2 e3
  | cond c t f iht ihf =>
    refine ⟨?_, (fun _ _ e => by cases e)⟩
    intro n hn N m st st' tm tm' x a w Q h hA hf hP
    simp only [codeA] at h
    obtain ⟨v, hv, h⟩ := optb_eq h
    have hvr := aval_ok hv hA.tmr
    cases v with
    | bool b =>
      generalize hev : a.eval c = ev at hvr
      cases hvr
      cases b with
      | true => exact wp_cond hev (iht.1 n hn N m st st' tm tm' x a w Q h hA hf hP)
      | false => exact wp_cond hev (ihf.1 n hn N m st st' tm tm' x a w Q h hA hf hP)
    | _ => cases h
  | block id b ih =>
    refine ⟨?_, (fun _ _ e => by cases e)⟩
    intro n hn N m st st' tm tm' x a w Q h hA hf hP
    simp only [codeA] at h
    obtain ⟨⟨x1, tm1⟩, st1, h1, h2⟩ := bnd_eq h
    dsimp only at h2
    have hst : st1 = st' ∧ tm1 = tm' := by
      cases x1 with
      | exit id' =>
        dsimp only at h2
        cases hb : Nat.beq id' id with
        | true => rw [hb] at h2; cases h2; exact ⟨rfl, rfl⟩
        | false => rw [hb] at h2; cases h2; exact ⟨rfl, rfl⟩
      | _ => cases h2; exact ⟨rfl, rfl⟩
    obtain ⟨rfl, rfl⟩ := hst
    refine wp_block (ih.1 n hn N m st st1 tm tm1 x1 a w _ h1 hA hf ?_)
    intro a1 w1 m1 e1 e2 e3
    have hPx := hP a1 w1 m1 e1 e2 e3
    cases x1 with
    | exit id' =>
      dsimp only at h2
      cases hb : Nat.beq id' id with
      | true =>
        rw [hb] at h2; cases h2
        have hid : id' = id := by simpa using hb
        show (if id' = id then Q .normal a1 w1 else Q (.exit id') a1 w1)
        rw [if_pos hid]; exact hPx
      | false =>
        rw [hb] at h2; cases h2
        have hid : id' ≠ id := by intro e; subst e; simp at hb
        show (if id' = id then Q .normal a1 w1 else Q (.exit id') a1 w1)
        rw [if_neg hid]; exact hPx
    | _ => cases h2; exact hPx
  | scope b ih =>
    refine ⟨?_, (fun _ _ e => by cases e)⟩
    intro n hn N m st st' tm tm' x a w Q h hA hf hP
    simp only [codeA] at h
    obtain ⟨⟨x1, tm1⟩, st1, h1, h2⟩ := bnd_eq h
    cases x1 with
    | goto l => cases h2
    | _ =>
      cases h2
      refine wp_scope_straight (ih.1 n hn N m st _ tm _ _ a w _ h1 hA hf ?_)
      intro a1 w1 m1 e1 e2 e3
      exact hP a1 w1 m1 e1 e2 e3
  | loop b ih => exact ⟨loop_ok hq hH hFH ih.1 ih.2, (fun _ _ e => by cases e)⟩
  | _ =>
    refine ⟨?_, (fun _ _ e => by cases e)⟩
    intro n hn N m st st' tm tm' x a w Q h hA hf hP
    cases h
theorem code_ok {H : Hooks} (hq : Opq ρ) (hH : HookOk P ρ w0 base H) (hFH : FrH H) (c : Code) : CodeOk P ρ w0 base H c := (code_ok2 hq hH hFH c).1
end
end Go.Proofs.YtelohloaoocoaaaGreatDoor.Zz
