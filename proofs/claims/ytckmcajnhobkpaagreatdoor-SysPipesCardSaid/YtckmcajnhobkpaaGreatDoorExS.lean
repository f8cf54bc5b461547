/- The executor: one operation without a call. -/
import Derived.Test.YtckmcajnhobkpaaGreatDoorExR
set_option linter.unusedVariables false
set_option linter.unusedSimpArgs false
set_option linter.deprecated false
namespace Go.Proofs.YtckmcajnhobkpaaGreatDoor.Zz
open Go Go.RowKit

section
variable {P : Program} {ρ : Nat → Value} {w0 : World} {base : Nat} {m : BMap}
def isCall : Op → Bool
  | .call _ => true
  | _ => false
theorem nextStr (s : List UInt8) (pos : Nat) (c : UInt8) (h : s[pos]? = some c) (hc : c.toNat < 128) : Utf8.decode ⟨s.toArray⟩ pos = (c.toNat, 1) := by
  have hlt : pos < s.length := (List.getElem?_eq_some_iff.1 h).1
  have hg : (ByteArray.mk s.toArray).get! (pos + 0) = c := by
    show s.toArray[pos + 0]! = c
    rw [Nat.add_zero, getElem!_pos _ _ (by simpa using hlt)]
    have := (List.getElem?_eq_some_iff.1 h).2
    simpa using this
  unfold Utf8.decode
  simp only [hg]
  rw [if_pos (by simpa using hc)]
theorem bnd_eq {α β : Type} {x : M α} {f : α → M β} {st st' : ASt} {b : β} (h : Zz.bnd x f st = some (b, st')) : ∃ a s1, x st = some (a, s1) ∧ f a s1 = some (b, st') := by
  unfold Zz.bnd at h
  cases h1 : x st with
  | none => rw [h1] at h; cases h
  | some p => obtain ⟨a, s1⟩ := p; rw [h1] at h; exact ⟨a, s1, rfl, h⟩
theorem optb_eq {α β : Type} {o : Option α} {f : α → M β} {st st' : ASt} {b : β} (h : Zz.bnd (Zz.opt o) f st = some (b, st')) : ∃ a, o = some a ∧ f a st = some (b, st') := by
  cases o with
  | none => cases h
  | some a => exact ⟨a, rfl, h⟩
theorem lastN_eq : ∀ l : List Nat, lastN l = l.getLast?
  | [] => rfl
  | [x] => rfl
  | x :: y :: l => by
    show lastN (y :: l) = _
    rw [lastN_eq (y :: l), List.getLast?_cons_cons]
theorem born_find {n : Nat} {k u : AV} : ∀ (es : List (AV × AV × Nat)) (l : List MapEntry), es.length = l.length →
    (∀ (i : Nat) (k v : AV) (b : Nat), es[i]? = some (k, v, b) → ∃ en : MapEntry, l[i]? = some en ∧ en.born = b ∧ VR ρ m k en.key ∧ VR ρ m v en.val) → bornA (some n) es = some (k, u) →
    ∃ en : MapEntry, l.find? (fun x => x.born == n) = some en ∧ VR ρ m k en.key ∧ VR ρ m u en.val
  | [], l, hl, h, hb => by cases hb
  | (k0, u0, b0) :: es, [], hl, h, hb => by cases hl
  | (k0, u0, b0) :: es, en0 :: l, hl, h, hb => by
    unfold bornA at hb
    dsimp only at hb
    obtain ⟨en, q1, q2, q3, q4⟩ := h 0 k0 u0 b0 rfl
    cases q1
    cases hbb : Nat.beq b0 n with
    | true =>
      rw [hbb] at hb
      cases hb
      have : b0 = n := by simpa using hbb
      exact ⟨en0, by rw [List.find?_cons, show (en0.born == n) = true by simp [q2, this]], q3, q4⟩
    | false =>
      rw [hbb] at hb
      have : b0 ≠ n := by intro e; rw [e] at hbb; simp at hbb
      obtain ⟨en, r1, r2, r3⟩ := born_find es l (by simpa using hl) (fun i k v b hi => by simpa using h (i + 1) k v b (by simpa using hi)) hb
      exact ⟨en, by rw [List.find?_cons, show (en0.born == n) = false by simp [q2, this]]; exact r1, r2, r3⟩
theorem plain_ok {H : Hooks} {e : Ex} {o : Oper} {tm : Tm} {a : Act} (hq : Opq ρ) (ht : TmR ρ m tm a) (hc : isCall o.op = false) : Ok P ρ w0 base (NVr ρ) m (opA P H e o tm) (execOp a.eval o) := by
  obtain ⟨dst, op, ty, pos, after, guard⟩ := o
  unfold opA execOp
  cases op with
  | move x => exact Ok.optr (fun v hv => pOk (aval_ok hv ht))
  | assign x => exact Ok.optr (fun v hv => pOk (aval_ok hv ht))
  | pick c x y =>
    refine Ok.opt (fun v hv => ?_)
    have hv' := aval_ok hv ht
    simp only
    split
    · generalize hcv : a.eval c = cv at hv'
      cases hv'
      refine Ok.optr (fun u hu => ?_)
      exact Ok.ret (fun w => by simp [hcv, asBool]) (.inl ⟨_, rfl, aval_ok hu ht⟩)
    · generalize hcv : a.eval c = cv at hv'
      cases hv'
      refine Ok.optr (fun u hu => ?_)
      exact Ok.ret (fun w => by simp [hcv, asBool]) (.inl ⟨_, rfl, aval_ok hu ht⟩)
    · exact Ok.fail
  | alloc t =>
    refine Ok.opt (fun z hz => ?_)
    obtain ⟨zv, e1, e2⟩ := run_zero hz
    refine vOk (Ok.congr (fun w => ?_) (newVar_ok (t := t) hq (e2 ρ m)))
    simp [Instr.alloc, e1]
  | box t x =>
    refine Ok.opt (fun v hv => ?_)
    exact vOk (newVar_ok hq (aval_ok hv ht))
  | build t ps => exact vOk (build_ok hq ht)
  | buildSlice t len ps =>
    dsimp only
    split
    · rename_i el hu
      refine Ok.opt (fun n hn => Ok.opt (fun z hz => Ok.cond (fun hc => ?_) (fun _ => Ok.fail)))
      simp only [Bool.and_eq_true, Nat.ble_eq, Nat.beq_eq] at hc
      obtain ⟨⟨c1, c2⟩, c3⟩ := hc
      refine Ok.opt (fun l hl => Ok.opt (fun cs hcs => ?_))
      obtain ⟨zv, e1, e2⟩ := run_zero hz
      have hzr := (e2 ρ m).cells hq
      have hzl := hzr.length
      simp only [Array.length_toList] at hzl
      obtain ⟨g1, g2⟩ := arrPlaces_ok n ps.toList
      have hrep := repeat_ok hzr len (len * n) (by rw [c2]) (by omega)
      obtain ⟨r, f1, f2⟩ := parts_fill (place := fun i => some (i * n, n)) hq ht g1 (fun k i x hk => ⟨_, _, rfl, g2 k i x hk⟩) hl hrep hcs
      refine vOk (Ok.congr (s' := newRow el r >>= fun ad => pure (.slice (some ad) len len)) (fun w => ?_) ?_)
      · have hle : ¬ len * n > 2 ^ 24 := by omega
        by_cases h0 : len * n = 0
        · have hl0 : len = 0 := by
            rcases Nat.mul_eq_zero.1 h0 with h | h <;> omega
          subst hl0
          have hmp := map_pairs ps a.eval
          simp only [Nat.zero_mul] at f1
          have e0 : ∀ f : Nat → Value, (Array.range 0).map f = #[] := fun _ => by simp
          rw [e0] at f1
          simp [Instr.buildSlice, run_und hu, run_size hn]
          rw [e0, f1]
          simp
        · have hmp := map_pairs ps a.eval
          simp only [Instr.buildSlice, Sem.run_bind, run_und hu, Result.andThen_ok, run_size hn, hmp, if_neg hle, if_neg h0, e1, Sem.run_pure, f1]
      · refine Ok.bnd (Fr.newC _ _) (fun _ => Fr.ret _) (newC_ok f2) (fun A ad m' _ hA => ?_)
        obtain ⟨b, rfl, hm⟩ := hA
        have hrl := f2.length
        refine Ok.ret (b := .slice (some ⟨b, 0, none⟩) len len) (fun w => rfl) ?_
        have hcl : cs.length = len * n := by
          have := fillA_len hcs
          rw [this, repeatL_len, c2]
        refine .sl A 0 len len n true b 0 _ 0 len hm (Nat.le_refl _) (fun _ => rfl) (fun _ => rfl) ?_ (Nat.le_refl _) (Nat.le_refl _)
        simp only [Array.length_toList] at hrl
        omega
    · exact Ok.fail
  | insert t x y z =>
    refine Ok.opt (fun v hv => Ok.opt (fun k hk => Ok.opt (fun u hu => ?_)))
    exact uOk (Fr.mapUpA _ _ _ _ _) (mapUpA_ok (aval_ok hv ht) (aval_ok hk ht) (aval_ok hu ht))
  | mapUpdate t x y z =>
    refine Ok.opt (fun v hv => Ok.opt (fun k hk => Ok.opt (fun u hu => ?_)))
    exact uOk (Fr.mapUpA _ _ _ _ _) (mapUpA_ok (aval_ok hv ht) (aval_ok hk ht) (aval_ok hu ht))
  | load t x =>
    refine Ok.opt (fun v hv => ?_)
    have hv' := aval_ok hv ht
    simp only
    split
    · generalize hcv : a.eval x = cv at hv'
      cases hv' with | ptr A i b d z hA => _
      exact vOk (Ok.congr (fun w => by simp [Instr.loadAt, Instr.sureAddr]) (loadT_ok hA))
    · exact Ok.fail
  | store t x y =>
    refine Ok.opt (fun v hv => Ok.opt (fun u hu => ?_))
    have hv' := aval_ok hv ht
    simp only
    split
    · generalize hcv : a.eval x = cv at hv'
      cases hv' with | ptr A i b d z hA => _
      exact uOk (Fr.storeT _ _ _ _ _) (Ok.congr (fun w => by simp [Instr.storeAt, Instr.sureAddr]) (storeT_ok hq hA (aval_ok hu ht)))
    · exact Ok.fail
  | nilCheck x =>
    refine Ok.opt (fun v hv => ?_)
    have hv' := aval_ok hv ht
    simp only
    split
    · generalize hcv : a.eval x = cv at hv'
      cases hv' with | ptr _ _ b d z hA => exact pOk (.ptr _ _ b d z hA)
    · generalize hcv : a.eval x = cv at hv'
      cases hv' with | ifc _ _ uv h => exact pOk (.ifc _ _ uv h)
    · generalize hcv : a.eval x = cv at hv'
      cases hv' with | fn _ _ _ u v h1 h2 => exact pOk (.fn _ _ _ u v h1 h2)
    · exact Ok.fail
  | binOp bop t x y yt =>
    refine Ok.opt (fun v hv => Ok.opt (fun u hu => Ok.cond (fun hg => ?_) (fun _ => Ok.fail)))
    exact vOk (bin_ok hg (aval_ok hv ht) (aval_ok hu ht))
  | unOp uop t x =>
    refine Ok.opt (fun v hv => ?_)
    exact vOk (un_ok (aval_ok hv ht))
  | convert src dst x =>
    refine Ok.opt (fun v hv => ?_)
    exact vOk (cvtA_ok (aval_ok hv ht))
  | makeInterface t x =>
    refine Ok.opt (fun v hv => ?_)
    simp only
    split
    · exact Ok.fail
    · rename_i d hno hu
      refine vOk (Ok.ret (b := .iface t (a.eval x)) (fun w => ?_) (.ifc _ _ _ (aval_ok hv ht)))
      cases d <;> first | exact (hno _ rfl).elim | simp [Instr.makeInterface, run_und hu]
    · exact Ok.fail
  | makeFunc f x y =>
    refine Ok.opt (fun u hu => Ok.opt (fun v hv => ?_))
    refine vOk (Ok.ret (b := .func f (x.map a.eval) (y.map a.eval)) (fun w => rfl) (.fn _ _ _ _ _ ?_ ?_))
    · rw [Array.toList_map]; exact avals_ok ht hu
    · rw [Array.toList_map]; exact avals_ok ht hv
  | makeMap t r =>
    have key : ∀ s : Sem Value, (∀ w, s.run P w = .ok (.map (some w.heap.size)) (w.alloc (.map #[] 0))) → Ok P ρ w0 base (VRr ρ) m (Zz.bnd (nw (.map [] 0)) fun A => Zz.ret (.map A)) s := fun s hs st w a' st' h hr hf => by
      unfold Zz.bnd at h
      cases h1 : nw (.map [] 0) st with
      | none => rw [h1] at h; cases h
      | some p =>
        obtain ⟨A, st1⟩ := p
        rw [h1] at h; cases h
        obtain ⟨rfl, e2, e3⟩ := nw_eq h1
        have hm : m st.next = none := hf _ (Nat.le_refl _) (by omega)
        refine ⟨_, _, mset m st.next (w.heap.size, 0, 0), hs w, mset_ext hm, fun A h1 h2 => ?_, ?_, .map _ _ 0 0 (mset_same _ _ _)⟩
        · have := mset_dom h1 h2; omega
        · rw [e2, get_upd]
          exact hr.new hm ⟨#[], heap_new w _, rfl, fun i k v b hi => by cases hi⟩
    cases r with
    | none => exact vOk (key _ (fun w => by simp [Instr.makeMap, newObj, Sem.run]))
    | some x =>
      refine Ok.opt (fun v hv => ?_)
      have hv' := aval_ok hv ht
      simp only
      split
      · rename_i kt et k n hu
        generalize hcv : a.eval x = cv at hv'
        cases hv'
        exact vOk (key _ (fun w => by simp [Instr.makeMap, newObj, Sem.run, hcv, run_und hu, Go.asInt, asIntOf]))
      · exact Ok.fail
  | makeSlice t l c =>
    refine Ok.opt (fun lv hl => Ok.opt (fun cv hc => ?_))
    refine asNat_ok (aval_ok hl ht) (fun k1 n1 h1 => asNat_ok (aval_ok hc ht) (fun k2 n2 h2 => ?_))
    split
    · rename_i el hu
      refine Ok.opt (fun n hn => Ok.opt (fun z hz => Ok.cond (fun hcc => ?_) (fun _ => Ok.fail)))
      simp only [Bool.and_eq_true, Nat.ble_eq, Nat.beq_eq] at hcc
      obtain ⟨⟨⟨⟨c1, c2⟩, c3⟩, c4⟩, c5⟩ := hcc
      obtain ⟨zv, e1, e2⟩ := run_zero hz
      have hzr := (e2 ρ m).cells hq
      have hzl := hzr.length
      simp only [Array.length_toList] at hzl
      have hrep := repeat_ok hzr n2 (n2 * n) (by rw [c2]) (by omega)
      have hinfo : ∃ i, P.info? el = some i ∧ i.size = n := by
        unfold sizeT at hn
        cases hi : P.info? el with
        | none => rw [hi] at hn; cases hn
        | some i => rw [hi] at hn; cases hn; exact ⟨i, rfl, rfl⟩
      obtain ⟨i, hi, hsz⟩ := hinfo
      have hby : i.bytes ≤ 65536 := by
        have : P.bytesOf el = i.bytes := by simp [Program.bytesOf, hi]
        omega
      refine vOk (Ok.congr (s' := newRow el ((Array.range (n2 * n)).map (zv.cells[· % zv.cells.size]!)) >>= fun ad => pure (.slice (some ad) n1 n2)) (fun w => ?_) ?_)
      · have hw1 : IntKind.i64.wrap (n1 : Int) = n1 := by
          have := wrapA_eq .i64 (n1 : Int)
          rw [← this]; unfold wrapA inK
          have : Nat.blt n1 9223372036854775808 = true := by rw [Nat.blt_eq]; omega
          simp [this]
        have hw2 : IntKind.i64.wrap (n2 : Int) = n2 := by
          have := wrapA_eq .i64 (n2 : Int)
          rw [← this]; unfold wrapA inK
          have : Nat.blt n2 9223372036854775808 = true := by rw [Nat.blt_eq]; omega
          simp [this]
        have hbig : ¬ ((i.bytes : Int) * (n2 : Int) > 2 ^ 48) := by
          have h3 : i.bytes * n2 ≤ 65536 * 65536 := Nat.mul_le_mul hby c4
          have : ((i.bytes * n2 : Nat) : Int) = (i.bytes : Int) * (n2 : Int) := by push_cast; rfl
          rw [← this]; omega
        have hbig2 : ¬ ((i.bytes : Int) * (n1 : Int) > 2 ^ 48) := by
          have h3 : i.bytes * n1 ≤ 65536 * 65536 := Nat.mul_le_mul hby (by omega)
          have : ((i.bytes * n1 : Nat) : Int) = (i.bytes : Int) * (n1 : Int) := by push_cast; rfl
          rw [← this]; omega
        have hroom : ∀ w, (askRoom (n2 * i.bytes)).run P w = .ok () w := fun w => by
          unfold askRoom
          split
          · simp [mark, Sem.run]
          · rfl
        have hlc : ¬ (n1 : Int) > (n2 : Int) := by omega
        have hn1 : ¬ (n1 : Int) < 0 := by omega
        have hn2 : ¬ (n2 : Int) < 0 := by omega
        simp only [Instr.makeSlice, Sem.run_bind, run_und hu, Result.andThen_ok, h1, h2, Go.asInt, asIntOf, Sem.run_pure, run_info hi, hw1, hw2]
        simp only [decide_eq_false hbig, decide_eq_false hn1, decide_eq_false hn2, decide_eq_false hlc, Bool.or_false, Bool.false_eq_true, if_false, Int.toNat_natCast, Sem.run_bind, hroom, Result.andThen_ok, run_size hn, run_info hi]
        by_cases h0 : n2 * n = 0
        · have hl0 : n2 = 0 := by
            rcases Nat.mul_eq_zero.1 h0 with h | h <;> omega
          subst hl0
          have e0 : ∀ f : Nat → Value, (Array.range 0).map f = #[] := fun _ => by simp
          simp [e0]
        · simp only [if_neg h0, e1, Result.andThen_ok, Sem.run_bind, Sem.run_pure]
      · refine Ok.bnd (Fr.newR _ _ _) (fun _ => Fr.ret _) (newR_ok hrep) (fun A ad m' _ hA => ?_)
        obtain ⟨b, rfl, hm⟩ := hA
        refine Ok.ret (b := .slice (some ⟨b, 0, none⟩) n1 n2) (fun w => rfl) ?_
        exact .sl A 0 n1 n2 n true b 0 _ 0 n2 hm (Nat.le_refl _) (fun _ => rfl) (fun _ => rfl) (by simp) c3 (Nat.le_refl _)
    · exact Ok.fail
  | slice t x lo hi mx =>
    refine Ok.opt (fun v hv => Ok.opt (fun l hl => Ok.opt (fun h hh => Ok.opt (fun k hk => ?_))))
    exact vOk (slice_ok (aval_ok hv ht) (oAval_ok hl ht) (oAval_ok hh ht) (oAval_ok hk ht))
  | fieldAddr t x f =>
    refine Ok.opt (fun v hv => ?_)
    have hv' := aval_ok hv ht
    simp only
    split
    · rename_i fs A i hu
      generalize hcv : a.eval x = cv at hv'
      cases hv' with | ptr _ _ b d z hA => _
      split
      · rename_i fd hfd
        split
        · rename_i q hsz
          refine vOk (Ok.ret (b := .pointer (some ⟨b, d + (i + fd.offset), none⟩)) (fun w => ?_) (.ptr _ _ b d z hA))
          simp [Instr.fieldAt, run_und hu, hfd, Instr.sureAddr, fieldPlace, run_size hsz, add_mk', Nat.add_assoc]
        · exact Ok.fail
      · exact Ok.fail
    · exact Ok.fail
  | field t x f =>
    refine Ok.opt (fun v hv => ?_)
    have hv' := aval_ok hv ht
    simp only
    split
    · rename_i fs l hu
      generalize hcv : a.eval x = cv at hv'
      cases hv' with | agg _ u h => _
      split
      · rename_i fd hfd
        exact vOk (Ok.congr (fun w => by simp [Instr.field, run_und hu, hfd, asAgg]) (partT_ok h))
      · exact Ok.fail
    · exact Ok.fail
  | indexAddr t x y =>
    refine Ok.opt (fun v hv => Ok.opt (fun j hj => ?_))
    have hv' := aval_ok hv ht
    refine asNat_ok (aval_ok hj ht) (fun k1 j h1 => ?_)
    simp only
    split
    · rename_i n el A i hu
      generalize hcv : a.eval x = cv at hv'
      cases hv' with | ptr _ _ b d z hA => _
      refine Ok.opt (fun q hq2 => Ok.cond (fun hlt => ?_) (fun _ => Ok.fail))
      have hlt' : j < n := by simpa using hlt
      have hlt2 : ¬ n ≤ j := by omega
      refine vOk (Ok.ret (b := .pointer (some ⟨b, d + (i + j * q), none⟩)) (fun w => ?_) (.ptr _ _ b d z hA))
      simp [Instr.indexAt, h1, asIntOf, run_und hu, Instr.sureAddr, hlt2, run_size hq2, add_mk', Nat.add_assoc]
    · rename_i el A i len cap sz ex hu
      generalize hcv : a.eval x = cv at hv'
      cases hv' with | sl _ _ _ _ _ _ b d z off cap' hA hc hexc ho hz hl hd => _
      refine Ok.opt (fun q hq2 => Ok.cond (fun hlt => ?_) (fun _ => Ok.fail))
      simp only [Bool.and_eq_true, Nat.blt_eq, Nat.beq_eq] at hlt
      obtain ⟨g1, rfl⟩ := hlt
      have hlt2 : ¬ len ≤ j := by omega
      have ho' := ho (by omega)
      subst ho'
      refine vOk (Ok.ret (b := .pointer (some ⟨b, d + (i + j * q), none⟩)) (fun w => ?_) (.ptr _ _ b d z hA))
      simp [Instr.indexAt, h1, asIntOf, run_und hu, hlt2, run_size hq2, add_mk', Nat.add_assoc]
    · exact Ok.fail
  | index t x y =>
    refine Ok.opt (fun v hv => Ok.opt (fun j hj => ?_))
    have hv' := aval_ok hv ht
    refine asNat_ok (aval_ok hj ht) (fun k1 j h1 => ?_)
    simp only
    split
    · rename_i n el l hu
      generalize hcv : a.eval x = cv at hv'
      cases hv' with | agg _ u h => _
      refine Ok.opt (fun q hq2 => Ok.cond (fun hlt => ?_) (fun _ => Ok.fail))
      have hlt' : j < n := by simpa using hlt
      have hlt2 : ¬ n ≤ j := by omega
      exact vOk (Ok.congr (fun w => by simp [Instr.index, h1, asIntOf, run_und hu, hlt2, run_size hq2]) (partT_ok h))
    · rename_i s hu
      generalize hcv : a.eval x = cv at hv'
      cases hv'
      split
      · rename_i b hb
        refine vOk (Ok.ret (b := .int .u8 b.toNat) (fun w => ?_) (.int _ _))
        have hlt : j < s.length := (List.getElem?_eq_some_iff.1 hb).1
        have hget : (ByteArray.mk s.toArray)[j]? = some b := by
          have hsz : j < (ByteArray.mk s.toArray).size := by simpa [ByteArray.size] using hlt
          rw [getElem?_pos (ByteArray.mk s.toArray) j hsz]
          have := (List.getElem?_eq_some_iff.1 hb).2
          show some (s.toArray[j]'(by simpa using hlt)) = some b
          simpa using this
        simp [Instr.index, h1, asIntOf, run_und hu, hget]
      · exact Ok.fail
    · exact Ok.fail
  | lookup t x y ok =>
    refine Ok.opt (fun v hv => Ok.opt (fun k hk => ?_))
    exact vOk (lookA_ok (aval_ok hv ht) (aval_ok hk ht))
  | range t x =>
    refine Ok.opt (fun v hv => ?_)
    have hv' := aval_ok hv ht
    simp only
    split
    · rename_i s hu
      generalize hcv : a.eval x = cv at hv'
      cases hv'
      refine vOk (fun st w a' st' h hr hf => ?_)
      unfold Zz.bnd at h
      cases h1 : nw (.siter s 0) st with
      | none => rw [h1] at h; cases h
      | some p =>
        obtain ⟨A, st1⟩ := p
        rw [h1] at h; cases h
        obtain ⟨rfl, e2, e3⟩ := nw_eq h1
        have hm : m st.next = none := hf _ (Nat.le_refl _) (by omega)
        refine ⟨.pointer (some ⟨w.heap.size, 0, none⟩), w.alloc (.stringIter ⟨s.toArray⟩ 0), mset m st.next (w.heap.size, 0, 0), ?_, mset_ext hm, fun A h1 h2 => ?_, ?_, .ptr _ 0 _ 0 0 (mset_same _ _ _)⟩
        · simp [Instr.range, run_und hu, newObj, Sem.run]
        · have := mset_dom h1 h2; omega
        · rw [e2, get_upd]
          exact hr.new hm ⟨rfl, heap_new w _⟩
    · rename_i kt et hu
      generalize hcv : a.eval x = cv at hv'
      cases hv'
      refine vOk (fun st w a' st' h hr hf => ?_)
      unfold Zz.bnd at h
      cases h1 : nw (.miter none 0 [] 0) st with
      | none => rw [h1] at h; cases h
      | some p =>
        obtain ⟨A, st1⟩ := p
        rw [h1] at h; cases h
        obtain ⟨rfl, e2, e3⟩ := nw_eq h1
        have hm : m st.next = none := hf _ (Nat.le_refl _) (by omega)
        refine ⟨.pointer (some ⟨w.heap.size, 0, none⟩), w.alloc (.mapIter none 0 #[] 0), mset m st.next (w.heap.size, 0, 0), ?_, mset_ext hm, fun A h1 h2 => ?_, ?_, .ptr _ 0 _ 0 0 (mset_same _ _ _)⟩
        · simp [Instr.range, run_und hu, newObj, Sem.run]
        · have := mset_dom h1 h2; omega
        · rw [e2, get_upd]
          exact hr.new hm ⟨rfl, none, rfl, heap_new w _⟩
    · rename_i kt et mA hu
      generalize hcv : a.eval x = cv at hv'
      cases hv' with | map _ b d z hA => _
      refine vOk (Ok.rd (fun blk st w a' st' h hB hr hf => ?_))
      cases blk with
      | map es clk =>
        simp only at h
        obtain ⟨p, f1, f2, f3⟩ := hr.blk mA _ hB
        rw [hA] at f1; cases f1
        obtain ⟨es', g1, g2, g3⟩ := f3
        unfold Zz.bnd at h
        cases h1 : nw (.miter (some mA) clk [] clk) st with
        | none => rw [h1] at h; cases h
        | some p =>
          obtain ⟨A, st1⟩ := p
          rw [h1] at h; cases h
          obtain ⟨rfl, e2, e3⟩ := nw_eq h1
          have hm : m st.next = none := hf _ (Nat.le_refl _) (by omega)
          refine ⟨.pointer (some ⟨w.heap.size, 0, none⟩), w.alloc (.mapIter (some b) clk #[] clk), mset m st.next (w.heap.size, 0, 0), ?_, mset_ext hm, fun A h1 h2 => ?_, ?_, .ptr _ 0 _ 0 0 (mset_same _ _ _)⟩
          · simp [Instr.range, run_und hu, newObj, Go.getObj, g1, Sem.run]
          · have := mset_dom h1 h2; omega
          · rw [e2, get_upd]
            exact hr.new hm ⟨rfl, some b, ⟨_, mset_ext hm _ _ hA, rfl⟩, heap_new w _⟩
      | _ => cases h
    · exact Ok.fail
  | entry x =>
    refine Ok.opt (fun v hv => ?_)
    have hv' := aval_ok hv ht
    simp only
    split
    · rename_i A
      generalize hcv : a.eval x = cv at hv'
      cases hv' with | ptr _ _ b d z hA => _
      refine vOk (Ok.rd (fun blk st w a' st' h hB hr hf => ?_))
      cases blk with
      | miter am since seen last =>
        obtain ⟨p, f1, f2, f3, r, f4, f5⟩ := hr.blk A _ hB
        rw [hA] at f1; cases f1
        simp only at f3 f5
        subst f3
        cases am with
        | none => cases h
        | some mA =>
          obtain ⟨q, k1, rfl⟩ := f4
          simp only at h
          obtain ⟨blk, s1, h1, h2⟩ := bnd_eq h
          obtain ⟨e1, e2, e3⟩ := rd_eq h1
          cases blk with
          | map es clk =>
            simp only at h2
            cases hck : Nat.beq clk last with
            | false => rw [hck] at h2; cases h2
            | true =>
              rw [hck, cond_true] at h2
              have hcl : clk = last := by simpa using hck
              obtain ⟨ku, hku, h3⟩ := optb_eq h2
              obtain ⟨k, u⟩ := ku
              cases h3
              obtain ⟨p', k1', k2', es', k3, k4, k5⟩ := hr.blk mA _ e1
              rw [k1] at k1'; cases k1'
              cases hln : lastN seen with
              | none => rw [hln] at hku; unfold bornA at hku; cases hku
              | some nb =>
                rw [hln] at hku
                obtain ⟨en, j1, j2, j3⟩ := born_find es es'.toList (by simpa using k4) (fun i k v b hi => by
                  obtain ⟨en, q1, q2, q3, q4⟩ := k5 i k v b hi
                  exact ⟨en, by simpa using q1, q2, q3, q4⟩) hku
                have hback : seen.toArray.back? = some nb := by rw [List.back?_toArray, ← lastN_eq]; exact hln
                have hfind : es'.find? (fun x => x.born == nb) = some en := by rw [← Array.find?_toList]; exact j1
                refine ⟨.tuple #[en.key, en.val], w, m, ?_, Ext.refl m, fun A h1 h2 => absurd h1 h2, (by rw [e2]; exact hr), .tup _ _ (.cons _ _ _ _ j2 (.cons _ _ _ _ j3 .nil))⟩
                subst hcl
                simp [Instr.entry, Go.getObj, Sem.run, f5, k3, hback, hfind]
          | _ => cases h2
      | _ => cases h
    · exact Ok.fail
  | next x isS =>
    cases isS with
    | false =>
      refine Ok.opt (fun v hv => ?_)
      simp only
      split
      · refine vOk (Ok.rd (fun blk st w a' st' h hB hr hf => ?_))
        cases blk with
        | mforce am since seen last c clk =>
          obtain ⟨p, f1, f2, f3⟩ := hr.blk _ _ hB
          cases f3
        | _ => cases h
      · exact Ok.fail
    | true =>
      refine Ok.opt (fun v hv => ?_)
      have hv' := aval_ok hv ht
      simp only
      split
      · rename_i A
        generalize hcv : a.eval x = cv at hv'
        cases hv' with | ptr _ _ b d z hA => _
        refine vOk (Ok.rd (fun blk st w a' st' h hB hr hf => ?_))
        cases blk with
        | siter s pos =>
          simp only at h
          obtain ⟨p, f1, f2, f3, f4⟩ := hr.blk A _ hB
          rw [hA] at f1; cases f1
          simp only at f3 f4
          subst f3
          have hsz : (ByteArray.mk s.toArray).size = s.length := by simp [ByteArray.size]
          cases hp : s[pos]? with
          | none =>
            rw [hp] at h; cases h
            have hge : ¬ pos < s.length := fun hlt => by rw [List.getElem?_eq_getElem hlt] at hp; cases hp
            refine ⟨.tuple #[.bool false], w, m, ?_, Ext.refl m, fun A h1 h2 => absurd h1 h2, hr, .tup _ _ (.cons _ _ _ _ (.bool _) .nil)⟩
            simp [Instr.next, Go.getObj, Sem.run, f4, hsz, hge]
          | some c =>
            rw [hp] at h
            simp only at h
            cases hc2 : Nat.blt c.toNat 128 with
            | false => rw [hc2] at h; cases h
            | true =>
              rw [hc2, cond_true] at h
              have hc3 : c.toNat < 128 := by simpa using hc2
              have hlt : pos < s.length := (List.getElem?_eq_some_iff.1 hp).1
              have hdec := nextStr s pos c hp hc3
              unfold Zz.bnd at h
              cases h1 : wr A (.siter s (pos + 1)) st with
              | none => rw [h1] at h; cases h
              | some q =>
                obtain ⟨u, st1⟩ := q
                rw [h1] at h; cases h
                obtain ⟨g1, g2⟩ := wr_eq h1
                have hbl : b < w.heap.size := by
                  rcases Nat.lt_or_ge b w.heap.size with h' | h'
                  · exact h'
                  · rw [Array.getElem?_eq_none h'] at f4; cases f4
                refine ⟨.tuple #[.bool true, goInt pos, .int .i32 c.toNat], { w with heap := w.heap.setIfInBounds b (.stringIter ⟨s.toArray⟩ (pos + 1)) }, m, ?_, Ext.refl m, fun A h1 h2 => absurd h1 h2, ?_, .tup _ _ (.cons _ _ _ _ (.bool _) (.cons _ _ _ _ (.int _ _) (.cons _ _ _ _ (.int _ _) .nil)))⟩
                · simp [Instr.next, Go.getObj, Go.setObj, Sem.run, f4, hsz, hlt, hdec]
                · rw [g1, get_upd]
                  refine hr.write hB hA rfl (fun k hk => ?_) (by simp) rfl rfl rfl ⟨rfl, ?_⟩
                  · show (w.heap.setIfInBounds b _)[k]? = _
                    rw [Array.getElem?_setIfInBounds, if_neg (fun e => hk e.symm)]
                  · show (w.heap.setIfInBounds b _)[b]? = _
                    rw [Array.getElem?_setIfInBounds, if_pos rfl, if_pos hbl]
        | _ => cases h
      · exact Ok.fail
  | typeAssert x xt t ok =>
    refine Ok.opt (fun v hv => ?_)
    exact vOk (assertA_ok (aval_ok hv ht))
  | extract x i =>
    refine Ok.opt (fun v hv => ?_)
    have hv' := aval_ok hv ht
    simp only
    split
    · generalize hcv : a.eval x = cv at hv'
      cases hv' with | tup l u h => _
      refine Ok.optr (fun y hy => ?_)
      obtain ⟨uv, e1, e2⟩ := h.get hy
      rw [Array.getElem?_toList] at e1
      exact vOk (Ok.ret (fun w => by simp [Instr.extract, e1]) e2)
    · exact Ok.fail
  | call c => cases hc
  | _ => exact Ok.fail
end
end Go.Proofs.YtckmcajnhobkpaaGreatDoor.Zz
