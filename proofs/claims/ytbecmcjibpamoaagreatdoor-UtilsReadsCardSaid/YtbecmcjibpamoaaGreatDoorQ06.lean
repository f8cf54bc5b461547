/- FsE -/
import Derived.Test.YtbecmcjibpamoaaGreatDoorQ05
set_option linter.unusedVariables false
set_option linter.unusedSimpArgs false
set_option linter.deprecated false
set_option linter.unnecessarySimpa false
namespace Go.Proofs.YtbecmcjibpamoaaGreatDoor
open Go.RowKit
theorem blockV_len {b : Bool × List UInt8} (h : b.2.length = 64) : (blockV b).length = 65 := by simp [blockV, h]
theorem flat_get : ∀ (l : List (Bool × List UInt8)) (i o : Nat) (b : Bool × List UInt8), (∀ b ∈ l, b.2.length = 64) → l[i]? = some b → o < 65 → (l.flatMap blockV)[i * 65 + o]? = (blockV b)[o]?
  | [], i, o, b, _, hi, _ => by simp at hi
  | x :: l, 0, o, b, h, hi, ho => by
    have hx : x = b := by simpa using hi
    subst hx
    rw [List.flatMap_cons, Nat.zero_mul, Nat.zero_add, List.getElem?_append_left (by rw [blockV_len (h x (by simp))]; exact ho)]
  | x :: l, i + 1, o, b, h, hi, ho => by
    have hl := blockV_len (h x (by simp))
    rw [List.flatMap_cons, List.getElem?_append_right (by rw [hl]; omega), hl, show (i + 1) * 65 + o - 65 = i * 65 + o by omega]
    exact flat_get l i o b (fun b hb => h b (by simp [hb])) (by simpa using hi) ho
theorem flat_len : ∀ (l : List (Bool × List UInt8)), (∀ b ∈ l, b.2.length = 64) → (l.flatMap blockV).length = l.length * 65
  | [], _ => rfl
  | x :: l, h => by
    rw [List.flatMap_cons, List.length_append, blockV_len (h x (by simp)), flat_len l (fun b hb => h b (by simp [hb])), List.length_cons]; omega
section
variable {s : Fs} {lay : FId → Nat} {w w' : World}
theorem FsIs.b (h : FsIs s lay w) {i o : Nat} {b : Bool × List UInt8} {v : Value} (hb : s.bs[i]? = some b) (ho : (blockV b)[o]? = some v) : w.cell? ⟨lay .B, i * 65 + o, none⟩ = some v := by
  have hlt := (List.getElem?_eq_some_iff.1 ho).1
  rw [blockV_len (h.ok.bytes b (List.mem_of_getElem? hb))] at hlt
  exact h.lies.cell (i := .B) rfl (by rw [List.getElem?_toArray, flat_get _ i o b h.ok.bytes hb hlt]; exact ho)
theorem FsIs.b0 (h : FsIs s lay w) {i : Nat} {b : Bool × List UInt8} (hb : s.bs[i]? = some b) : w.cell? ⟨lay .B, i * 65, none⟩ = some (.bool b.1) := by
  have := h.b (o := 0) (v := .bool b.1) hb rfl
  rw [Nat.add_zero] at this
  exact this
theorem FsIs.bf (h : FsIs s lay w) (k : Nat) : w.frozen? ⟨lay .B, k, none⟩ = false := h.lies.fz (i := .B) rfl k
end
def Fs.bk (s : Fs) (i : Int) : Option (List UInt8) := if i < 1 then none else match s.bs[slotOf i]? with
  | some (true, l) => some l
  | _ => none
theorem Fs.bk_slot {s : Fs} {i : Int} {l : List UInt8} (h : s.bk i = some l) : 1 ≤ i ∧ i ≤ s.bs.length ∧ s.bs[slotOf i]? = some (true, l) := by
  unfold Fs.bk at h
  by_cases h1 : i < 1
  · rw [if_pos h1] at h; cases h
  · rw [if_neg h1] at h
    cases ho : s.bs[slotOf i]? with
    | none => rw [ho] at h; cases h
    | some o =>
      rw [ho] at h
      obtain ⟨t, l'⟩ := o
      cases t with
      | false => cases h
      | true =>
        cases h
        have := (List.getElem?_eq_some_iff.1 ho).1
        unfold slotOf at this
        exact ⟨by omega, by omega, rfl⟩
theorem bat_some {s lay} (i : Int) (l : List UInt8) (w : World) (h : FsIs s lay w) (hn : s.bk i = some l) : Calls Tryz.prog 70 #[ptrTo (lay .S), .int .i64 i] w fun e w' => e = .returned (.pointer (some ⟨lay .B, slotOf i * 65, none⟩)) ∧ w = w' := by
  obtain ⟨h1, h2, h3⟩ := Fs.bk_slot hn
  have c1 := h.s0
  have c2 := h.b0 h3
  have hl := h.ok.blocks
  obtain ⟨k, rfl⟩ : ∃ k : Nat, i = k + 1 := ⟨(i - 1).toNat, by omega⟩
  rw [slotOf_eq] at c2 ⊢
  have hk2 : k < s.bs.length := by omega
  unfold ptrTo at *
  clear h hn h3
  go_enter Tryz.func70, Tryz.ntmps70
  go_wp2
  go_ret
  exact ⟨rfl, rfl⟩
theorem Fs.bk_none {s : Fs} {i : Int} (h : s.bk i = none) (h1 : 1 ≤ i) (h2 : i ≤ s.bs.length) : ∃ l, s.bs[slotOf i]? = some (false, l) := by
  unfold Fs.bk at h
  rw [if_neg (by omega)] at h
  cases ho : s.bs[slotOf i]? with
  | none => rw [List.getElem?_eq_none_iff] at ho; unfold slotOf at ho; omega
  | some o =>
    rw [ho] at h
    obtain ⟨t, l⟩ := o
    cases t with
    | true => cases h
    | false => exact ⟨l, rfl⟩
theorem bat_none {s lay} (i : Int) (w : World) (h : FsIs s lay w) (hn : s.bk i = none) : Calls Tryz.prog 70 #[ptrTo (lay .S), .int .i64 i] w fun e w' => e = .returned (.pointer none) ∧ w = w' := by
  have c1 := h.s0
  have hl := h.ok.blocks
  unfold ptrTo at *
  by_cases h1 : i < 1
  · clear h hn
    go_enter Tryz.func70, Tryz.ntmps70
    go_wp2
    go_ret
    exact ⟨rfl, rfl⟩
  · by_cases h2 : (s.bs.length : Int) < i
    · have h0 : (1 : Int) ≤ i := by omega
      clear h hn
      go_enter Tryz.func70, Tryz.ntmps70
      go_wp2
      go_ret
      exact ⟨rfl, rfl⟩
    · obtain ⟨l, h3⟩ := Fs.bk_none hn (by omega) (by omega)
      obtain ⟨k, rfl⟩ : ∃ k : Nat, i = k + 1 := ⟨(i - 1).toNat, by omega⟩
      rw [slotOf_eq] at h3
      have c2 := h.b0 h3
      have hk2 : k < s.bs.length := by omega
      clear h hn h3
      go_enter Tryz.func70, Tryz.ntmps70
      go_wp2
      go_ret
      exact ⟨rfl, rfl⟩
theorem isfree_any (t : Bool) (rest : List Value) (w : World) : Calls Tryz.prog 112 #[.agg (.bool t :: rest).toArray] w fun e w' => e = .returned (.bool (!t)) ∧ Below w.heap.size w w' := by
  go_enter Tryz.func112, Tryz.ntmps112
  go_wp2
  go_ret
  exact ⟨rfl, (Below.refl _ _).alloc (Nat.le_refl _) _⟩
theorem wpList_load_at {P : Program} {ops : Array Oper} {rest : List Oper} {o : Oper} {a : Act} {w : World} {Q : Exit → Act → World → Prop} (hgd : o.guard = none) (ty : TypeId) (x : Operand) (ho : o.op = .load ty x) (ad : Addr) (hx : a.eval x = .pointer (some ad)) (v : Value)
    (hl : (loadVar ty ad).run P w = .ok v w) (h : wpList P ops Q rest (a.put o.dst v) w) : wpList P ops Q (o :: rest) a w := by
  refine wpList_plain hgd fun K hK => ?_
  unfold Oper.wp
  simp only [execOp, ho, hx, Instr.loadAt, Instr.sureAddr, Sem.run_bind, Sem.run_pure, Result.andThen_ok, hl]
  exact hK _ _ h
def freeAt : List (Bool × List UInt8) → Option Nat
  | [] => none
  | b :: l => if b.1 then (freeAt l).map (· + 1) else some 0
theorem block_load {s lay} (w : World) (h : FsIs s lay w) (k : Nat) (b : Bool × List UInt8) (hb : s.bs[k]? = some b) : (loadVar 133 ⟨lay .B, k * 65, none⟩).run Tryz.prog w = .ok (.agg (.bool b.1 :: b.2.map byteV).toArray) w := by
  have hl : b.2.length = 64 := h.ok.bytes b (List.mem_of_getElem? hb)
  have hbl := blockV_len hl
  have hrun := run_loadCells (P := Tryz.prog) w ⟨lay .B, k * 65, none⟩ 65 (fun j => (blockV b).getD j undef) (fun j hj => by
    have hget : (blockV b)[j]? = some ((blockV b).getD j undef) := by
      rw [List.getD_eq_getElem?_getD, List.getElem?_eq_getElem (by omega)]; rfl
    have hadd : Addr.add ⟨lay .B, k * 65, none⟩ j = ⟨lay .B, k * 65 + j, none⟩ := by cases j <;> simp [Addr.add]
    rw [hadd]; exact h.b hb hget)
  have hlist : (List.range 65).map (fun j => (blockV b).getD j undef) = blockV b := by
    apply List.ext_getElem?
    intro j
    rw [List.getElem?_map]
    by_cases e : j < 65
    · rw [List.getElem?_range e, List.getElem?_eq_getElem (by omega)]
      simp [List.getD_eq_getElem?_getD, List.getElem?_eq_getElem (show j < (blockV b).length by omega)]
    · rw [List.getElem?_eq_none (by simpa using e), List.getElem?_eq_none (by omega)]; rfl
  rw [hlist] at hrun
  have hagg : (isAgg 133).run Tryz.prog w = .ok true w := by kernel_rfl
  have hsz : (sizeOf 133).run Tryz.prog w = .ok 65 w := by kernel_rfl
  simp only [loadVar, Sem.run_bind, hagg, Result.andThen_ok, if_true, hsz, hrun, Sem.run_pure]
  rfl
theorem FsIs.below {s : Fs} {lay : FId → Nat} {w w' : World} (h : FsIs s lay w) (hb : Below w.heap.size w w') : FsIs s lay w' := ⟨h.lies.kept fun i hi => hb.block _ (h.lies.owns_lt ⟨i, hi, rfl⟩), h.ok⟩
def freeI (l : List (Bool × List UInt8)) : Int := match freeAt l with
  | some k => k
  | none => -1
theorem freeI_some {l : List (Bool × List UInt8)} {k : Nat} (h : freeAt l = some k) : freeI l = k := by unfold freeI; rw [h]
theorem freeI_none {l : List (Bool × List UInt8)} (h : freeAt l = none) : freeI l = -1 := by unfold freeI; rw [h]
theorem freeAt_some : ∀ (l : List (Bool × List UInt8)) (k : Nat), freeAt l = some k → ∃ x, l[k]? = some (false, x)
  | [], k, h => by cases h
  | (t, y) :: l, k, hk => by
    unfold freeAt at hk
    cases t with
    | false => cases hk; exact ⟨y, rfl⟩
    | true =>
      simp only [if_true] at hk
      cases hf : freeAt l with
      | none => rw [hf] at hk; cases hk
      | some m => rw [hf] at hk; cases hk; obtain ⟨x, hx⟩ := freeAt_some l m hf; exact ⟨x, by simpa using hx⟩
theorem freeAt_at : ∀ (l : List (Bool × List UInt8)) (k : Nat) (x : List UInt8), (∀ (j : Nat) (b : Bool × List UInt8), j < k → l[j]? = some b → b.1 = true) → l[k]? = some (false, x) → freeAt l = some k
  | [], k, x, _, hx => by simp at hx
  | (t, y) :: l, 0, x, _, hx => by
    simp at hx
    rw [hx.1]; rfl
  | (t, y) :: l, k + 1, x, hk, hx => by
    have ht : t = true := hk 0 (t, y) (by omega) rfl
    subst ht
    simp only [freeAt, if_true]
    rw [freeAt_at l k x (fun j b hj hb => hk (j + 1) b (by omega) (by simpa using hb)) (by simpa using hx)]; rfl
theorem freeAt_none : ∀ (l : List (Bool × List UInt8)), (∀ (j : Nat) (b : Bool × List UInt8), l[j]? = some b → b.1 = true) → freeAt l = none
  | [], _ => rfl
  | (t, y) :: l, hall => by
    have ht : t = true := hall 0 (t, y) rfl
    subst ht
    simp only [freeAt, if_true]
    rw [freeAt_none l (fun j b hb => hall (j + 1) b (by simpa using hb))]; rfl
set_option maxRecDepth 100000 in
theorem index_any {s lay} (w : World) (h : FsIs s lay w) : Calls Tryz.prog 111 #[.slice (some ⟨lay .B, 0, none⟩) s.bs.length s.bs.length, .func (.func 112) #[] #[]] w fun e w' =>
    e = .returned (.int .i64 (freeI s.bs)) ∧ Below w.heap.size w w' := by
  have hl := h.ok.blocks
  go_enter Tryz.func111, Tryz.ntmps111
  go_wp2_with fail
  go_loopw [8] (fun i W => ∃ k : Nat, i = .int .i64 k ∧ k ≤ s.bs.length ∧ (∀ (j : Nat) (b : Bool × List UInt8), j < k → s.bs[j]? = some b → b.1 = true) ∧ Below w.heap.size w W) (fun i _ => s.bs.length - (intOf i).toNat)
  case atStart => exact ⟨0, rfl, by omega, (fun j b hj => by omega), Below.refl _ _⟩
  case round =>
    obtain ⟨k, rfl, hk, hall, hB⟩ := hrel
    by_cases hlt : k < s.bs.length
    · have hsome : ∃ b, s.bs[k]? = some b := ⟨_, List.getElem?_eq_getElem hlt⟩
      obtain ⟨b, hb⟩ := hsome
      have hld0 := block_load wr (h.below hB) k b hb
      have Hld := Lib.hid hld0
      clear hld0
      go_wp2_with (refine wpList_load_at rfl 133 _ rfl ⟨lay .B, k * 65, none⟩ rfl _ Hld.out ?_)
      refine (isfree_any b.1 _ wr).mono ?_
      rintro e w1 ⟨rfl, hB1⟩
      have hsz := hB.size
      obtain ⟨bt, bl⟩ := b
      cases bt with
      | true =>
        go_wp2_with fail
        go_roundw
        case rel => exact ⟨k + 1, by go_num, hlt, (fun j b hj hb' => by
          by_cases e : j = k
          · subst e; rw [hb] at hb'; cases hb'; rfl
          · exact hall j b (by omega) hb'), hB.trans (hB1.mono hsz)⟩
        case measure => simp [intOf]; omega
      | false =>
        have hf := freeI_some (freeAt_at s.bs k bl hall hb)
        go_wp2_with fail
        go_ret
        exact ⟨(by rw [hf]; rfl), hB.trans (hB1.mono hsz)⟩
    · have hkn : k = s.bs.length := by omega
      subst hkn
      have hf := freeI_none (freeAt_none s.bs (fun j b hb => hall j b (List.getElem?_eq_some_iff.1 hb).1 hb))
      go_wp2_with fail
      go_ret
      exact ⟨(by rw [hf]; rfl), hB⟩
end Go.Proofs.YtbecmcjibpamoaaGreatDoor
