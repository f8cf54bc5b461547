/- Texts of one proof, packed: FsF, FsG, FsH, FsI, FsJ -/
import Derived.Test.YtggdedihfhibfaaGreatDoorR15
import Derived.Laws.CopyOwn
import Derived.Laws.BytesString
import Derived.IntWalk
set_option linter.unusedVariables false
set_option linter.unusedSimpArgs false
set_option linter.deprecated false
set_option linter.unnecessarySimpa false
/- The file system: blocks are taken, given, read, written. -/
namespace Go.Proofs.YtggdedihfhibfaaGreatDoor
open Go.RowKit
set_option linter.unusedVariables false
set_option linter.unusedSimpArgs false

section
variable {I : Type} {c c' : I → Option Obj} {lay : I → Nat} {w w1 : World}
theorem Lies.row [DecidableEq I] (h : Lies c lay w) {i : I} {cs : Array Value} {ty : TypeId} (hc : c i = some (.cells cs ty (0, 0))) (cs' : Array Value) (hc' : ∀ j, c' j = if j = i then some (.cells cs' ty (0, 0)) else c j) : Lies c' lay (w.setRow (lay i) cs') := by
  have hlive : ∀ j, c' j ≠ none → c j ≠ none := fun j hj => by
    by_cases e : j = i
    · rw [e, hc]; simp
    · rw [hc', if_neg e] at hj; exact hj
  refine ⟨fun j o hj => ?_, fun j l hj hl e => h.inj j l (hlive j hj) (hlive l hl) e⟩
  by_cases e : j = i
  · subst e
    rw [hc', if_pos rfl] at hj
    cases hj
    exact setRow_heap w _ _ _ _ _ (h.at_ j _ hc)
  · have hj' : c j = some o := by rw [hc', if_neg e] at hj; exact hj
    rw [setRow_other _ _ _ _ (fun q => e (h.inj j i (by rw [hj']; simp) (by rw [hc]; simp) q))]
    exact h.at_ j o hj'
theorem Turned.row {S : Nat → Prop} (h : Turned S w w1) (g : Nat) (cs : Array Value) (hs : g < w.heap.size → S g) : Turned S w (w1.setRow g cs) :=
  ⟨h.os, h.tape, h.output, by simpa using h.size, fun b hb hn => by
    rw [setRow_other _ _ _ _ (by rintro rfl; exact hn (hs hb))]; exact h.block b hb hn⟩
end
/-- a store, by the world that it leaves -/
theorem wpList_store_at {P : Program} {ops : Array Oper} {rest : List Oper} {o : Oper} {a : Act} {w w' : World} {Q : Exit → Act → World → Prop} (hgd : o.guard = none) (ty : TypeId) (x y : Operand) (ho : o.op = .store ty x y) (ad : Addr) (hx : a.eval x = .pointer (some ad)) (v : Value) (hy : a.eval y = v)
    (hl : (storeVar ty ad v).run P w = .ok () w') (h : wpList P ops Q rest (a.put o.dst undef) w') : wpList P ops Q (o :: rest) a w := by
  refine wpList_plain hgd fun K hK => ?_
  unfold Oper.wp
  simp only [execOp, ho, hx, hy, Instr.storeAt, Instr.sureAddr, Sem.run_bind, Sem.run_pure, Result.andThen_ok, hl]
  exact hK _ _ h
/-- 'copy(d, s)' of a text -/
theorem run_copy_str {P : Program} {w : World} {dT sT ty : TypeId} (elem : TypeId) (hu : P.underlying dT = some (.slice elem)) (hsz : (P.info? elem).map (·.size) = some 1)
    (g off dLen dCap : Nat) (l : List UInt8) (cur : List Value) (t : TypeId) (hg : w.heap[g]? = some (.cells cur.toArray t (0, 0))) (hn : l.length ≤ dLen) (hfit : off + l.length ≤ cur.length) :
    (Builtin.copy_ #[dT, sT] ty #[.slice (some ⟨g, off, none⟩) dLen dCap, .string ⟨l.toArray⟩]).run P w = .ok (goInt l.length) (w.setRow g (cur.take off ++ (l.map byteV ++ cur.drop (off + l.length))).toArray) := by
  have hst := run_storeCells_at P g off t (l.map byteV) 0 cur.toArray w hg (by simpa using hfit) (fun v hv => by
    obtain ⟨b, _, rfl⟩ := List.mem_map.1 hv; rfl)
  have hsize : (ByteArray.mk l.toArray).size = l.length := by simp [ByteArray.size]
  have hmin : Nat.min l.length dLen = l.length := Nat.min_eq_left hn
  obtain ⟨i, hi⟩ : ∃ i, P.info? elem = some i := by
    cases hq : P.info? elem with
    | none => rw [hq] at hsz; cases hsz
    | some i => exact ⟨i, rfl⟩
  simp only [Nat.add_zero, List.length_map] at hst
  rw [List.append_assoc] at hst
  have e : List.take l.length (List.map (fun b => Value.int IntKind.u8 (b.toNat : Int)) l) = l.map byteV := by
    rw [List.take_of_length_le (by simp)]; rfl
  simp [Builtin.copy_, run_underlying hu, Builtin.lenOf, Builtin.firstCells, sizeOf, typeInfo, hi, hsize, hmin]
  rw [e, hst]
  rfl
/-- another block in a place -/
def Fs.setB (s : Fs) (k : Nat) (b : Bool × List UInt8) : Fs := { s with bs := s.bs.set k b }
def Fs.setFree (s : Fs) (n : Int) : Fs := { s with free := n }
theorem flat_split : ∀ (l : List (Bool × List UInt8)) (k : Nat) (x : Bool × List UInt8), (∀ b ∈ l, b.2.length = 64) → l[k]? = some x → ∃ A C : List Value, l.flatMap blockV = A ++ blockV x ++ C ∧ A.length = k * 65 ∧ ∀ b, (l.set k b).flatMap blockV = A ++ blockV b ++ C
  | [], k, x, _, hk => by simp at hk
  | y :: l, 0, x, _, hk => by
    obtain rfl : y = x := by simpa using hk
    exact ⟨[], l.flatMap blockV, by simp, by simp, fun b => by simp⟩
  | y :: l, k + 1, x, h, hk => by
    obtain ⟨A, C, h1, h2, h3⟩ := flat_split l k x (fun b hb => h b (by simp [hb])) (by simpa using hk)
    refine ⟨blockV y ++ A, C, by rw [List.flatMap_cons, h1]; simp, ?_, fun b => by rw [List.set_cons_succ, List.flatMap_cons, h3]; simp⟩
    rw [List.length_append, blockV_len (h y (by simp)), h2]; omega
theorem splice_mid {α : Type} (A X C M : List α) : (A ++ X ++ C).take A.length ++ M ++ (A ++ X ++ C).drop (A.length + X.length) = A ++ M ++ C := by
  rw [List.append_assoc A X C, List.take_left, ← List.append_assoc A X C, ← List.length_append, List.drop_left]
theorem set_mid (A : List Value) (v u : Value) (C : List Value) : (A ++ (v :: C)).set A.length u = A ++ (u :: C) := by
  rw [List.set_append_right _ _ (Nat.le_refl _)]; simp
section
variable {s s' : Fs} {lay lay' : FId → Nat} {w w' : World}
theorem setB_obj (k : Nat) (b : Bool × List UInt8) (j : FId) : (s.setB k b).obj lay j = if j = .B then some (.cells ((s.bs.set k b).flatMap blockV).toArray 240 (0, 0)) else s.obj lay j := by
  cases j <;> simp [Fs.obj, Fs.setB, Fs.dmap, Fs.dr]
theorem setFree_obj (n : Int) (j : FId) : (s.setFree n).obj lay j = if j = .S then some (.cells #[.slice (some ⟨lay .B, 0, none⟩) s.bs.length s.bs.length, .int .i64 n] 234 (0, 0)) else s.obj lay j := by
  cases j <;> simp [Fs.obj, Fs.setFree, Fs.dmap, Fs.dr]
theorem Fs.Ok.setB (h : s.Ok) (k : Nat) {b : Bool × List UInt8} (hb : b.2.length = 64) : (s.setB k b).Ok :=
  ⟨h.nodes, by simpa [Fs.setB] using h.blocks, fun x hx => by
    rcases List.mem_or_eq_of_mem_set hx with q | q
    · exact h.bytes x q
    · rw [q]; exact hb, h.parts, h.names, h.dirs⟩
/-- the blocks' row is written -/
theorem Step.setB (h : Step s lay w s' lay' w') (k : Nat) {b : Bool × List UInt8} (hb : b.2.length = 64) (row : List Value) (hr : row = (s'.bs.set k b).flatMap blockV) : Step s lay w (s'.setB k b) lay' (w'.setRow (lay' .B) row.toArray) := by
  subst hr
  have hown : Owns (s'.obj lay') lay' (lay' .B) := ⟨.B, by simp [Fs.obj], rfl⟩
  refine ⟨⟨h.is.lies.row (i := .B) rfl _ (fun j => setB_obj k b j), h.is.ok.setB k hb⟩, h.turned.row _ _ (fun hlt => (h.own _ hown).resolve_right (by omega)), fun x hx => ?_⟩
  obtain ⟨j, hj, rfl⟩ := hx
  refine h.own _ ⟨j, fun e => hj ?_, rfl⟩
  rw [setB_obj]
  by_cases q : j = .B
  · rw [q] at e; simp [Fs.obj] at e
  · rw [if_neg q, e]
theorem Step.setFree (h : Step s lay w s' lay' w') (n : Int) : Step s lay w (s'.setFree n) lay' (w'.setCell ⟨lay' .S, 1, none⟩ (.int .i64 n)) := by
  have hown : Owns (s'.obj lay') lay' (lay' .S) := ⟨.S, by simp [Fs.obj], rfl⟩
  refine ⟨⟨h.is.lies.set (i := .S) rfl 1 _ (fun j => by rw [setFree_obj]; rfl), ⟨h.is.ok.nodes, h.is.ok.blocks, h.is.ok.bytes, h.is.ok.parts, h.is.ok.names, h.is.ok.dirs⟩⟩, h.turned.set _ _ (fun hlt => (h.own _ hown).resolve_right (by simpa using hlt)), fun x hx => ?_⟩
  obtain ⟨j, hj, rfl⟩ := hx
  refine h.own _ ⟨j, fun e => hj ?_, rfl⟩
  rw [setFree_obj]
  by_cases q : j = .S
  · rw [q] at e; simp [Fs.obj] at e
  · rw [if_neg q, e]
/-- one cell of a block is written: the mark -/
theorem Step.setMark (h : Step s lay w s' lay' w') {k : Nat} {b : Bool × List UInt8} (hk : s'.bs[k]? = some b) (t : Bool) : Step s lay w (s'.setB k (t, b.2)) lay' (w'.setCell ⟨lay' .B, k * 65, none⟩ (.bool t)) := by
  have hlt := (List.getElem?_eq_some_iff.1 hk).1
  have hb := h.is.ok.bytes b (List.mem_of_getElem? hk)
  have hB : w'.heap[lay' .B]? = some (.cells (s'.bs.flatMap blockV).toArray 240 (0, 0)) := h.is.lies.at_ .B _ rfl
  have hrow : w'.setCell ⟨lay' .B, k * 65, none⟩ (.bool t) = w'.setRow (lay' .B) (((s'.bs.flatMap blockV).set (k * 65) (.bool t)).toArray) := by
    rw [setCell_eq_setRow w' (lay' .B) (k * 65) _ _ _ _ hB]
    simp
  rw [hrow]
  obtain ⟨A, C, h1, h2, h3⟩ := flat_split s'.bs k b h.is.ok.bytes hk
  refine h.setB k (b := (t, b.2)) hb _ ?_
  rw [h3, h1, ← h2]
  simp only [blockV, List.cons_append, List.append_assoc]
  exact set_mid A _ _ _
end
theorem give_some {s lay} (i : Int) (l : List UInt8) (w : World) (h : FsIs s lay w) (hn : s.bk i = some l) : Calls Tryz.prog 173 #[ptrTo (lay .S), .int .i64 i] w fun e w' => e = .returned (.int .i64 0) ∧ Step s lay w ((s.setB (slotOf i) (false, l)).setFree (incW s.free)) lay w' := by
  have hb := (Fs.bk_slot hn).2.2
  have c1 := h.b0 hb
  have f1 := h.bf (slotOf i * 65)
  have c2 := h.s1
  have f2 : w.frozen? ⟨lay .S, 1, none⟩ = false := h.lies.fz (i := .S) rfl 1
  have hne : lay .B ≠ lay .S := h.lies.ne (i := .B) (j := .S) rfl rfl (by simp)
  go_enter Tryz.func173, Tryz.ntmps173
  unfold ptrTo
  go_wp2_with (go_at_call 152; refine (bat_some i l w h hn).mono ?_; rintro e w' ⟨rfl, rfl⟩)
  go_ret
  exact ⟨rfl, ((Step.refl h).setMark hb false).setFree _⟩
theorem give_none {s lay} (i : Int) (w : World) (h : FsIs s lay w) (hn : s.bk i = none) : Calls Tryz.prog 173 #[ptrTo (lay .S), .int .i64 i] w fun e w' => e = .returned (.int .i64 23) ∧ w = w' := by
  go_enter Tryz.func173, Tryz.ntmps173
  unfold ptrTo
  go_wp2_with (go_at_call 152; refine (bat_none i w h hn).mono ?_; rintro e w' ⟨rfl, rfl⟩)
  go_ret
  exact ⟨rfl, rfl⟩
def zeros : List UInt8 := List.replicate 64 0
theorem store_cellsM {s lay} (w : World) (h : FsIs s lay w) (k : Nat) (hk : k < s.bs.length) (M : List Value) (hM : M.length = 65) (h1v : ∀ v ∈ M, v.oneCell' = true) (b : Bool × List UInt8) (hb : blockV b = M) :
    (storeCells ⟨lay .B, k * 65, none⟩ M).run Tryz.prog w = .ok () (w.setRow (lay .B) ((s.bs.set k b).flatMap blockV).toArray) := by
  obtain ⟨A, C, h1, h2, h3⟩ := flat_split s.bs k s.bs[k] h.ok.bytes (List.getElem?_eq_getElem hk)
  have hB := h.lies.at_ .B _ rfl
  have hl := flat_len s.bs h.ok.bytes
  have hlen : (blockV s.bs[k]).length = 65 := blockV_len (h.ok.bytes _ (List.getElem_mem hk))
  have hst := run_storeCells_at Tryz.prog (lay .B) (k * 65) 240 M 0 _ w hB (by simp only [List.size_toArray, hl, hM]; omega) h1v
  have hcut := splice_mid A (blockV s.bs[k]) C M
  rw [h2, hlen, ← h1] at hcut
  rw [h3, hb, ← hcut]
  rw [Nat.add_zero, hM] at hst
  exact hst
theorem zero_cells : Tryz.zeroCells240.toList.set 0 (.bool true) = .bool true :: List.replicate 64 (.int .u8 0) := by kernel_rfl
theorem store_block {s lay} (w : World) (h : FsIs s lay w) (k : Nat) (hk : k < s.bs.length) :
    (storeCells ⟨lay .B, k * 65, none⟩ (Tryz.zeroCells240.toList.set 0 (.bool true))).run Tryz.prog w = .ok () (w.setRow (lay .B) ((s.bs.set k (true, zeros)).flatMap blockV).toArray) := by
  rw [zero_cells]
  exact store_cellsM w h k hk _ (by rw [List.length_cons, List.length_replicate]) (fun v hv => by
    rcases List.mem_cons.1 hv with rfl | hv
    · rfl
    · rw [List.eq_of_mem_replicate hv]; rfl) (true, zeros) (by simp only [blockV, zeros, List.map_replicate]; rfl)
theorem take_some {s lay} (k : Nat) (w : World) (h : FsIs s lay w) (hk : freeAt s.bs = some k) : Calls Tryz.prog 151 #[ptrTo (lay .S)] w fun e w' => e = .returned (.tuple #[.int .i64 (k + 1), .int .i64 0]) ∧ Step s lay w ((s.setB k (true, zeros)).setFree (decW s.free)) lay w' := by
  have hf := freeI_some hk
  obtain ⟨x, hx⟩ := freeAt_some _ _ hk
  have hlt := (List.getElem?_eq_some_iff.1 hx).1
  have hl := h.ok.blocks
  have c0 := h.s0
  go_enter Tryz.func151, Tryz.ntmps151
  unfold ptrTo
  go_wp2_with (go_at_call 166; refine (index_any w h).mono ?_; rintro e w1 ⟨rfl, hB⟩; rw [hf]; have h1 := h.below hB; have c1 := h1.s0; have c2 := h1.s1; have f2 : w1.frozen? ⟨lay .S, 1, none⟩ = false := h1.lies.fz (i := .S) rfl 1; clear c0 hf; have hs := store_block w1 h1 k hlt; have hst := Step.setB (Step.mk h1 (Turned.of_below hB) (fun _ q => .inl q) : Step s lay w s lay w1) k (b := (true, zeros)) (by simp [zeros]) _ rfl; have c3 := hst.is.s1; have f3 : (w1.setRow (lay .B) ((s.bs.set k (true, zeros)).flatMap blockV).toArray).frozen? ⟨lay .S, 1, none⟩ = false := hst.is.lies.fz (i := .S) rfl 1; generalize w1.setRow (lay .B) ((s.bs.set k (true, zeros)).flatMap blockV).toArray = w2 at *)
  go_ret2
  exact ⟨rfl, hst.setFree _⟩
theorem take_none {s lay} (w : World) (h : FsIs s lay w) (hk : freeAt s.bs = none) : Calls Tryz.prog 151 #[ptrTo (lay .S)] w fun e w' => e = .returned (.tuple #[.int .i64 0, .int .i64 20]) ∧ Below w.heap.size w w' := by
  have hf := freeI_none hk
  have hl := h.ok.blocks
  have c0 := h.s0
  go_enter Tryz.func151, Tryz.ntmps151
  unfold ptrTo
  go_wp2_with (go_at_call 166; refine (index_any w h).mono ?_; rintro e w1 ⟨rfl, hB⟩; rw [hf]; clear c0 hf)
  go_ret2
  exact ⟨rfl, hB⟩
/-- a block with other bytes in a place -/
def overlay (l : List UInt8) (o : Nat) (d : List UInt8) : List UInt8 := l.take o ++ d ++ l.drop (o + d.length)
theorem overlay_len {l d : List UInt8} {o : Nat} (h : o + d.length ≤ l.length) : (overlay l o d).length = l.length := by
  unfold overlay; simp; omega
theorem flat_overlay {bs : List (Bool × List UInt8)} {k o : Nat} {l d : List UInt8} (h : ∀ b ∈ bs, b.2.length = 64) (hk : bs[k]? = some (true, l)) (ho : o + d.length ≤ 64) :
    (bs.flatMap blockV).take (k * 65 + 1 + o) ++ (d.map byteV ++ (bs.flatMap blockV).drop (k * 65 + 1 + o + d.length)) = (bs.set k (true, overlay l o d)).flatMap blockV := by
  obtain ⟨A, C, h1, h2, h3⟩ := flat_split bs k _ h hk
  have hl : l.length = 64 := h _ (List.mem_of_getElem? hk)
  rw [h3, h1]
  have e1 : A ++ blockV (true, l) ++ C = (A ++ .bool true :: (l.take o).map byteV) ++ ((l.drop o).take d.length).map byteV ++ ((l.drop (o + d.length)).map byteV ++ C) := by
    have : l = l.take o ++ ((l.drop o).take d.length ++ l.drop (o + d.length)) := by
      rw [← List.drop_drop, List.take_append_drop, List.take_append_drop]
    conv => lhs; rw [this]
    simp [blockV]
  have e2 : (A ++ .bool true :: (l.take o).map byteV).length = k * 65 + 1 + o := by
    simp [h2, hl]; omega
  have e3 : (((l.drop o).take d.length).map byteV).length = d.length := by
    simp [hl]; omega
  have := splice_mid (A ++ .bool true :: (l.take o).map byteV) (((l.drop o).take d.length).map byteV) ((l.drop (o + d.length)).map byteV ++ C) (d.map byteV)
  rw [e2, e3, ← e1] at this
  rw [← List.append_assoc, this]
  simp [blockV, overlay]
set_option maxRecDepth 100000 in
theorem bwrite_any {s lay} (i : Int) (l : List UInt8) (o : Nat) (d : List UInt8) (w : World) (h : FsIs s lay w) (hn : s.bk i = some l) (ho : o < 64) (hd : o + d.length ≤ 64) : Calls Tryz.prog 128 #[ptrTo (lay .S), .int .i64 i, .int .i64 o, .string ⟨d.toArray⟩] w fun e w' => e = .returned (.int .i64 0) ∧
    Step s lay w (s.setB (slotOf i) (true, overlay l o d)) lay w' := by
  have hb := (Fs.bk_slot hn).2.2
  have hlt := (List.getElem?_eq_some_iff.1 hb).1
  have hl64 : l.length = 64 := h.ok.bytes _ (List.mem_of_getElem? hb)
  have ho2 : (o : Int) ≤ 64 := by omega
  have hd2 : (d.length : Int) ≤ 64 - o := by omega
  have hrun := run_copy_str (P := Tryz.prog) (w := w) (dT := 76) (sT := 9) (ty := 3) 5 Tryz.underlying76 (by kernel_rfl) (lay .B) (slotOf i * 65 + 1 + o) (64 - o) (64 - o) d _ _ (h.lies.at_ .B _ rfl) (by omega) (by rw [flat_len s.bs h.ok.bytes]; omega)
  rw [flat_overlay h.ok.bytes hb hd] at hrun
  have hst := (Step.refl h).setB (slotOf i) (b := (true, overlay l o d)) (by rw [overlay_len (by omega)]; exact hl64) _ rfl
  generalize w.setRow (lay .B) ((s.bs.set (slotOf i) (true, overlay l o d)).flatMap blockV).toArray = w2 at hrun hst
  clear hb hl64
  go_enter Tryz.func128, Tryz.ntmps128
  unfold ptrTo
  go_wp2_with (go_at_call 152; refine (bat_some i l w h hn).mono ?_; rintro e w' ⟨rfl, rfl⟩)
  go_ret
  exact ⟨rfl, hst⟩
theorem push_fold2 : ∀ (l : List UInt8) (s : List UInt8), ((l.map fun b => (b.toNat : Int)).foldl (fun r n => r.push (UInt8.ofNat n.toNat)) (⟨s.toArray⟩ : ByteArray)) = ⟨(s ++ l).toArray⟩
  | [], s => by simp
  | b :: l, s => by
    have hp : (⟨s.toArray⟩ : ByteArray).push (UInt8.ofNat ((b.toNat : Int).toNat)) = ⟨(s ++ [b]).toArray⟩ := by
      apply ByteArray.ext
      simp [ByteArray.push]
    rw [List.map_cons, List.foldl_cons, hp, push_fold2 l (s ++ [b])]
    simp
/-- 'string(b)' of bytes that lie in a row -/
theorem run_str_of {P : Program} {w : World} {src dst e : TypeId} (hs : P.underlying src = some (.slice e)) (hd : P.underlying dst = some .string) (he : P.underlying e = some (.int .u8)) (g off cap : Nat) (l : List UInt8)
    (hc : ∀ (j : Nat) (b : UInt8), l[j]? = some b → w.cell? ⟨g, off + j, none⟩ = some (byteV b)) : (convert src dst (.slice (some ⟨g, off, none⟩) l.length cap)).run P w = .ok (.string ⟨l.toArray⟩) w := by
  have hld := run_loadCells (P := P) w ⟨g, off, none⟩ l.length (fun j => .int .u8 ((l[j]?.getD 0).toNat : Int)) (fun j hj => by
    have hadd : Addr.add ⟨g, off, none⟩ j = ⟨g, off + j, none⟩ := by cases j <;> simp [Addr.add]
    rw [hadd, hc j l[j] (List.getElem?_eq_getElem hj), List.getElem?_eq_getElem hj]; rfl)
  have hlist : (List.range l.length).map (fun j => Value.int .u8 ((l[j]?.getD 0).toNat : Int)) = (l.map fun b => (b.toNat : Int)).map (Value.int .u8) := by
    apply List.ext_getElem?
    intro j
    by_cases e : j < l.length
    · simp [e]
    · simp [e, List.getElem?_eq_none (Nat.not_lt.1 e)]
  rw [hlist] at hld
  have := run_bytesToString (P := P) w ⟨g, off, none⟩ l.length cap _ hld
  rw [show (ByteArray.empty) = (⟨([] : List UInt8).toArray⟩ : ByteArray) from rfl, push_fold2, List.nil_append] at this
  simp [convert, run_underlying hs, run_underlying hd, run_underlying he, this]
/-- 'x[l:h]' of an array of bytes behind a pointer -/
theorem run_slice_arr {P : Program} {w : World} {t e : TypeId} {n : Nat} (ht : P.underlying t = some (.array n e)) (he : (P.info? e).map (·.size) = some 1) (g off l h : Nat) (h1 : l ≤ h) (h2 : h ≤ n) (h3 : l < n) :
    (Instr.sliceAt t (.pointer (some ⟨g, off, none⟩)) (some (.int .i64 l)) (some (.int .i64 h)) none).run P w = .ok (.slice (some ⟨g, off + l, none⟩) (h - l) (n - l)) w := by
  obtain ⟨i, hi, hi1⟩ : ∃ i, P.info? e = some i ∧ i.size = 1 := by
    cases hq : P.info? e with
    | none => rw [hq] at he; cases he
    | some i => rw [hq] at he; exact ⟨i, rfl, by simpa using he⟩
  have hadd : Addr.add ⟨g, off, none⟩ l = ⟨g, off + l, none⟩ := by cases l <;> simp [Addr.add]
  have hne : ¬ n = l := by omega
  simp [Instr.sliceAt, Instr.slice, Instr.sureAddr, run_underlying ht, Instr.sliceBounds, run_sliceBound, h1, h2, sizeOf, typeInfo, hi, hi1, hadd, hne]
set_option maxRecDepth 100000 in
theorem bread_any {s lay} (i : Int) (l : List UInt8) (o n : Nat) (w : World) (h : FsIs s lay w) (hn : s.bk i = some l) (ho : o < 64) (hd : o + n ≤ 64) : Calls Tryz.prog 147 #[ptrTo (lay .S), .int .i64 i, .int .i64 o, .int .i64 n] w fun e w' => e = .returned (.tuple #[.string ⟨((l.drop o).take n).toArray⟩, .int .i64 0]) ∧ w = w' := by
  have hb := (Fs.bk_slot hn).2.2
  have hl64 : l.length = 64 := h.ok.bytes _ (List.mem_of_getElem? hb)
  have ho2 : (o : Int) ≤ 64 := by omega
  have hd2 : (n : Int) ≤ 64 - o := by omega
  have hlen : ((l.drop o).take n).length = n := by simp [hl64]; omega
  have hrun := run_str_of (P := Tryz.prog) (w := w) (src := 76) (dst := 9) Tryz.underlying76 Tryz.underlying9 Tryz.underlying5 (lay .B) (slotOf i * 65 + 1 + o) (64 - o) ((l.drop o).take n) (fun j b hj => by
    have hj' : l[o + j]? = some b := by
      rw [List.getElem?_take] at hj
      split at hj
      · rw [List.getElem?_drop] at hj; exact hj
      · cases hj
    have := h.b (o := 1 + o + j) (v := byteV b) hb (by
      rw [show 1 + o + j = (o + j) + 1 by omega]
      simp [blockV, hj'])
    rw [show slotOf i * 65 + 1 + o + j = slotOf i * 65 + (1 + o + j) by omega]; exact this)
  rw [hlen] at hrun
  have hslice := run_slice_arr (P := Tryz.prog) (w := w) Tryz.underlying238 (by kernel_rfl) (lay .B) (slotOf i * 65 + 1) o (o + n) (by omega) (by omega) ho
  rw [show o + n - o = n by omega, show ((o + n : Nat) : Int) = (o : Int) + n by omega] at hslice
  generalize (l.drop o).take n = r at hrun ⊢
  clear hb hl64 hlen
  go_enter Tryz.func147, Tryz.ntmps147
  unfold ptrTo
  go_wp2_with (go_at_call 152; refine (bat_some i l w h hn).mono ?_; rintro e w' ⟨rfl, rfl⟩)
  go_ret2
  exact ⟨rfl, rfl⟩
end Go.Proofs.YtggdedihfhibfaaGreatDoor
/- The file system: a node's parts go; names and users are less. -/
namespace Go.Proofs.YtggdedihfhibfaaGreatDoor
open Go.RowKit
set_option linter.unusedVariables false
set_option linter.unusedSimpArgs false

section
variable {s s' : Fs} {lay lay' : FId → Nat} {w w' : World}
/-- a node's parts are others -/
theorem setNdP_obj {k : Nat} {x y : Nd} (hk : s.nodes[k]? = some (some y)) (hv : ndV lay k x = ndV lay k y) (j : FId) : (s.setNd k x).obj lay j = if j = .P k then some x.parts.obj else s.obj lay j := by
  have hlt := (List.getElem?_eq_some_iff.1 hk).1
  cases j with
  | T => simp [Fs.obj, Fs.setNd]
  | G =>
    simp only [Fs.obj, Fs.setNd, reduceCtorEq, if_false]
    rw [mapIdx_set _ _ k (some x) (some y) hk rfl]
  | N i =>
    simp only [Fs.obj, Fs.setNd_get, reduceCtorEq, if_false]
    by_cases e : i = k
    · subst e; rw [if_pos rfl, if_pos hlt, hk]; simp [hv]
    · rw [if_neg (Ne.symm e)]
  | P i =>
    simp only [Fs.obj, Fs.setNd_get, FId.P.injEq]
    by_cases e : i = k
    · subst e; simp [hlt]
    · rw [if_neg (Ne.symm e), if_neg e]
  | _ => simp [Fs.obj, Fs.setNd, Fs.dmap, Fs.dr]
theorem Step.setP {k : Nat} {x y : Nd} (h : Step s lay w s' lay' w') (hk : s'.nodes[k]? = some (some y)) (hv : ndV lay' k x = ndV lay' k y) (hp : PartsOk x.parts) :
    Step s lay w (s'.setNd k x) lay' { w' with heap := w'.heap.setIfInBounds (lay' (.P k)) x.parts.obj } := by
  have hn := (Fs.obj_n (lay := lay') hk).2
  have hown : Owns (s'.obj lay') lay' (lay' (.P k)) := ⟨.P k, by rw [hn]; simp, rfl⟩
  refine ⟨⟨h.is.lies.put hn (fun j => setNdP_obj hk hv j), h.is.ok.setNd hk hp⟩, h.turned.put _ _ (fun hlt => (h.own _ hown).resolve_right (by simpa using hlt)), fun b hb => ?_⟩
  obtain ⟨j, hj, rfl⟩ := hb
  refine h.own _ ⟨j, fun e => hj ?_, rfl⟩
  rw [setNdP_obj hk hv]
  by_cases q : j = .P k
  · rw [q, hn] at e; cases e
  · rw [if_neg q, e]
/-- a block beside the file system's is turned, in both worlds -/
theorem Step.beside (h : Step s lay w s' lay' w') (hw : FsIs s lay w) (r : Nat) (o : Obj) (hr : ∀ i, s.obj lay i ≠ none → lay i ≠ r) (hlt : r < w.heap.size) :
    Step s lay { w with heap := w.heap.setIfInBounds r o } s' lay' { w' with heap := w'.heap.setIfInBounds r o } := by
  have hr' : ∀ i, s'.obj lay' i ≠ none → lay' i ≠ r := fun i hi e => by
    rcases h.own _ ⟨i, hi, rfl⟩ with ⟨j, hj, hq⟩ | q
    · exact hr j hj (hq.trans e)
    · omega
  have hget : ∀ (v : World) (b : Nat), ({ v with heap := v.heap.setIfInBounds r o } : World).heap[b]? = if r = b then (if r < v.heap.size then some o else none) else v.heap[b]? := fun v b => by
    show (v.heap.setIfInBounds r o)[b]? = _
    rw [Array.getElem?_setIfInBounds]
  refine ⟨⟨h.is.lies.kept fun i hi => ?_, h.is.ok⟩, ⟨h.turned.os, h.turned.tape, h.turned.output, by simpa using h.turned.size, fun b hb hn => ?_⟩, fun b hb => ?_⟩
  · rw [hget, if_neg (Ne.symm (hr' i hi))]
  · have hs := h.turned.size
    have hb' : b < w.heap.size := by simpa using hb
    rw [hget, hget]
    by_cases e : r = b
    · rw [if_pos e, if_pos e, if_pos (by omega), if_pos (by omega)]
    · rw [if_neg e, if_neg e]; exact h.turned.block b hb' hn
  · have := h.own b hb
    simpa using this
end
/-- a block is given back, if it is taken -/
def Fs.giveS (s : Fs) (b : Int) : Fs := match s.bk b with
  | some l => (s.setB (slotOf b) (false, l)).setFree (incW s.free)
  | none => s
theorem giveS_bk (s : Fs) (a b : Int) : (s.giveS b).bk a = if a = b then none else s.bk a := by
  unfold Fs.giveS
  cases hb : s.bk b with
  | none =>
    show s.bk a = _
    by_cases e : a = b
    · rw [if_pos e, e, hb]
    · rw [if_neg e]
  | some l =>
    obtain ⟨h1, h2, h3⟩ := Fs.bk_slot hb
    have hlt : slotOf b < s.bs.length := by unfold slotOf; omega
    show (if a < 1 then none else match (s.bs.set (slotOf b) (false, l))[slotOf a]? with
      | some (true, l) => some l
      | _ => none) = _
    by_cases ha : a < 1
    · rw [if_pos ha, if_neg (by omega)]; unfold Fs.bk; rw [if_pos ha]
    · rw [if_neg ha, List.getElem?_set]
      by_cases e : a = b
      · subst e; rw [if_pos rfl, if_pos hlt, if_pos rfl]
      · rw [if_neg (by unfold slotOf; omega), if_neg e]
        conv => rhs; unfold Fs.bk; rw [if_neg ha]
        rfl
theorem giveS_comm (s : Fs) (a b : Int) : (s.giveS a).giveS b = (s.giveS b).giveS a := by
  by_cases e : a = b
  · rw [e]
  · have h1 : (s.giveS a).bk b = s.bk b := by rw [giveS_bk, if_neg (Ne.symm e)]
    have h2 : (s.giveS b).bk a = s.bk a := by rw [giveS_bk, if_neg e]
    rw [show (s.giveS a).giveS b = (match (s.giveS a).bk b with | some l => ((s.giveS a).setB (slotOf b) (false, l)).setFree (incW (s.giveS a).free) | none => s.giveS a) from rfl,
      show (s.giveS b).giveS a = (match (s.giveS b).bk a with | some l => ((s.giveS b).setB (slotOf a) (false, l)).setFree (incW (s.giveS b).free) | none => s.giveS b) from rfl, h1, h2]
    cases ha : s.bk a with
    | none =>
      have : s.giveS a = s := by unfold Fs.giveS; rw [ha]
      rw [this]
      cases hb : s.bk b <;> simp [Fs.giveS, hb]
    | some l =>
      cases hb : s.bk b with
      | none => simp [Fs.giveS, hb, ha]
      | some l' =>
        obtain ⟨a1, a2, a3⟩ := Fs.bk_slot ha
        obtain ⟨b1, b2, b3⟩ := Fs.bk_slot hb
        simp only [Fs.giveS, ha, hb, Fs.setB, Fs.setFree]
        rw [List.set_comm _ _ (by unfold slotOf; omega)]
theorem giveS_nodes (s : Fs) (b : Int) : (s.giveS b).nodes = s.nodes ∧ (s.giveS b).dirs = s.dirs ∧ (s.giveS b).clk = s.clk ∧ (s.giveS b).bs.length = s.bs.length := by
  unfold Fs.giveS
  cases s.bk b <;> simp [Fs.setB, Fs.setFree]
theorem setNd_giveS (s : Fs) (k : Nat) (x : Nd) (b : Int) : (s.setNd k x).giveS b = (s.giveS b).setNd k x := by
  have h : (s.setNd k x).bk b = s.bk b := rfl
  unfold Fs.giveS
  rw [h]
  cases s.bk b <;> rfl
theorem setNd_setNd (s : Fs) (k : Nat) (x y : Nd) : (s.setNd k x).setNd k y = s.setNd k y := by
  simp [Fs.setNd, List.set_set]
theorem give_any {s lay} (i : Int) (w : World) (h : FsIs s lay w) : Calls Tryz.prog 173 #[ptrTo (lay .S), .int .i64 i] w fun e w' => (∃ n, e = .returned (.int .i64 n)) ∧ Step s lay w (s.giveS i) lay w' := by
  cases hb : s.bk i with
  | some l =>
    have hg : s.giveS i = (s.setB (slotOf i) (false, l)).setFree (incW s.free) := by unfold Fs.giveS; rw [hb]
    rw [hg]
    exact (give_some i l w h hb).mono fun e w' q => ⟨⟨0, q.1⟩, q.2⟩
  | none =>
    have hg : s.giveS i = s := by unfold Fs.giveS; rw [hb]
    rw [hg]
    exact (give_none i w h hb).mono fun e w' q => ⟨⟨23, q.1⟩, q.2 ▸ Step.refl h⟩
/-- an entry's part and block -/
def partOf (e : Key × Value × Nat) : Int := match e.1 with
  | .int p => p
  | _ => 0
def blockOf (e : Key × Value × Nat) : Int := match e.2.1 with
  | .int _ b => b
  | _ => 0
def givesS (s : Fs) (l : List (Key × Value × Nat)) : Fs := l.foldl (fun s e => s.giveS (blockOf e)) s
theorem givesS_one : ∀ (l : List (Key × Value × Nat)) (s : Fs) (e : Key × Value × Nat), givesS (s.giveS (blockOf e)) l = (givesS s l).giveS (blockOf e)
  | [], s, e => rfl
  | x :: l, s, e => by
    show givesS ((s.giveS (blockOf e)).giveS (blockOf x)) l = (givesS (s.giveS (blockOf x)) l).giveS (blockOf e)
    rw [giveS_comm, givesS_one l]
theorem givesS_mid (A C : List (Key × Value × Nat)) (s : Fs) (e : Key × Value × Nat) : givesS s (A ++ e :: C) = (givesS s (A ++ C)).giveS (blockOf e) := by
  unfold givesS
  rw [List.foldl_append, List.foldl_append, List.foldl_cons]
  exact givesS_one C _ e
theorem givesS_nodes : ∀ (l : List (Key × Value × Nat)) (s : Fs), (givesS s l).nodes = s.nodes ∧ (givesS s l).dirs = s.dirs ∧ (givesS s l).clk = s.clk ∧ (givesS s l).bs.length = s.bs.length
  | [], s => ⟨rfl, rfl, rfl, rfl⟩
  | x :: l, s => by
    obtain ⟨h1, h2, h3, h4⟩ := givesS_nodes l (s.giveS (blockOf x))
    obtain ⟨k1, k2, k3, k4⟩ := giveS_nodes s (blockOf x)
    exact ⟨h1.trans k1, h2.trans k2, h3.trans k3, h4.trans k4⟩
/-- what goes of the parts: those from one on of which the births are told -/
def goes (q : Nat → Bool) (frm : Int) (e : Key × Value × Nat) : Bool := q e.2.2 && decide (frm ≤ partOf e)
def Fs.dropped (s : Fs) (k : Nat) (x : Nd) (q : Nat → Bool) (frm : Int) : Fs := (givesS s (x.parts.es.filter (goes q frm))).setNd k { x with parts := ⟨x.parts.es.filter (fun e => !goes q frm e), x.parts.clk⟩ }
/-- the file system when a node's parts from one on have gone -/
def Fs.dropS (s : Fs) (k : Nat) (x : Nd) (frm : Int) : Fs := s.dropped k x (fun _ => true) frm
theorem split_at {l : List (Key × Value × Nat)} {e : Key × Value × Nat} (he : e ∈ l) (hn : (l.map (·.2.2)).Nodup) : ∃ A C, l = A ++ e :: C ∧ (∀ x ∈ A, x.2.2 ≠ e.2.2) ∧ (∀ x ∈ C, x.2.2 ≠ e.2.2) := by
  obtain ⟨A, C, rfl⟩ := List.append_of_mem he
  refine ⟨A, C, rfl, fun x hx q => ?_, fun x hx q => ?_⟩ <;> rw [List.map_append, List.map_cons, List.nodup_append] at hn
  · exact hn.2.2 _ (List.mem_map_of_mem (f := fun e : Key × Value × Nat => e.2.2) hx) _ (by simp) q
  · exact (List.nodup_cons.1 hn.2.1).1 (by rw [← q]; exact List.mem_map_of_mem (f := fun e : Key × Value × Nat => e.2.2) hx)
theorem filter_congr2 {α : Type} {p q : α → Bool} {l : List α} (h : ∀ x ∈ l, p x = q x) : l.filter p = l.filter q := List.filter_congr h
/-- one entry more -/
theorem dropped_more {s : Fs} {k : Nat} {x : Nd} {q : Nat → Bool} {frm : Int} {e : Key × Value × Nat} (he : e ∈ x.parts.es) (hg : x.parts.Good) (hq : q e.2.2 = false) (hp : frm ≤ partOf e) :
    s.dropped k x (fun b => q b || b == e.2.2) frm = ((s.dropped k x q frm).giveS (blockOf e)).setNd k { x with parts := (GMap.mk (x.parts.es.filter (fun e => !goes q frm e)) x.parts.clk).del e.1 } := by
  have hn : (x.parts.es.map (·.2.2)).Nodup := by have := hg.births; simpa [kb, List.map_map, Function.comp_def] using this
  have hk : (x.parts.es.map (·.1)).Nodup := by have := hg.keys; simpa [kb, List.map_map, Function.comp_def] using this
  obtain ⟨A, C, hl, hA, hC⟩ := split_at he hn
  have g1 : goes q frm e = false := by simp [goes, hq]
  have g2 : goes (fun b => q b || b == e.2.2) frm e = true := by simp [goes, hp]
  have eA : A.filter (goes (fun b => q b || b == e.2.2) frm) = A.filter (goes q frm) := filter_congr2 fun y hy => by
    have hb : (y.2.2 == e.2.2) = false := beq_eq_false_iff_ne.2 (hA y hy)
    simp [goes, hb]
  have eC : C.filter (goes (fun b => q b || b == e.2.2) frm) = C.filter (goes q frm) := filter_congr2 fun y hy => by
    have hb : (y.2.2 == e.2.2) = false := beq_eq_false_iff_ne.2 (hC y hy)
    simp [goes, hb]
  have e1 : x.parts.es.filter (goes (fun b => q b || b == e.2.2) frm) = A.filter (goes q frm) ++ e :: C.filter (goes q frm) := by
    rw [hl, List.filter_append, List.filter_cons_of_pos g2, eA, eC]
  have e2 : x.parts.es.filter (goes q frm) = A.filter (goes q frm) ++ C.filter (goes q frm) := by
    rw [hl, List.filter_append, List.filter_cons_of_neg (by simp [g1])]
  have e3 : x.parts.es.filter (fun e' => !goes (fun b => q b || b == e.2.2) frm e') = delE e.1 (x.parts.es.filter (fun e => !goes q frm e)) := by
    rw [delE_filter (hk.sublist (List.filter_sublist.map _)), List.filter_filter]
    refine filter_congr2 fun y hy => ?_
    by_cases hy1 : y.2.2 = e.2.2
    · have : y = e := by
        rw [hl] at hy
        rcases List.mem_append.1 hy with hy | hy
        · exact absurd hy1 (hA y hy)
        · rcases List.mem_cons.1 hy with hy | hy
          · exact hy
          · exact absurd hy1 (hC y hy)
      subst this
      simp [g2]
    · have hne : y.1 ≠ e.1 := fun hke => hy1 (by
        have h1 : ∀ {l : List (Key × Value × Nat)}, (l.map (·.1)).Nodup → ∀ a ∈ l, ∀ b ∈ l, a.1 = b.1 → a = b := by
          intro l hl a ha b hb hab
          induction l with
          | nil => cases ha
          | cons z l ih =>
            rw [List.map_cons, List.nodup_cons] at hl
            rcases List.mem_cons.1 ha with ha' | ha' <;> rcases List.mem_cons.1 hb with hb' | hb'
            · rw [ha', hb']
            · exact absurd (List.mem_map_of_mem (f := (·.1)) hb') (by rw [← hab, ha']; exact hl.1)
            · exact absurd (List.mem_map_of_mem (f := (·.1)) ha') (by rw [hab, hb']; exact hl.1)
            · exact ih hl.2 ha' hb'
        rw [h1 hk y hy e he hke])
      have hb : (y.2.2 == e.2.2) = false := beq_eq_false_iff_ne.2 hy1
      simp [goes, hb, hne]
  unfold Fs.dropped
  rw [e1, givesS_mid, ← e2, setNd_giveS, setNd_setNd, e3]
  rfl
theorem dropped_same {s : Fs} {k : Nat} {x : Nd} {q q' : Nat → Bool} {frm : Int} (h : ∀ e ∈ x.parts.es, frm ≤ partOf e → q' e.2.2 = q e.2.2) : s.dropped k x q' frm = s.dropped k x q frm := by
  have hg : ∀ e ∈ x.parts.es, goes q' frm e = goes q frm e := fun e he => by
    unfold goes
    by_cases hf : frm ≤ partOf e
    · rw [h e he hf]
    · simp [hf]
  unfold Fs.dropped
  rw [filter_congr2 hg, filter_congr2 (p := fun e => !goes q' frm e) (q := fun e => !goes q frm e) (fun e he => by rw [hg e he])]
theorem dropped_none {s : Fs} {k : Nat} {x : Nd} {frm : Int} (hk : s.nodes[k]? = some (some x)) : s.dropped k x (fun _ => false) frm = s := by
  have h1 : x.parts.es.filter (goes (fun _ => false) frm) = [] := by simp [goes]
  have h2 : x.parts.es.filter (fun e => !goes (fun _ => false) frm e) = x.parts.es := by simp [goes]
  unfold Fs.dropped
  rw [h1, h2]
  show Fs.setNd s k x = s
  unfold Fs.setNd
  have hlt := (List.getElem?_eq_some_iff.1 hk)
  obtain ⟨h3, h4⟩ := hlt
  rw [← h4, List.set_getElem_self]
end Go.Proofs.YtggdedihfhibfaaGreatDoor
/- The file system: drop (a range over a map that deletes), less, Untie, Loose. -/
namespace Go.Proofs.YtggdedihfhibfaaGreatDoor
open Go.RowKit
set_option linter.unusedVariables false
set_option linter.unusedSimpArgs false

theorem filter_less {α : Type} {p q : α → Bool} : ∀ {l : List α}, (∀ x ∈ l, p x = true → q x = true) → ∀ e ∈ l, q e = true → p e = false → (l.filter p).length < (l.filter q).length
  | [], _, e, he, _, _ => by cases he
  | x :: l, h, e, he, hq, hp => by
    have hle : (l.filter p).length ≤ (l.filter q).length := by
      rw [← List.countP_eq_length_filter, ← List.countP_eq_length_filter]
      exact List.countP_mono_left (fun y hy => h y (by simp [hy]))
    rcases List.mem_cons.1 he with rfl | he
    · rw [List.filter_cons_of_neg (by simp [hp]), List.filter_cons_of_pos hq, List.length_cons]; omega
    · have := filter_less (fun y hy => h y (by simp [hy])) e he hq hp
      by_cases h1 : p x = true
      · rw [List.filter_cons_of_pos h1, List.filter_cons_of_pos (h x (by simp) h1), List.length_cons, List.length_cons]; omega
      · rw [List.filter_cons_of_neg h1]
        by_cases h2 : q x = true
        · rw [List.filter_cons_of_pos h2, List.length_cons]; omega
        · rw [List.filter_cons_of_neg h2]; exact this
/-- how many entries are to come -/
def leftN (es : List (Key × Value × Nat)) (w : World) (r : Nat) : Nat := match w.heap[r]? with
  | some (.mapIter _ _ seen _) => (es.filter fun e => decide (e.2.2 ∉ seen)).length
  | _ => 0
theorem leftN_at {es : List (Key × Value × Nat)} {w : World} {r : Nat} {b : Option Nat} {since c : Nat} {seen : Array Nat} (h : w.heap[r]? = some (.mapIter b since seen c)) : leftN es w r = (es.filter fun e => decide (e.2.2 ∉ seen)).length := by
  unfold leftN; rw [h]
def iterO (b : Nat) (c : Nat) (seen : Array Nat) : Obj := .mapIter (some b) c seen c
def putO (w : World) (r : Nat) (o : Obj) : World := { w with heap := w.heap.setIfInBounds r o }
theorem putO_at {w : World} {r : Nat} (o : Obj) (h : r < w.heap.size) : (putO w r o).heap[r]? = some o := by
  show (w.heap.setIfInBounds r o)[r]? = _
  rw [Array.getElem?_setIfInBounds, if_pos rfl, if_pos h]
theorem putO_ne {w : World} {r b : Nat} (o : Obj) (h : r ≠ b) : (putO w r o).heap[b]? = w.heap[b]? := by
  show (w.heap.setIfInBounds r o)[b]? = _
  rw [Array.getElem?_setIfInBounds, if_neg h]
theorem putO_twice (w : World) (r : Nat) (o o' : Obj) : putO (putO w r o) r o' = putO w r o' := by
  simp [putO]
theorem run_range_g {P : Program} {w : World} {t kt et : TypeId} {m : GMap} {b : Nat} (ht : P.underlying t = some (.map kt et)) (hb : w.heap[b]? = some m.obj) : (Instr.range t (.map (some b))).run P w = .ok (.pointer (some ⟨w.heap.size, 0, none⟩)) (w.alloc (iterO b m.clk #[])) := by
  simp [Instr.range, run_underlying ht, map_got (P := P) hb]
  rfl
theorem wpList_next_o {P : Program} {w : World} {ops : Array Oper} {rest : List Oper} {o : Oper} {a : Act} {Q : Exit → Act → World → Prop} (hg : o.guard = none) (it : Operand) (hop : o.op = Op.next it false) (r b : Nat) (seen : Array Nat) (m : GMap)
    (hit : a.eval it = .pointer (some ⟨r, 0, none⟩)) (hr : w.heap[r]? = some (iterO b m.clk seen)) (hb : w.heap[b]? = some m.obj) (hgd : m.Good)
    (hDone : (∀ x ∈ m.es, x.2.2 ∈ seen) → wpList P ops Q rest (a.put o.dst (.tuple #[.bool false])) w)
    (hMore : ∀ x, x ∈ m.es → x.2.2 ∉ seen → ∀ n, wpList P ops Q rest (a.put o.dst (.tuple #[.bool true, x.1.val, x.2.1])) (putO (w.drewN n) r (iterO b m.clk (seen.push x.2.2)))) :
    wpList P ops Q (o :: rest) a w :=
  wpList_next_g hg it hop r b m.clk m.clk seen m hit hr hb (fun x hx => hgd.below (x.1, x.2.2) (List.mem_map_of_mem (f := fun e : Key × Value × Nat => (e.1, e.2.2)) hx)) (Nat.le_refl _) hDone (fun x hx hn n => hMore x hx hn n)
theorem part_same {l : List (Key × Value × Nat)} (hn : (kb l).map (·.2) |>.Nodup) {a b : Key × Value × Nat} (ha : a ∈ l) (hb : b ∈ l) (h : a.2.2 = b.2.2) : a = b := by
  obtain ⟨A, C, rfl, hA, hC⟩ := split_at ha (by simpa [kb, List.map_map, Function.comp_def] using hn)
  rcases List.mem_append.1 hb with q | q
  · exact absurd h.symm (hA b q)
  · rcases List.mem_cons.1 q with q | q
    · exact q.symm
    · exact absurd h.symm (hC b q)
/-- the round's world -/
structure Rnd (s : Fs) (lay : FId → Nat) (w1 : World) (r k : Nat) (x : Nd) (frm : Int) (seen : Array Nat) (W : World) : Prop where
  step : Step s lay (putO w1 r (iterO (lay (.P k)) x.parts.clk seen)) (s.dropped k x (fun b => decide (b ∈ seen)) frm) lay W
theorem Rnd.iter {s lay w1 r k x frm seen W} (h : Rnd s lay w1 r k x frm seen W) (hr : r < w1.heap.size) (hn : ¬ Owns (s.obj lay) lay r) : W.heap[r]? = some (iterO (lay (.P k)) x.parts.clk seen) := by
  rw [h.step.turned.block r (by simpa [putO] using hr) hn, putO_at _ hr]
theorem dropped_node {s : Fs} {k : Nat} {x : Nd} {q : Nat → Bool} {frm : Int} (hk : s.nodes[k]? = some (some x)) : (s.dropped k x q frm).nodes[k]? = some (some { x with parts := ⟨x.parts.es.filter (fun e => !goes q frm e), x.parts.clk⟩ }) := by
  have hlt := (List.getElem?_eq_some_iff.1 hk).1
  unfold Fs.dropped
  rw [Fs.setNd_get, if_pos rfl, (givesS_nodes _ s).1, if_pos hlt]
set_option maxRecDepth 100000 in
theorem drop_any {s lay} (k : Nat) (x : Nd) (frm : Int) (w : World) (h : FsIs s lay w) (hk : s.nodes[k]? = some (some x)) : Calls Tryz.prog 156 #[ptrTo (lay .T), ptrTo (lay (.N k)), .int .i64 frm] w fun e w' => e = .returned (.tuple #[]) ∧ Step s lay w (s.dropS k x frm) lay w' := by
  have c4 := h.n4 hk
  have hP := h.lies.at_ (.P k) _ (Fs.obj_n hk).2
  have hpo := h.ok.parts x (List.mem_of_getElem? hk)
  have hrun := run_range_g (P := Tryz.prog) Tryz.underlying189 hP
  have hr0 : ∀ i, s.obj lay i ≠ none → lay i ≠ w.heap.size := fun i hi e => by have := h.lies.owns_lt ⟨i, hi, rfl⟩; omega
  have hn : ¬ Owns (s.obj lay) lay w.heap.size := fun ⟨i, hi, e⟩ => hr0 i hi e
  have h1 : FsIs s lay (w.alloc (iterO (lay (.P k)) x.parts.clk #[])) := h.alloc _
  have hr1 : w.heap.size < (w.alloc (iterO (lay (.P k)) x.parts.clk #[])).heap.size := by simp
  have hB1 : Turned (Owns (s.obj lay) lay) w (w.alloc (iterO (lay (.P k)) x.parts.clk #[])) := (Turned.refl _ _).alloc _
  have hi1 : (w.alloc (iterO (lay (.P k)) x.parts.clk #[])).heap[w.heap.size]? = some (iterO (lay (.P k)) x.parts.clk #[]) := by
    show (w.heap.push _)[w.heap.size]? = _
    exact Array.getElem?_push_size
  go_enter Tryz.func156, Tryz.ntmps156
  unfold ptrTo
  go_wp2_with fail
  have hz : putO (w.alloc (iterO (lay (.P k)) x.parts.clk #[])) w.heap.size (iterO (lay (.P k)) x.parts.clk #[]) = w.alloc (iterO (lay (.P k)) x.parts.clk #[]) := by
    unfold putO World.alloc
    congr 1
    apply Array.ext_getElem?
    intro j
    rw [Array.getElem?_setIfInBounds]
    by_cases e : w.heap.size = j
    · subst e; rw [if_pos rfl, if_pos (by simp)]; exact Array.getElem?_push_size.symm
    · rw [if_neg e]
  have hst0 : Rnd s lay (w.alloc (iterO (lay (.P k)) x.parts.clk #[])) w.heap.size k x frm #[] (w.alloc (iterO (lay (.P k)) x.parts.clk #[])) := ⟨by
    rw [hz]
    have : s.dropped k x (fun b => decide (b ∈ (#[] : Array Nat))) frm = s := by
      have := dropped_none (frm := frm) hk
      simpa using this
    rw [this]
    exact Step.refl h1⟩
  have hB2 : ∀ seen, Turned (Owns (s.obj lay) lay) w (putO (w.alloc (iterO (lay (.P k)) x.parts.clk #[])) w.heap.size (iterO (lay (.P k)) x.parts.clk seen)) := fun seen => hB1.put _ _ (fun q => absurd q (Nat.lt_irrefl _))
  have hsz1 : (w.alloc (iterO (lay (.P k)) x.parts.clk #[])).heap.size = w.heap.size + 1 := by simp
  clear hz hrun hi1 c4
  generalize w.alloc (iterO (lay (.P k)) x.parts.clk #[]) = w1 at *
  generalize hrr : w.heap.size = r at *
  go_loopw [6] (fun _ W => ∃ seen, Rnd s lay w1 r k x frm seen W) (fun _ W => leftN x.parts.es W r)
  case atStart => exact ⟨#[], hst0⟩
  case round =>
    obtain ⟨seen, hR⟩ := hrel
    have hit := hR.iter hr1 hn
    have hnd := dropped_node (q := fun b => decide (b ∈ seen)) (frm := frm) hk
    have hM := hR.step.is.lies.at_ (.P k) _ (Fs.obj_n hnd).2
    have hfil : ∀ e ∈ x.parts.es.filter (fun e => !goes (fun b => decide (b ∈ seen)) frm e), e ∈ x.parts.es := fun e he => (List.mem_filter.1 he).1
    have hgd : GMap.Good ⟨x.parts.es.filter (fun e => !goes (fun b => decide (b ∈ seen)) frm e), x.parts.clk⟩ := GoodE.sub hpo.good (List.filter_sublist.map _)
    have hof : GMap.Of ⟨x.parts.es.filter (fun e => !goes (fun b => decide (b ∈ seen)) frm e), x.parts.clk⟩ (.int .i64) := fun e he => hpo.of e (hfil e he)
    go_wp2_with (refine wpList_next_o rfl _ rfl r (lay (.P k)) seen (GMap.mk (x.parts.es.filter (fun e => !goes (fun b => decide (b ∈ seen)) frm e)) x.parts.clk) rfl hit hM hgd ?_ ?_)
    · intro hall
      have hend : s.dropS k x frm = s.dropped k x (fun b => decide (b ∈ seen)) frm := dropped_same fun e he hf => by
        refine Eq.symm (decide_eq_true ?_)
        refine Classical.byContradiction fun hno => hno (hall e.1 e.2.1 e.2.2 he (by simp [goes, hno]))
      go_wp2_with fail
      go_end0
      rw [hend]
      exact ⟨rfl, ⟨hR.step.is, (hB2 seen).trans hR.step.turned (fun b hb _ => hb), fun b hb => (hR.step.own b hb).imp id (fun q => by simp [putO] at q; omega)⟩⟩
    · intro ek ev eb he hgo hns n
      have hst1 : FsIs s lay (putO w1 r (iterO (lay (.P k)) x.parts.clk seen)) := ⟨h1.lies.kept fun i hi => putO_ne _ (Ne.symm (hr0 i hi)), h1.ok⟩
      have hnext := (hR.step.drewN n).beside hst1 r (iterO (lay (.P k)) x.parts.clk (seen.push eb)) hr0 (by simpa [putO] using hr1)
      have hpw : ({ putO w1 r (iterO (lay (.P k)) x.parts.clk seen) with heap := (putO w1 r (iterO (lay (.P k)) x.parts.clk seen)).heap.setIfInBounds r (iterO (lay (.P k)) x.parts.clk (seen.push eb)) } : World) = putO w1 r (iterO (lay (.P k)) x.parts.clk (seen.push eb)) := putO_twice _ _ _ _
      rw [hpw] at hnext
      have hrW : r < (wr.drewN n).heap.size := (Array.getElem?_eq_some_iff.1 hit).1
      have hit1 := putO_at (iterO (lay (.P k)) x.parts.clk (seen.push eb)) hrW
      obtain ⟨p, b, hp, hb⟩ := hpo.ints _ he
      simp only at hp hb
      subst hp hb
      change Step s lay _ _ lay (putO (wr.drewN n) r _) at hnext
      generalize putO (wr.drewN n) r (iterO (lay (.P k)) x.parts.clk (seen.push eb)) = w2 at hnext hit1
      have hM2 := hnext.is.lies.at_ (.P k) _ (Fs.obj_n hnd).2
      have hent := run_entry_g (P := Tryz.prog) (x := (.int p, .int .i64 b, eb)) (m := GMap.mk (x.parts.es.filter (fun e => !goes (fun b => decide (b ∈ seen)) frm e)) x.parts.clk) hit1 hM2 (List.mem_filter.2 ⟨he, by rw [hgo]; rfl⟩) hgd
      have t1 := hnext.is.t1
      have hmore : ∀ q : Bool, (frm ≤ p → q = true) → s.dropped k x (fun c => decide (c ∈ seen) || (q && c == eb)) frm = s.dropped k x (fun c => decide (c ∈ seen.push eb)) frm := fun q hq => dropped_same fun e he' hf => by
        by_cases e1 : e.2.2 = eb
        · have : e = (.int p, .int .i64 b, eb) := part_same hpo.good.births he' he e1
          subst this
          simp [hq hf]
        · simp [e1]
      have hleft : ∀ {W : World}, W.heap[r]? = some (iterO (lay (.P k)) x.parts.clk (seen.push eb)) → leftN x.parts.es W r < leftN x.parts.es wr r := fun hW => by
        rw [leftN_at hW, leftN_at hit]
        refine filter_less (fun y _ hy => ?_) _ he (by simp [hns]) (by simp)
        simp only [Array.mem_push, decide_eq_true_eq, not_or] at hy ⊢
        exact hy.1
      simp only [Key.val] at hent ⊢
      by_cases hf : frm ≤ p
      · have hmid := dropped_more (s := s) (k := k) (x := x) (q := fun c => decide (c ∈ seen)) (frm := frm) he hpo.good (by simp [hns]) hf
        have hq := hmore true (fun _ => rfl)
        simp only [Bool.true_and] at hq
        go_wp2_with (go_at_call 173; refine (give_any b w2 hnext.is).mono ?_; rintro e w3 ⟨⟨m, rfl⟩, hg⟩; have hst3 := hnext.trans hg; have hnd3 := hnd; rw [← (giveS_nodes _ b).1] at hnd3; have hM3 := hst3.is.lies.at_ (.P k) _ (Fs.obj_n hnd3).2; have hdel := fun ty => GMap.drop (P := Tryz.prog) (ts := #[189, 3]) (ty := ty) (k := .int p) rfl Tryz.underlying189 Tryz.underlying3 hof hM3; have c3 := hst3.is.n4 hnd3; simp only [Key.val] at hdel)
        go_roundw
        case rel =>
          refine ⟨seen.push eb, ⟨?_⟩⟩
          rw [← hq, hmid]
          exact hst3.setP hnd3 rfl ⟨hgd.del (.int p), fun e he => hpo.ints e (hfil e (delE_sub e he))⟩
        case measure =>
          have h3r : w3.heap[r]? = some (iterO (lay (.P k)) x.parts.clk (seen.push eb)) := by rw [hst3.turned.block r (by simpa [putO] using hr1) hn, putO_at _ hr1]
          exact hleft ((putO_ne _ (hr0 (.P k) (by rw [(Fs.obj_n hk).2]; simp))).trans h3r)
      · go_wp2_with fail
        go_roundw
        case rel =>
          have hq := hmore false (fun q => absurd q hf)
          simp only [Bool.false_and, Bool.or_false] at hq
          exact ⟨seen.push eb, ⟨by rw [← hq]; exact hnext⟩⟩
        case measure => exact hleft hit1
/-- a node is there no more -/
def Fs.noNd (s : Fs) (k : Nat) : Fs := { s with nodes := s.nodes.set k none }
def idle (x : Nd) : Bool := decide (x.names = 0) && decide (x.users = 0)
theorem idle_any (a b : Int) (w : World) : Calls Tryz.prog 155 #[.agg #[.int .i64 a, .int .i64 b]] w fun e w' => e = .returned (.bool (decide (a = 0) && decide (b = 0))) ∧ Below w.heap.size w w' := by
  go_enter Tryz.func155, Tryz.ntmps155
  go_wp2
  all_goals go_ret
  all_goals exact ⟨by simp_all, (Below.refl _ _).alloc (Nat.le_refl _) _⟩
section
variable {s s' : Fs} {lay lay' : FId → Nat} {w w' : World}
theorem noNd_obj (k : Nat) (j : FId) (o : Obj) (h : (s.noNd k).obj lay j = some o) : (if j = .G then some (Obj.cells ((s.nodes.mapIdx fun i o => match o with | some _ => ptrTo (lay (.N i)) | none => .pointer none).toArray.setIfInBounds k (.pointer none)) 185 (0, 0)) else s.obj lay j) = some o := by
  cases j with
  | T => simpa [Fs.obj, Fs.noNd] using h
  | G =>
    rw [if_pos rfl, ← h]
    simp only [Fs.obj, Fs.noNd, Option.some.injEq, Obj.cells.injEq, and_true]
    apply Array.ext'
    simp only [Array.toList_setIfInBounds]
    apply List.ext_getElem?
    intro j
    rw [List.getElem?_set, List.getElem?_mapIdx, List.getElem?_mapIdx, List.getElem?_set, List.length_mapIdx]
    by_cases e : k = j
    · subst e
      by_cases hlt : k < s.nodes.length
      · simp [hlt]
      · simp [hlt]
    · simp [e]; rfl
  | N i =>
    simp only [Fs.obj, Fs.noNd, List.getElem?_set] at h
    rw [if_neg (by simp)]
    by_cases e : k = i
    · subst e
      by_cases hlt : k < s.nodes.length
      · simp [hlt] at h
      · simp [hlt] at h
    · rw [if_neg e] at h; exact h
  | P i =>
    simp only [Fs.obj, Fs.noNd, List.getElem?_set] at h
    rw [if_neg (by simp)]
    by_cases e : k = i
    · subst e
      by_cases hlt : k < s.nodes.length
      · simp [hlt] at h
      · simp [hlt] at h
    · rw [if_neg e] at h; exact h
  | _ => simpa [Fs.obj, Fs.noNd, Fs.dmap, Fs.dr] using h
theorem Step.noNd (h : Step s lay w s' lay' w') (k : Nat) : Step s lay w (s'.noNd k) lay' (w'.setCell ⟨lay' .G, k, none⟩ (.pointer none)) := by
  have hown : Owns (s'.obj lay') lay' (lay' .G) := ⟨.G, by simp [Fs.obj], rfl⟩
  refine ⟨⟨(h.is.lies.set (i := .G) (c' := fun j => if j = .G then some (Obj.cells ((s'.nodes.mapIdx fun i o => match o with | some _ => ptrTo (lay' (.N i)) | none => .pointer none).toArray.setIfInBounds k (.pointer none)) 185 (0, 0)) else s'.obj lay' j) rfl k _ (fun j => rfl)).less (fun j o hj => noNd_obj k j o hj), ⟨by simpa [Fs.noNd] using h.is.ok.nodes, h.is.ok.blocks, h.is.ok.bytes, fun z hz => ?_, h.is.ok.names, h.is.ok.dirs⟩⟩, h.turned.set _ _ (fun hlt => (h.own _ hown).resolve_right (by simpa using hlt)), fun b hb => ?_⟩
  · rcases List.mem_or_eq_of_mem_set hz with q | q
    · exact h.is.ok.parts z q
    · cases q
  · obtain ⟨j, hj, rfl⟩ := hb
    refine h.own _ ⟨j, fun e => hj ?_, rfl⟩
    cases hq : (s'.noNd k).obj lay' j with
    | none => rfl
    | some o =>
      have := noNd_obj k j o hq
      by_cases q : j = .G
      · rw [q] at e; simp [Fs.obj] at e
      · rw [if_neg q, e] at this; cases this
end
/-- a name, or a user, less -/
def Fs.lessS (s : Fs) (i : Int) (x : Nd) : Fs := if idle x then ((s.setNd (slotOf i) x).dropS (slotOf i) x 0).noNd (slotOf i) else s.setNd (slotOf i) x
end Go.Proofs.YtggdedihfhibfaaGreatDoor
/- The file system: less, Untie, Loose (printed by gen_less.py). -/
namespace Go.Proofs.YtggdedihfhibfaaGreatDoor
open Go.RowKit
set_option linter.unusedVariables false
set_option linter.unusedSimpArgs false

set_option maxRecDepth 100000 in
theorem less_names {s lay} (i : Int) (x : Nd) (w : World) (h : FsIs s lay w) (hn : s.nd i = some x) (hp : x.names ≠ 0) : Calls Tryz.prog 133 #[ptrTo (lay .T), .int .i64 i, ptrTo (lay (.N (slotOf i))), .pointer (some ⟨lay (.N (slotOf i)), 0, none⟩)] w fun e w' => e = .returned (.int .i64 0) ∧ Step s lay w (s.lessS i { x with names := decW x.names }) lay w' := by
  obtain ⟨hi1, hi2, hk⟩ := Fs.nd_slot hn
  have hlen := h.ok.nodes
  have c0 := h.n0 hk
  have c1 := h.n1 hk
  have f0 := h.nf hk 0
  have hst := (Step.refl h).setN (o := 0) (v := .int .i64 (decW x.names)) hk (x := { x with names := decW x.names }) rfl rfl
  have hk1 : (s.setNd (slotOf i) { x with names := decW x.names }).nodes[slotOf i]? = some (some { x with names := decW x.names }) := by rw [Fs.setNd_get, if_pos rfl, if_pos (List.getElem?_eq_some_iff.1 hk).1]
  have hidle : ∀ b, idle { x with names := decW x.names } = b → (decide (({ x with names := decW x.names } : Nd).names = 0) && decide (({ x with names := decW x.names } : Nd).users = 0)) = b := fun b hb => hb
  unfold Fs.lessS
  obtain ⟨k, rfl⟩ : ∃ k : Nat, i = k + 1 := ⟨(i - 1).toNat, by omega⟩
  have hk2 : k < s.nodes.length := by omega
  rw [slotOf_eq] at *
  clear h hn
  have hd : wrap64 (x.names - 1) = decW x.names := rfl
  cases hid : idle { x with names := decW x.names } with
  | false =>
    have hb := hidle _ hid
    simp only at hb
    rw [if_neg (by simp)]
    clear hid hidle
    go_enter Tryz.func133, Tryz.ntmps133
    unfold ptrTo
    go_wp2_with (go_at_call 155; rw [hd]; refine (idle_any _ _ _).mono ?_; rintro e w1 ⟨rfl, hB⟩; rw [hb])
    go_ret
    exact ⟨rfl, hst.trans ⟨hst.is.below hB, Turned.of_below hB, fun _ q => .inl q⟩⟩
  | true =>
    have hb := hidle _ hid
    simp only at hb
    rw [if_pos (by simp)]
    clear hid hidle
    go_enter Tryz.func133, Tryz.ntmps133
    unfold ptrTo
    go_wp2_with first
      | (go_at_call 155; rw [hd]; refine (idle_any _ _ _).mono ?_; rintro e w1 ⟨rfl, hB⟩; rw [hb]; have hst1 := hst.trans ⟨hst.is.below hB, Turned.of_below hB, fun _ q => .inl q⟩; clear c0 c1 f0)
      | (go_at_call 156; refine (drop_any k _ 0 _ hst1.is hk1).mono ?_; rintro e w2 ⟨rfl, hst2⟩; have t0 := hst2.is.t0; have f2 := hst2.is.lies.fz (i := .G) rfl k; have g2 : w2.cell? ⟨lay .G, k, none⟩ = some (ptrTo (lay (.N k))) := hst2.is.gN (dropped_node hk1); have hl2 : ((s.setNd k { x with names := decW x.names }).dropS k { x with names := decW x.names } 0).nodes.length = s.nodes.length := (by unfold Fs.dropS Fs.dropped Fs.setNd; simp only [List.length_set, (givesS_nodes _ _).1]); rw [hl2] at t0)
    go_ret
    exact ⟨rfl, (hst1.trans hst2).noNd k⟩
theorem less_names0 {s lay} (i : Int) (x : Nd) (w : World) (h : FsIs s lay w) (hn : s.nd i = some x) (hp : x.names = 0) : Calls Tryz.prog 133 #[ptrTo (lay .T), .int .i64 i, ptrTo (lay (.N (slotOf i))), .pointer (some ⟨lay (.N (slotOf i)), 0, none⟩)] w fun e w' => e = .returned (.int .i64 23) ∧ w = w' := by
  have c0 := h.n0 (Fs.nd_slot hn).2.2
  rw [hp] at c0
  go_enter Tryz.func133, Tryz.ntmps133
  unfold ptrTo
  go_wp2_with fail
  go_ret
  exact ⟨rfl, rfl⟩
set_option maxRecDepth 100000 in
theorem less_users {s lay} (i : Int) (x : Nd) (w : World) (h : FsIs s lay w) (hn : s.nd i = some x) (hp : x.users ≠ 0) : Calls Tryz.prog 133 #[ptrTo (lay .T), .int .i64 i, ptrTo (lay (.N (slotOf i))), .pointer (some ⟨lay (.N (slotOf i)), 1, none⟩)] w fun e w' => e = .returned (.int .i64 0) ∧ Step s lay w (s.lessS i { x with users := decW x.users }) lay w' := by
  obtain ⟨hi1, hi2, hk⟩ := Fs.nd_slot hn
  have hlen := h.ok.nodes
  have c0 := h.n0 hk
  have c1 := h.n1 hk
  have f0 := h.nf hk 1
  have hst := (Step.refl h).setN (o := 1) (v := .int .i64 (decW x.users)) hk (x := { x with users := decW x.users }) rfl rfl
  have hk1 : (s.setNd (slotOf i) { x with users := decW x.users }).nodes[slotOf i]? = some (some { x with users := decW x.users }) := by rw [Fs.setNd_get, if_pos rfl, if_pos (List.getElem?_eq_some_iff.1 hk).1]
  have hidle : ∀ b, idle { x with users := decW x.users } = b → (decide (({ x with users := decW x.users } : Nd).names = 0) && decide (({ x with users := decW x.users } : Nd).users = 0)) = b := fun b hb => hb
  unfold Fs.lessS
  obtain ⟨k, rfl⟩ : ∃ k : Nat, i = k + 1 := ⟨(i - 1).toNat, by omega⟩
  have hk2 : k < s.nodes.length := by omega
  rw [slotOf_eq] at *
  clear h hn
  have hd : wrap64 (x.users - 1) = decW x.users := rfl
  cases hid : idle { x with users := decW x.users } with
  | false =>
    have hb := hidle _ hid
    simp only at hb
    rw [if_neg (by simp)]
    clear hid hidle
    go_enter Tryz.func133, Tryz.ntmps133
    unfold ptrTo
    go_wp2_with (go_at_call 155; rw [hd]; refine (idle_any _ _ _).mono ?_; rintro e w1 ⟨rfl, hB⟩; rw [hb])
    go_ret
    exact ⟨rfl, hst.trans ⟨hst.is.below hB, Turned.of_below hB, fun _ q => .inl q⟩⟩
  | true =>
    have hb := hidle _ hid
    simp only at hb
    rw [if_pos (by simp)]
    clear hid hidle
    go_enter Tryz.func133, Tryz.ntmps133
    unfold ptrTo
    go_wp2_with first
      | (go_at_call 155; rw [hd]; refine (idle_any _ _ _).mono ?_; rintro e w1 ⟨rfl, hB⟩; rw [hb]; have hst1 := hst.trans ⟨hst.is.below hB, Turned.of_below hB, fun _ q => .inl q⟩; clear c0 c1 f0)
      | (go_at_call 156; refine (drop_any k _ 0 _ hst1.is hk1).mono ?_; rintro e w2 ⟨rfl, hst2⟩; have t0 := hst2.is.t0; have f2 := hst2.is.lies.fz (i := .G) rfl k; have g2 : w2.cell? ⟨lay .G, k, none⟩ = some (ptrTo (lay (.N k))) := hst2.is.gN (dropped_node hk1); have hl2 : ((s.setNd k { x with users := decW x.users }).dropS k { x with users := decW x.users } 0).nodes.length = s.nodes.length := (by unfold Fs.dropS Fs.dropped Fs.setNd; simp only [List.length_set, (givesS_nodes _ _).1]); rw [hl2] at t0)
    go_ret
    exact ⟨rfl, (hst1.trans hst2).noNd k⟩
theorem less_users0 {s lay} (i : Int) (x : Nd) (w : World) (h : FsIs s lay w) (hn : s.nd i = some x) (hp : x.users = 0) : Calls Tryz.prog 133 #[ptrTo (lay .T), .int .i64 i, ptrTo (lay (.N (slotOf i))), .pointer (some ⟨lay (.N (slotOf i)), 1, none⟩)] w fun e w' => e = .returned (.int .i64 23) ∧ w = w' := by
  have c0 := h.n1 (Fs.nd_slot hn).2.2
  rw [hp] at c0
  go_enter Tryz.func133, Tryz.ntmps133
  unfold ptrTo
  go_wp2_with fail
  go_ret
  exact ⟨rfl, rfl⟩
theorem untie_some {s lay} (i : Int) (x : Nd) (w : World) (h : FsIs s lay w) (hn : s.nd i = some x) (hp : x.names ≠ 0) : Calls Tryz.prog 95 #[ptrTo (lay .T), .int .i64 i] w fun e w' => e = .returned (.int .i64 0) ∧ Step s lay w (s.lessS i { x with names := decW x.names }) lay w' := by
  go_enter Tryz.func95, Tryz.ntmps95
  unfold ptrTo
  go_wp2_with first
    | (go_at_call 126; refine (find_some i x w h hn).mono ?_; rintro e w' ⟨rfl, rfl⟩; unfold ptrTo)
    | (go_at_call 133; refine (less_names i x w h hn hp).mono ?_; rintro e w' ⟨rfl, hst⟩)
  go_ret
  exact ⟨rfl, hst⟩
theorem untie_zero {s lay} (i : Int) (x : Nd) (w : World) (h : FsIs s lay w) (hn : s.nd i = some x) (hp : x.names = 0) : Calls Tryz.prog 95 #[ptrTo (lay .T), .int .i64 i] w fun e w' => e = .returned (.int .i64 23) ∧ w = w' := by
  go_enter Tryz.func95, Tryz.ntmps95
  unfold ptrTo
  go_wp2_with first
    | (go_at_call 126; refine (find_some i x w h hn).mono ?_; rintro e w' ⟨rfl, rfl⟩; unfold ptrTo)
    | (go_at_call 133; refine (less_names0 i x w h hn hp).mono ?_; rintro e w' ⟨rfl, rfl⟩)
  go_ret
  exact ⟨rfl, rfl⟩
theorem untie_none {s lay} (i : Int) (w : World) (h : FsIs s lay w) (hn : s.nd i = none) : Calls Tryz.prog 95 #[ptrTo (lay .T), .int .i64 i] w fun e w' => e = .returned (.int .i64 23) ∧ w = w' := by
  go_enter Tryz.func95, Tryz.ntmps95
  unfold ptrTo
  go_wp2_with (go_at_call 126; refine (find_none i w h hn).mono ?_; rintro e w' ⟨rfl, rfl⟩)
  go_ret
  exact ⟨rfl, rfl⟩
end Go.Proofs.YtggdedihfhibfaaGreatDoor
/- The file system: a part's block. -/
namespace Go.Proofs.YtggdedihfhibfaaGreatDoor
open Go.RowKit
set_option linter.unusedVariables false
set_option linter.unusedSimpArgs false

/-- the block of a part -/
def Nd.part (x : Nd) (p : Int) : Option Int := match x.parts.get (.int p) with
  | some (.int _ b) => some b
  | _ => none
theorem getE_mem {k : Key} {v : Value} : ∀ {l : List (Key × Value × Nat)}, getE k l = some v → ∃ n, (k, v, n) ∈ l
  | [], h => by cases h
  | e :: l, h => by
    unfold getE at h
    by_cases q : e.1 = k
    · rw [if_pos q] at h
      cases h
      exact ⟨e.2.2, by rw [← q]; simp⟩
    · rw [if_neg q] at h
      obtain ⟨n, hn⟩ := getE_mem h
      exact ⟨n, by simp [hn]⟩
theorem Nd.part_some {x : Nd} (h : PartsOk x.parts) {p b : Int} (hp : x.part p = some b) : x.parts.get (.int p) = some (.int .i64 b) := by
  unfold Nd.part at hp
  cases hg : x.parts.get (.int p) with
  | none => rw [hg] at hp; cases hp
  | some v =>
    obtain ⟨n, hn⟩ := getE_mem hg
    obtain ⟨q, c, h1, h2⟩ := h.ints _ hn
    simp only at h2
    subst h2
    rw [hg] at hp
    cases hp
    rfl
theorem Nd.part_none {x : Nd} (h : PartsOk x.parts) {p : Int} (hp : x.part p = none) : x.parts.get (.int p) = none := by
  unfold Nd.part at hp
  cases hg : x.parts.get (.int p) with
  | none => rfl
  | some v =>
    obtain ⟨n, hn⟩ := getE_mem hg
    obtain ⟨q, c, h1, h2⟩ := h.ints _ hn
    simp only at h2
    subst h2
    rw [hg] at hp
    cases hp
theorem zero_int (w : World) : (zeroValue 3).run Tryz.prog w = .ok (.int .i64 0) w := by kernel_rfl
/-- 'x.parts[part]', both forms -/
theorem part_look {s lay} {k : Nat} {x : Nd} {w : World} (h : FsIs s lay w) (hk : s.nodes[k]? = some (some x)) (p : Int) :
    (Instr.lookup 189 (.map (some (lay (.P k)))) (.int .i64 p) true).run Tryz.prog w = .ok (.tuple #[.int .i64 ((x.part p).getD 0), .bool (x.part p).isSome]) w := by
  have hpo := h.ok.parts x (List.mem_of_getElem? hk)
  have hP := h.lies.at_ (.P k) _ (Fs.obj_n hk).2
  have := (GMap.look (P := Tryz.prog) (k := .int p) Tryz.underlying189 Tryz.underlying3 hpo.of hP (zero_int w)).2
  simp only [Key.val] at this
  rw [this]
  cases hp : x.part p with
  | none => rw [Nd.part_none hpo hp]; rfl
  | some b => rw [Nd.part_some hpo hp]; rfl
theorem block_has {s lay} (k : Nat) (x : Nd) (p b : Int) (w : World) (h : FsIs s lay w) (hk : s.nodes[k]? = some (some x)) (hp : x.part p = some b) : Calls Tryz.prog 127 #[ptrTo (lay .T), ptrTo (lay (.N k)), .int .i64 p] w fun e w' => e = .returned (.tuple #[.int .i64 b, .int .i64 0]) ∧ w = w' := by
  have c4 := h.n4 hk
  have hl := part_look h hk p
  rw [hp] at hl
  simp only [Option.getD_some, Option.isSome_some] at hl
  go_enter Tryz.func127, Tryz.ntmps127
  unfold ptrTo
  go_wp2_with fail
  go_ret2
  exact ⟨rfl, rfl⟩
/-- a block is taken for a part -/
def Fs.takeS (s : Fs) (k : Nat) (x : Nd) (p : Int) (j : Nat) : Fs := ((s.setB j (true, zeros)).setFree (decW s.free)).setNd k { x with parts := x.parts.put (.int p) (.int .i64 (j + 1)) }
theorem PartsOk.put {m : GMap} (h : PartsOk m) (p b : Int) : PartsOk (m.put (.int p) (.int .i64 b)) :=
  ⟨h.good.put _ _, fun e he => by
    rcases setE_mem he with q | ⟨q1, q2⟩
    · exact h.ints e q
    · exact ⟨p, b, q1, q2⟩⟩
theorem block_take {s lay} (k j : Nat) (x : Nd) (p : Int) (w : World) (h : FsIs s lay w) (hk : s.nodes[k]? = some (some x)) (hp : x.part p = none) (hj : freeAt s.bs = some j) : Calls Tryz.prog 127 #[ptrTo (lay .T), ptrTo (lay (.N k)), .int .i64 p] w fun e w' => e = .returned (.tuple #[.int .i64 (j + 1), .int .i64 0]) ∧ Step s lay w (s.takeS k x p j) lay w' := by
  have c4 := h.n4 hk
  have t1 := h.t1
  have hl := part_look h hk p
  have hpo := h.ok.parts x (List.mem_of_getElem? hk)
  rw [hp] at hl
  simp only [Option.getD_none, Option.isSome_none] at hl
  go_enter Tryz.func127, Tryz.ntmps127
  unfold ptrTo at *
  go_wp2_with (go_at_call 151; refine (take_some j w h hj).mono ?_; rintro e w2 ⟨rfl, hst⟩; clear c4 t1 hl; have hk2 : ((s.setB j (true, zeros)).setFree (decW s.free)).nodes[k]? = some (some x) := hk; have c4 := hst.is.n4 hk2; have hP := hst.is.lies.at_ (.P k) _ (Fs.obj_n hk2).2; have hup := GMap.store (P := Tryz.prog) (k := .int p) (v := .int .i64 (j + 1)) Tryz.underlying189 Tryz.underlying3 hpo.of hP; simp only [Key.val] at hup)
  go_ret2
  exact ⟨rfl, hst.setP hk2 rfl (hpo.put p _)⟩
theorem block_full {s lay} (k : Nat) (x : Nd) (p : Int) (w : World) (h : FsIs s lay w) (hk : s.nodes[k]? = some (some x)) (hp : x.part p = none) (hj : freeAt s.bs = none) : Calls Tryz.prog 127 #[ptrTo (lay .T), ptrTo (lay (.N k)), .int .i64 p] w fun e w' => e = .returned (.tuple #[.int .i64 0, .int .i64 20]) ∧ Below w.heap.size w w' := by
  have c4 := h.n4 hk
  have t1 := h.t1
  have hl := part_look h hk p
  rw [hp] at hl
  simp only [Option.getD_none, Option.isSome_none] at hl
  go_enter Tryz.func127, Tryz.ntmps127
  unfold ptrTo at *
  go_wp2_with (go_at_call 151; refine (take_none w h hj).mono ?_; rintro e w2 ⟨rfl, hB⟩; clear c4 t1 hl)
  go_ret2
  exact ⟨rfl, hB⟩
end Go.Proofs.YtggdedihfhibfaaGreatDoor
