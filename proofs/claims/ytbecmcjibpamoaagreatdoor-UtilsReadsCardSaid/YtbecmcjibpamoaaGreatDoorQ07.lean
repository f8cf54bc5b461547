/- FsF -/
import Derived.Test.YtbecmcjibpamoaaGreatDoorQ06
import Derived.Laws.CopyOwn
import Derived.Laws.BytesString
import Derived.IntWalk
set_option linter.unusedVariables false
set_option linter.unusedSimpArgs false
set_option linter.deprecated false
set_option linter.unnecessarySimpa false
namespace Go.Proofs.YtbecmcjibpamoaaGreatDoor
open Go.RowKit
section
variable {I : Type} {c c' : I → Option Obj} {lay : I → Nat} {w w1 : World}
theorem Lies.row [DecidableEq I] (h : Lies c lay w) {i : I} {cs : Array Value} {ty : TypeId} (hc : c i = some (.cells cs ty (0, 0))) (cs' : Array Value) (hc' : ∀ j, c' j = if j = i then some (.cells cs' ty (0, 0)) else c j) : Lies c' lay (w.setRow (lay i) cs') := by
  have hlive : ∀ j, c' j ≠ none → c j ≠ none := fun j hj => by
    by_cases e : j = i
    · rw [e, hc]; simp
    · rw [hc', if_neg e] at hj; exact hj
  refine ⟨fun j o hj => ?_, fun j l hj hl e => h.inj j l (hlive j hj) (hlive l hl) e⟩
  by_cases e : j = i
  · subst e
    rw [hc', if_pos rfl] at hj
    cases hj
    exact setRow_heap w _ _ _ _ _ (h.at_ j _ hc)
  · have hj' : c j = some o := by rw [hc', if_neg e] at hj; exact hj
    rw [setRow_other _ _ _ _ (fun q => e (h.inj j i (by rw [hj']; simp) (by rw [hc]; simp) q))]
    exact h.at_ j o hj'
theorem Turned.row {S : Nat → Prop} (h : Turned S w w1) (g : Nat) (cs : Array Value) (hs : g < w.heap.size → S g) : Turned S w (w1.setRow g cs) :=
  ⟨h.os, h.tape, h.output, by simpa using h.size, fun b hb hn => by
    rw [setRow_other _ _ _ _ (by rintro rfl; exact hn (hs hb))]; exact h.block b hb hn⟩
end
theorem run_copy_str {P : Program} {w : World} {dT sT ty : TypeId} (elem : TypeId) (hu : P.underlying dT = some (.slice elem)) (hsz : (P.info? elem).map (·.size) = some 1)
    (g off dLen dCap : Nat) (l : List UInt8) (cur : List Value) (t : TypeId) (hg : w.heap[g]? = some (.cells cur.toArray t (0, 0))) (hn : l.length ≤ dLen) (hfit : off + l.length ≤ cur.length) :
    (Builtin.copy_ #[dT, sT] ty #[.slice (some ⟨g, off, none⟩) dLen dCap, .string ⟨l.toArray⟩]).run P w = .ok (goInt l.length) (w.setRow g (cur.take off ++ (l.map byteV ++ cur.drop (off + l.length))).toArray) := by
  have hst := run_storeCells_at P g off t (l.map byteV) 0 cur.toArray w hg (by simpa using hfit) (fun v hv => by
    obtain ⟨b, _, rfl⟩ := List.mem_map.1 hv; rfl)
  have hsize : (ByteArray.mk l.toArray).size = l.length := by simp [ByteArray.size]
  have hmin : Nat.min l.length dLen = l.length := Nat.min_eq_left hn
  obtain ⟨i, hi⟩ : ∃ i, P.info? elem = some i := by
    cases hq : P.info? elem with
    | none => rw [hq] at hsz; cases hsz
    | some i => exact ⟨i, rfl⟩
  simp only [Nat.add_zero, List.length_map] at hst
  rw [List.append_assoc] at hst
  have e : List.take l.length (List.map (fun b => Value.int IntKind.u8 (b.toNat : Int)) l) = l.map byteV := by
    rw [List.take_of_length_le (by simp)]; rfl
  simp [Builtin.copy_, run_underlying hu, Builtin.lenOf, Builtin.firstCells, sizeOf, typeInfo, hi, hsize, hmin]
  rw [e, hst]
  rfl
def Fs.setB (s : Fs) (k : Nat) (b : Bool × List UInt8) : Fs := { s with bs := s.bs.set k b }
def Fs.setFree (s : Fs) (n : Int) : Fs := { s with free := n }
theorem flat_split : ∀ (l : List (Bool × List UInt8)) (k : Nat) (x : Bool × List UInt8), (∀ b ∈ l, b.2.length = 64) → l[k]? = some x → ∃ A C : List Value, l.flatMap blockV = A ++ blockV x ++ C ∧ A.length = k * 65 ∧ ∀ b, (l.set k b).flatMap blockV = A ++ blockV b ++ C
  | [], k, x, _, hk => by simp at hk
  | y :: l, 0, x, _, hk => by
    obtain rfl : y = x := by simpa using hk
    exact ⟨[], l.flatMap blockV, by simp, by simp, fun b => by simp⟩
  | y :: l, k + 1, x, h, hk => by
    obtain ⟨A, C, h1, h2, h3⟩ := flat_split l k x (fun b hb => h b (by simp [hb])) (by simpa using hk)
    refine ⟨blockV y ++ A, C, by rw [List.flatMap_cons, h1]; simp, ?_, fun b => by rw [List.set_cons_succ, List.flatMap_cons, h3]; simp⟩
    rw [List.length_append, blockV_len (h y (by simp)), h2]; omega
theorem splice_mid {α : Type} (A X C M : List α) : (A ++ X ++ C).take A.length ++ M ++ (A ++ X ++ C).drop (A.length + X.length) = A ++ M ++ C := by
  rw [List.append_assoc A X C, List.take_left, ← List.append_assoc A X C, ← List.length_append, List.drop_left]
theorem set_mid (A : List Value) (v u : Value) (C : List Value) : (A ++ (v :: C)).set A.length u = A ++ (u :: C) := by
  rw [List.set_append_right _ _ (Nat.le_refl _)]; simp
section
variable {s s' : Fs} {lay lay' : FId → Nat} {w w' : World}
theorem setB_obj (k : Nat) (b : Bool × List UInt8) (j : FId) : (s.setB k b).obj lay j = if j = .B then some (.cells ((s.bs.set k b).flatMap blockV).toArray 133 (0, 0)) else s.obj lay j := by
  cases j <;> simp [Fs.obj, Fs.setB, Fs.dmap, Fs.dr]
theorem setFree_obj (n : Int) (j : FId) : (s.setFree n).obj lay j = if j = .S then some (.cells #[.slice (some ⟨lay .B, 0, none⟩) s.bs.length s.bs.length, .int .i64 n] 159 (0, 0)) else s.obj lay j := by
  cases j <;> simp [Fs.obj, Fs.setFree, Fs.dmap, Fs.dr]
theorem Fs.Ok.setB (h : s.Ok) (k : Nat) {b : Bool × List UInt8} (hb : b.2.length = 64) : (s.setB k b).Ok :=
  ⟨h.nodes, by simpa [Fs.setB] using h.blocks, fun x hx => by
    rcases List.mem_or_eq_of_mem_set hx with q | q
    · exact h.bytes x q
    · rw [q]; exact hb, h.parts, h.names, h.dirs⟩
theorem Step.setB (h : Step s lay w s' lay' w') (k : Nat) {b : Bool × List UInt8} (hb : b.2.length = 64) (row : List Value) (hr : row = (s'.bs.set k b).flatMap blockV) : Step s lay w (s'.setB k b) lay' (w'.setRow (lay' .B) row.toArray) := by
  subst hr
  have hown : Owns (s'.obj lay') lay' (lay' .B) := ⟨.B, by simp [Fs.obj], rfl⟩
  refine ⟨⟨h.is.lies.row (i := .B) rfl _ (fun j => setB_obj k b j), h.is.ok.setB k hb⟩, h.turned.row _ _ (fun hlt => (h.own _ hown).resolve_right (by omega)), fun x hx => ?_⟩
  obtain ⟨j, hj, rfl⟩ := hx
  refine h.own _ ⟨j, fun e => hj ?_, rfl⟩
  rw [setB_obj]
  by_cases q : j = .B
  · rw [q] at e; simp [Fs.obj] at e
  · rw [if_neg q, e]
theorem Step.setFree (h : Step s lay w s' lay' w') (n : Int) : Step s lay w (s'.setFree n) lay' (w'.setCell ⟨lay' .S, 1, none⟩ (.int .i64 n)) := by
  have hown : Owns (s'.obj lay') lay' (lay' .S) := ⟨.S, by simp [Fs.obj], rfl⟩
  refine ⟨⟨h.is.lies.set (i := .S) rfl 1 _ (fun j => by rw [setFree_obj]; rfl), ⟨h.is.ok.nodes, h.is.ok.blocks, h.is.ok.bytes, h.is.ok.parts, h.is.ok.names, h.is.ok.dirs⟩⟩, h.turned.set _ _ (fun hlt => (h.own _ hown).resolve_right (by simpa using hlt)), fun x hx => ?_⟩
  obtain ⟨j, hj, rfl⟩ := hx
  refine h.own _ ⟨j, fun e => hj ?_, rfl⟩
  rw [setFree_obj]
  by_cases q : j = .S
  · rw [q] at e; simp [Fs.obj] at e
  · rw [if_neg q, e]
theorem Step.setMark (h : Step s lay w s' lay' w') {k : Nat} {b : Bool × List UInt8} (hk : s'.bs[k]? = some b) (t : Bool) : Step s lay w (s'.setB k (t, b.2)) lay' (w'.setCell ⟨lay' .B, k * 65, none⟩ (.bool t)) := by
  have hlt := (List.getElem?_eq_some_iff.1 hk).1
  have hb := h.is.ok.bytes b (List.mem_of_getElem? hk)
  have hB : w'.heap[lay' .B]? = some (.cells (s'.bs.flatMap blockV).toArray 133 (0, 0)) := h.is.lies.at_ .B _ rfl
  have hrow : w'.setCell ⟨lay' .B, k * 65, none⟩ (.bool t) = w'.setRow (lay' .B) (((s'.bs.flatMap blockV).set (k * 65) (.bool t)).toArray) := by
    rw [setCell_eq_setRow w' (lay' .B) (k * 65) _ _ _ _ hB]
    simp
  rw [hrow]
  obtain ⟨A, C, h1, h2, h3⟩ := flat_split s'.bs k b h.is.ok.bytes hk
  refine h.setB k (b := (t, b.2)) hb _ ?_
  rw [h3, h1, ← h2]
  simp only [blockV, List.cons_append, List.append_assoc]
  exact set_mid A _ _ _
end
theorem give_some {s lay} (i : Int) (l : List UInt8) (w : World) (h : FsIs s lay w) (hn : s.bk i = some l) : Calls Tryz.prog 154 #[ptrTo (lay .S), .int .i64 i] w fun e w' => e = .returned (.int .i64 0) ∧ Step s lay w ((s.setB (slotOf i) (false, l)).setFree (incW s.free)) lay w' := by
  have hb := (Fs.bk_slot hn).2.2
  have c1 := h.b0 hb
  have f1 := h.bf (slotOf i * 65)
  have c2 := h.s1
  have f2 : w.frozen? ⟨lay .S, 1, none⟩ = false := h.lies.fz (i := .S) rfl 1
  have hne : lay .B ≠ lay .S := h.lies.ne (i := .B) (j := .S) rfl rfl (by simp)
  go_enter Tryz.func154, Tryz.ntmps154
  unfold ptrTo
  go_wp2_with (go_at_call 70; refine (bat_some i l w h hn).mono ?_; rintro e w' ⟨rfl, rfl⟩)
  go_ret
  exact ⟨rfl, ((Step.refl h).setMark hb false).setFree _⟩
theorem give_none {s lay} (i : Int) (w : World) (h : FsIs s lay w) (hn : s.bk i = none) : Calls Tryz.prog 154 #[ptrTo (lay .S), .int .i64 i] w fun e w' => e = .returned (.int .i64 23) ∧ w = w' := by
  go_enter Tryz.func154, Tryz.ntmps154
  unfold ptrTo
  go_wp2_with (go_at_call 70; refine (bat_none i w h hn).mono ?_; rintro e w' ⟨rfl, rfl⟩)
  go_ret
  exact ⟨rfl, rfl⟩
def zeros : List UInt8 := List.replicate 64 0
theorem store_cellsM {s lay} (w : World) (h : FsIs s lay w) (k : Nat) (hk : k < s.bs.length) (M : List Value) (hM : M.length = 65) (h1v : ∀ v ∈ M, v.oneCell' = true) (b : Bool × List UInt8) (hb : blockV b = M) :
    (storeCells ⟨lay .B, k * 65, none⟩ M).run Tryz.prog w = .ok () (w.setRow (lay .B) ((s.bs.set k b).flatMap blockV).toArray) := by
  obtain ⟨A, C, h1, h2, h3⟩ := flat_split s.bs k s.bs[k] h.ok.bytes (List.getElem?_eq_getElem hk)
  have hB := h.lies.at_ .B _ rfl
  have hl := flat_len s.bs h.ok.bytes
  have hlen : (blockV s.bs[k]).length = 65 := blockV_len (h.ok.bytes _ (List.getElem_mem hk))
  have hst := run_storeCells_at Tryz.prog (lay .B) (k * 65) 133 M 0 _ w hB (by simp only [List.size_toArray, hl, hM]; omega) h1v
  have hcut := splice_mid A (blockV s.bs[k]) C M
  rw [h2, hlen, ← h1] at hcut
  rw [h3, hb, ← hcut]
  rw [Nat.add_zero, hM] at hst
  exact hst
theorem zero_cells : Tryz.zeroCells133.toList.set 0 (.bool true) = .bool true :: List.replicate 64 (.int .u8 0) := by kernel_rfl
theorem store_block {s lay} (w : World) (h : FsIs s lay w) (k : Nat) (hk : k < s.bs.length) :
    (storeCells ⟨lay .B, k * 65, none⟩ (Tryz.zeroCells133.toList.set 0 (.bool true))).run Tryz.prog w = .ok () (w.setRow (lay .B) ((s.bs.set k (true, zeros)).flatMap blockV).toArray) := by
  rw [zero_cells]
  exact store_cellsM w h k hk _ (by rw [List.length_cons, List.length_replicate]) (fun v hv => by
    rcases List.mem_cons.1 hv with rfl | hv
    · rfl
    · rw [List.eq_of_mem_replicate hv]; rfl) (true, zeros) (by simp only [blockV, zeros, List.map_replicate]; rfl)
theorem take_some {s lay} (k : Nat) (w : World) (h : FsIs s lay w) (hk : freeAt s.bs = some k) : Calls Tryz.prog 69 #[ptrTo (lay .S)] w fun e w' => e = .returned (.tuple #[.int .i64 (k + 1), .int .i64 0]) ∧ Step s lay w ((s.setB k (true, zeros)).setFree (decW s.free)) lay w' := by
  have hf := freeI_some hk
  obtain ⟨x, hx⟩ := freeAt_some _ _ hk
  have hlt := (List.getElem?_eq_some_iff.1 hx).1
  have hl := h.ok.blocks
  have c0 := h.s0
  go_enter Tryz.func69, Tryz.ntmps69
  unfold ptrTo
  go_wp2_with (go_at_call 111; refine (index_any w h).mono ?_; rintro e w1 ⟨rfl, hB⟩; rw [hf]; have h1 := h.below hB; have c1 := h1.s0; have c2 := h1.s1; have f2 : w1.frozen? ⟨lay .S, 1, none⟩ = false := h1.lies.fz (i := .S) rfl 1; clear c0 hf; have hs := store_block w1 h1 k hlt; have hst := Step.setB (Step.mk h1 (Turned.of_below hB) (fun _ q => .inl q) : Step s lay w s lay w1) k (b := (true, zeros)) (by simp [zeros]) _ rfl; have c3 := hst.is.s1; have f3 : (w1.setRow (lay .B) ((s.bs.set k (true, zeros)).flatMap blockV).toArray).frozen? ⟨lay .S, 1, none⟩ = false := hst.is.lies.fz (i := .S) rfl 1; generalize w1.setRow (lay .B) ((s.bs.set k (true, zeros)).flatMap blockV).toArray = w2 at *)
  go_ret2
  exact ⟨rfl, hst.setFree _⟩
theorem take_none {s lay} (w : World) (h : FsIs s lay w) (hk : freeAt s.bs = none) : Calls Tryz.prog 69 #[ptrTo (lay .S)] w fun e w' => e = .returned (.tuple #[.int .i64 0, .int .i64 20]) ∧ Below w.heap.size w w' := by
  have hf := freeI_none hk
  have hl := h.ok.blocks
  have c0 := h.s0
  go_enter Tryz.func69, Tryz.ntmps69
  unfold ptrTo
  go_wp2_with (go_at_call 111; refine (index_any w h).mono ?_; rintro e w1 ⟨rfl, hB⟩; rw [hf]; clear c0 hf)
  go_ret2
  exact ⟨rfl, hB⟩
def overlay (l : List UInt8) (o : Nat) (d : List UInt8) : List UInt8 := l.take o ++ d ++ l.drop (o + d.length)
theorem overlay_len {l d : List UInt8} {o : Nat} (h : o + d.length ≤ l.length) : (overlay l o d).length = l.length := by
  unfold overlay; simp; omega
theorem flat_overlay {bs : List (Bool × List UInt8)} {k o : Nat} {l d : List UInt8} (h : ∀ b ∈ bs, b.2.length = 64) (hk : bs[k]? = some (true, l)) (ho : o + d.length ≤ 64) :
    (bs.flatMap blockV).take (k * 65 + 1 + o) ++ (d.map byteV ++ (bs.flatMap blockV).drop (k * 65 + 1 + o + d.length)) = (bs.set k (true, overlay l o d)).flatMap blockV := by
  obtain ⟨A, C, h1, h2, h3⟩ := flat_split bs k _ h hk
  have hl : l.length = 64 := h _ (List.mem_of_getElem? hk)
  rw [h3, h1]
  have e1 : A ++ blockV (true, l) ++ C = (A ++ .bool true :: (l.take o).map byteV) ++ ((l.drop o).take d.length).map byteV ++ ((l.drop (o + d.length)).map byteV ++ C) := by
    have : l = l.take o ++ ((l.drop o).take d.length ++ l.drop (o + d.length)) := by
      rw [← List.drop_drop, List.take_append_drop, List.take_append_drop]
    conv => lhs; rw [this]
    simp [blockV]
  have e2 : (A ++ .bool true :: (l.take o).map byteV).length = k * 65 + 1 + o := by
    simp [h2, hl]; omega
  have e3 : (((l.drop o).take d.length).map byteV).length = d.length := by
    simp [hl]; omega
  have := splice_mid (A ++ .bool true :: (l.take o).map byteV) (((l.drop o).take d.length).map byteV) ((l.drop (o + d.length)).map byteV ++ C) (d.map byteV)
  rw [e2, e3, ← e1] at this
  rw [← List.append_assoc, this]
  simp [blockV, overlay]
set_option maxRecDepth 100000 in
theorem bwrite_any {s lay} (i : Int) (l : List UInt8) (o : Nat) (d : List UInt8) (w : World) (h : FsIs s lay w) (hn : s.bk i = some l) (ho : o < 64) (hd : o + d.length ≤ 64) : Calls Tryz.prog 39 #[ptrTo (lay .S), .int .i64 i, .int .i64 o, .string ⟨d.toArray⟩] w fun e w' => e = .returned (.int .i64 0) ∧
    Step s lay w (s.setB (slotOf i) (true, overlay l o d)) lay w' := by
  have hb := (Fs.bk_slot hn).2.2
  have hlt := (List.getElem?_eq_some_iff.1 hb).1
  have hl64 : l.length = 64 := h.ok.bytes _ (List.mem_of_getElem? hb)
  have ho2 : (o : Int) ≤ 64 := by omega
  have hd2 : (d.length : Int) ≤ 64 - o := by omega
  have hrun := run_copy_str (P := Tryz.prog) (w := w) (dT := 23) (sT := 9) (ty := 3) 5 Tryz.underlying23 (by kernel_rfl) (lay .B) (slotOf i * 65 + 1 + o) (64 - o) (64 - o) d _ _ (h.lies.at_ .B _ rfl) (by omega) (by rw [flat_len s.bs h.ok.bytes]; omega)
  rw [flat_overlay h.ok.bytes hb hd] at hrun
  have hst := (Step.refl h).setB (slotOf i) (b := (true, overlay l o d)) (by rw [overlay_len (by omega)]; exact hl64) _ rfl
  generalize w.setRow (lay .B) ((s.bs.set (slotOf i) (true, overlay l o d)).flatMap blockV).toArray = w2 at hrun hst
  clear hb hl64
  go_enter Tryz.func39, Tryz.ntmps39
  unfold ptrTo
  go_wp2_with (go_at_call 70; refine (bat_some i l w h hn).mono ?_; rintro e w' ⟨rfl, rfl⟩)
  go_ret
  exact ⟨rfl, hst⟩
theorem push_fold2 : ∀ (l : List UInt8) (s : List UInt8), ((l.map fun b => (b.toNat : Int)).foldl (fun r n => r.push (UInt8.ofNat n.toNat)) (⟨s.toArray⟩ : ByteArray)) = ⟨(s ++ l).toArray⟩
  | [], s => by simp
  | b :: l, s => by
    have hp : (⟨s.toArray⟩ : ByteArray).push (UInt8.ofNat ((b.toNat : Int).toNat)) = ⟨(s ++ [b]).toArray⟩ := by
      apply ByteArray.ext
      simp [ByteArray.push]
    rw [List.map_cons, List.foldl_cons, hp, push_fold2 l (s ++ [b])]
    simp
theorem run_str_of {P : Program} {w : World} {src dst e : TypeId} (hs : P.underlying src = some (.slice e)) (hd : P.underlying dst = some .string) (he : P.underlying e = some (.int .u8)) (g off cap : Nat) (l : List UInt8)
    (hc : ∀ (j : Nat) (b : UInt8), l[j]? = some b → w.cell? ⟨g, off + j, none⟩ = some (byteV b)) : (convert src dst (.slice (some ⟨g, off, none⟩) l.length cap)).run P w = .ok (.string ⟨l.toArray⟩) w := by
  have hld := run_loadCells (P := P) w ⟨g, off, none⟩ l.length (fun j => .int .u8 ((l[j]?.getD 0).toNat : Int)) (fun j hj => by
    have hadd : Addr.add ⟨g, off, none⟩ j = ⟨g, off + j, none⟩ := by cases j <;> simp [Addr.add]
    rw [hadd, hc j l[j] (List.getElem?_eq_getElem hj), List.getElem?_eq_getElem hj]; rfl)
  have hlist : (List.range l.length).map (fun j => Value.int .u8 ((l[j]?.getD 0).toNat : Int)) = (l.map fun b => (b.toNat : Int)).map (Value.int .u8) := by
    apply List.ext_getElem?
    intro j
    by_cases e : j < l.length
    · simp [e]
    · simp [e, List.getElem?_eq_none (Nat.not_lt.1 e)]
  rw [hlist] at hld
  have := run_bytesToString (P := P) w ⟨g, off, none⟩ l.length cap _ hld
  rw [show (ByteArray.empty) = (⟨([] : List UInt8).toArray⟩ : ByteArray) from rfl, push_fold2, List.nil_append] at this
  simp [convert, run_underlying hs, run_underlying hd, run_underlying he, this]
theorem run_slice_arr {P : Program} {w : World} {t e : TypeId} {n : Nat} (ht : P.underlying t = some (.array n e)) (he : (P.info? e).map (·.size) = some 1) (g off l h : Nat) (h1 : l ≤ h) (h2 : h ≤ n) (h3 : l < n) :
    (Instr.sliceAt t (.pointer (some ⟨g, off, none⟩)) (some (.int .i64 l)) (some (.int .i64 h)) none).run P w = .ok (.slice (some ⟨g, off + l, none⟩) (h - l) (n - l)) w := by
  obtain ⟨i, hi, hi1⟩ : ∃ i, P.info? e = some i ∧ i.size = 1 := by
    cases hq : P.info? e with
    | none => rw [hq] at he; cases he
    | some i => rw [hq] at he; exact ⟨i, rfl, by simpa using he⟩
  have hadd : Addr.add ⟨g, off, none⟩ l = ⟨g, off + l, none⟩ := by cases l <;> simp [Addr.add]
  have hne : ¬ n = l := by omega
  simp [Instr.sliceAt, Instr.slice, Instr.sureAddr, run_underlying ht, Instr.sliceBounds, run_sliceBound, h1, h2, sizeOf, typeInfo, hi, hi1, hadd, hne]
set_option maxRecDepth 100000 in
theorem bread_any {s lay} (i : Int) (l : List UInt8) (o n : Nat) (w : World) (h : FsIs s lay w) (hn : s.bk i = some l) (ho : o < 64) (hd : o + n ≤ 64) : Calls Tryz.prog 144 #[ptrTo (lay .S), .int .i64 i, .int .i64 o, .int .i64 n] w fun e w' => e = .returned (.tuple #[.string ⟨((l.drop o).take n).toArray⟩, .int .i64 0]) ∧ w = w' := by
  have hb := (Fs.bk_slot hn).2.2
  have hl64 : l.length = 64 := h.ok.bytes _ (List.mem_of_getElem? hb)
  have ho2 : (o : Int) ≤ 64 := by omega
  have hd2 : (n : Int) ≤ 64 - o := by omega
  have hlen : ((l.drop o).take n).length = n := by simp [hl64]; omega
  have hrun := run_str_of (P := Tryz.prog) (w := w) (src := 23) (dst := 9) Tryz.underlying23 Tryz.underlying9 Tryz.underlying5 (lay .B) (slotOf i * 65 + 1 + o) (64 - o) ((l.drop o).take n) (fun j b hj => by
    have hj' : l[o + j]? = some b := by
      rw [List.getElem?_take] at hj
      split at hj
      · rw [List.getElem?_drop] at hj; exact hj
      · cases hj
    have := h.b (o := 1 + o + j) (v := byteV b) hb (by
      rw [show 1 + o + j = (o + j) + 1 by omega]
      simp [blockV, hj'])
    rw [show slotOf i * 65 + 1 + o + j = slotOf i * 65 + (1 + o + j) by omega]; exact this)
  rw [hlen] at hrun
  have hslice := run_slice_arr (P := Tryz.prog) (w := w) Tryz.underlying131 (by kernel_rfl) (lay .B) (slotOf i * 65 + 1) o (o + n) (by omega) (by omega) ho
  rw [show o + n - o = n by omega, show ((o + n : Nat) : Int) = (o : Int) + n by omega] at hslice
  generalize (l.drop o).take n = r at hrun ⊢
  clear hb hl64 hlen
  go_enter Tryz.func144, Tryz.ntmps144
  unfold ptrTo
  go_wp2_with (go_at_call 70; refine (bat_some i l w h hn).mono ?_; rintro e w' ⟨rfl, rfl⟩)
  go_ret2
  exact ⟨rfl, rfl⟩
end Go.Proofs.YtbecmcjibpamoaaGreatDoor
