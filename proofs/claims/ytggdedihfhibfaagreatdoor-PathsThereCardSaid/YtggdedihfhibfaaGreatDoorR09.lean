/- Texts of one proof, packed: GlG -/
import Derived.Test.YtggdedihfhibfaaGreatDoorR07
import Derived.Test.YtggdedihfhibfaaGreatDoorR08
import Derived.Laws.CopyOwn
set_option linter.unusedVariables false
set_option linter.unusedSimpArgs false
set_option linter.deprecated false
set_option linter.unnecessarySimpa false
/- glob.reach, Match -/
namespace Go.Proofs.YtggdedihfhibfaaGreatDoor
open Go.RowKit IntWalk
set_option linter.unusedVariables false
set_option linter.unusedSimpArgs false

def manyS (now : Nat → Bool) : Nat → Bool
  | 0 => now 0
  | i + 1 => now (i + 1) || manyS now i
def oneS (t : GTok) (s : List UInt8) (now : Nat → Bool) : Nat → Bool
  | 0 => false
  | i + 1 => now i && hasS t (atB s i)
def stepS (s : List UInt8) (now : Nat → Bool) (t : GTok) : Nat → Bool := if t.k = 3 then manyS now else oneS t s now
def reachS (L : List GTok) (s : List UInt8) : Nat → Bool := L.foldl (stepS s) (fun i => i == 0)
def matchS (L : List GTok) (s : List UInt8) : Bool := reachS L s s.length
theorem reachS_snoc (L : List GTok) (t : GTok) (s : List UInt8) : reachS (L ++ [t]) s = stepS s (reachS L s) t := by unfold reachS; rw [List.foldl_append]; rfl
/-- truth values in a block -/
def BRow (W : World) (b n : Nat) (f : Nat → Bool) : Prop := ∃ cur, W.heap[b]? = some (.cells cur 4 (0, 0)) ∧ cur.size = n + 1 ∧ ∀ i, i ≤ n → cur[i]? = some (.bool (f i))
def cellB (W : World) (b i : Nat) : Bool := match W.cell? ⟨b, i, none⟩ with
  | some (.bool t) => t
  | _ => false
def zerosB (n : Nat) : Obj := .cells (madeCells #[.bool false] (n + 1)) 4
theorem make_b (w : World) (n : Nat) (h1 : n ≤ 100000) (z : Int) (hz : z = (n : Int) + 1) : (Instr.makeSlice 29 (.int .i64 z) (.int .i64 z)).run Tryz.prog w = .ok (.slice (some ⟨w.heap.size, 0, none⟩) (n + 1) (n + 1)) (w.alloc (zerosB n)) := by
  subst hz
  have hinf : (Tryz.prog.info? 4).map (fun i => (i.zero, i.size, i.bytes)) = some (some (.bool false), 1, 1) := by kernel_rfl
  obtain ⟨i0, hi, hz0, hz1, hz2⟩ := info_parts hinf
  have := run_make (P := Tryz.prog) w 29 4 i0 (.bool false) (by kernel_rfl) hi hz0 .i64 .i64 ((n : Int) + 1) ((n : Int) + 1) (by omega) (Int.le_refl _) (by rw [hz2]; omega) (by omega)
  rw [hz1, Nat.mul_one, show ((n : Int) + 1).toNat = n + 1 by omega] at this
  exact this
section
variable {W W' w : World} {b n : Nat} {f g : Nat → Bool}
theorem BRow.new (W : World) (n : Nat) : BRow (W.alloc (zerosB n)) W.heap.size n (fun _ => false) :=
  ⟨madeCells #[.bool false] (n + 1), r_alloc_at _ _, by simp [madeCells], fun i hi => by simp [madeCells, Nat.mod_one, show i < n + 1 by omega]⟩
theorem BRow.below (h : BRow W b n f) (hb : Below W.heap.size W W') : BRow W' b n f := by
  obtain ⟨cur, hc, hs⟩ := h
  exact ⟨cur, (hb.block _ (blk_lt hc)).trans hc, hs⟩
theorem BRow.lt (h : BRow W b n f) : b < W.heap.size := by obtain ⟨cur, hc, hs⟩ := h; exact blk_lt hc
theorem BRow.cell (h : BRow W b n f) (i : Nat) (hi : i ≤ n) : W.cell? ⟨b, i, none⟩ = some (.bool (f i)) := by
  obtain ⟨cur, hc, hs, hv⟩ := h
  simp [World.cell?, hc, hv i hi]
theorem BRow.fz (h : BRow W b n f) (i : Nat) : W.frozen? ⟨b, i, none⟩ = false := by
  obtain ⟨cur, hc, hs, hv⟩ := h
  simp [World.frozen?, hc]
theorem BRow.set (h : BRow W b n f) (i : Nat) (t : Bool) (hg : ∀ j, j ≤ n → g j = if j = i then t else f j) : BRow (W.setCell ⟨b, i, none⟩ (.bool t)) b n g := by
  obtain ⟨cur, hc, hs, hv⟩ := h
  refine ⟨cur.setIfInBounds i (.bool t), set_row hc, by simpa using hs, fun j hj => ?_⟩
  rw [setB_get cur i j _ _ (hv j hj), hg j hj]
  by_cases e : i = j
  · subst e; simp
  · rw [if_neg e, if_neg (Ne.symm e)]
theorem BRow.other (h : BRow W b n f) {x i : Nat} {v : Value} (hx : x ≠ b) : BRow (W.setCell ⟨x, i, none⟩ v) b n f := by
  obtain ⟨cur, hc, hs⟩ := h
  exact ⟨cur, (Below.heap_setCell _ _ _ _ (fun e => hx (by simpa using e.symm))).trans hc, hs⟩
theorem BRow.ext (h : BRow W b n f) (hg : ∀ j, j ≤ n → g j = f j) : BRow W b n g := by
  obtain ⟨cur, hc, hs, hv⟩ := h
  exact ⟨cur, hc, hs, fun i hi => by rw [hg i hi]; exact hv i hi⟩
theorem copy_b {ops : Array Oper} {rest : List Oper} {o : Oper} {a : Act} {Q : Exit → Act → World → Prop} {x y N : Nat} (hgd : o.guard = none) (d s : Operand)
    (ho : o.op = .call { callee := .builtin .copy, args := #[d, s], argTypes := #[29, 29] }) (hd : a.eval d = .slice (some ⟨x, 0, none⟩) (N + 1) (N + 1)) (hs : a.eval s = .slice (some ⟨y, 0, none⟩) (N + 1) (N + 1))
    (hx : BRow W x N f) (hy : BRow W y N g) (h : ∀ w', BRow w' x N g → W.grownBy w' (some x) → wpList Tryz.prog ops Q rest (a.put o.dst (goInt ((N + 1 : Nat) : Int))) w') : wpList Tryz.prog ops Q (o :: rest) a W := by
  obtain ⟨cur, hc, hcs, hcv⟩ := hx
  obtain ⟨src, hsc, hss, hsv⟩ := hy
  have h5 : src.toList.length = N + 1 := by simpa using hss
  refine wpList_copy_own hgd d s 29 29 ho 4 (by kernel_rfl) (by kernel_rfl) x 0 (N + 1) (N + 1) ⟨y, 0, none⟩ (N + 1) (N + 1) hd hs cur 4 hc src.toList (by rw [h5]; exact (Nat.min_self _).symm) ?_ (by rw [h5, hcs]; omega) ?_ ?_
  · intro j v hj
    rw [Array.getElem?_toList] at hj
    have e : (⟨y, 0, none⟩ : Addr).add j = ⟨y, j, none⟩ := by unfold Addr.add; split <;> simp_all
    rw [e]
    simp [World.cell?, hsc, hj]
  · intro v hv
    obtain ⟨j, hj, e⟩ := List.getElem_of_mem hv
    have h6 := hsv j (by omega)
    rw [← Array.getElem?_toList, List.getElem?_eq_getElem hj, e] at h6
    cases h6
    rfl
  · rw [h5]
    have hr : (cur.toList.take 0 ++ (src.toList ++ cur.toList.drop (0 + (N + 1)))).toArray = src := by
      have : cur.toList.drop (0 + (N + 1)) = [] := List.drop_eq_nil_of_le (by simp [hcs])
      rw [this]; simp
    rw [hr]
    refine h _ ⟨src, ?_, hss, hsv⟩ ?_
    · have hlt := blk_lt hc
      unfold World.setRow
      simp [Array.getElem?_modify, hc]
    · exact ⟨rfl, rfl, rfl, by simp [World.setRow], fun k hk hne => setRow_other W x k src (fun e => hne (by rw [e]))⟩
theorem row_type_r {w : World} {base : Nat} {v : Value} {rs : List (UInt8 × UInt8)} (h : OwnR w base v rs) : ∀ k, v.ownBlock = some k → ∃ cur, w.heap[k]? = some (.cells cur 193 (0, 0)) := by
  intro k hk
  obtain ⟨h3, hr⟩ := h
  rcases hr with ⟨rfl, hn⟩ | ⟨g, cap, cur, rfl, hbg, hg, hr⟩
  · cases hk
  · cases hk; exact ⟨cur, hg⟩
/-- where reach stands in a round -/
structure RS (w : World) (N nb xb tb : Nat) (t : GTok) (rv : Value) (f g : Nat → Bool) (W : World) : Prop where
  now : BRow W nb N f
  nxt : BRow W xb N g
  tok : W.heap[tb]? = some (.cells #[.int .i64 t.k, .int .u8 t.c.toNat, .bool t.neg, rv] 49 (0, 0))
  rng : OwnR W 0 rv t.rs
  below : Below w.heap.size w W
  on : w.heap.size ≤ nb
  ox : w.heap.size ≤ xb
  ne : nb ≠ xb
variable {N nb xb tb : Nat} {t : GTok} {rv : Value} {g' : Nat → Bool}
theorem RS.next (h : RS w N nb xb tb t rv f g W) (hb : Below W.heap.size W W') : RS w N nb xb tb t rv f g W' :=
  ⟨h.now.below hb, h.nxt.below hb, (hb.block _ (blk_lt h.tok)).trans h.tok, h.rng.below hb, h.below.trans (hb.mono h.below.size), h.on, h.ox, h.ne⟩
theorem RS.drew (h : RS w N nb xb tb t rv f g W) : RS w N nb xb tb t rv f g W.drew := h.next ((Below.refl _ W).drew)
theorem RS.put (h : RS w N nb xb tb t rv f g W) (hg : W.grownBy W' (some xb)) (hx : BRow W' xb N g') : RS w N nb xb tb t rv f g' W' := by
  obtain ⟨cur, hc, hs⟩ := h.now
  obtain ⟨cux, hcx, hsx⟩ := h.nxt
  have ht := h.tok
  have hne := h.ne
  refine ⟨⟨cur, (hg.block nb (blk_lt hc) (fun e => hne (by simpa using e))).trans hc, hs⟩, hx, ?_, h.rng.kept fun k hk => ?_, h.below.grown hg h.below.size (fun k e => by cases e; exact h.ox), h.on, h.ox, h.ne⟩
  · rw [hg.block tb (blk_lt ht) (fun e => by have e2 : tb = xb := by simpa using e
                                             rw [e2, hcx] at ht; cases ht)]
    exact ht
  · obtain ⟨cu, hcu⟩ := row_type_r h.rng k hk
    exact hg.block k (h.rng.lt k hk).2 (fun e => by have e2 : k = xb := by simpa using e
                                                    rw [e2, hcx] at hcu; cases hcu)
theorem RS.set (h : RS w N nb xb tb t rv f g W) (i : Nat) (b : Bool) (hg : ∀ j, j ≤ N → g' j = if j = i then b else g j) : RS w N nb xb tb t rv f g' (W.setCell ⟨xb, i, none⟩ (.bool b)) :=
  h.put ⟨rfl, rfl, rfl, by simp [World.setCell], fun k hk hne => Below.heap_setCell _ _ _ _ (fun e => hne (by simpa using e))⟩ (h.nxt.set i b hg)
/-- what region 16 reads and writes -/
theorem RS.s16 (h : RS w N nb xb tb t rv f g W) {i : Nat} (hi : i < N) {b : Bool} (hb : f i = b) : W.cell? ⟨nb, i, none⟩ = some (.bool b) ∧ W.cell? ⟨tb, 0, none⟩ = some (.int .i64 t.k) ∧ W.cell? ⟨tb, 1, none⟩ = some (.int .u8 t.c.toNat) ∧ W.cell? ⟨tb, 2, none⟩ = some (.bool t.neg) ∧ W.cell? ⟨tb, 3, none⟩ = some rv ∧ W.cell? ⟨xb, i + 1, none⟩ = some (.bool (cellB W xb (i + 1))) ∧ W.frozen? ⟨xb, i + 1, none⟩ = false := by
  have ht := h.tok
  have hx := h.nxt.cell (i + 1) (by omega)
  refine ⟨by rw [← hb]; exact h.now.cell i (by omega), by simp [World.cell?, ht], by simp [World.cell?, ht], by simp [World.cell?, ht], by simp [World.cell?, ht], ?_, h.nxt.fz _⟩
  unfold cellB; rw [hx]
end
end Go.Proofs.YtggdedihfhibfaaGreatDoor
