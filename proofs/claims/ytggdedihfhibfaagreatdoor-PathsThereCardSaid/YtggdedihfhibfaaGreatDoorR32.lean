/- Texts of one proof, packed: RfL, RfM, RfN, RfO, RfP -/
import Derived.Test.YtggdedihfhibfaaGreatDoorR31
import Derived.Deep.AppendLies
set_option linter.unusedVariables false
set_option linter.unusedSimpArgs false
set_option linter.deprecated false
set_option linter.unnecessarySimpa false
/- The document's tree: a name more. -/
namespace Go.Proofs.YtggdedihfhibfaaGreatDoor
open Go.RowKit IntWalk
set_option linter.unusedVariables false
set_option linter.unusedSimpArgs false

theorem info_name : (Tryz.prog.info? 170).map (fun i => (i.zero, i.size, i.bytes)) = some (some (.agg #[.int .i64 0, .string ⟨#[]⟩, .int .i64 0]), 3, 32) := by kernel_rfl
/-- the cells of a name -/
def NameV (x : Array Value) : Prop := ∃ (d e : Int) (s : List UInt8), x = #[.int .i64 d, .string ⟨s.toArray⟩, .int .i64 e] ∧ s.length ≤ 5000
theorem NameV.size {x : Array Value} (h : NameV x) : x.size = 3 := by obtain ⟨d, e, s, rfl, _⟩ := h; rfl
theorem NameV.one {x : Array Value} (h : NameV x) : ∀ u ∈ x.toList, u.oneCell' = true := by
  obtain ⟨d, e, s, rfl, _⟩ := h
  intro u hu
  simp at hu
  rcases hu with rfl | rfl | rfl <;> rfl
/-- names, in a row of the call's own -/
def OwnN (w : World) (base : Nat) (v : Value) (n : Nat) : Prop := ∃ L : List (Array Value), L.length = n ∧ (∀ x ∈ L, NameV x) ∧ w.ownsRow base 170 3 v n (L.flatMap Array.toList)
section
variable {w w' w0 : World} {base n : Nat} {v : Value}
theorem OwnN.nil (w : World) (base : Nat) : OwnN w base (.slice none 0 0) 0 := ⟨[], rfl, by simp, World.ownsRow_nil w base _ _⟩
theorem OwnN.lt (h : OwnN w base v n) : ∀ k, v.ownBlock = some k → base ≤ k ∧ k < w.heap.size := by obtain ⟨L, _, _, h⟩ := h; exact World.ownsRow.lt h
theorem OwnN.alloc (h : OwnN w base v n) (o : Obj) : OwnN (w.alloc o) base v n := by obtain ⟨L, h1, h2, h⟩ := h; exact ⟨L, h1, h2, World.ownsRow.alloc h o⟩
theorem OwnN.drewN (h : OwnN w base v n) (k : Nat) : OwnN (w.drewN k) base v n := by
  obtain ⟨L, h1, h2, h3, h4⟩ := h
  exact ⟨L, h1, h2, h3, h4⟩
theorem OwnN.kept (h : OwnN w base v n) (hk : ∀ k, v.ownBlock = some k → w'.heap[k]? = w.heap[k]?) : OwnN w' base v n := by
  obtain ⟨L, h1, h2, h3, hr⟩ := h
  refine ⟨L, h1, h2, h3, ?_⟩
  rcases hr with ⟨rfl, hn⟩ | ⟨g, cap, cur, rfl, hbg, hg, hr⟩
  · exact .inl ⟨rfl, hn⟩
  · exact .inr ⟨g, cap, cur, rfl, hbg, (hk g rfl).trans hg, hr⟩
theorem OwnN.form (h : OwnN w base v n) : ∃ a cap, v = .slice a n cap := by
  obtain ⟨L, h1, h2, h3, hr⟩ := h
  rcases hr with ⟨rfl, hn⟩ | ⟨g, cap, cur, rfl, _⟩
  · exact ⟨none, 0, by rw [hn]⟩
  · exact ⟨_, cap, rfl⟩
theorem name_at : ∀ (L : List (Array Value)) (h : ∀ x ∈ L, x.size = 3) (k : Nat) (d : Array Value) (j : Nat), L[k]? = some d → j < 3 → (L.flatMap Array.toList)[k * 3 + j]? = d[j]?
  | [], _, k, d, j, hk, _ => by simp at hk
  | x :: L, h, 0, d, j, hk, hj => by
    simp at hk
    subst hk
    have := h x (by simp)
    rw [List.flatMap_cons, List.getElem?_append_left (by simp; omega)]
    simp
  | x :: L, h, k + 1, d, j, hk, hj => by
    have hx := h x (by simp)
    rw [List.flatMap_cons, List.getElem?_append_right (by simp; omega)]
    have e : (k + 1) * 3 + j - x.toList.length = k * 3 + j := by simp [hx]; omega
    rw [e]
    exact name_at L (fun y hy => h y (by simp [hy])) k d j (by simpa using hk) hj
/-- a row of the call's own is a row of the tree's -/
theorem OwnN.row (h : OwnN w base v n) {O : Nat → Prop} (hO : ∀ k, v.ownBlock = some k → O k) : RowAt O n w v := by
  obtain ⟨L, h1, h2, h3, hr⟩ := h
  rcases hr with ⟨rfl, hn⟩ | ⟨g, cap, cur, rfl, hbg, hg, hnc, hcm, hcs, htk⟩
  · exact .inl rfl
  · refine .inr ⟨g, n, cap, cur, rfl, Nat.le_refl _, hO g rfl, hg, fun i hi => ?_⟩
    have hx : L[i]? = some (L[i]'(by omega)) := List.getElem?_eq_getElem (by omega)
    obtain ⟨d, e, s, hd, hs⟩ := h2 _ (List.getElem_mem (by omega : i < L.length))
    have hc : ∀ j, j < 3 → cur[i * 3 + j]? = (L[i]'(by omega))[j]? := fun j hj => by
      have h4 := name_at L (fun x hx => (h2 x hx).size) i _ j hx hj
      rw [← htk, List.getElem?_take_of_lt (by omega), Array.getElem?_toList] at h4
      exact h4
    refine ⟨d, e, s, ?_, ?_, ?_, hs⟩
    · have := hc 0 (by omega); rw [hd] at this; simpa using this
    · have := hc 1 (by omega); rw [hd] at this; simpa using this
    · have := hc 2 (by omega); rw [hd] at this; simpa using this
/-- where put stands: the row, the name that is new, the one at hand -/
structure PS (w0 : World) (base xb yb : Nat) (X Y : Array Value) (w : World) (v : Value) (n : Nat) : Prop where
  own : OwnN w base v n
  x : w.heap[xb]? = some (.cells X 170 (0, 0))
  y : w.heap[yb]? = some (.cells Y 170 (0, 0))
  xlt : xb < base
  yo : v.ownBlock ≠ some yb
  below : Below base w0 w
  base : base ≤ w.heap.size
variable {xb yb : Nat} {X Y : Array Value}
theorem PS.alloc (h : PS w0 base xb yb X Y w v n) (o : Obj) : PS w0 base xb yb X Y (w.alloc o) v n :=
  ⟨h.own.alloc o, (Below.heap_alloc _ _ _ (blk_lt h.x)).trans h.x, (Below.heap_alloc _ _ _ (blk_lt h.y)).trans h.y, h.xlt, h.yo, h.below.alloc h.base o, by have := h.base; simp; omega⟩
theorem PS.app (h : PS w0 base xb yb X Y w v n) {g cap m : Nat} (ho : OwnN w' base (.slice (some ⟨g, 0, none⟩) m cap) m) (hg : w.grownBy w' v.ownBlock) (hv : v.ownBlock = some g ∨ g = w.heap.size) : PS w0 base xb yb X Y w' (.slice (some ⟨g, 0, none⟩) m cap) m := by
  have hrow : ∀ k, v.ownBlock = some k → base ≤ k := fun k hk => (h.own.lt k hk).1
  refine ⟨ho, ?_, ?_, h.xlt, ?_, h.below.grown hg h.base hrow, Nat.le_trans h.base hg.size⟩
  · rw [hg.block xb (blk_lt h.x) (fun e => by have := hrow xb e.symm; have := h.xlt; omega)]; exact h.x
  · rw [hg.block yb (blk_lt h.y) (fun e => h.yo e.symm)]; exact h.y
  · intro e
    have e' : g = yb := by simpa [Value.ownBlock] using e
    rcases hv with q | q
    · rw [e'] at q; exact h.yo q
    · have := blk_lt h.y; omega
/-- 'append(out, x)' -/
theorem append_n {ops : Array Oper} {rest : List Oper} {o : Oper} {a : Act} {Q : Exit → Act → World → Prop} (hgd : o.guard = none) (s x : Operand)
    (ho : o.op = .call { callee := .builtin .append, args := #[s, x], argTypes := #[156, 156] }) (hs : a.eval s = v) (hP : PS w0 base xb yb X Y w v n) (hn : n ≤ 5000)
    (Z : Array Value) (hZ : NameV Z) (H : Nat) (hx : a.eval x = .slice (some ⟨H, 0, none⟩) 1 1) (hc : w.heap[H]? = some (.cells Z 170 (0, 0)))
    (h : ∀ g cap w', PS w0 base xb yb X Y w' (.slice (some ⟨g, 0, none⟩) (n + 1) cap) (n + 1) → wpList Tryz.prog ops Q rest (a.put o.dst (.slice (some ⟨g, 0, none⟩) (n + 1) cap)) w') :
    wpList Tryz.prog ops Q (o :: rest) a w := by
  obtain ⟨i0, hi, hz0, hz1, hz2⟩ := info_parts info_name
  obtain ⟨L, hL, hNV, hown⟩ := hP.own
  refine wpList_append_lies w hgd s x 156 ho base 170 i0 _ 3 32 (by kernel_rfl) hi hz0 hz1 hz2 rfl (by omega) v n _ hs hown ⟨H, 0, none⟩ 1 1 Z.toList hx (by simp [hZ.size]) (World.news_of_block hc) hZ.one (by omega) (by simp only [maxLen]; omega) (by omega) hP.base _ rfl ?_
  intro g cap w' h2 h3 h4 h5
  refine h g cap w' (hP.app ⟨L ++ [Z], by simp [hL], fun y hy => ?_, by rw [List.flatMap_append]; simpa using h2⟩ h3 h4)
  rcases List.mem_append.1 hy with q | q
  · exact hNV y q
  · simp at q; subst q; exact hZ
end
end Go.Proofs.YtggdedihfhibfaaGreatDoor
/- The document's tree: put. -/
namespace Go.Proofs.YtggdedihfhibfaaGreatDoor
open Go.RowKit IntWalk
set_option linter.unusedVariables false
set_option linter.unusedSimpArgs false

/-- the cells of a name -/
def nmA (d : Int) (s : List UInt8) (e : Int) : Array Value := #[.int .i64 d, .string ⟨s.toArray⟩, .int .i64 e]
section
variable {N M : Nat} {b : RB} {O : Nat → Prop} {w w' : World}
theorem put_end (h : RIs N M b O w) {base n xb : Nat} {X : Array Value} {w1 w' : World} {v : Value} (hb1 : Below w.heap.size w w1) (hbase : w.heap.size ≤ base) (hP : PS w1 base xb xb X X w' v n) (hn : n ≤ M + 1) :
    ∃ O', RStep N M b O w (M + 1) O' (w'.setCell ⟨b.F, 1, none⟩ v) := by
  have hb : Below w.heap.size w w' := hb1.trans (hP.below.mono hbase)
  have h2 := h.below hb
  refine ⟨fun k => O k ∨ v.ownBlock = some k, ?_, ?_, ?_⟩
  · have h3 := h2.mono (O' := fun k => O k ∨ v.ownBlock = some k) (M' := M + 1) (fun k q => .inl q) (fun k q => q.elim (h2.own_lt k) (fun e => (hP.own.lt k e).2)) (Nat.le_succ _)
    obtain ⟨v0, f, _⟩ := h2.f
    refine h3.putF (fun k hk => set_ne _ _ _ _ _ hk) ?_ ((hP.own.row (O := fun k => O k ∨ v.ownBlock = some k) (fun k e => .inr e)).mono (fun k q => q) hn)
    rw [set_row f]
    rfl
  · exact (Turned.of_below hb).set _ _ (fun _ => h.oF)
  · intro k q
    rcases q with q | q
    · exact .inl q
    · exact .inr (by have := (hP.own.lt k q).1; omega)
/-- a block of the round's own for the name at hand -/
theorem PS.newY {w0 w : World} {base xb n : Nat} {X : Array Value} {v : Value} (h : PS w0 base xb xb X X w v n) (Y : Array Value) : PS w0 base xb w.heap.size X Y (w.alloc (.cells Y 170)) v n := by
  have h2 := h.alloc (.cells Y 170)
  exact ⟨h2.own, h2.x, r_alloc_at _ _, h2.xlt, fun e => by have := (h.own.lt _ e).2; omega, h2.below, h2.base⟩
theorem alloc2_at (w : World) (A B : Obj) : ((w.alloc A).alloc B).heap[w.heap.size + 1]? = some B := by
  have := r_alloc_at (w.alloc A) B
  simpa using this
/-- a row's end: the round's own block is forgotten -/
theorem PS.drop {w0 w : World} {base xb yb n : Nat} {X Y : Array Value} {v : Value} (h : PS w0 base xb yb X Y w v n) : PS w0 base xb xb X X w v n :=
  ⟨h.own, h.x, h.x, h.xlt, fun e => by have := (h.own.lt _ e).1; have := h.xlt; omega, h.below, h.base⟩
set_option maxRecDepth 100000 in
set_option maxHeartbeats 4000000 in
theorem put_r (h : RIs N M b O w) (hM : M ≤ 1000) (xd xe : Int) (xs : List UInt8) (hxs : xs.length ≤ 5000) :
    Calls Tryz.prog 99 #[ptrTo b.F, .agg #[.int .i64 xd, .string ⟨xs.toArray⟩, .int .i64 xe]] w fun e w' => (∃ v, e = .returned v) ∧ ∃ O', RStep N M b O w (M + 1) O' w' := by
  obtain ⟨v0, f1, hr⟩ := h.row
  have hFlt := h.lt.1
  have fz1 : w.frozen? ⟨b.F, 1, none⟩ = false := by obtain ⟨_, f, _⟩ := h.f; simp [World.frozen?, f]
  have hX : NameV (nmA xd xs xe) := ⟨xd, xe, xs, rfl, hxs⟩
  have hx0 : (w.alloc (.cells #[.int .i64 xd, .string ⟨xs.toArray⟩, .int .i64 xe] 170)).heap[w.heap.size]? = some (.cells (nmA xd xs xe) 170 (0, 0)) := r_alloc_at w _
  have hb1 := (Below.refl w.heap.size w).alloc (Nat.le_refl _) (.cells #[.int .i64 xd, .string ⟨xs.toArray⟩, .int .i64 xe] 170)
  have hsz1 : (w.alloc (.cells #[.int .i64 xd, .string ⟨xs.toArray⟩, .int .i64 xe] 170)).heap.size = w.heap.size + 1 := by simp
  obtain ⟨w1, hw1⟩ : ∃ w1, w.alloc (.cells #[.int .i64 xd, .string ⟨xs.toArray⟩, .int .i64 xe] 170) = w1 := ⟨_, rfl⟩
  rw [hw1] at hx0 hb1 hsz1
  have HE := Lib.hid (fun (W : World) (v : Value) (n : Nat) (hP : PS w1 (w.heap.size + 1) w.heap.size w.heap.size (nmA xd xs xe) (nmA xd xs xe) W v n) (hn : n ≤ M + 1) => put_end h hb1 (Nat.le_succ _) hP hn)
  have HP1 := Lib.hid (show PS w1 (w.heap.size + 1) w.heap.size w.heap.size (nmA xd xs xe) (nmA xd xs xe) w1 (.slice none 0 0) 0 from
    ⟨OwnN.nil _ _, hx0, hx0, Nat.lt_succ_self _, by simp [Value.ownBlock], Below.refl _ _, by omega⟩)
  have HW1 := Lib.hid hw1
  have g1 : w1.cell? ⟨b.F, 1, none⟩ = some v0 := (hb1.cell (p := ⟨b.F, 1, none⟩) hFlt).trans f1
  have gz1 : w1.frozen? ⟨b.F, 1, none⟩ = false := by rw [World.frozen?_of_block (hb1.block _ hFlt)]; exact fz1
  have GF := Lib.hid (fun (W : World) (hW : Below (w.heap.size + 1) w1 W) => (show W.cell? ⟨b.F, 1, none⟩ = some v0 ∧ W.frozen? ⟨b.F, 1, none⟩ = false from ⟨(hW.cell (p := ⟨b.F, 1, none⟩) (by show b.F < w.heap.size + 1; omega)).trans g1, by rw [World.frozen?_of_block (hW.block b.F (by omega))]; exact gz1⟩))
  have HCX := Lib.hid (show ∀ W v n yb Y, PS w1 (w.heap.size + 1) w.heap.size yb (nmA xd xs xe) Y W v n → W.cell? ⟨w.heap.size, 0, none⟩ = some (.int .i64 xd) ∧ W.cell? ⟨w.heap.size, 1, none⟩ = some (.string ⟨xs.toArray⟩) ∧ W.cell? ⟨w.heap.size, 2, none⟩ = some (.int .i64 xe) from fun W v n yb Y hp => by
    have := hp.x
    unfold nmA at this
    exact ⟨by simp [World.cell?, this], by simp [World.cell?, this], by simp [World.cell?, this]⟩)
  have HX := Lib.hid hX
  have hnM : M ≤ 1000 := hM
  clear hX hx0 h hw1 fz1 f1 hsz1
  unfold ptrTo at *
  rcases hr with rfl | ⟨g0, n0, c0, rfl, hn0, hcells⟩
  · go_enter Tryz.func99, Tryz.ntmps99
    go_wp2
    rw [HW1.out]
    go_loopw [4, 5, 6] (fun ov dv iv W => ov = .slice none 0 0 ∧ dv = .bool false ∧ iv = .int .i64 0 ∧ W = w1) (fun _ _ _ _ => 0)
    case atStart => exact ⟨rfl, rfl, rfl, rfl⟩
    case round =>
      obtain ⟨rfl, rfl, rfl, rfl⟩ := hrel
      obtain ⟨gW, gz⟩ := GF.out _ HP1.out.below
      obtain ⟨x20, x21, x22⟩ := HCX.out _ _ _ _ _ HP1.out
      go_wp2_with (at_builtin; refine append_n rfl _ _ rfl rfl (HP1.out.alloc _) (by omega) (nmA xd xs xe) HX.out wr.heap.size rfl (r_alloc_at _ _) ?_; intro g6 cap6 W6 hP6; have HP6 := Lib.hid hP6; obtain ⟨gW6, gz6⟩ := GF.out W6 hP6.below; clear hP6)
      go_end0
      exact ⟨⟨_, rfl⟩, HE.out _ _ _ HP6.out.drop (by omega)⟩
  · have HG0 := Lib.hid (show ∀ i, i < n0 → ∃ (d e : Int) (s : List UInt8), s.length ≤ 5000 ∧ ∀ W, Below (w.heap.size + 1) w1 W → W.cell? ⟨g0, i * 3, none⟩ = some (.int .i64 d) ∧ W.cell? ⟨g0, i * 3 + 1, none⟩ = some (.string ⟨s.toArray⟩) ∧ W.cell? ⟨g0, i * 3 + 2, none⟩ = some (.int .i64 e) from fun i hi => by
      obtain ⟨d, e, s, h1, h2, h3, h4⟩ := hcells i hi
      have hl := World.block_lt_of_cell? w _ h1
      have hl2 : g0 < w.heap.size := hl
      exact ⟨d, e, s, h4, fun W hW => ⟨(hW.cell (p := ⟨g0, i * 3, none⟩) (by show g0 < w.heap.size + 1; omega)).trans ((hb1.cell (p := ⟨g0, i * 3, none⟩) hl).trans h1), (hW.cell (p := ⟨g0, i * 3 + 1, none⟩) (by show g0 < w.heap.size + 1; omega)).trans ((hb1.cell (p := ⟨g0, i * 3 + 1, none⟩) hl).trans h2), (hW.cell (p := ⟨g0, i * 3 + 2, none⟩) (by show g0 < w.heap.size + 1; omega)).trans ((hb1.cell (p := ⟨g0, i * 3 + 2, none⟩) hl).trans h3)⟩⟩)
    clear hcells
    go_enter Tryz.func99, Tryz.ntmps99
    go_wp2
    rw [HW1.out]
    go_loopw [4, 5, 6] (fun ov dv iv W => ∃ (t : Bool) (k n : Nat), dv = .bool t ∧ iv = .int .i64 k ∧ k ≤ n0 ∧ n ≤ k + 1 ∧ (t = false → n ≤ k) ∧ RowKit.Hid (PS w1 (w.heap.size + 1) w.heap.size w.heap.size (nmA xd xs xe) (nmA xd xs xe) W ov n)) (fun _ _ iv _ => n0 - (intOf iv).toNat)
    case atStart => exact ⟨false, 0, 0, rfl, rfl, Nat.zero_le _, by omega, fun _ => Nat.le_refl _, HP1⟩
    case round =>
      obtain ⟨t, k, n, rfl, rfl, hk, hn, hnt, HP⟩ := hrel
      obtain ⟨gW, gz⟩ := GF.out wr HP.out.below
      have HNT := Lib.hid hnt
      clear hnt
      by_cases hlt : k < n0
      · obtain ⟨yd, ye, ys, hys, hyc⟩ := HG0.out k hlt
        obtain ⟨d1, d2, d3⟩ := hyc wr HP.out.below
        by_cases hyx : xd = yd
        · subst hyx
          have HY := Lib.hid (show NameV (nmA xd ys ye) from ⟨xd, ye, ys, rfl, hys⟩)
          have HP2 := Lib.hid (HP.out.newY (nmA xd ys ye))
          have HCY := Lib.hid (show ∀ W v n, PS w1 (w.heap.size + 1) w.heap.size wr.heap.size (nmA xd xs xe) (nmA xd ys ye) W v n → W.cell? ⟨wr.heap.size, 0, none⟩ = some (.int .i64 xd) ∧ W.cell? ⟨wr.heap.size, 1, none⟩ = some (.string ⟨ys.toArray⟩) ∧ W.cell? ⟨wr.heap.size, 2, none⟩ = some (.int .i64 ye) from fun W v n hp => by
            have := hp.y
            unfold nmA at this
            exact ⟨by simp [World.cell?, this], by simp [World.cell?, this], by simp [World.cell?, this]⟩)
          obtain ⟨x20, x21, x22⟩ := HCX.out _ _ _ _ _ HP.out
          have hwr : w.heap.size < wr.heap.size := by have := HP.out.base; omega
          clear hyc hys
          cases t
          · have hn5 := HNT.out rfl
            go_wp2_with first
              | (at_builtin; refine append_n rfl _ _ rfl rfl (HP5.out.alloc _) (by omega) (nmA xd ys ye) HY.out W5.heap.size rfl (r_alloc_at _ _) ?_; intro g6 cap6 W6 hP6; have HP6 := Lib.hid hP6; clear hP6)
              | (at_builtin; refine append_n rfl _ _ rfl rfl (HP2.out.alloc _) (by omega) (nmA xd ys ye) HY.out (wr.heap.size + 1) rfl (alloc2_at _ _ _) ?_; intro g6 cap6 W6 hP6; have HP6 := Lib.hid hP6; clear hP6)
              | (at_builtin; refine append_n rfl _ _ rfl rfl (HP2.out.alloc _) (by omega) (nmA xd xs xe) HX.out (wr.heap.size + 1) rfl (alloc2_at _ _ _) ?_; intro g5 cap5 W5 hP5; have HP5 := Lib.hid hP5; obtain ⟨y50, y51, y52⟩ := HCY.out _ _ _ hP5; clear hP5)
            · go_roundw
              case rel => first
                | exact ⟨true, k + 1, n + 1 + 1, rfl, by go_num, by omega, by omega, (fun q => by cases q), Lib.hid HP6.out.drop⟩
                | exact ⟨false, k + 1, n + 1, rfl, by go_num, by omega, by omega, (fun q => by omega), Lib.hid HP6.out.drop⟩
              case measure => simp [intOf]; omega
            · go_roundw
              case rel => first
                | exact ⟨true, k + 1, n + 1 + 1, rfl, by go_num, by omega, by omega, (fun q => by cases q), Lib.hid HP6.out.drop⟩
                | exact ⟨false, k + 1, n + 1, rfl, by go_num, by omega, by omega, (fun q => by omega), Lib.hid HP6.out.drop⟩
              case measure => simp [intOf]; omega
          · go_wp2_with first
              | (at_builtin; refine append_n rfl _ _ rfl rfl (HP2.out.alloc _) (by omega) (nmA xd ys ye) HY.out (wr.heap.size + 1) rfl (alloc2_at _ _ _) ?_; intro g6 cap6 W6 hP6; have HP6 := Lib.hid hP6; clear hP6)
            go_roundw
            case rel => exact ⟨true, k + 1, n + 1, rfl, by go_num, by omega, by omega, (fun q => by cases q), Lib.hid HP6.out.drop⟩
            case measure => simp [intOf]; omega
        · skip
          have HY := Lib.hid (show NameV (nmA yd ys ye) from ⟨yd, ye, ys, rfl, hys⟩)
          have HP2 := Lib.hid (HP.out.newY (nmA yd ys ye))
          have HCY := Lib.hid (show ∀ W v n, PS w1 (w.heap.size + 1) w.heap.size wr.heap.size (nmA xd xs xe) (nmA yd ys ye) W v n → W.cell? ⟨wr.heap.size, 0, none⟩ = some (.int .i64 yd) ∧ W.cell? ⟨wr.heap.size, 1, none⟩ = some (.string ⟨ys.toArray⟩) ∧ W.cell? ⟨wr.heap.size, 2, none⟩ = some (.int .i64 ye) from fun W v n hp => by
            have := hp.y
            unfold nmA at this
            exact ⟨by simp [World.cell?, this], by simp [World.cell?, this], by simp [World.cell?, this]⟩)
          obtain ⟨x20, x21, x22⟩ := HCX.out _ _ _ _ _ HP.out
          have hwr : w.heap.size < wr.heap.size := by have := HP.out.base; omega
          clear hyc hys
          cases t
          · have hn5 := HNT.out rfl
            go_wp2_with first
              | (at_builtin; refine append_n rfl _ _ rfl rfl (HP5.out.alloc _) (by omega) (nmA yd ys ye) HY.out W5.heap.size rfl (r_alloc_at _ _) ?_; intro g6 cap6 W6 hP6; have HP6 := Lib.hid hP6; clear hP6)
              | (at_builtin; refine append_n rfl _ _ rfl rfl (HP2.out.alloc _) (by omega) (nmA yd ys ye) HY.out (wr.heap.size + 1) rfl (alloc2_at _ _ _) ?_; intro g6 cap6 W6 hP6; have HP6 := Lib.hid hP6; clear hP6)
              | (at_builtin; refine append_n rfl _ _ rfl rfl (HP2.out.alloc _) (by omega) (nmA xd xs xe) HX.out (wr.heap.size + 1) rfl (alloc2_at _ _ _) ?_; intro g5 cap5 W5 hP5; have HP5 := Lib.hid hP5; obtain ⟨y50, y51, y52⟩ := HCY.out _ _ _ hP5; clear hP5)
            · go_roundw
              case rel => first
                | exact ⟨true, k + 1, n + 1 + 1, rfl, by go_num, by omega, by omega, (fun q => by cases q), Lib.hid HP6.out.drop⟩
                | exact ⟨false, k + 1, n + 1, rfl, by go_num, by omega, by omega, (fun q => by omega), Lib.hid HP6.out.drop⟩
              case measure => simp [intOf]; omega
            · go_roundw
              case rel => first
                | exact ⟨true, k + 1, n + 1 + 1, rfl, by go_num, by omega, by omega, (fun q => by cases q), Lib.hid HP6.out.drop⟩
                | exact ⟨false, k + 1, n + 1, rfl, by go_num, by omega, by omega, (fun q => by omega), Lib.hid HP6.out.drop⟩
              case measure => simp [intOf]; omega
          · go_wp2_with first
              | (at_builtin; refine append_n rfl _ _ rfl rfl (HP2.out.alloc _) (by omega) (nmA yd ys ye) HY.out (wr.heap.size + 1) rfl (alloc2_at _ _ _) ?_; intro g6 cap6 W6 hP6; have HP6 := Lib.hid hP6; clear hP6)
            go_roundw
            case rel => exact ⟨true, k + 1, n + 1, rfl, by go_num, by omega, by omega, (fun q => by cases q), Lib.hid HP6.out.drop⟩
            case measure => simp [intOf]; omega
      · obtain rfl : k = n0 := by omega
        cases t
        · have hn5 := HNT.out rfl
          obtain ⟨x20, x21, x22⟩ := HCX.out _ _ _ _ _ HP.out
          go_wp2_with (at_builtin; refine append_n rfl _ _ rfl rfl (HP.out.alloc _) (by omega) (nmA xd xs xe) HX.out wr.heap.size rfl (r_alloc_at _ _) ?_; intro g6 cap6 W6 hP6; have HP6 := Lib.hid hP6; obtain ⟨gW6, gz6⟩ := GF.out W6 hP6.below; clear hP6)
          go_end0
          exact ⟨⟨_, rfl⟩, HE.out _ _ _ HP6.out.drop (by omega)⟩
        · obtain ⟨a9, c9, rfl⟩ := HP.out.own.form
          go_wp2
          go_end0
          exact ⟨⟨_, rfl⟩, HE.out _ _ _ HP.out (by omega)⟩
end
end Go.Proofs.YtggdedihfhibfaaGreatDoor
/- The document's tree: something is made. -/
namespace Go.Proofs.YtggdedihfhibfaaGreatDoor
open Go.RowKit IntWalk
set_option linter.unusedVariables false
set_option linter.unusedSimpArgs false

section
variable {N M : Nat} {b : RB} {O : Nat → Prop} {w w' : World}
theorem RStep.more {M' M2 : Nat} {O' : Nat → Prop} (h : RStep N M b O w M' O' w') (hM : M' ≤ M2) : RStep N M b O w M2 O' w' := ⟨h.is.mono (fun _ q => q) h.is.own_lt hM, h.turned, h.own⟩
theorem RIs.pcell (h : RIs N M b O w) {j : Nat} (hj : j ≤ N) : (∃ n : Int, w.cell? ⟨b.P, j, none⟩ = some (.int .i64 n)) ∧ w.frozen? ⟨b.P, j, none⟩ = false := by
  obtain ⟨cs, l1, l2, l3⟩ := h.p
  obtain ⟨n, hn⟩ := l3 j hj
  exact ⟨⟨n, by simp [World.cell?, l1, hn]⟩, by simp [World.frozen?, l1]⟩
theorem RStep.setPar {M' : Nat} {O' : Nat → Prop} (h : RStep N M b O w M' O' w') {j : Nat} (hj : j ≤ N) (d : Int) : RStep N M b O w M' O' (w'.setCell ⟨b.P, j, none⟩ (.int .i64 d)) := by
  obtain ⟨cs, l1, l2, l3⟩ := h.is.p
  refine ⟨h.is.putP (fun k hk => set_ne _ _ _ _ _ hk) (set_row l1) (by simpa using l2) fun i hi => ?_, h.turned.set _ _ (fun q => (h.own _ h.is.oP).resolve_right (by show ¬ w.heap.size ≤ b.P; exact Nat.not_le.2 q)), h.own⟩
  obtain ⟨n, hn⟩ := l3 i hi
  have := setB_get cs j i (.int .i64 d) _ hn
  split at this
  · exact ⟨_, this⟩
  · exact ⟨_, this⟩
/-- what a making answers, and leaves -/
def MkPost (N M : Nat) (b : RB) (O : Nat → Prop) (w : World) (e : Ending) (w' : World) : Prop := (∃ n c : Int, e = .returned (.tuple #[.int .i64 n, .int .i64 c])) ∧ ∃ O', RStep N M b O w (M + 1) O' w'
set_option maxRecDepth 100000 in
set_option maxHeartbeats 2000000 in
theorem rmade_any (h : RIs N M b O w) (hM : M ≤ 900) (i : Int) (p : List UInt8) (hp : p.length ≤ 400) (kind : Int) (hk1 : 1 ≤ kind) (hk3 : kind ≤ 3) (d : List UInt8) (hd : d.length ≤ 400) :
    Calls Tryz.prog 58 #[ptrTo b.F, .int .i64 i, .string ⟨p.toArray⟩, .int .i64 kind, .string ⟨d.toArray⟩] w (MkPost N M b O w) := by
  have HL := Lib.hid (rfree_any h (by omega) i p hp)
  have hN := h.small
  unfold ptrTo at *
  go_enter Tryz.func58, Tryz.ntmps58
  go_wp2_with first
    | (go_at_call 97; (with_reducible refine HL.out.mono ?_); rintro e w1 ⟨⟨dd, c, nm, rfl, hnm⟩, hb1⟩; have h1 := RStep.ofBelow h hb1; have f0 := h1.is.f0; unfold ptrTo at f0)
    | (go_at_call 90; (refine (make_r h1.is kind hk1 hk3).mono ?_); rintro e w2 (⟨c2, rfl, hc2, hs2⟩ | ⟨j, O2, hj1, hj2, rfl, hs2⟩); rotate_left; have h2 := h1.trans hs2; have g0 := h2.is.f0; unfold ptrTo at g0; rotate_left)
    | (go_at_call 91; (refine (tie_r h2.is _).mono ?_); rintro e w3 ⟨⟨c3, rfl⟩, hs3⟩; have h3 := h2.trans hs3; have k0 := h3.is.f0; unfold ptrTo at k0)
    | (go_at_call 93; (refine (write_r h3.is _ d hd).mono ?_); rintro e w4 ⟨⟨n4, c4, rfl⟩, hs4⟩; have h4 := h3.trans hs4; have l0 := h4.is.f0; have l2 := h4.is.f2; obtain ⟨⟨pp, hpp⟩, hpz⟩ := h4.is.pcell hj2; have h45 := Lib.hid (h4.setPar hj2 dd); unfold ptrTo at l0)
    | (go_at_call 98; (refine (untie_r h4.is _).mono ?_); rintro e w5 ⟨⟨c5, rfl⟩, hs5⟩; have h5 := h4.trans hs5)
    | (go_at_call 99; (refine (put_r h45.out.is (by omega) _ _ nm hnm).mono ?_); rintro e w6 ⟨⟨v6, rfl⟩, O6, hs6⟩; have h6 := h45.out.trans hs6)
  all_goals go_ret2
  · exact ⟨⟨_, _, rfl⟩, _, h1.more (by omega)⟩
  · exact ⟨⟨_, _, rfl⟩, _, (h1.trans hs2).more (by omega)⟩
  · exact ⟨⟨_, _, rfl⟩, _, h5.more (by omega)⟩
  · exact ⟨⟨_, _, rfl⟩, _, h6⟩
end
end Go.Proofs.YtggdedihfhibfaaGreatDoor
/- The document's tree: Make, Mkdir, Symlink. -/
namespace Go.Proofs.YtggdedihfhibfaaGreatDoor
open Go.RowKit IntWalk
set_option linter.unusedVariables false
set_option linter.unusedSimpArgs false

section
variable {N M : Nat} {b : RB} {O : Nat → Prop} {w w' : World}
theorem rMake_any (h : RIs N M b O w) (hM : M ≤ 900) (i : Int) (p : List UInt8) (hp : p.length ≤ 400) :
    Calls Tryz.prog 28 #[ptrTo b.F, .int .i64 i, .string ⟨p.toArray⟩] w (MkPost N M b O w) := by
  have HL := Lib.hid (rmade_any h hM i p hp 1 (by omega) (by omega) [] (by simp))
  unfold ptrTo at *
  go_enter Tryz.func28, Tryz.ntmps28
  go_wp2_with (go_at_call 58; (refine HL.out.mono ?_); rintro e w1 ⟨⟨n, c, rfl⟩, hO⟩)
  go_ret2
  exact ⟨⟨_, _, rfl⟩, hO⟩
theorem rMkdir_any (h : RIs N M b O w) (hM : M ≤ 900) (i : Int) (p : List UInt8) (hp : p.length ≤ 400) :
    Calls Tryz.prog 26 #[ptrTo b.F, .int .i64 i, .string ⟨p.toArray⟩] w fun e w' => (∃ c, e = .returned (.int .i64 c)) ∧ ∃ O', RStep N M b O w (M + 1) O' w' := by
  have HL := Lib.hid (rmade_any h hM i p hp 2 (by omega) (by omega) [] (by simp))
  unfold ptrTo at *
  go_enter Tryz.func26, Tryz.ntmps26
  go_wp2_with (go_at_call 58; (refine HL.out.mono ?_); rintro e w1 ⟨⟨n, c, rfl⟩, hO⟩)
  go_ret
  exact ⟨⟨_, rfl⟩, hO⟩
theorem rSymlink_any (h : RIs N M b O w) (hM : M ≤ 900) (i : Int) (d p : List UInt8) (hd : d.length ≤ 400) (hp : p.length ≤ 400) :
    Calls Tryz.prog 24 #[ptrTo b.F, .int .i64 i, .string ⟨d.toArray⟩, .string ⟨p.toArray⟩] w fun e w' => (∃ c, e = .returned (.int .i64 c)) ∧ ∃ O', RStep N M b O w (M + 1) O' w' := by
  have HD := Lib.hid (rdir_any h i)
  unfold ptrTo at *
  go_enter Tryz.func24, Tryz.ntmps24
  go_wp2_with first
    | (go_at_call 57; (with_reducible refine HD.out.mono ?_); rintro e w1 ⟨⟨t, rfl, ht⟩, hb1⟩; have h1 := RStep.ofBelow h hb1)
    | (go_at_call 58; (refine (rmade_any h1.is hM i p hp 3 (by omega) (by omega) d hd).mono ?_); rintro e w2 ⟨⟨n, c, rfl⟩, O2, hO⟩)
  all_goals go_ret
  all_goals first
    | exact ⟨⟨_, rfl⟩, _, h1.trans hO⟩
    | exact ⟨⟨_, rfl⟩, _, h1.more (Nat.le_succ _)⟩
end
end Go.Proofs.YtggdedihfhibfaaGreatDoor
/- The document's tree: a new one. -/
namespace Go.Proofs.YtggdedihfhibfaaGreatDoor
open Go.RowKit IntWalk
set_option linter.unusedVariables false
set_option linter.unusedSimpArgs false

/-- 31 nodes of none, and 31 noughts -/
def nodesO : Obj := .cells (madeCells #[.int .i64 0, .int .i64 0, .int .i64 0, .string ⟨#[]⟩, .slice none 0 0] 155) 164
def parsO : Obj := .cells (madeCells #[.int .i64 0] 31) 3
theorem run_nodes (w : World) : (Instr.makeSlice 213 (.int .i64 31) (.int .i64 31)).run Tryz.prog w = .ok (.slice (some ⟨w.heap.size, 0, none⟩) 31 31) (w.alloc nodesO) := by
  obtain ⟨i, hi, h1, h2, h3⟩ := info_parts (show (Tryz.prog.info? 164).map (fun i => (i.zero, i.size, i.bytes)) = some (some (.agg #[.int .i64 0, .int .i64 0, .int .i64 0, .string ⟨#[]⟩, .slice none 0 0]), 5, 64) by kernel_rfl)
  have := run_make (P := Tryz.prog) w 213 164 i _ Tryz.underlying213 hi h1 .i64 .i64 31 31 (by omega) (by omega) (by rw [h3]; omega) (by omega)
  rw [this, h2]
  unfold nodesO
  rfl
theorem run_pars (w : World) : (Instr.makeSlice 155 (.int .i64 31) (.int .i64 31)).run Tryz.prog w = .ok (.slice (some ⟨w.heap.size, 0, none⟩) 31 31) (w.alloc parsO) := by
  obtain ⟨i, hi, h1, h2, h3⟩ := info_parts (show (Tryz.prog.info? 3).map (fun i => (i.zero, i.size, i.bytes)) = some (some (.int .i64 0), 1, 8) by kernel_rfl)
  have := run_make (P := Tryz.prog) w 155 3 i _ Tryz.underlying155 hi h1 .i64 .i64 31 31 (by omega) (by omega) (by rw [h3]; omega) (by omega)
  rw [this, h2]
  unfold parsO
  rfl
theorem made_get (z : Array Value) (n j : Nat) (hj : j < n) : (madeCells z n)[j]? = some (z[j % z.size]!) := by
  simp [madeCells, hj]
theorem nodes_at (i : Nat) (hi : i ≤ 30) (O : Nat → Prop) (w : World) : NdAt O w (madeCells #[.int .i64 0, .int .i64 0, .int .i64 0, .string ⟨#[]⟩, .slice none 0 0] 155) i := by
  refine ⟨0, 0, 0, [], .slice none 0 0, ?_, ?_, ?_, ?_, ?_, .inl rfl, .inl rfl, by simp⟩
  · rw [made_get _ _ _ (by omega), show i * 5 % (#[Value.int .i64 0, .int .i64 0, .int .i64 0, .string ⟨#[]⟩, .slice none 0 0] : Array Value).size = 0 by show i * 5 % 5 = 0; omega]; rfl
  · rw [made_get _ _ _ (by omega), show (i * 5 + 1) % (#[Value.int .i64 0, .int .i64 0, .int .i64 0, .string ⟨#[]⟩, .slice none 0 0] : Array Value).size = 1 by show (i * 5 + 1) % 5 = 1; omega]; rfl
  · rw [made_get _ _ _ (by omega), show (i * 5 + 2) % (#[Value.int .i64 0, .int .i64 0, .int .i64 0, .string ⟨#[]⟩, .slice none 0 0] : Array Value).size = 2 by show (i * 5 + 2) % 5 = 2; omega]; rfl
  · rw [made_get _ _ _ (by omega), show (i * 5 + 3) % (#[Value.int .i64 0, .int .i64 0, .int .i64 0, .string ⟨#[]⟩, .slice none 0 0] : Array Value).size = 3 by show (i * 5 + 3) % 5 = 3; omega]; rfl
  · rw [made_get _ _ _ (by omega), show (i * 5 + 4) % (#[Value.int .i64 0, .int .i64 0, .int .i64 0, .string ⟨#[]⟩, .slice none 0 0] : Array Value).size = 4 by show (i * 5 + 4) % 5 = 4; omega]; rfl
theorem pars_at (i : Nat) (hi : i ≤ 30) : (madeCells #[.int .i64 0] 31)[i]? = some (.int .i64 0) := by
  rw [made_get _ _ _ (by omega), show i % (#[Value.int .i64 0] : Array Value).size = 0 by show i % 1 = 0; omega]; rfl
/-- a tree of 30 nodes, as it is laid -/
theorem r_laid (w1 : World) (F T L P : Nat) (h0 : w1.heap[L]? = some nodesO) (h1 : w1.heap[T]? = some (.cells #[.slice (some ⟨L, 0, none⟩) 31 31, .int .i64 200] 215 (0, 0)))
    (h2 : w1.heap[P]? = some parsO) (h3 : w1.heap[F]? = some (.cells #[ptrTo T, .slice none 0 0, .slice (some ⟨P, 0, none⟩) 31 31] 158 (0, 0))) :
    RIs 30 0 ⟨F, T, L, P⟩ (fun q => q = F ∨ q = T ∨ q = L ∨ q = P) w1 :=
  ⟨⟨_, h3, .inl rfl⟩, ⟨_, h1⟩, ⟨_, h0, size_madeCells _ _, fun i hi => nodes_at i hi _ _⟩, ⟨_, h2, size_madeCells _ _, fun i hi => ⟨0, pars_at i hi⟩⟩, .inl rfl, .inr (.inl rfl), .inr (.inr (.inl rfl)), .inr (.inr (.inr rfl)), by omega, fun q hq => by
    rcases hq with rfl | rfl | rfl | rfl
    · exact blk_lt h3
    · exact blk_lt h1
    · exact blk_lt h0
    · exact blk_lt h2⟩
theorem rtable_new (w : World) : Calls Tryz.prog 89 #[.int .i64 30, .int .i64 200] w fun e w' => e = .returned (.tuple #[ptrTo (w.heap.size + 1), .int .i64 0]) ∧ w' = (w.alloc nodesO).alloc (.cells #[.slice (some ⟨w.heap.size, 0, none⟩) 31 31, .int .i64 200] 215 (0, 0)) := by
  have hr := fun W => run_nodes W
  go_enter Tryz.func89, Tryz.ntmps89
  go_wp2
  go_ret2
  exact ⟨rfl, rfl⟩
set_option maxRecDepth 100000 in
theorem rnew_any (w : World) : Calls Tryz.prog 54 #[.int .i64 30, .int .i64 200] w fun e w' => ∃ (b : RB) (O : Nat → Prop), e = .returned (.tuple #[ptrTo b.F, .int .i64 0]) ∧ RIs 30 0 b O w' ∧ (∀ k, O k → w.heap.size ≤ k) ∧ Below w.heap.size w w' := by
  have HT := Lib.hid (rtable_new w)
  have hr := fun W => run_pars W
  have HR := Lib.hid (fun (w1 : World) (hw1 : w1 = (w.alloc nodesO).alloc (.cells #[.slice (some ⟨w.heap.size, 0, none⟩) 31 31, .int .i64 200] 215 (0, 0))) => show RIs 30 0 ⟨w1.heap.size + 1, w.heap.size + 1, w.heap.size, w1.heap.size⟩ (fun q => q = w1.heap.size + 1 ∨ q = w.heap.size + 1 ∨ q = w.heap.size ∨ q = w1.heap.size) ((w1.alloc parsO).alloc (.cells #[ptrTo (w.heap.size + 1), .slice none 0 0, .slice (some ⟨w1.heap.size, 0, none⟩) 31 31] 158 (0, 0))) ∧ Below w.heap.size w ((w1.alloc parsO).alloc (.cells #[ptrTo (w.heap.size + 1), .slice none 0 0, .slice (some ⟨w1.heap.size, 0, none⟩) 31 31] 158 (0, 0))) ∧ w1.heap.size = w.heap.size + 2 from by
    subst hw1
    have e1 : ((w.alloc nodesO).alloc (.cells #[.slice (some ⟨w.heap.size, 0, none⟩) 31 31, .int .i64 200] 215 (0, 0))).heap.size = w.heap.size + 2 := by simp
    refine ⟨r_laid _ _ _ _ _ ?_ ?_ ?_ ?_, ?_, e1⟩
    · rw [Below.heap_alloc _ _ _ (by simp; omega), Below.heap_alloc _ _ _ (by simp; omega), Below.heap_alloc _ _ _ (by simp), r_alloc_at]
    · rw [Below.heap_alloc _ _ _ (by simp), Below.heap_alloc _ _ _ (by simp), alloc2_at]
    · rw [Below.heap_alloc _ _ _ (by simp), r_alloc_at]
    · rw [alloc2_at]
    · exact ((((Below.refl w.heap.size w).alloc (Nat.le_refl _) _).alloc (by simp) _).alloc (by simp; omega) _).alloc (by simp; omega) _)
  have HB := Lib.hid (fun (w1 : World) (b : RB) (O O' : Nat → Prop) (w2 w3 : World) (hb : Below w.heap.size w w2) (hO : ∀ k, O k → w.heap.size ≤ k) (hs : RStep 30 0 b O w2 0 O' w3) => show Below w.heap.size w w3 ∧ (∀ k, O' k → w.heap.size ≤ k) from
    ⟨⟨hs.turned.os.trans hb.os, hs.turned.tape.trans hb.tape, hs.turned.output.trans hb.output, Nat.le_trans hb.size hs.turned.size, fun k hk => (hs.turned.block k (Nat.lt_of_lt_of_le hk hb.size) (fun q => by have := hO k q; omega)).trans (hb.block k hk)⟩, fun k q => (hs.own k q).elim (hO k) (fun e => Nat.le_trans hb.size e)⟩)
  unfold ptrTo at *
  go_enter Tryz.func54, Tryz.ntmps54
  go_wp2_with first
    | (go_at_call 89; (with_reducible refine HT.out.mono ?_); rintro e w1 ⟨rfl, hw1⟩; obtain ⟨r1, r2, r3⟩ := HR.out w1 hw1; have HR1 := Lib.hid r1; have HR2 := Lib.hid r2; have HR3 := Lib.hid r3; clear hw1 r1 r2 r3)
    | (go_at_call 90; (refine (make_r HR1.out 2 (by omega) (by omega)).mono ?_); rintro e w2 (⟨c2, rfl, hc2, hs2⟩ | ⟨j2, O2, hj1, hj2, rfl, hs2⟩))
    | (go_at_call 91; (refine (tie_r hs2.is _).mono ?_); rintro e w3 ⟨⟨c3, rfl⟩, hs3⟩; have h3 := hs2.trans hs3; have k2 := h3.is.f2; obtain ⟨⟨pp, hpp⟩, hpz⟩ := h3.is.pcell (j := 1) (by omega); have h45 := Lib.hid (h3.setPar (j := 1) (by omega) 1))
  all_goals go_ret2
  all_goals
    obtain ⟨q1, q2⟩ := HB.out w1 _ _ _ _ _ HR2.out (fun k q => by have := HR3.out; omega) h45.out
    exact ⟨_, _, rfl, h45.out.is, q2, q1⟩
end Go.Proofs.YtggdedihfhibfaaGreatDoor
