/- Texts of one proof, packed: GlE -/
import Derived.Test.YtggdedihfhibfaaGreatDoorR12
import Derived.Test.YtggdedihfhibfaaGreatDoorR06
import Derived.RangeFuncBox
set_option linter.unusedVariables false
set_option linter.unusedSimpArgs false
set_option linter.deprecated false
set_option linter.unnecessarySimpa false
/- glob.Parse -/
namespace Go.Proofs.YtggdedihfhibfaaGreatDoor
open Go.RowKit IntWalk Go.Shelf
set_option linter.unusedVariables false
set_option linter.unusedSimpArgs false
attribute [local go_sem] Oper.semAt_some

theorem tokens_any (s : List UInt8) (a0 : Option Addr) (n0 c0 : Nat) (w : World) :
    Calls Tryz.prog 40 #[.agg #[.string ⟨s.toArray⟩, .slice a0 n0 c0]] w fun e w' => e = .returned (.func (.func 73) #[] #[.pointer (some ⟨w.heap.size, 0, none⟩)]) ∧ w' = w.alloc (.cells #[.string ⟨s.toArray⟩, .slice a0 n0 c0] 88) := by
  go_enter Tryz.func40, Tryz.ntmps40
  go_wp2
  go_ret
  exact ⟨rfl, rfl⟩
theorem info_tok : (Tryz.prog.info? 49).map (fun i => (i.zero, i.size, i.bytes)) = some (some (.agg #[.int .i64 0, .int .u8 0, .bool false, .slice none 0 0]), 4, 40) := by kernel_rfl
/-- a token's cells -/
def cellsX (x : TokX) : List Value := [.int .i64 x.t.k, .int .u8 x.t.c.toNat, .bool x.t.neg, x.rv]
theorem cell_four_new (w : World) (a b c d : Value) (t : TypeId) : ∀ j u, [a, b, c, d][j]? = some u → (w.alloc (.cells #[a, b, c, d] t)).cell? ((⟨w.heap.size, 0, none⟩ : Addr).add j) = some u := by
  intro j u hj
  match j, hj with
  | 0, hj => simp at hj; subst hj; simp [Addr.add]
  | 1, hj => simp at hj; subst hj; simp [Addr.add]
  | 2, hj => simp at hj; subst hj; simp [Addr.add]
  | 3, hj => simp at hj; subst hj; simp [Addr.add]
theorem OwnR.type {w : World} {base : Nat} {v : Value} {rs : List (UInt8 × UInt8)} (h : OwnR w base v rs) : ∀ k, v.ownBlock = some k → ∃ cur, w.heap[k]? = some (.cells cur 193 (0, 0)) := by
  intro k hk
  obtain ⟨h3, hr⟩ := h
  rcases hr with ⟨rfl, hn⟩ | ⟨g, cap, cur, rfl, hbg, hg, hr⟩
  · cases hk
  · cases hk; exact ⟨cur, hg⟩
theorem row_type {w : World} {base n size : Nat} {e : TypeId} {v : Value} {xs : List Value} (h : w.ownsRow base e size v n xs) : ∀ k, v.ownBlock = some k → ∃ cur, w.heap[k]? = some (.cells cur e (0, 0)) := by
  intro k hk
  obtain ⟨h3, hr⟩ := h
  rcases hr with ⟨rfl, hn⟩ | ⟨g, cap, cur, rfl, hbg, hg, hr⟩
  · cases hk
  · cases hk; exact ⟨cur, hg⟩
/-- a block of another type lies as it lay behind an append and the store of what it gave -/
theorem app_other {W w1 : World} {e t ty : TypeId} {base n size B k : Nat} {u v v' : Value} {xs : List Value} {cur : Array Value} {tmp : Obj} (hr : W.ownsRow base e size v n xs) (hv : Boxed W B t u) (hg : (W.alloc tmp).grownBy w1 v.ownBlock)
    (hk : W.heap[k]? = some (.cells cur ty (0, 0))) (h1 : ty ≠ e) (h2 : ty ≠ t) : (w1.setCell ⟨B, 0, none⟩ v').heap[k]? = W.heap[k]? := by
  rw [Below.heap_setCell _ _ _ _ (fun e' => by
    have hv' : W.heap[B]? = some (.cells #[u] t (0, 0)) := hv
    have e'' : k = B := by simpa using e'
    rw [← e'', hk] at hv'
    cases hv'
    exact h2 rfl)]
  rw [hg.block k (by have := blk_lt hk; simp; omega) (fun e' => by
    obtain ⟨c, hc⟩ := row_type hr k e'.symm
    rw [hk] at hc
    cases hc
    exact h1 rfl)]
  exact Below.heap_alloc _ _ _ (blk_lt hk)
theorem TX.keep {x : TokX} {W W' : World} (h : TX x W) (hk : ∀ (k : Nat) (cur : Array Value), W.heap[k]? = some (Obj.cells cur 193 (0, 0)) → W'.heap[k]? = W.heap[k]?) : TX x W' :=
  OwnR.kept h (fun k e => by obtain ⟨cur, hc⟩ := OwnR.type h k e; exact hk k cur hc)
theorem grown_cells {W W' : World} {row : Option Nat} {k : Nat} {cur : Array Value} {ty : TypeId} {fz : Nat × Nat} (hg : W.grownBy W' row) (hr : ∀ r, row = some r → ∃ o : Obj, W.heap[r]? = some o ∧ o.isCells = false) (hk : W.heap[k]? = some (.cells cur ty fz)) : W'.heap[k]? = W.heap[k]? :=
  hg.block k (blk_lt hk) (fun e => by obtain ⟨o, ho, hc⟩ := hr k e.symm; rw [hk] at ho; cases ho; cases hc)
theorem TX.form {t : GTok} {rv : Value} {W : World} (h : TX ⟨t, rv⟩ W) : ∃ a c, rv = .slice a t.rs.length c := OwnR.form h
theorem TX.own (B : Nat) : OwnFrom B TX := fun x W W' row h hg hr => TX.keep h (fun k cur hk => grown_cells hg (fun r e => (hr r e).2) hk)
/-- what lies between two rounds -/
structure PI (w : World) (s : List UInt8) (qv : Value) (pre : List TokX) (W : World) : Prop where
  row : ∃ v, Boxed W w.heap.size 41 v ∧ W.ownsRow w.heap.size 49 4 v pre.length (pre.flatMap cellsX)
  tx : ∀ x ∈ pre, TX x W
  p : W.heap[w.heap.size + 1]? = some (.cells #[.string ⟨s.toArray⟩, qv] 88 (0, 0))
  below : Below w.heap.size w W
theorem PI.own (w : World) (s : List UInt8) (qv : Value) (B : Nat) (hB : w.heap.size ≤ B) : OwnFrom B (PI w s qv) := by
  intro pre W W' row h hg hr
  obtain ⟨v, hv, hrow⟩ := h.row
  refine ⟨⟨v, (grown_cells hg (fun r e => (hr r e).2) hv).trans hv, hrow.kept hg ?_⟩, fun x hx => TX.own B x W W' row (h.tx x hx) hg hr, (grown_cells hg (fun r e => (hr r e).2) h.p).trans h.p, h.below.grown hg h.below.size (fun k e => Nat.le_trans hB (hr k e).1)⟩
  cases e : v.ownBlock with
  | none => exact .inl rfl
  | some g =>
    refine .inr fun e2 => ?_
    obtain ⟨cur, hc⟩ := row_type hrow g e
    obtain ⟨o, ho, hoc⟩ := (hr g e2.symm).2
    rw [hc] at ho; cases ho; cases hoc
theorem PI.alloc {w W : World} {s : List UInt8} {qv : Value} {pre : List TokX} (h : PI w s qv pre W) (o : Obj) : PI w s qv pre (W.alloc o) :=
  PI.own w s qv w.heap.size (Nat.le_refl _) pre W _ none h (World.grownBy_alloc W o none) (fun r e => by cases e)
/-- the loop variable's box -/
def AxP (w : World) (s : List UInt8) (qv : Value) (x : TokX) (a : Act) (W : World) : Prop := ∃ tb, W.heap[tb]? = some (.cells #[.int .i64 x.t.k, .int .u8 x.t.c.toNat, .bool x.t.neg, x.rv] 49 (0, 0)) ∧
  a = { tmps := #[.string ⟨s.toArray⟩, qv, undef, undef, .slice none 0 0, .pointer (some ⟨w.heap.size, 0, none⟩), .pointer (some ⟨tb, 0, none⟩), .string ⟨s.toArray⟩, qv, .agg #[.string ⟨s.toArray⟩, qv], .func (.func 73) #[] #[.pointer (some ⟨w.heap.size + 1, 0, none⟩)], tokV x.t.k x.t.c x.t.neg x.rv, undef, undef, undef, undef, undef], defers := [] }
theorem tok_at : ∀ (L : List TokX) (k j : Nat) (x : TokX), L[k]? = some x → j < 4 → (L.flatMap cellsX)[k * 4 + j]? = (cellsX x)[j]?
  | [], k, j, x, hk, _ => by simp at hk
  | y :: L, 0, j, x, hk, hj => by
    simp at hk
    subst hk
    rw [List.flatMap_cons, List.getElem?_append_left (by simp [cellsX]; omega)]
    simp
  | y :: L, k + 1, j, x, hk, hj => by
    rw [List.flatMap_cons, List.getElem?_append_right (by simp [cellsX]; omega)]
    have e : (k + 1) * 4 + j - (cellsX y).length = k * 4 + j := by simp [cellsX]; omega
    rw [e]
    exact tok_at L k j x (by simpa using hk) hj
theorem tok_of_row {W : World} {base : Nat} {v : Value} {L : List TokX} (h : W.ownsRow base 49 4 v L.length (L.flatMap cellsX)) (hx : ∀ x ∈ L, TX x W) : TokAt W v (L.map TokX.t) := by
  obtain ⟨h3, hr⟩ := h
  rcases hr with ⟨rfl, hn⟩ | ⟨g, cap, cur, rfl, hbg, hg, hnc, hcm, hcs, htk⟩
  · have : L = [] := List.eq_nil_of_length_eq_zero hn
    subst this
    exact ⟨none, 0, rfl, fun h => by simp at h⟩
  · refine ⟨_, cap, by simp, fun _ => ⟨g, rfl, blk_lt hg, fun i t ht => ?_⟩⟩
    rw [List.getElem?_map] at ht
    cases hL : L[i]? with
    | none => rw [hL] at ht; cases ht
    | some x =>
      rw [hL] at ht
      cases ht
      have hc : ∀ j, j < 4 → cur[i * 4 + j]? = (cellsX x)[j]? := fun j hj => by
        have hi : i < L.length := (List.getElem?_eq_some_iff.1 hL).1
        have h4 := tok_at L i j x hL hj
        rw [← htk, List.getElem?_take_of_lt (by omega), Array.getElem?_toList] at h4
        exact h4
      refine ⟨x.rv, ?_, ?_, ?_, ?_, hx x (List.mem_of_getElem? hL)⟩
      · have := hc 0 (by omega); simp [World.cell?, hg, cellsX] at this ⊢; exact this
      · have := hc 1 (by omega); simp [World.cell?, hg, cellsX] at this ⊢; exact this
      · have := hc 2 (by omega); simp [World.cell?, hg, cellsX] at this ⊢; exact this
      · have := hc 3 (by omega); simp [World.cell?, hg, cellsX] at this ⊢; exact this
set_option maxRecDepth 100000 in
set_option maxHeartbeats 4000000 in
theorem parse_any (s : List UInt8) (q : List Bool) (v : Value) (w : World) (hq : BoolsAt w v q) (hs : s.length ≤ 100000) (hql : q.length ≤ 9223372036854775807) :
    Calls Tryz.prog 15 #[.string ⟨s.toArray⟩, v] w fun e w' => (∃ v', e = .returned v' ∧ TokAt w' v' (parseS s q)) ∧ Below w.heap.size w w' := by
  have HQ := Lib.hid hq
  obtain ⟨a0, cap0, rfl, _⟩ := hq
  obtain ⟨i0, hi, hz0, hz1, hz2⟩ := info_parts info_tok
  refine (callsIn_wide (n := 5)).1 ?_
  refine callsIn_of_wp_marks Tryz.func15 rfl trivial ?_ rfl
  simp only [Tryz.ntmps15, List.size_toArray, List.length_cons, List.length_nil, Nat.reduceAdd, Nat.reduceSub, Array.replicate_succ, Array.replicate_zero, List.push_toArray, List.append_toArray, List.nil_append, List.cons_append]
  gi_wp2_with (refine ⟨trivial, ?_⟩; gi_at_call 40; refine (callsIn_wide.2 (tokens_any s a0 q.length cap0 _)).mono ?_; rintro e w' ⟨rfl, rfl⟩)
  have bO := Boxed.new w 41 (.slice none 0 0)
  have bN : ((w.alloc (.cells #[.slice none 0 0] 41)).alloc (.cells #[.string ⟨s.toArray⟩, .slice a0 q.length cap0] 88)).heap[w.heap.size + 1]? = some (.cells #[.string ⟨s.toArray⟩, .slice a0 q.length cap0] 88 (0, 0)) := by
    have := r_alloc_at (w.alloc (.cells #[.slice none 0 0] 41)) (.cells #[.string ⟨s.toArray⟩, .slice a0 q.length cap0] 88)
    simpa using this
  have hB0 : Below w.heap.size w ((w.alloc (.cells #[.slice none 0 0] 41)).alloc (.cells #[.string ⟨s.toArray⟩, .slice a0 q.length cap0] 88)) := ((Below.refl _ w).alloc (Nat.le_refl _) _).alloc (by simp) _
  have hsz0 : ((w.alloc (.cells #[.slice none 0 0] 41)).alloc (.cells #[.string ⟨s.toArray⟩, .slice a0 q.length cap0] 88)).heap.size = w.heap.size + 2 := by simp
  have hI0 : PI w s (.slice a0 q.length cap0) [] ((w.alloc (.cells #[.slice none 0 0] 41)).alloc (.cells #[.string ⟨s.toArray⟩, .slice a0 q.length cap0] 88)) :=
    ⟨⟨_, bO.alloc _, World.ownsRow_nil _ _ _ _⟩, fun x hx => by simp at hx, bN, hB0⟩
  have HSB := Lib.hid hsz0
  refine range_U (F := Fence.wide) rfl (by omega) (gf := 73) (lb := #[.pointer (some ⟨w.heap.size + 1, 0, none⟩)]) rfl trivial (enters_of Tryz.func73 (by kernel_rfl) rfl)
    (tokens_seq _ s q (.slice a0 q.length cap0) w _ (w.heap.size + 1) HQ.out hB0 bN hs hql) ?hKt ?hKb (Below.refl _ _) (fun _ => rfl)
    (PI w s (.slice a0 q.length cap0)) (PI.own w s _ _ (by rw [hsz0]; omega)) (TX.own _) hI0 (AxP w s (.slice a0 q.length cap0)) ?hAx ?hassign ?hbody ?hdone
  case hKt => exact fun h k => ⟨h.1.trans k.1, k.2.trans h.2⟩
  case hKb =>
    intro W l o o' hl ho h1 h2
    rw [hsz0] at hl
    exact ⟨belowK_b (w := w) (Nat.le_refl _) W l o o' (by omega) ho h1 h2, World.putObj_heap_other (by omega)⟩
  case hAx =>
    rintro ⟨t, rv⟩ a W W' row ⟨tb, htb, rfl⟩ hg hr
    exact ⟨tb, (grown_cells hg (fun r e => (hr r e).2) htb).trans htb, rfl⟩
  case hassign =>
    rintro l pre ⟨t, rv⟩ W K hI hT hK
    obtain ⟨a9, c9, rfl⟩ := TX.form hT
    simp only [encX, tokV]
    gi_wp2
    exact hK _ _ (KeepsOthers.alloc _ _) ⟨(Below.refl _ W).alloc hI.below.size _, Below.heap_alloc _ _ _ (blk_lt hI.p)⟩ (hI.alloc _) (OwnR.below hT ((Below.refl _ W).alloc (Nat.le_refl _) _)) ⟨W.heap.size, r_alloc_at _ _, rfl⟩
  case hbody =>
    rintro l pre ⟨t, rv⟩ a' W hI hT ⟨tb, htb, rfl⟩ hlt
    obtain ⟨a9, c9, rfl⟩ := TX.form hT
    dsimp only at htb hlt
    obtain ⟨v, hv, hrow⟩ := hI.row
    have hc := hv.cell
    have hB := hI.below
    have t0 : W.cell? ⟨tb, 0, none⟩ = some (.int .i64 t.k) := by simp [World.cell?, htb]
    have t1 : W.cell? ⟨tb, 1, none⟩ = some (.int .u8 t.c.toNat) := by simp [World.cell?, htb]
    have t2 : W.cell? ⟨tb, 2, none⟩ = some (.bool t.neg) := by simp [World.cell?, htb]
    have t3 : W.cell? ⟨tb, 3, none⟩ = some (.slice a9 t.rs.length c9) := by simp [World.cell?, htb]
    gi_wp2_with (gi_at_builtin; refine wpListIn_append_own _ rfl _ _ 41 rfl w.heap.size 49 i0 (.agg #[.int .i64 0, .int .u8 0, .bool false, .slice none 0 0]) 4 40 (by kernel_rfl) hi hz0 hz1 hz2 rfl (by decide) _ _ _ rfl (hrow.alloc _) ⟨W.heap.size, 0, none⟩ 1 1 [.int .i64 t.k, .int .u8 t.c.toNat, .bool t.neg, .slice a9 t.rs.length c9] rfl rfl (cell_four_new _ _ _ _ _ _) (by simp [Value.oneCell']) (by simp only [maxLen]; omega) (by omega) (by have := hB.size; simp; omega) ?_; intro v' w1 hown' hgrow _; obtain ⟨g', cap', rfl⟩ := ownsRow_succ hown'; obtain ⟨hv1, hv2, hr2, hk2, hb2⟩ := hv.appended (by decide) hrow hB.size (Nat.le_refl _) hown' hgrow; have hc1 := hv1.cell; have hf1 := hv1.frozen)
    have hoth := fun (k : Nat) (cur : Array Value) (ty : TypeId) (hk : W.heap[k]? = some (Obj.cells cur ty (0, 0))) (h1 : ty ≠ 49) (h2 : ty ≠ 41) => app_other (v' := .slice (some ⟨g', 0, none⟩) (pre.length + 1) cap') hrow hv hgrow hk h1 h2
    refine ⟨hk2, ⟨hb2, hoth _ _ _ hI.p (by decide) (by decide)⟩, ⟨⟨_, hv2, by simpa [cellsX] using hr2⟩, ?_, (hoth _ _ _ hI.p (by decide) (by decide)).trans hI.p, hB.trans hb2⟩⟩
    intro x hx
    rcases List.mem_append.1 hx with h | h
    · exact TX.keep (hI.tx x h) (fun k cur hk => hoth k cur _ hk (by decide) (by decide))
    · simp at h
      subst h
      exact TX.keep hT (fun k cur hk => hoth k cur _ hk (by decide) (by decide))
  case hdone =>
    intro D ys W hD hS hI hK
    obtain ⟨v, hv, hrow⟩ := hI.row
    have hc := hv.cell
    obtain ⟨a9, c9, rfl⟩ : ∃ a c, v = .slice a ys.length c := by
      rcases hrow.2 with ⟨rfl, hn⟩ | ⟨g, cap, cur, rfl, _⟩
      · exact ⟨none, 0, by rw [hn]⟩
      · exact ⟨_, cap, rfl⟩
    gi_wp2
    refine ⟨by simp, .inl ⟨_, _, rfl, run_takeDeferred hK, ?_⟩⟩
    refine ⟨_, results_tmp rfl _ _ _, ⟨_, rfl, ?_⟩, hI.below.trans (belowK_b (w := w) (Nat.le_refl _) W D _ _ (by rw [HSB.out] at hD; omega) hK rfl rfl)⟩
    rw [← hS]
    refine tok_of_row (ownsRow_putObj hrow _ hK rfl) (fun x hx => TX.keep (hI.tx x hx) (fun k cur hk => World.putObj_heap_other (fun e => by subst e; rw [hK] at hk; cases hk)))
end Go.Proofs.YtggdedihfhibfaaGreatDoor
