/- Texts of one proof, packed: RgB -/
import Derived.Test.YtggdedihfhibfaaGreatDoorR04
import Derived.Deep.AppendLies
import Derived.Laws.ResultCell
import Derived.Laws.Rows
set_option linter.unusedVariables false
set_option linter.unusedSimpArgs false
set_option linter.deprecated false
set_option linter.unnecessarySimpa false
/- Ranges and tokens: the plain patterns, rows of ranges, class' state. -/
namespace Go.Proofs.YtggdedihfhibfaaGreatDoor
open Go.RowKit IntWalk
set_option linter.unusedVariables false
set_option linter.unusedSimpArgs false

/-- a token: its kind, its byte, whether it is turned round, its ranges -/
structure GTok where
  k : Nat
  c : UInt8
  neg : Bool
  rs : List (UInt8 × UInt8)
deriving DecidableEq
/-- where a class ends -/
def endS (s : List UInt8) (q : List Bool) : Nat → Nat → Nat
  | 0, e => e
  | f + 1, e => if e < s.length ∧ plainS s q e 93 = false then endS s q f (e + 1) else e
def atB (s : List UInt8) (i : Nat) : UInt8 := s[i]?.getD 0
def rangesS (s : List UInt8) (q : List Bool) (e : Nat) : Nat → Nat → List (UInt8 × UInt8)
  | 0, _ => []
  | f + 1, i => if i < e then (if i + 2 < e ∧ plainS s q (i + 1) 45 = true then (atB s i, atB s (i + 2)) :: rangesS s q e f (i + 3) else (atB s i, atB s i) :: rangesS s q e f (i + 1)) else []
def classRest (s : List UInt8) (q : List Bool) (neg : Bool) (i1 : Nat) : Option (GTok × Nat) :=
  if s.length ≤ endS s q s.length (i1 + 1) then none else some (⟨4, 0, neg, rangesS s q (endS s q s.length (i1 + 1)) s.length i1⟩, endS s q s.length (i1 + 1) + 1)
def classS (s : List UInt8) (q : List Bool) (i : Nat) : Option (GTok × Nat) :=
  if plainS s q (i + 1) 33 then classRest s q true (i + 2) else classRest s q false (i + 1)
/-- a range's cells -/
def rngA (r : UInt8 × UInt8) : Array Value := #[.int .u8 r.1.toNat, .int .u8 r.2.toNat]
theorem info_rng : (Tryz.prog.info? 193).map (fun i => (i.zero, i.size, i.bytes)) = some (some (.agg #[.int .u8 0, .int .u8 0]), 2, 2) := by kernel_rfl
/-- ranges, in a row of the call's own -/
def OwnR (w : World) (base : Nat) (v : Value) (rs : List (UInt8 × UInt8)) : Prop := w.ownsRow base 193 2 v rs.length ((rs.map rngA).flatMap Array.toList)
section
variable {w w' w0 : World} {base : Nat} {v : Value} {rs : List (UInt8 × UInt8)}
theorem OwnR.nil (w : World) (base : Nat) : OwnR w base (.slice none 0 0) [] := World.ownsRow_nil w base _ _
theorem OwnR.lt (h : OwnR w base v rs) : ∀ k, v.ownBlock = some k → base ≤ k ∧ k < w.heap.size := World.ownsRow.lt h
theorem OwnR.drew (h : OwnR w base v rs) : OwnR w.drew base v rs := h
theorem OwnR.kept (h : OwnR w base v rs) (hk : ∀ k, v.ownBlock = some k → w'.heap[k]? = w.heap[k]?) : OwnR w' base v rs := by
  obtain ⟨h3, hr⟩ := h
  refine ⟨h3, ?_⟩
  rcases hr with ⟨rfl, hn⟩ | ⟨g, cap, cur, rfl, hbg, hg, hr⟩
  · exact .inl ⟨rfl, hn⟩
  · exact .inr ⟨g, cap, cur, rfl, hbg, (hk g rfl).trans hg, hr⟩
theorem OwnR.below (h : OwnR w base v rs) (hb : Below w.heap.size w w') : OwnR w' base v rs := h.kept (fun k hk => hb.block k (h.lt k hk).2)
theorem OwnR.form (h : OwnR w base v rs) : ∃ a cap, v = .slice a rs.length cap := by
  obtain ⟨h3, hr⟩ := h
  rcases hr with ⟨rfl, hn⟩ | ⟨g, cap, cur, rfl, _⟩
  · exact ⟨none, 0, by rw [hn]⟩
  · exact ⟨_, cap, rfl⟩
end
/-- where class stands -/
structure CS (w w0 : World) (s : List UInt8) (qv : Value) (neg : Bool) (W : World) (rv : Value) (rs : List (UInt8 × UInt8)) : Prop where
  own : OwnR W (w.heap.size + 3) rv rs
  p : W.heap[w.heap.size]? = some (.cells #[.string ⟨s.toArray⟩, qv] 88 (0, 0))
  r : W.heap[w.heap.size + 1]? = some (.cells #[.int .i64 0, .int .u8 0, .bool false, .slice none 0 0] 49 (0, 0))
  t : W.heap[w.heap.size + 2]? = some (.cells #[.int .i64 4, .int .u8 0, .bool neg, rv] 49 (0, 0))
  below : Below w.heap.size w W
  size : w.heap.size + 3 ≤ W.heap.size
section
variable {w w0 W W' : World} {s : List UInt8} {qv rv : Value} {neg : Bool} {rs : List (UInt8 × UInt8)}
theorem CS.next (h : CS w w0 s qv neg W rv rs) (hb : Below W.heap.size W W') : CS w w0 s qv neg W' rv rs :=
  have hs := h.size
  ⟨h.own.below hb, (hb.block _ (by omega)).trans h.p, (hb.block _ (by omega)).trans h.r, (hb.block _ (by omega)).trans h.t, h.below.trans (hb.mono h.below.size), Nat.le_trans hs hb.size⟩
theorem CS.cells (h : CS w w0 s qv neg W rv rs) : W.cell? ⟨w.heap.size, 0, none⟩ = some (.string ⟨s.toArray⟩) ∧ W.cell? ⟨w.heap.size, 1, none⟩ = some qv ∧ W.cell? ⟨w.heap.size + 1 + 1, 3, none⟩ = some rv ∧ W.frozen? ⟨w.heap.size + 1 + 1, 3, none⟩ = false := by
  have hp := h.p
  have ht := h.t
  exact ⟨by simp [World.cell?, hp], by simp [World.cell?, hp], by simp [World.cell?, ht], by simp [World.frozen?, ht]⟩
theorem CS.tcells (h : CS w w0 s qv neg W rv rs) : W.cell? ⟨w.heap.size + 1 + 1, 0, none⟩ = some (.int .i64 4) ∧ W.cell? ⟨w.heap.size + 1 + 1, 1, none⟩ = some (.int .u8 0) ∧ W.cell? ⟨w.heap.size + 1 + 1, 2, none⟩ = some (.bool neg) := by
  have ht := h.t
  exact ⟨by simp [World.cell?, ht], by simp [World.cell?, ht], by simp [World.cell?, ht]⟩
theorem CS.turn (h : CS w w0 s qv false W rv rs) : CS w w0 s qv true (W.setCell ⟨w.heap.size + 2, 2, none⟩ (.bool true)) rv rs := by
  have hs := h.size
  have ho : ∀ k, k ≠ w.heap.size + 2 → (W.setCell ⟨w.heap.size + 2, 2, none⟩ (.bool true)).heap[k]? = W.heap[k]? := fun k hk => Below.heap_setCell _ _ _ _ (by rintro rfl; exact hk rfl)
  refine ⟨h.own.kept (fun k hk => ho k (by have := (h.own.lt k hk).1; omega)), (ho _ (by omega)).trans h.p, (ho _ (by omega)).trans h.r, ?_, ?_, by simpa [World.setCell] using hs⟩
  · simp [World.setCell, Array.getElem?_modify, h.t]
  · exact h.below.trans ((Below.refl w.heap.size W).setCell (p := ⟨w.heap.size + 2, 2, none⟩) (by show w.heap.size ≤ w.heap.size + 2; omega) _)
/-- the ranges' slice as it lies in the token -/
def tokA (W : World) (n : Nat) : Option Addr := match W.cell? ⟨n + 1 + 1, 3, none⟩ with
  | some (.slice a _ _) => a
  | _ => none
def tokN (W : World) (n : Nat) : Nat := match W.cell? ⟨n + 1 + 1, 3, none⟩ with
  | some (.slice _ m _) => m
  | _ => 0
def tokC (W : World) (n : Nat) : Nat := match W.cell? ⟨n + 1 + 1, 3, none⟩ with
  | some (.slice _ _ c) => c
  | _ => 0
theorem tok_of {n : Nat} {a : Option Addr} {m c : Nat} (h : W.cell? ⟨n + 1 + 1, 3, none⟩ = some (.slice a m c)) : Value.slice (tokA W n) (tokN W n) (tokC W n) = .slice a m c := by unfold tokA tokN tokC; rw [h]
theorem CS.tokR (h : CS w w0 s qv neg W rv rs) : Value.slice (tokA W w.heap.size) (tokN W w.heap.size) (tokC W w.heap.size) = rv := by
  obtain ⟨a, c, e⟩ := h.own.form
  rw [e]
  exact tok_of (by rw [← e]; exact h.cells.2.2.1)
theorem CS.s3 (h : CS w w0 s qv neg W rv rs) : W.cell? ⟨w.heap.size, 0, none⟩ = some (.string ⟨s.toArray⟩) ∧ W.cell? ⟨w.heap.size + 1 + 1, 3, none⟩ = some (.slice (tokA W w.heap.size) (tokN W w.heap.size) (tokC W w.heap.size)) ∧ W.frozen? ⟨w.heap.size + 1 + 1, 3, none⟩ = false := by
  rw [h.tokR]; exact ⟨h.cells.1, h.cells.2.2.1, h.cells.2.2.2⟩
/-- the world with a range laid, drawn -/
def laidR (W : World) (a b : UInt8) : World := (W.alloc (.cells #[.int .u8 a.toNat, .int .u8 b.toNat] 193)).drew
theorem CS.laid (h : CS w w0 s qv neg W rv rs) (a b : UInt8) : CS w w0 s qv neg (laidR W a b) rv rs := h.next (((Below.refl W.heap.size W).alloc (Nat.le_refl _) _).drew)
theorem laidR_new (W : World) (a b : UInt8) : (laidR W a b).heap[W.heap.size]? = some (.cells (rngA (a, b)) 193 (0, 0)) := by
  show (W.heap.push _)[W.heap.size]? = _
  simp [rngA]
theorem laidR_size (W : World) (a b : UInt8) : (laidR W a b).heap.size = W.heap.size + 1 := by simp [laidR]
theorem CS.stored (h : CS w w0 s qv neg W rv rs) {v' : Value} (a b : UInt8) {w6 : World} (ho : OwnR w6 (w.heap.size + 3) v' (rs ++ [(a, b)])) (hg : W.grownBy w6 rv.ownBlock) : CS w w0 s qv neg (w6.setCell ⟨w.heap.size + 2, 3, none⟩ v') v' (rs ++ [(a, b)]) := by
  have hs := h.size
  have hk : ∀ k, k < w.heap.size + 3 → w6.heap[k]? = W.heap[k]? := fun k hk => hg.block k (by omega) (fun e => by have := (h.own.lt k e.symm).1; omega)
  have ho' : ∀ k, k ≠ w.heap.size + 2 → (w6.setCell ⟨w.heap.size + 2, 3, none⟩ v').heap[k]? = w6.heap[k]? := fun k hk => Below.heap_setCell _ _ _ _ (by rintro rfl; exact hk rfl)
  refine ⟨ho.kept (fun k hk => ho' k (by have := (ho.lt k hk).1; omega)), ?_, ?_, ?_, ?_, ?_⟩
  · rw [ho' _ (by omega), hk _ (by omega)]; exact h.p
  · rw [ho' _ (by omega), hk _ (by omega)]; exact h.r
  · simp [World.setCell, Array.getElem?_modify, hk _ (by omega : w.heap.size + 2 < w.heap.size + 3), h.t]
  · have h1 : Below w.heap.size w w6 := h.below.grown hg (by omega) (fun k e => by have := (h.own.lt k e).1; omega)
    exact h1.trans ((Below.refl w.heap.size w6).setCell (p := ⟨w.heap.size + 2, 3, none⟩) (by show w.heap.size ≤ w.heap.size + 2; omega) _)
  · have := hg.size; simp [World.setCell]; omega
/-- 'append(t.Ranges, r)', one step of a region that draws -/
theorem step_app_r {ops : Array Oper} {o : Oper} {a : Act} {K : Act → World → Prop} {Q : Exit → Act → World → Prop} {E : Prop}
    (hgd : o.guard = none) (x y : Operand) (ho : o.op = Op.call { callee := Callee.builtin Builtin.append, args := #[x, y], argTypes := #[47, 47] })
    (h : CS w w0 s qv neg W rv rs) {rv' : Value} (hx' : a.eval x = rv') (hrv : rv' = rv) (b c : UInt8) (hy : a.eval y = .slice (some ⟨W.heap.size, 0, none⟩) 1 1) (hlen : rs.length ≤ 1000000)
    (hK : ∀ g cap w6, CS w w0 s qv neg (w6.setCell ⟨w.heap.size + 1 + 1, 3, none⟩ (.slice (some ⟨g, 0, none⟩) (rs.length + 1) cap)) (.slice (some ⟨g, 0, none⟩) (rs.length + 1) cap) (rs ++ [(b, c)]) → (w6.cell? ⟨w.heap.size, 0, none⟩ = some (.string ⟨s.toArray⟩) ∧ w6.cell? ⟨w.heap.size + 1 + 1, 3, none⟩ = some (.slice (tokA w6 w.heap.size) (tokN w6 w.heap.size) (tokC w6 w.heap.size)) ∧ w6.frozen? ⟨w.heap.size + 1 + 1, 3, none⟩ = false) →
      K (a.put o.dst (.slice (some ⟨g, 0, none⟩) (rs.length + 1) cap)) w6) :
    if Region.wanted o (yielded ops a.tmps) = true then Oper.wp Tryz.prog o a (laidR W b c) K Q else E := by
  obtain ⟨i0, hi, hz0, hz1, hz2⟩ := info_parts info_rng
  have hx := hx'.trans hrv
  have hL := h.laid b c
  have hsz := laidR_size W b c
  have hs := h.size
  refine step_append_lies (laidR W b c) hgd x y 47 ho (w.heap.size + 3) 193 i0 _ 2 2 (by kernel_rfl) hi hz0 hz1 hz2 rfl (by omega) rv rs.length _ hx hL.own ⟨W.heap.size, 0, none⟩ 1 1 (rngA (b, c)).toList hy (by simp [rngA]) (World.news_of_block (laidR_new W b c)) ?_ (by omega) (by simp only [maxLen]; omega) (by omega) (by omega) _ rfl ?_
  · intro u hu
    simp [rngA] at hu
    rcases hu with rfl | rfl <;> rfl
  · intro g cap w6 h2 h3 h4 h5
    have ho : OwnR w6 (w.heap.size + 3) (.slice (some ⟨g, 0, none⟩) (rs.length + 1) cap) (rs ++ [(b, c)]) := by
      unfold OwnR
      simpa using h2
    have hk : w6.heap[w.heap.size + 2]? = (laidR W b c).heap[w.heap.size + 2]? := h3.block _ (by omega) (fun e => by have := (h.own.lt _ e.symm).1; omega)
    have hk0 : w6.heap[w.heap.size]? = (laidR W b c).heap[w.heap.size]? := h3.block _ (by omega) (fun e => by have := (h.own.lt _ e.symm).1; omega)
    refine hK g cap w6 (hL.stored b c ho h3) ⟨?_, ?_, ?_⟩
    · rw [World.cell?_of_block hk0]; exact hL.cells.1
    · obtain ⟨a, c, e⟩ := h.own.form
      have h9 : w6.cell? ⟨w.heap.size + 1 + 1, 3, none⟩ = some (.slice a rs.length c) := by rw [World.cell?_of_block hk, ← e]; exact hL.cells.2.2.1
      rw [tok_of h9]; exact h9
    · rw [World.frozen?_of_block hk]; exact hL.cells.2.2.2
end
/-- a token as a value -/
def tokV (k : Nat) (c : UInt8) (neg : Bool) (rv : Value) : Value := .agg #[.int .i64 k, .int .u8 c.toNat, .bool neg, rv]
theorem results_cell_tt {fn : Func} {p u v : Tmp} {ty : TypeId} (h : fn.results = #[.cell p ty, .tmp u, .tmp v]) (tmps : Array Value) (P : Program) (w : World) :
    (results fn tmps).run P w =
      ((asAddr (tmps.getD p undef)).run P w).andThen fun a w₁ => ((loadVar ty a).run P w₁).andThen fun x w₂ => .ok (.tuple #[x, tmps.getD u undef, tmps.getD v undef]) w₂ := by
  simp only [results, h]
  simp [Sem.run_bind, Result.andThen]
theorem class_ret (w : World) (g : Nat) (a b c d e f : Value) (hg : w.heap[g]? = some (.cells #[a, b, c, d] 49 (0, 0))) {fn : Func} {p u v : Tmp} (h : fn.results = #[.cell p 49, .tmp u, .tmp v]) (tmps : Array Value) (hp : tmps.getD p undef = .pointer (some ⟨g, 0, none⟩)) (hu : tmps.getD u undef = e) (hv : tmps.getD v undef = f) :
    (results fn tmps).run Tryz.prog w = .ok (.tuple #[.agg #[a, b, c, d], e, f]) w := by
  have hl : (loadVar 49 ⟨g, 0, none⟩).run Tryz.prog w = .ok (.agg #[a, b, c, d]) w := run_loadVar_row w g _ _ #[a, b, c, d] _ _ hg Tryz.underlying49 rfl (by kernel_rfl)
  rw [results_cell_tt h, hp, hu, hv]
  simp [asAddr, Result.andThen, hl]
end Go.Proofs.YtggdedihfhibfaaGreatDoor
