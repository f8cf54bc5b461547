/- Texts of one proof, packed: PtC, PtG -/
import Derived.Test.YtggdedihfhibfaaGreatDoorR11
import Derived.RangeFuncBox
import Derived.RangeFuncLeaves
import Derived.RangeFuncRecord
set_option linter.unusedVariables false
set_option linter.unusedSimpArgs false
set_option linter.deprecated false
set_option linter.unnecessarySimpa false
/- What a round keeps that appends to a boxed row: all but the box and its row. No program's text. -/
namespace Go.Proofs.YtggdedihfhibfaaGreatDoor
open Go.RowKit
set_option linter.unusedVariables false
set_option linter.unusedSimpArgs false

/-- block k is the row that the box ob holds -/
def RowOf (ob : Nat) (W : World) (k : Nat) : Prop := ∃ v t fz, W.heap[ob]? = some (.cells #[v] t fz) ∧ v.ownBlock = some k
structure Kb (B ob : Nat) (W W' : World) : Prop where
  os : W'.os = W.os
  tape : W'.tape = W.tape
  output : W'.output = W.output
  size : W.heap.size ≤ W'.heap.size
  low : ∀ k, k < B → k < W.heap.size → k ≠ ob → ¬ RowOf ob W k → W'.heap[k]? = W.heap[k]?
  cells : ∀ (k : Nat) (cur : Array Value) (ty : TypeId) (fz : Nat × Nat), W.heap[k]? = some (.cells cur ty fz) → k ≠ ob → ¬ RowOf ob W k → W'.heap[k]? = W.heap[k]?
  row : ∀ k, RowOf ob W' k → RowOf ob W k ∨ W.heap.size ≤ k
  lt : (∀ k, RowOf ob W k → k < W.heap.size) → ∀ k, RowOf ob W' k → k < W'.heap.size
theorem RowOf.block {ob : Nat} {W W' : World} {k : Nat} (h : W'.heap[ob]? = W.heap[ob]?) : RowOf ob W' k ↔ RowOf ob W k := by unfold RowOf; rw [h]
theorem RowOf.boxed {ob : Nat} {W : World} {t : TypeId} {v : Value} (h : Boxed W ob t v) {k : Nat} : RowOf ob W k ↔ v.ownBlock = some k := by
  have h' : W.heap[ob]? = some (.cells #[v] t (0, 0)) := h
  constructor
  · rintro ⟨v', t', fz, h1, h2⟩
    rw [h'] at h1
    cases h1
    exact h2
  · intro h2
    exact ⟨v, t, _, h', h2⟩
theorem Kb.refl (B ob : Nat) (W : World) : Kb B ob W W := ⟨rfl, rfl, rfl, Nat.le_refl _, fun _ _ _ _ _ => rfl, fun _ _ _ _ _ _ _ => rfl, fun _ h => .inl h, fun h => h⟩
theorem Kb.trans {B ob : Nat} {W W1 W2 : World} (h : Kb B ob W W1) (k : Kb B ob W1 W2) : Kb B ob W W2 := by
  have hnr : ∀ j, j < W.heap.size → ¬ RowOf ob W j → ¬ RowOf ob W1 j := fun j hj hn hr => by
    rcases h.row j hr with q | q
    · exact hn q
    · omega
  refine ⟨k.os.trans h.os, k.tape.trans h.tape, k.output.trans h.output, Nat.le_trans h.size k.size, fun j h1 h2 h3 h4 => ?_, fun j cur ty fz h1 h2 h3 => ?_, fun j hj => ?_, fun hl => k.lt (h.lt hl)⟩
  · exact (k.low j h1 (Nat.lt_of_lt_of_le h2 h.size) h3 (hnr j h2 h4)).trans (h.low j h1 h2 h3 h4)
  · have hc := h.cells j cur ty fz h1 h2 h3
    exact (k.cells j cur ty fz (hc.trans h1) h2 (hnr j (Array.getElem?_eq_some_iff.1 h1).1 h3)).trans hc
  · rcases k.row j hj with q | q
    · exact h.row j q
    · exact .inr (Nat.le_trans h.size q)
theorem Kb.mono {B B' ob : Nat} {W W' : World} (h : Kb B ob W W') (hb : B' ≤ B) : Kb B' ob W W' := ⟨h.os, h.tape, h.output, h.size, fun k h1 => h.low k (Nat.lt_of_lt_of_le h1 hb), h.cells, h.row, h.lt⟩
theorem Kb.of_below {B ob : Nat} {W W' : World} (h : Below W.heap.size W W') (ho : ob < W.heap.size) : Kb B ob W W' :=
  ⟨h.os, h.tape, h.output, h.size, fun k _ h2 _ _ => h.block k h2, fun k cur ty fz h1 _ _ => h.block k (Array.getElem?_eq_some_iff.1 h1).1, fun k hk => .inl ((RowOf.block (h.block ob ho)).1 hk), fun hl k hk => Nat.lt_of_lt_of_le (hl k ((RowOf.block (h.block ob ho)).1 hk)) h.size⟩
theorem Kb.put {B ob : Nat} (W : World) (l : Nat) (o o' : Obj) (hl : B ≤ l) (ho : W.heap[l]? = some o) (hc : o.isCells = false) (hne : l ≠ ob) : Kb B ob W (W.putObj l o') := by
  have hb : (W.putObj l o').heap[ob]? = W.heap[ob]? := World.putObj_heap_other (fun e => hne e.symm)
  refine ⟨rfl, rfl, rfl, by simp, fun k h1 _ _ _ => World.putObj_heap_other (by omega), fun k cur ty fz h1 _ _ => World.putObj_heap_other (fun e => ?_), fun k hk => .inl ((RowOf.block hb).1 hk), fun hlt k hk => by simpa using hlt k ((RowOf.block hb).1 hk)⟩
  subst e
  rw [h1] at ho
  cases ho
  cases hc
/-- a world that has grown: a row that is no cells, from B on, may have turned -/
theorem Kb.grown {B ob : Nat} {W0 W W' : World} {row : Option Nat} (h : Kb B ob W0 W) (hg : W.grownBy W' row) (hr : ∀ r, row = some r → B ≤ r ∧ ∃ o : Obj, W.heap[r]? = some o ∧ o.isCells = false) (ho : ∃ cur ty fz, W.heap[ob]? = some (.cells cur ty fz)) : Kb B ob W0 W' := by
  obtain ⟨co, to, fo, ho⟩ := ho
  have hob : W'.heap[ob]? = W.heap[ob]? := hg.block ob (Array.getElem?_eq_some_iff.1 ho).1 (fun e => by obtain ⟨_, o, h1, h2⟩ := hr ob e.symm; rw [ho] at h1; cases h1; cases h2)
  refine h.trans ⟨hg.os, hg.tape, hg.output, hg.size, fun k h1 h2 _ _ => hg.block k h2 (fun e => by have := (hr k e.symm).1; omega), fun k cur ty fz h1 _ _ => hg.block k (Array.getElem?_eq_some_iff.1 h1).1 (fun e => ?_), fun k hk => .inl ((RowOf.block hob).1 hk), fun hl k hk => Nat.lt_of_lt_of_le (hl k ((RowOf.block hob).1 hk)) hg.size⟩
  obtain ⟨_, o, h3, h4⟩ := hr k e.symm
  rw [h1] at h3
  cases h3
  cases h4
theorem Kb.below {B B1 ob : Nat} {W W' : World} (h : Kb B ob W W') (h1 : B1 ≤ B) (h2 : B1 ≤ W.heap.size) (h3 : B1 ≤ ob) (h4 : ∀ k, RowOf ob W k → B1 ≤ k) : Below B1 W W' :=
  ⟨h.os, h.tape, h.output, h.size, fun k hk => h.low k (by omega) (by omega) (by omega) (fun hr => by have := h4 k hr; omega)⟩
/-- something is appended to the row, and the box holds what came of it -/
theorem Kb.append {B ob : Nat} {W w1 : World} {t e : TypeId} {base n size : Nat} {v v' : Value} {xs : List Value} {tmp : Obj} (hv : Boxed W ob t v) (hte : t ≠ e) (hrow : W.ownsRow base e size v n xs)
    (hg : (W.alloc tmp).grownBy w1 v.ownBlock) (hb : v'.ownBlock = v.ownBlock ∨ v'.ownBlock = some (W.heap.size + 1)) (hs : W.heap.size + 1 < w1.heap.size ∨ v'.ownBlock = v.ownBlock) : Kb B ob W (w1.setCell ⟨ob, 0, none⟩ v') := by
  have hsz : W.heap.size + 1 ≤ w1.heap.size := by have := hg.size; simpa using this
  have hob1 : Boxed w1 ob t v := (hv.alloc tmp).kept hg (Boxed.not_row hv hte hrow)
  have hob2 := hob1.set v'
  have hsz2 : (w1.setCell ⟨ob, 0, none⟩ v').heap.size = w1.heap.size := by simp [World.setCell]
  have hblk : ∀ k, k < W.heap.size → k ≠ ob → ¬ RowOf ob W k → (w1.setCell ⟨ob, 0, none⟩ v').heap[k]? = W.heap[k]? := fun k h2 h3 h4 => by
    rw [Below.heap_setCell _ _ _ _ (by simpa using h3), hg.block k (by simp; omega) (fun e' => h4 ((RowOf.boxed hv).2 e'.symm)), Below.heap_alloc _ _ _ h2]
  refine ⟨hg.os, hg.tape, hg.output, by rw [hsz2]; omega, fun k _ h2 h3 h4 => hblk k h2 h3 h4, fun k cur ty fz h1 h2 h3 => hblk k (Array.getElem?_eq_some_iff.1 h1).1 h2 h3, fun k hk => ?_, fun hl k hk => ?_⟩
  · have := (RowOf.boxed hob2).1 hk
    rcases hb with q | q
    · exact .inl ((RowOf.boxed hv).2 (q.symm.trans this))
    · rw [q] at this; cases this; exact .inr (by omega)
  · have h5 := (RowOf.boxed hob2).1 hk
    rw [hsz2]
    rcases hb with q | q
    · have := hl k ((RowOf.boxed hv).2 (q.symm.trans h5)); omega
    · rcases hs with r | r
      · rw [q] at h5; cases h5; omega
      · have := hl k ((RowOf.boxed hv).2 (r.symm.trans h5)); omega
end Go.Proofs.YtggdedihfhibfaaGreatDoor
/- A function that leaves with many marks of ranges among its deferred calls. No program's text. -/
namespace Go.Proofs.YtggdedihfhibfaaGreatDoor
open Go.RowKit
set_option linter.unusedVariables false
set_option linter.unusedSimpArgs false

def mkD (D : Nat) : Deferred := { target := .collected D, args := #[] }
/-- the marks: each block stands open and holds nothing -/
def DsOk (n : Nat) (ds : List Deferred) (W : World) : Prop := ∃ Ds : List Nat, ds = Ds.map mkD ∧ Ds.Nodup ∧ ∀ D ∈ Ds, W.heap[D]? = some (.deferred (some [])) ∧ n ≤ D
theorem DsOk.nil (n : Nat) (W : World) : DsOk n [] W := ⟨[], rfl, List.nodup_nil, fun D h => by simp at h⟩
theorem DsOk.keep {n : Nat} {ds : List Deferred} {W W' : World} (h : DsOk n ds W) (hk : ∀ D : Nat, W.heap[D]? = some (Obj.deferred (some [])) → W'.heap[D]? = W.heap[D]?) : DsOk n ds W' := by
  obtain ⟨Ds, h1, h2, h3⟩ := h
  exact ⟨Ds, h1, h2, fun D hD => ⟨(hk D (h3 D hD).1).trans (h3 D hD).1, (h3 D hD).2⟩⟩
theorem DsOk.below {n : Nat} {ds : List Deferred} {W W' : World} (h : DsOk n ds W) (hb : Below W.heap.size W W') : DsOk n ds W' := h.keep fun D hD => hb.block D (Array.getElem?_eq_some_iff.1 hD).1
theorem DsOk.kb {n B ob : Nat} {ds : List Deferred} {W W' : World} {t e : TypeId} {base size k : Nat} {v : Value} {xs : List Value} (h : DsOk n ds W) (hv : Boxed W ob t v) (hrow : W.ownsRow base e size v k xs) (hB : W.heap.size ≤ B) (hk : Kb B ob W W') : DsOk n ds W' := by
  refine h.keep fun D hD => ?_
  have hlt := (Array.getElem?_eq_some_iff.1 hD).1
  refine hk.low D (by omega) hlt (fun e' => ?_) (fun hr => ?_)
  · subst e'
    have hv' : W.heap[D]? = some (.cells #[v] t (0, 0)) := hv
    rw [hD] at hv'; cases hv'
  · have h1 := (RowOf.boxed hv).1 hr
    obtain ⟨h3, hr'⟩ := hrow
    rcases hr' with ⟨rfl, _⟩ | ⟨g, cap, cur, rfl, _, hg, _⟩
    · cases h1
    · cases h1
      rw [hD] at hg; cases hg
theorem DsOk.grown {n : Nat} {ds : List Deferred} {W W' : World} {e : TypeId} {base size k : Nat} {v : Value} {xs : List Value} (h : DsOk n ds W) (hrow : W.ownsRow base e size v k xs) (hg : W.grownBy W' v.ownBlock) : DsOk n ds W' := by
  refine h.keep fun D hD => hg.block D (Array.getElem?_eq_some_iff.1 hD).1 (fun e' => ?_)
  obtain ⟨h3, hr'⟩ := hrow
  rcases hr' with ⟨rfl, _⟩ | ⟨g, cap, cur, rfl, _, hgb, _⟩
  · cases e'
  · cases e'
    rw [hD] at hgb; cases hgb
theorem DsOk.cons {n D : Nat} {ds : List Deferred} {W : World} (h : DsOk n ds W) (hD : W.heap[D]? = some (.deferred (some []))) (hn : n ≤ D) (hnew : mkD D ∉ ds) : DsOk n (mkD D :: ds) W := by
  obtain ⟨Ds, rfl, h2, h3⟩ := h
  refine ⟨D :: Ds, rfl, List.nodup_cons.2 ⟨fun q => hnew (List.mem_map.2 ⟨D, q, rfl⟩), h2⟩, fun E hE => ?_⟩
  rcases List.mem_cons.1 hE with rfl | hE
  · exact ⟨hD, hn⟩
  · exact h3 E hE
/-- marks of blocks below a size -/
theorem DsOk.new {n D : Nat} {ds : List Deferred} {W : World} (h : DsOk n ds W) (hD : W.heap.size ≤ D) : mkD D ∉ ds := by
  obtain ⟨Ds, rfl, h2, h3⟩ := h
  intro hm
  obtain ⟨E, hE, e⟩ := List.mem_map.1 hm
  have he : E = D := by
    have := congrArg Deferred.target e
    simpa [mkD] using this
  subst he
  have := (Array.getElem?_eq_some_iff.1 (h3 E hE).1).1
  omega
/-- what is left when the marks are shut -/
structure Shut (n : Nat) (W W' : World) : Prop where
  os : W'.os = W.os
  tape : W'.tape = W.tape
  output : W'.output = W.output
  size : W'.heap.size = W.heap.size
  low : ∀ k, k < n → W'.heap[k]? = W.heap[k]?
  cells : ∀ (k : Nat) (cur : Array Value) (ty : TypeId) (fz : Nat × Nat), W.heap[k]? = some (.cells cur ty fz) → W'.heap[k]? = W.heap[k]?
theorem Shut.refl (n : Nat) (W : World) : Shut n W W := ⟨rfl, rfl, rfl, rfl, fun _ _ => rfl, fun _ _ _ _ _ => rfl⟩
theorem Shut.below {n : Nat} {w W W' : World} (h : Shut n W W') (hb : Below n w W) : Below n w W' :=
  ⟨h.os.trans hb.os, h.tape.trans hb.tape, h.output.trans hb.output, by rw [h.size]; exact hb.size, fun k hk => (h.low k hk).trans (hb.block k hk)⟩
theorem Shut.row {n base size k : Nat} {e : TypeId} {v : Value} {xs : List Value} {W W' : World} (h : Shut n W W') (hr : W.ownsRow base e size v k xs) : W'.ownsRow base e size v k xs := by
  obtain ⟨h3, hr'⟩ := hr
  refine ⟨h3, ?_⟩
  rcases hr' with q | ⟨g, cap, cur, rfl, hb, hg, rest⟩
  · exact .inl q
  · exact .inr ⟨g, cap, cur, rfl, hb, (h.cells _ _ _ _ hg).trans hg, rest⟩
theorem leaves_all {F : Fence} {m : Nat} {P : Program} {fn : Func} {tmps : Array Value} {R : Ending → World → Prop} (n : Nat) : ∀ (ds : List Deferred) (W : World), DsOk n ds W →
    (∀ W', Shut n W W' → LeavesInM F m P fn tmps R [] .returning W') → LeavesInM F m P fn tmps R ds .returning W := by
  intro ds
  induction ds with
  | nil => exact fun W _ h => h W (Shut.refl n W)
  | cons d ds ih =>
    rintro W ⟨Ds, h1, h2, h3⟩ h
    cases Ds with
    | nil => cases h1
    | cons D Ds =>
      rw [List.map_cons, List.cons.injEq] at h1
      obtain ⟨rfl, rfl⟩ := h1
      obtain ⟨hD, hn⟩ := h3 D (by simp)
      have hnd := List.nodup_cons.1 h2
      have hoth : ∀ k, k ≠ D → (W.putObj D (.deferred none)).heap[k]? = W.heap[k]? := fun k hk => World.putObj_heap_other hk
      refine ⟨by simp, .inl ⟨D, _, rfl, run_takeDeferred hD, ih _ ⟨Ds, rfl, hnd.2, fun E hE => ?_⟩ fun W' hW' => h W' ?_⟩⟩
      · have hne : E ≠ D := fun e => by subst e; exact hnd.1 hE
        exact ⟨(hoth E hne).trans (h3 E (List.mem_cons_of_mem _ hE)).1, (h3 E (List.mem_cons_of_mem _ hE)).2⟩
      · refine ⟨hW'.os, hW'.tape, hW'.output, hW'.size.trans (by simp), fun k hk => (hW'.low k hk).trans (hoth k (by omega)), fun k cur ty fz hk => ?_⟩
        have hne : k ≠ D := fun e => by subst e; rw [hD] at hk; cases hk
        exact (hW'.cells k cur ty fz ((hoth k hne).trans hk)).trans (hoth k hne)
end Go.Proofs.YtggdedihfhibfaaGreatDoor
