/- Texts of one proof, packed: PtD -/
import Derived.Test.YtggdedihfhibfaaGreatDoorR37
import Derived.Test.YtggdedihfhibfaaGreatDoorR36
import Derived.Test.YtggdedihfhibfaaGreatDoorR38
set_option linter.unusedVariables false
set_option linter.unusedSimpArgs false
set_option linter.deprecated false
set_option linter.unnecessarySimpa false
/- paths: the names of a directory that a part fits. -/
namespace Go.Proofs.YtggdedihfhibfaaGreatDoor
open Go.RowKit IntWalk Go.Shelf
set_option linter.unusedVariables false
set_option linter.unusedSimpArgs false
attribute [local go_sem] Oper.semAt_some

def fitW (w : World) (F : Nat) (dir : Int) (p : PartS) (tv : Value) (b : List UInt8) : World :=
  ((w.alloc (.cells #[ptrTo F, .int .i64 dir] 68)).alloc (.cells #[.string ⟨p.text.toArray⟩, tv] 65)).alloc (.cells #[.string ⟨b.toArray⟩] 9)
def fitF (n : Nat) : Array Value := #[.pointer (some ⟨n + 2, 0, none⟩), .pointer (some ⟨n, 0, none⟩), .pointer (some ⟨n + 1, 0, none⟩)]
set_option maxRecDepth 100000 in
theorem fitting_any (F : Nat) (dir : Int) (p : PartS) (tv : Value) (b : List UInt8) (w : World) (htv : ∃ a n c, tv = .slice a n c) :
    Calls Tryz.prog 32 #[.agg #[ptrTo F, .int .i64 dir], partV p tv, .string ⟨b.toArray⟩] w fun e w' => e = .returned (.func (.func 61) #[] (fitF w.heap.size)) ∧ w' = fitW w F dir p tv b := by
  obtain ⟨a, n, c, rfl⟩ := htv
  unfold partV ptrTo fitF fitW ptrTo
  go_enter Tryz.func32, Tryz.ntmps32
  go_wp2
  go_ret
  exact ⟨by simp, rfl⟩
def encN (x : List UInt8) : Array Value := #[.string ⟨x.toArray⟩]
/-- where what the iterator reads lies -/
structure FitAt (W0 : World) (s : Fs) (lay : FId → Nat) (wp : World) (ob bb tb pb : Nat) (dir : Int) (p : PartS) (tv : Value) (b : List UInt8) (W : World) : Prop where
  fs : FsIn W0 s lay wp
  tok : TokAt wp tv p.toks
  low : Below wp.heap.size wp W
  hob : wp.heap.size ≤ ob ∧ ob < W.heap.size
  begin_ : W.heap[bb]? = some (.cells #[.string ⟨b.toArray⟩] 9 (0, 0))
  tree : W.heap[tb]? = some (.cells #[ptrTo (lay .F), .int .i64 dir] 68 (0, 0))
  part : W.heap[pb]? = some (.cells #[.string ⟨p.text.toArray⟩, tv] 65 (0, 0))
  ne : bb ≠ ob ∧ tb ≠ ob ∧ pb ≠ ob
  row : ∀ k, RowOf ob W k → wp.heap.size ≤ k ∧ k ≠ bb ∧ k ≠ tb ∧ k ≠ pb
  lt : ∀ k, RowOf ob W k → k < W.heap.size
/-- a row of texts that is not the box's -/
def LstAt (ob : Nat) (W : World) (v : Value) (L : List (List UInt8)) : Prop := ∃ a cap, v = .slice a L.length cap ∧ (0 < L.length → ∃ g cur ty, a = some ⟨g, 0, none⟩ ∧ W.heap[g]? = some (.cells cur ty (0, 0)) ∧ g ≠ ob ∧ ¬ RowOf ob W g ∧
  ∀ (j : Nat) (x : List UInt8), L[j]? = some x → cur[j]? = some (.string ⟨x.toArray⟩))
section
variable {W0 wp W W' : World} {s : Fs} {lay : FId → Nat} {B ob bb tb pb : Nat} {dir : Int} {p : PartS} {tv v : Value} {b : List UInt8} {L : List (List UInt8)}
theorem FitAt.kb (h : FitAt W0 s lay wp ob bb tb pb dir p tv b W) (k : Kb B ob W W') (hB : wp.heap.size ≤ B) : FitAt W0 s lay wp ob bb tb pb dir p tv b W' :=
  ⟨h.fs, h.tok, h.low.trans (k.below hB h.low.size h.hob.1 (fun j hj => (h.row j hj).1)), ⟨h.hob.1, Nat.lt_of_lt_of_le h.hob.2 k.size⟩,
    (k.cells _ _ _ _ h.begin_ h.ne.1 (fun r => (h.row _ r).2.1 rfl)).trans h.begin_, (k.cells _ _ _ _ h.tree h.ne.2.1 (fun r => (h.row _ r).2.2.1 rfl)).trans h.tree, (k.cells _ _ _ _ h.part h.ne.2.2 (fun r => (h.row _ r).2.2.2 rfl)).trans h.part, h.ne,
    fun j hj => by
      rcases k.row j hj with q | q
      · exact h.row j q
      · have := h.low.size
        have h1 := blk_lt h.begin_
        have h2 := blk_lt h.tree
        have h3 := blk_lt h.part
        exact ⟨by omega, by omega, by omega, by omega⟩, k.lt h.lt⟩
theorem FitAt.next (h : FitAt W0 s lay wp ob bb tb pb dir p tv b W) (k : Below W.heap.size W W') : FitAt W0 s lay wp ob bb tb pb dir p tv b W' := h.kb (Kb.of_below (B := wp.heap.size) k h.hob.2) (Nat.le_refl _)
theorem LstAt.kb (h : LstAt ob W v L) (k : Kb B ob W W') : LstAt ob W' v L := by
  obtain ⟨a, cap, rfl, hs⟩ := h
  refine ⟨a, cap, rfl, fun h0 => ?_⟩
  obtain ⟨g, cur, ty, rfl, h1, h2, h3, h4⟩ := hs h0
  refine ⟨g, cur, ty, rfl, (k.cells _ _ _ _ h1 h2 h3).trans h1, h2, fun r => ?_, h4⟩
  rcases k.row g r with q | q
  · exact h3 q
  · have := blk_lt h1; omega
theorem FsIn.kept (h : FsIn W0 s lay W) (hb : Below W.heap.size W W') : FsIn W0 s lay W' :=
  ⟨⟨h.is.lies.kept fun i hi => hb.block _ (h.is.lies.owns_lt ⟨i, hi, rfl⟩), h.is.ok⟩, h.low, h.below.trans (hb.mono h.below.size), h.whole⟩
theorem FitAt.fsn (h : FitAt W0 s lay wp ob bb tb pb dir p tv b W) : FsIn W0 s lay W := h.fs.kept h.low
theorem FitAt.tokn (h : FitAt W0 s lay wp ob bb tb pb dir p tv b W) : TokAt W tv p.toks := h.tok.below h.low
/-- a step that keeps the tree's model keeps all -/
theorem Step.below (h : FsIs s lay W) (k : Step s lay W s lay W') : Below W.heap.size W W' :=
  ⟨k.turned.os, k.turned.tape, k.turned.output, k.turned.size, fun j hj => by
    by_cases q : Owns (s.obj lay) lay j
    · obtain ⟨i, hi, rfl⟩ := q
      cases ho : s.obj lay i with
      | none => exact absurd ho hi
      | some o => rw [k.is.lies.at_ i o ho, h.lies.at_ i o ho]
    · exact k.turned.block j hj q⟩
theorem row_lst {V : World} {base : Nat} {t : TypeId} {u : Value} (h : V.ownsRow base 9 1 v L.length (L.map fun x => Value.string ⟨x.toArray⟩)) (ho : Boxed V ob t u) (ht : t ≠ 9) (hu : u = .slice none 0 0 := by rfl) : LstAt ob V v L := by
  obtain ⟨h3, hr⟩ := h
  rcases hr with ⟨rfl, hn⟩ | ⟨g, cap, cur, rfl, hbg, hg, hnc, hcm, hcs, htk⟩
  · have : L = [] := List.eq_nil_of_length_eq_zero hn
    subst this
    exact ⟨none, 0, rfl, fun h => by simp at h⟩
  · refine ⟨_, cap, rfl, fun _ => ⟨g, cur, _, rfl, hg, fun e => ?_, fun r => ?_, fun j x hj => ?_⟩⟩
    · subst e
      have ho' : V.heap[g]? = some (.cells #[u] t (0, 0)) := ho
      rw [hg] at ho'; cases ho'; exact ht rfl
    · have := (RowOf.boxed ho).1 r
      subst hu
      cases this
    · have hjl : j < L.length := (List.getElem?_eq_some_iff.1 hj).1
      have h1 : (cur.toList.take (L.length * 1))[j]? = some (.string ⟨x.toArray⟩) := by rw [htk, List.getElem?_map, hj]; rfl
      rw [List.getElem?_take_of_lt (by omega), Array.getElem?_toList] at h1
      exact h1
theorem Listed.lst {w w1 : World} (h : Listed w w1 L v) (ho : ob < w.heap.size) (hl : ∀ k, RowOf ob w k → k < w.heap.size) : LstAt ob w1 v L := by
  obtain ⟨h3, hr⟩ := h.own
  rcases hr with ⟨rfl, hn⟩ | ⟨g, cap, cur, rfl, hbg, hg, hnc, hcm, hcs, htk⟩
  · have : L = [] := List.eq_nil_of_length_eq_zero hn
    subst this
    exact ⟨none, 0, rfl, fun h => by simp at h⟩
  · refine ⟨_, cap, rfl, fun _ => ⟨g, cur, _, rfl, hg, by omega, fun r => ?_, fun j x hj => ?_⟩⟩
    · have := hl g ((RowOf.block (h.below.block ob ho)).1 r)
      omega
    · have hjl : j < L.length := (List.getElem?_eq_some_iff.1 hj).1
      have h1 : (cur.toList.take (L.length * 1))[j]? = some (.string ⟨x.toArray⟩) := by rw [htk, List.getElem?_map, hj]; rfl
      rw [List.getElem?_take_of_lt (by omega), Array.getElem?_toList] at h1
      exact h1
end
end Go.Proofs.YtggdedihfhibfaaGreatDoor
