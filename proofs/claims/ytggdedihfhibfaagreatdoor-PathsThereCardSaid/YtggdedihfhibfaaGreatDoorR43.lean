/- Texts of one proof, packed: PtJ, PtK -/
import Derived.Test.YtggdedihfhibfaaGreatDoorR40
import Derived.Sort.OwnSorted
import Derived.Test.YtggdedihfhibfaaGreatDoorR41
import Derived.Test.YtggdedihfhibfaaGreatDoorR38
import Derived.Maps.OwnIn
set_option linter.unusedVariables false
set_option linter.unusedSimpArgs false
set_option linter.deprecated false
set_option linter.unnecessarySimpa false
/- slices.Sort and slices.DeleteFunc on rows of texts that the call owns. -/
namespace Go.Proofs.YtggdedihfhibfaaGreatDoor
open Go.RowKit IntWalk Go.Sort Go.Shelf
set_option linter.unusedVariables false
set_option linter.unusedSimpArgs false

theorem encB_str (l : List (List UInt8)) : l.map encB = l.map encStr := rfl
theorem sort_any (w : World) (base : Nat) (v : Value) (l : List (List UInt8)) (hrow : w.ownsRow base 9 1 v l.length (l.map encB)) (hl : l.length ≤ 100000) :
    Calls Tryz.prog 35 #[v] w fun e w' => e = .returned (.tuple #[]) ∧ w'.ownsRow base 9 1 v (sortS l).length ((sortS l).map encB) ∧ w.grownBy w' v.ownBlock := by
  obtain ⟨h3, hr⟩ := hrow
  rcases hr with ⟨rfl, hn⟩ | ⟨g, cap, cur, rfl, hbg, hg, hnc, hcm, hcs, htk⟩
  · have : l = [] := List.eq_nil_of_length_eq_zero hn
    subst this
    refine (AnyM.slices_Sort_string_none Tryz.sort35 none 0 w).mono ?_
    rintro e w' ⟨rfl, rfl⟩
    have e0 : sortS [] = [] := by simp [sortS]
    rw [e0]
    exact ⟨rfl, World.ownsRow_nil _ _ _ _, grown_none (Below.refl _ _)⟩
  · rw [Nat.mul_one] at htk
    refine (AnyM.slices_Sort_string Tryz.sort35 g 0 cap l w (holds_of_block hg (by rw [htk]; rfl)) (blk_lt hg) (by omega)).mono ?_
    rintro e w' ⟨rfl, n, os, rfl⟩
    refine ⟨rfl, ?_, grownBy_sorted _⟩
    rw [merge_sortS]
    have h := ownsRow_sorted (base := base) (n := n) (os := os) (ts := l.mergeSort fun x y => decide (x ≤ y)) (ss := l) (List.length_mergeSort l) hbg hg hnc hcm hcs
    have e1 : (sortS l).length = l.length := (sortS_perm l).length_eq
    rw [merge_sortS] at h
    rw [e1]
    exact h
section
variable {W0 : World} {s : Fs} {lay : FId → Nat} {fb db : Nat} {dir : Int} {wp : World}
theorem delete_any (hE : EnvG W0) (w : World) (hfs : FsIn W0 s lay wp) (hf : wp.cell? ⟨fb, 0, none⟩ = some (ptrTo (lay .F))) (hd : wp.cell? ⟨db, 0, none⟩ = some (.int .i64 dir)) (hlow : Below wp.heap.size wp w) (v : Value) (l : List (List UInt8)) (hrow : w.ownsRow wp.heap.size 9 1 v l.length (l.map encB)) (hl : l.length ≤ 100000) :
    Calls Tryz.prog 33 #[v, .func (.func 34) #[] #[.pointer (some ⟨fb, 0, none⟩), .pointer (some ⟨db, 0, none⟩)]] w fun e w' =>
      ∃ v', e = .returned v' ∧ w'.ownsRow wp.heap.size 9 1 v' (l.filter (s.isS dir)).length ((l.filter (s.isS dir)).map encB) ∧ w.grownBy w' v.ownBlock := by
  rcases hrow.2 with ⟨rfl, hn⟩ | ⟨g, cap, cur, rfl, hbg, hg, hnc, hcm, hcs, htk⟩
  · have : l = [] := List.eq_nil_of_length_eq_zero hn
    subst this
    refine (del_none fb db w).mono ?_
    rintro e w' ⟨rfl, rfl⟩
    exact ⟨_, rfl, World.ownsRow_nil _ _ _ _, grown_none (Below.refl _ _)⟩
  · exact del_some hE w ⟨hfs, hf, hd, hlow, hbg⟩ wp.heap.size l cap hrow hl
end
end Go.Proofs.YtggdedihfhibfaaGreatDoor
/- What the range over what fits knows. -/
namespace Go.Proofs.YtggdedihfhibfaaGreatDoor
open Go.RowKit IntWalk Go.Shelf
set_option linter.unusedVariables false
set_option linter.unusedSimpArgs false

theorem fit_at {W0 wp V2 : World} {s : Fs} {lay : FId → Nat} {ob sz k : Nat} {dir : Int} {p : PartS} {tv v : Value} {B : List UInt8} {t e : TypeId} {xs : List Value} (hfs : FsIn W0 s lay wp) (htok : TokAt wp tv p.toks) (hlow : Below wp.heap.size wp V2)
    (hob : wp.heap.size ≤ ob) (hv : Boxed V2 ob t v) (hrow : V2.ownsRow wp.heap.size e sz v k xs) :
    FitAt W0 s lay wp ob (V2.heap.size + 2) V2.heap.size (V2.heap.size + 1) dir p tv B (fitW V2 (lay .F) dir p tv B) ∧ Below V2.heap.size V2 (fitW V2 (lay .F) dir p tv B) := by
  have hb : Below V2.heap.size V2 (fitW V2 (lay .F) dir p tv B) := by
    unfold fitW
    exact (((Below.refl _ V2).alloc (Nat.le_refl _) _).alloc (by simp) _).alloc (by simp; omega) _
  obtain ⟨e0, e1, e2⟩ := box3 V2 (.cells #[ptrTo (lay .F), .int .i64 dir] 68) (.cells #[.string ⟨p.text.toArray⟩, tv] 65) (.cells #[.string ⟨B.toArray⟩] 9)
  have hob2 := hv.lt
  have hr : ∀ j, RowOf ob (fitW V2 (lay .F) dir p tv B) j → wp.heap.size ≤ j ∧ j < V2.heap.size := fun j hj =>
    World.ownsRow.lt hrow j ((RowOf.boxed hv).1 ((RowOf.block (hb.block ob hob2)).1 hj))
  have hsz := hb.size
  exact ⟨⟨hfs, htok, hlow.trans (hb.mono hlow.size), ⟨hob, by omega⟩, e2, e0, e1, ⟨by omega, by omega, by omega⟩,
    fun j hj => ⟨(hr j hj).1, by have := (hr j hj).2; omega, by have := (hr j hj).2; omega, by have := (hr j hj).2; omega⟩, fun j hj => by have := (hr j hj).2; omega⟩, hb⟩
/-- what lies between two names -/
structure RngI (wp Wr : World) (ob : Nat) (zs : List (List UInt8)) (B : List UInt8) (pre : List (List UInt8)) (R : World) : Prop where
  kb : Kb Wr.heap.size ob Wr R
  row : ∃ v, Boxed R ob 32 v ∧ R.ownsRow wp.heap.size 9 1 v (zs ++ pre.map (B ++ ·)).length ((zs ++ pre.map (B ++ ·)).map encB)
theorem RngI.own (wp Wr : World) (ob : Nat) (zs : List (List UInt8)) (B : List UInt8) : OwnFrom Wr.heap.size (RngI wp Wr ob zs B) := by
  intro pre R R' row h hg hr
  obtain ⟨v, hv, hrow⟩ := h.row
  have hv' : R.heap[ob]? = some (.cells #[v] 32 (0, 0)) := hv
  refine ⟨h.kb.grown hg hr ⟨_, _, _, hv'⟩, v, (grown_cells hg (fun r e => (hr r e).2) hv').trans hv', hrow.kept hg ?_⟩
  cases e : v.ownBlock with
  | none => exact .inl rfl
  | some g =>
    refine .inr fun e2 => ?_
    obtain ⟨cur, hc⟩ := row_type hrow g e
    obtain ⟨o, ho, hoc⟩ := (hr g e2.symm).2
    rw [hc] at ho; cases ho; cases hoc
theorem RngI.start {wp V2 Wr : World} {ob : Nat} {zs : List (List UInt8)} {B : List UInt8} {v : Value} (hb : Below V2.heap.size V2 Wr) (hv : Boxed V2 ob 32 v) (hrow : V2.ownsRow wp.heap.size 9 1 v zs.length (zs.map encB)) : RngI wp Wr ob zs B [] Wr :=
  ⟨Kb.refl _ _ _, v, (hb.block _ hv.lt).trans hv, by
    have := hrow.kept (grown_none hb) (by cases v.ownBlock <;> simp)
    simpa using this⟩
theorem RngI.ds {wp Wr R : World} {ob n : Nat} {zs : List (List UInt8)} {B : List UInt8} {pre : List (List UInt8)} {ds : List Deferred} (h : RngI wp Wr ob zs B pre R) (h0 : RngI wp Wr ob zs B [] Wr) (hd : DsOk n ds Wr) (hn : n ≤ Wr.heap.size) {D : Nat} (hD : Wr.heap.size ≤ D) (hK : R.heap[D]? = some (Obj.deferred (some []))) : DsOk n (mkD D :: ds) R := by
  obtain ⟨v, hv, hrow⟩ := h0.row
  exact (hd.kb hv hrow (Nat.le_refl _) h.kb).cons hK (Nat.le_trans hn hD) (hd.new hD)
end Go.Proofs.YtggdedihfhibfaaGreatDoor
