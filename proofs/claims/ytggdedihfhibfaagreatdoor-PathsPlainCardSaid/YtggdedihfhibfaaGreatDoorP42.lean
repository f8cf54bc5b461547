/- Texts of one proof, packed: PtJ -/
import Derived.Test.YtggdedihfhibfaaGreatDoorP40
import Derived.Sort.OwnSorted
set_option linter.unusedVariables false
set_option linter.unusedSimpArgs false
set_option linter.deprecated false
set_option linter.unnecessarySimpa false
/- slices.Sort and slices.DeleteFunc on rows of texts that the call owns. -/
namespace Go.Proofs.YtggdedihfhibfaaGreatDoor
open Go.RowKit IntWalk Go.Sort Go.Shelf
set_option linter.unusedVariables false
set_option linter.unusedSimpArgs false

theorem encB_str (l : List (List UInt8)) : l.map encB = l.map encStr := rfl
theorem sort_any (w : World) (base : Nat) (v : Value) (l : List (List UInt8)) (hrow : w.ownsRow base 9 1 v l.length (l.map encB)) (hl : l.length ≤ 100000) :
    Calls Tryz.prog 35 #[v] w fun e w' => e = .returned (.tuple #[]) ∧ w'.ownsRow base 9 1 v (sortS l).length ((sortS l).map encB) ∧ w.grownBy w' v.ownBlock := by
  obtain ⟨h3, hr⟩ := hrow
  rcases hr with ⟨rfl, hn⟩ | ⟨g, cap, cur, rfl, hbg, hg, hnc, hcm, hcs, htk⟩
  · have : l = [] := List.eq_nil_of_length_eq_zero hn
    subst this
    refine (AnyM.slices_Sort_string_none Tryz.sort35 none 0 w).mono ?_
    rintro e w' ⟨rfl, rfl⟩
    have e0 : sortS [] = [] := by simp [sortS]
    rw [e0]
    exact ⟨rfl, World.ownsRow_nil _ _ _ _, grown_none (Below.refl _ _)⟩
  · rw [Nat.mul_one] at htk
    refine (AnyM.slices_Sort_string Tryz.sort35 g 0 cap l w (holds_of_block hg (by rw [htk]; rfl)) (blk_lt hg) (by omega)).mono ?_
    rintro e w' ⟨rfl, n, os, rfl⟩
    refine ⟨rfl, ?_, grownBy_sorted _⟩
    rw [merge_sortS]
    have h := ownsRow_sorted (base := base) (n := n) (os := os) (ts := l.mergeSort fun x y => decide (x ≤ y)) (ss := l) (List.length_mergeSort l) hbg hg hnc hcm hcs
    have e1 : (sortS l).length = l.length := (sortS_perm l).length_eq
    rw [merge_sortS] at h
    rw [e1]
    exact h
section
variable {W0 : World} {s : Fs} {lay : FId → Nat} {fb db : Nat} {dir : Int} {wp : World}
theorem delete_any (hE : EnvG W0) (w : World) (hfs : FsIn W0 s lay wp) (hf : wp.cell? ⟨fb, 0, none⟩ = some (ptrTo (lay .F))) (hd : wp.cell? ⟨db, 0, none⟩ = some (.int .i64 dir)) (hlow : Below wp.heap.size wp w) (v : Value) (l : List (List UInt8)) (hrow : w.ownsRow wp.heap.size 9 1 v l.length (l.map encB)) (hl : l.length ≤ 100000) :
    Calls Tryz.prog 33 #[v, .func (.func 34) #[] #[.pointer (some ⟨fb, 0, none⟩), .pointer (some ⟨db, 0, none⟩)]] w fun e w' =>
      ∃ v', e = .returned v' ∧ w'.ownsRow wp.heap.size 9 1 v' (l.filter (s.isS dir)).length ((l.filter (s.isS dir)).map encB) ∧ w.grownBy w' v.ownBlock := by
  rcases hrow.2 with ⟨rfl, hn⟩ | ⟨g, cap, cur, rfl, hbg, hg, hnc, hcm, hcs, htk⟩
  · have : l = [] := List.eq_nil_of_length_eq_zero hn
    subst this
    refine (del_none fb db w).mono ?_
    rintro e w' ⟨rfl, rfl⟩
    exact ⟨_, rfl, World.ownsRow_nil _ _ _ _, grown_none (Below.refl _ _)⟩
  · exact del_some hE w ⟨hfs, hf, hd, hlow, hbg⟩ wp.heap.size l cap hrow hl
end
end Go.Proofs.YtggdedihfhibfaaGreatDoor
