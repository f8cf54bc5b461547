/- NmE -/
import Derived.Test.YtbecmcjibpamoaaGreatDoorQ19
import Derived.Test.YtbecmcjibpamoaaGreatDoorQ20
set_option linter.unusedVariables false
set_option linter.unusedSimpArgs false
set_option linter.deprecated false
set_option linter.unnecessarySimpa false
namespace Go.Proofs.YtbecmcjibpamoaaGreatDoor
open Go.RowKit IntWalk
theorem EnvG.at_ {W0 w : World} (hE : EnvG W0) (hB : Below W0.heap.size W0 w) : ∃ m, w.cell? ⟨0, 0, none⟩ = some (.int .i64 m) := by
  obtain ⟨m, hm⟩ := hE.maxlen
  exact ⟨m, by rw [World.cell?_of_block (hB.block _ (World.block_lt_of_cell? W0 ⟨0, 0, none⟩ hm))]; exact hm⟩
def StrsAt (w : World) (b : Nat) (l : List (List UInt8)) : Prop := ∀ (j : Nat) (x : List UInt8), l[j]? = some x → w.cell? ⟨b, j, none⟩ = some (.string ⟨x.toArray⟩)
theorem split_any (s : List UInt8) (hs : s.length ≤ 100000) (w : World) (m : Int) (hm : w.cell? ⟨0, 0, none⟩ = some (.int .i64 m)) : Calls Tryz.prog 55 #[.string ⟨s.toArray⟩, .string ⟨#[47]⟩] w fun e w' =>
    e = .returned (.slice (some ⟨w.heap.size, 0, none⟩) (cutP s).length (cutP s).length) ∧ StrsAt w' w.heap.size (cutP s) ∧ Below w.heap.size w w' := by
  have h := Tryz.strings_Split ⟨s.toArray⟩ ⟨#[47]⟩ m w (by show s.length < _; omega) hm (by decide)
  have hd : (ByteArray.mk s.toArray).data.toList = s := by simp
  have hd2 : (ByteArray.mk #[47]).data.toList = [47] := rfl
  have hc : Lib.countB ⟨s.toArray⟩ ⟨#[47]⟩ = s.count 47 := by
    show Lib.count _ _ = _
    rw [hd, hd2, Lib.count_one]
  have hcut := splitB_cutP s
  have hlen := cutP_len s
  rw [hc, ← hlen] at h
  refine h.mono ?_
  rintro e w' ⟨rfl, rfl⟩
  refine ⟨rfl, fun j x hj => ?_, (Below.refl _ _).alloc (Nat.le_refl _) _⟩
  rw [World.cell?_alloc_new]
  show (((Lib.splitB ⟨#[47]⟩ 0 (s.count 47) ⟨s.toArray⟩).map Value.string).toArray)[j]? = _
  have hx : ((Lib.splitB ⟨#[47]⟩ 0 (s.count 47) ⟨s.toArray⟩).map (·.data.toList))[j]? = some x := by rw [hcut]; exact hj
  rw [List.getElem?_map] at hx
  rw [List.getElem?_toArray, List.getElem?_map]
  cases hb : (Lib.splitB ⟨#[47]⟩ 0 (s.count 47) ⟨s.toArray⟩)[j]? with
  | none => rw [hb] at hx; cases hx
  | some y =>
    rw [hb] at hx
    cases hx
    show some (Value.string y) = some (Value.string ⟨y.data.toList.toArray⟩)
    rw [Array.toArray_toList]
section
variable {W0 : World} {s : Fs} {lay : FId → Nat} {L : Nat}
set_option maxRecDepth 100000 in
theorem goes_short (f : Nat) (at_ : Int) (path : List UInt8) (fol : Bool) (links : Nat) (w : World) (h : WayIs W0 s lay L links w) (hp : path = [] ∨ 256 < path.length) :
    Calls Tryz.prog 27 #[ptrTo L, .int .i64 at_, .string ⟨path.toArray⟩, .bool fol] w fun e w' =>
      e = .returned (.tuple #[.int .i64 (s.goesS (f + 1) at_ path fol links).1, .int .i64 (s.goesS (f + 1) at_ path fol links).2.1]) ∧ WayIs W0 s lay L (s.goesS (f + 1) at_ path fol links).2.2 w' ∧ Turned (WayT s lay L) w w' := by
  rcases hp with rfl | hp
  · have hg : s.goesS (f + 1) at_ [] fol links = (0, 23, links) := by unfold Fs.goesS; rw [if_pos rfl]
    rw [hg]
    unfold ptrTo at *
    go_enter Tryz.func27, Tryz.ntmps27
    go_wp2
    go_ret2
    exact ⟨rfl, h, Turned.refl _ _⟩
  · have hg : s.goesS (f + 1) at_ path fol links = (0, 3, links) := by
      unfold Fs.goesS
      rw [if_neg (fun q => by rw [q] at hp; simp at hp), if_pos hp]
    rw [hg]
    have hp' : (256 : Int) < path.length := by omega
    have b0 : path.isEmpty = false := by cases path with | nil => simp at hp | cons _ _ => rfl
    unfold ptrTo at *
    go_enter Tryz.func27, Tryz.ntmps27
    go_wp2
    go_ret2
    exact ⟨rfl, h, Turned.refl _ _⟩
end
end Go.Proofs.YtbecmcjibpamoaaGreatDoor
