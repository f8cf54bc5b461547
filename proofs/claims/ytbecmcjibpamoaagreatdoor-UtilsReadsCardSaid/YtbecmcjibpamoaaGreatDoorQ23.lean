/- NmW -/
import Derived.Test.YtbecmcjibpamoaaGreatDoorQ22
set_option linter.unusedVariables false
set_option linter.unusedSimpArgs false
set_option linter.deprecated false
set_option linter.unnecessarySimpa false
namespace Go.Proofs.YtbecmcjibpamoaaGreatDoor
open Go.RowKit IntWalk
section
variable {W0 : World} {s : Fs} {lay : FId → Nat}
structure FsIn (W0 : World) (s : Fs) (lay : FId → Nat) (w : World) : Prop where
  is : FsIs s lay w
  low : ∀ k, Owns (s.obj lay) lay k → W0.heap.size ≤ k
  below : Below W0.heap.size W0 w
  whole : s.Whole
theorem FsIn.drewN {w : World} (h : FsIn W0 s lay w) (n : Nat) : FsIn W0 s lay (w.drewN n) := ⟨h.is.drewN n, h.low, ⟨h.below.os, h.below.tape, h.below.output, h.below.size, h.below.block⟩, h.whole⟩
theorem FsIn.step {w : World} (h : FsIn W0 s lay w) {s' : Fs} {lay' : FId → Nat} {w' : World} (hs : Step s lay w s' lay' w') (hw : s'.Whole) : FsIn W0 s' lay' w' :=
  ⟨hs.is, fun k hk => by
    rcases hs.own k hk with q | q
    · exact h.low k q
    · exact Nat.le_trans h.below.size q, below_turned h.below hs.turned h.low, hw⟩
set_option maxRecDepth 100000 in
theorem walk_none (dir : Int) (path : List UInt8) (fol : Bool) (w : World) (h : FsIs s lay w) (hd : s.dirOf dir = none) :
    Calls Tryz.prog 10 #[ptrTo (lay .F), .int .i64 dir, .string ⟨path.toArray⟩, .bool fol] w fun e w' => e = .returned (.tuple #[.int .i64 0, .int .i64 25]) ∧ w = w' := by
  have HD := Lib.hid (dir_any dir w h)
  have hp := dirPtr_none (lay := lay) hd
  unfold ptrTo at *
  go_enter Tryz.func10, Tryz.ntmps10
  go_wp2_with (go_at_call 26; refine HD.out.mono ?_; rintro e w' ⟨rfl, rfl⟩; rw [hp])
  go_ret2
  exact ⟨rfl, rfl⟩
set_option maxRecDepth 100000 in
theorem walk_some (hE : EnvG W0) (dir : Int) (path : List UInt8) (fol : Bool) (w : World) (h : FsIn W0 s lay w) (d : Dr) (hd : s.dirOf dir = some d) :
    Calls Tryz.prog 10 #[ptrTo (lay .F), .int .i64 dir, .string ⟨path.toArray⟩, .bool fol] w fun e w' => e = .returned (.tuple #[.int .i64 (s.goesS 9 dir path fol 0).1, .int .i64 (s.goesS 9 dir path fol 0).2.1]) ∧ Step s lay w s lay w' := by
  have HD := Lib.hid (dir_any dir w h.is)
  have hp := dirPtr_some (lay := lay) hd
  have HI := Lib.hid h
  clear h
  have hout : ¬ Owns (s.obj lay) lay w.heap.size := fun q => by have := HI.out.is.lies.owns_lt q; omega
  have HG := Lib.hid (fun (W : World) (hw : WayIs W0 s lay w.heap.size 0 W) => go_ok HI.out.whole (fun k hk => by
    rcases hk with rfl | q
    · exact HI.out.below.size
    · exact HI.out.low k q) hE 9 dir path fol 0 W (by omega) (by omega) hw)
  unfold ptrTo at *
  go_enter Tryz.func10, Tryz.ntmps10
  go_wp2_with first
    | (go_at_call 26; refine HD.out.mono ?_; rintro e w' ⟨rfl, rfl⟩; rw [hp])
    | (go_at_call 27; (with_reducible refine (HG.out _ ?_).mono ?_); rotate_left; (rintro e w1 ⟨rfl, hway, htn⟩))
  rotate_left
  · exact ⟨HI.out.is.alloc _, ⟨by rw [World.cell?_alloc_new]; rfl, by rw [World.cell?_alloc_new]; rfl, by rw [World.frozen?_alloc_new], hout⟩, HI.out.below.alloc HI.out.below.size _⟩
  go_ret2
  refine ⟨rfl, hway.is, ?_, fun k hk => .inl hk⟩
  exact ((Turned.refl (Owns (s.obj lay) lay) w).alloc _).trans htn (fun b hb hlt => hb.resolve_left (by omega))
theorem walk_any (hE : EnvG W0) (dir : Int) (path : List UInt8) (fol : Bool) (w : World) (h : FsIn W0 s lay w) :
    Calls Tryz.prog 10 #[ptrTo (lay .F), .int .i64 dir, .string ⟨path.toArray⟩, .bool fol] w fun e w' => e = .returned (.tuple #[.int .i64 (s.walkS dir path fol).1, .int .i64 (s.walkS dir path fol).2]) ∧ Step s lay w s lay w' := by
  unfold Fs.walkS
  cases hd : s.dirOf dir with
  | none => exact (walk_none dir path fol w h.is hd).mono (by rintro e w' ⟨rfl, rfl⟩; exact ⟨rfl, Step.refl h.is⟩)
  | some d => exact walk_some hE dir path fol w h d hd
end
end Go.Proofs.YtbecmcjibpamoaaGreatDoor
