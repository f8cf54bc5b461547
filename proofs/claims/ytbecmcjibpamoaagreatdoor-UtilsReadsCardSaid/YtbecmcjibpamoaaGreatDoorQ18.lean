/- NmC -/
import Derived.Test.YtbecmcjibpamoaaGreatDoorQ17
set_option linter.unusedVariables false
set_option linter.unusedSimpArgs false
set_option linter.deprecated false
set_option linter.unnecessarySimpa false
namespace Go.Proofs.YtbecmcjibpamoaaGreatDoor
open Go.RowKit IntWalk
def Fs.Whole (s : Fs) : Prop := ∀ i x, s.nd i = some x → x.taken s ∧ 0 ≤ x.size ∧ x.size ≤ 4096
theorem read_end {s lay} (i : Int) (x : Nd) (at_ n : Nat) (w : World) (h : FsIs s lay w) (hn : s.nd i = some x) (hat : x.size ≤ (at_ : Int)) : Calls Tryz.prog 102 #[ptrTo (lay .T), .int .i64 i, .int .i64 at_, .int .i64 n] w fun e w' =>
      e = .returned (.tuple #[.string ByteArray.empty, .int .i64 0]) ∧ w = w' := by
  have c3 := h.n3 (Fs.nd_slot hn).2.2
  go_enter Tryz.func102, Tryz.ntmps102
  unfold ptrTo
  go_wp2_with (go_at_call 37; refine (find_some i x w h hn).mono ?_; rintro e w' ⟨rfl, rfl⟩; unfold ptrTo)
  go_ret2
  exact ⟨rfl, rfl⟩
theorem read_link {s lay} (i : Int) (w : World) (h : FsIs s lay w) (hW : s.Whole) (hk : s.fld Nd.kind i ≠ 0) :
    Calls Tryz.prog 102 #[ptrTo (lay .T), .int .i64 i, .int .i64 0, .int .i64 256] w fun e w' => e = .returned (.tuple #[.string ⟨(s.link i).toArray⟩, .int .i64 0]) ∧ Step s lay w s lay w' := by
  cases hn : s.nd i with
  | none => exact absurd (by unfold Fs.fld; rw [hn]) hk
  | some x =>
    obtain ⟨ht, h0, h1⟩ := hW i x hn
    by_cases hs : x.size = 0
    · have hl : s.link i = [] := by unfold Fs.link; rw [hn]; simp [hs, Fs.bytes]
      rw [hl]
      refine (read_end i x 0 256 w h hn (by omega)).mono ?_
      rintro e w' ⟨rfl, rfl⟩
      exact ⟨rfl, Step.refl h⟩
    · have hl : s.link i = s.bytes x 0 (min 256 (x.size.toNat - 0)) := by unfold Fs.link; rw [hn]; simp
      rw [hl]
      exact read_some i x 0 256 w h hn ht ⟨h0, h1⟩ (by omega) (by omega)
theorem Wk.keep {s : Fs} {lay : FId → Nat} {L links : Nat} {w w' : World} (h : Wk s lay L links w) (hb : w'.heap[L]? = w.heap[L]?) : Wk s lay L links w' :=
  ⟨by rw [World.cell?_of_block (w := w) hb]; exact h.c0, by rw [World.cell?_of_block (w := w) hb]; exact h.c1, by rw [World.frozen?_of_block (w := w) hb]; exact h.fz, h.out⟩
theorem Wk.lt {s : Fs} {lay : FId → Nat} {L links : Nat} {w : World} (h : Wk s lay L links w) : L < w.heap.size := World.block_lt_of_cell? w ⟨L, 0, none⟩ h.c0
def WayT (s : Fs) (lay : FId → Nat) (L : Nat) (k : Nat) : Prop := k = L ∨ Owns (s.obj lay) lay k
structure EnvG (W0 : World) : Prop where
  maxlen : ∃ m, W0.cell? ⟨0, 0, none⟩ = some (.int .i64 m)
structure WayIs (W0 : World) (s : Fs) (lay : FId → Nat) (L links : Nat) (w : World) : Prop where
  is : FsIs s lay w
  wk : Wk s lay L links w
  below : Below W0.heap.size W0 w
def GoOk (W0 : World) (s : Fs) (lay : FId → Nat) (L f : Nat) : Prop := ∀ (at_ : Int) (path : List UInt8) (fol : Bool) (links : Nat) (w : World), 9 ≤ links + f → links ≤ 8 → WayIs W0 s lay L links w →
  Calls Tryz.prog 27 #[ptrTo L, .int .i64 at_, .string ⟨path.toArray⟩, .bool fol] w fun e w' =>
    e = .returned (.tuple #[.int .i64 (s.goesS f at_ path fol links).1, .int .i64 (s.goesS f at_ path fol links).2.1]) ∧ WayIs W0 s lay L (s.goesS f at_ path fol links).2.2 w' ∧ Turned (WayT s lay L) w w'
end Go.Proofs.YtbecmcjibpamoaaGreatDoor
