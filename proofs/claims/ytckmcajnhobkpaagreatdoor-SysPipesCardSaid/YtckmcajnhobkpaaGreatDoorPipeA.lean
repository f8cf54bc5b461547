/- Pipe: the memory form of a pipe and the small walks. -/
import Derived.Test.YtckmcajnhobkpaaGreatDoorBase
namespace Go.Proofs.YtckmcajnhobkpaaGreatDoor
open Go.RowKit

/-- A pipe's cells in block b: the ring g, the place of the first byte f, how many m, the readers r and the writers wr. -/
structure PipeIs (w : World) (b : Nat) (g : Nat → UInt8) (f m r wr : Nat) : Prop where
  ring : ∀ i, i < 64 → w.cell? ⟨b, i, none⟩ = some (.int .u8 (g i).toNat)
  first : w.cell? ⟨b, 64, none⟩ = some (.int .i64 f)
  many : w.cell? ⟨b, 65, none⟩ = some (.int .i64 m)
  readers : w.cell? ⟨b, 66, none⟩ = some (.int .i64 r)
  writers : w.cell? ⟨b, 67, none⟩ = some (.int .i64 wr)
  free : ∀ i, w.frozen? ⟨b, i, none⟩ = false

theorem users_w (b : Nat) (w : World) : Calls Tryz.prog 205 #[.pointer (some ⟨b, 0, none⟩), .bool true] w fun e w' => e = .returned (.pointer (some ⟨b, 67, none⟩)) ∧ w = w' := by
  go_enter Tryz.func205, Tryz.ntmps205
  go_wp2
  go_ret
  exact ⟨rfl, rfl⟩
theorem users_r (b : Nat) (w : World) : Calls Tryz.prog 205 #[.pointer (some ⟨b, 0, none⟩), .bool false] w fun e w' => e = .returned (.pointer (some ⟨b, 66, none⟩)) ∧ w = w' := by
  go_enter Tryz.func205, Tryz.ntmps205
  go_wp2
  go_ret
  exact ⟨rfl, rfl⟩
def zeroPipe : Array Value := (List.replicate 64 (Value.int .u8 0) ++ List.replicate 4 (Value.int .i64 0)).toArray
theorem zeroP (w : World) : (zeroValue 152).run Tryz.prog w = .ok (.agg zeroPipe) w := by kernel_rfl
theorem zeroPipe_size : zeroPipe.size = 68 := by rfl
theorem cellsP : Tryz.prog.cellsOf 152 = 68 := by kernel_rfl
theorem new_any (w : World) : Calls Tryz.prog 49 #[] w fun e w' => e = .returned (.pointer (some ⟨w.heap.size, 0, none⟩)) ∧ Below w.heap.size w w' ∧ PipeIs w' w.heap.size (fun _ => 0) 0 0 1 1 := by
  have hz := zeroP
  have hs := zeroPipe_size
  have hc := cellsP
  go_enter Tryz.func49, Tryz.ntmps49
  go_wp2
  go_ret
  refine ⟨rfl, (Below.refl _ _).alloc (Nat.le_refl _) _, ?_⟩
  have hr : ∀ i, i < 64 → zeroPipe[i]? = some (.int .u8 0) := by
    intro i hi
    simp only [zeroPipe, List.getElem?_toArray]
    rw [List.getElem?_append_left (by simpa using hi)]
    rw [List.getElem?_replicate, if_pos hi]
  refine ⟨fun i hi => ?_, ?_, ?_, ?_, ?_, ?_⟩
  · rw [World.cell?_alloc_new, Array.getElem?_setIfInBounds, if_neg (by omega), Array.getElem?_setIfInBounds, if_neg (by omega), hr i hi]; rfl
  · rw [World.cell?_alloc_new, Array.getElem?_setIfInBounds, if_neg (by omega), Array.getElem?_setIfInBounds, if_neg (by omega)]; rfl
  · rw [World.cell?_alloc_new, Array.getElem?_setIfInBounds, if_neg (by omega), Array.getElem?_setIfInBounds, if_neg (by omega)]; rfl
  · rw [World.cell?_alloc_new, Array.getElem?_setIfInBounds, if_neg (by omega), Array.getElem?_setIfInBounds, if_pos rfl, if_pos (by omega)]; rfl
  · rw [World.cell?_alloc_new, Array.getElem?_setIfInBounds, if_pos rfl, if_pos (by simp [hs])]; rfl
  · intro i; exact World.frozen?_alloc_new ..

theorem PipeIs.set_many {w : World} {b g f m r wr} (h : PipeIs w b g f m r wr) (m' : Nat) : PipeIs (w.setCell ⟨b, 65, none⟩ (.int .i64 m')) b g f m' r wr :=
  ⟨fun i hi => by rw [cs_other (by simp <;> omega)]; exact h.ring i hi, by rw [cs_other (by simp)]; exact h.first,
   cs_same h.many, by rw [cs_other (by simp)]; exact h.readers, by rw [cs_other (by simp)]; exact h.writers,
   fun i => by rw [fz_set]; exact h.free i⟩
theorem PipeIs.set_many' {w : World} {b g f m r wr} (h : PipeIs w b g f m r wr) {z : Int} {m' : Nat} (hz : z = m') : PipeIs (w.setCell ⟨b, 65, none⟩ (.int .i64 z)) b g f m' r wr := by
  rw [hz]; exact h.set_many m'
theorem PipeIs.set_first' {w : World} {b g f m r wr} (h : PipeIs w b g f m r wr) {z : Int} {m' : Nat} (hz : z = m') : PipeIs (w.setCell ⟨b, 64, none⟩ (.int .i64 z)) b g m' m r wr :=
  ⟨fun i hi => by rw [cs_other (by simp <;> omega)]; exact h.ring i hi, by rw [hz]; exact cs_same h.first, by rw [cs_other (by simp)]; exact h.many,
   by rw [cs_other (by simp)]; exact h.readers, by rw [cs_other (by simp)]; exact h.writers,
   fun i => by rw [fz_set]; exact h.free i⟩
theorem PipeIs.set_none {w : World} {b g f m r wr} (h : PipeIs w b g f m r wr) : PipeIs (w.setCell ⟨b, 65, none⟩ (.int .i64 0)) b g f 0 r wr := by
  simpa using h.set_many 0
theorem PipeIs.set_first {w : World} {b g f m r wr} (h : PipeIs w b g f m r wr) (f' : Nat) : PipeIs (w.setCell ⟨b, 64, none⟩ (.int .i64 f')) b g f' m r wr :=
  ⟨fun i hi => by rw [cs_other (by simp <;> omega)]; exact h.ring i hi, cs_same h.first, by rw [cs_other (by simp)]; exact h.many,
   by rw [cs_other (by simp)]; exact h.readers, by rw [cs_other (by simp)]; exact h.writers,
   fun i => by rw [fz_set]; exact h.free i⟩
theorem PipeIs.set_readers {w : World} {b g f m r wr} (h : PipeIs w b g f m r wr) (r' : Nat) : PipeIs (w.setCell ⟨b, 66, none⟩ (.int .i64 r')) b g f m r' wr :=
  ⟨fun i hi => by rw [cs_other (by simp <;> omega)]; exact h.ring i hi, by rw [cs_other (by simp)]; exact h.first, by rw [cs_other (by simp)]; exact h.many,
   cs_same h.readers, by rw [cs_other (by simp)]; exact h.writers,
   fun i => by rw [fz_set]; exact h.free i⟩
theorem PipeIs.set_writers {w : World} {b g f m r wr} (h : PipeIs w b g f m r wr) (r' : Nat) : PipeIs (w.setCell ⟨b, 67, none⟩ (.int .i64 r')) b g f m r r' :=
  ⟨fun i hi => by rw [cs_other (by simp <;> omega)]; exact h.ring i hi, by rw [cs_other (by simp)]; exact h.first, by rw [cs_other (by simp)]; exact h.many,
   by rw [cs_other (by simp)]; exact h.readers, cs_same h.writers,
   fun i => by rw [fz_set]; exact h.free i⟩
def upd (g : Nat → UInt8) (i : Nat) (v : UInt8) : Nat → UInt8 := fun j => if j = i then v else g j
theorem PipeIs.set_ring {w : World} {b g f m r wr} (h : PipeIs w b g f m r wr) (i : Nat) (hi : i < 64) (v : UInt8) : PipeIs (w.setCell ⟨b, i, none⟩ (.int .u8 v.toNat)) b (upd g i v) f m r wr :=
  ⟨fun j hj => by
     by_cases e : j = i
     · subst e; rw [cs_same (h.ring _ hj)]; simp [upd]
     · rw [cs_other (by simp <;> omega)]; simp [upd, e]; exact h.ring j hj,
   by rw [cs_other (by simp <;> omega)]; exact h.first, by rw [cs_other (by simp <;> omega)]; exact h.many,
   by rw [cs_other (by simp <;> omega)]; exact h.readers, by rw [cs_other (by simp <;> omega)]; exact h.writers,
   fun i => by rw [fz_set]; exact h.free i⟩
theorem PipeIs.keep {w w' : World} {b g f m r wr} (h : PipeIs w b g f m r wr) (hb : w'.heap[b]? = w.heap[b]?) : PipeIs w' b g f m r wr :=
  ⟨fun i hi => by rw [World.cell?_of_block (w := w) hb]; exact h.ring i hi, by rw [World.cell?_of_block (w := w) hb]; exact h.first, by rw [World.cell?_of_block (w := w) hb]; exact h.many,
   by rw [World.cell?_of_block (w := w) hb]; exact h.readers, by rw [World.cell?_of_block (w := w) hb]; exact h.writers, fun i => by rw [World.frozen?_of_block (w := w) hb]; exact h.free i⟩
theorem PipeIs.drew {w : World} {b g f m r wr} (h : PipeIs w b g f m r wr) : PipeIs w.drew b g f m r wr := h.keep rfl

theorem leave_nil (t : Bool) (w : World) : Calls Tryz.prog 204 #[.pointer none, .bool t] w fun e w' => e = .returned (.int .i64 2) ∧ w = w' := by
  go_enter Tryz.func204, Tryz.ntmps204
  go_wp2
  go_ret
  exact ⟨rfl, rfl⟩
theorem leave_w0 (b g f m r) (w : World) (h : PipeIs w b g f m r 0) :
    Calls Tryz.prog 204 #[.pointer (some ⟨b, 0, none⟩), .bool true] w fun e w' => e = .returned (.int .i64 28) ∧ w = w' := by
  have h1 := h.writers
  go_enter Tryz.func204, Tryz.ntmps204
  go_wp2_with (go_at_call 205; refine (users_w _ _).mono ?_; rintro e w' ⟨rfl, rfl⟩)
  go_ret
  exact ⟨rfl, rfl⟩
theorem leave_r0 (b g f m wr) (w : World) (h : PipeIs w b g f m 0 wr) :
    Calls Tryz.prog 204 #[.pointer (some ⟨b, 0, none⟩), .bool false] w fun e w' => e = .returned (.int .i64 28) ∧ w = w' := by
  have h1 := h.readers
  go_enter Tryz.func204, Tryz.ntmps204
  go_wp2_with (go_at_call 205; refine (users_r _ _).mono ?_; rintro e w' ⟨rfl, rfl⟩)
  go_ret
  exact ⟨rfl, rfl⟩
/-- one writer less: -/
theorem leave_w (b g f m r wr) (w : World) (hP : PipeIs w b g f m r (wr + 1)) (hw : wr < 9223372036854775807) :
    Calls Tryz.prog 204 #[.pointer (some ⟨b, 0, none⟩), .bool true] w fun e w' => e = .returned (.int .i64 0) ∧ PipeIs w' b g f (if r = 0 then 0 else m) r wr ∧ w.grownBy w' (some b) := by
  have h1 := hP.writers
  have h2 := hP.free 67
  have h3 := hP.readers
  have h4 := hP.free 65
  have h5 := hP.many
  have hc : ((wr : Int) + 1 == 0) = false := by simp; omega
  by_cases hr : r = 0
  · subst hr
    go_enter Tryz.func204, Tryz.ntmps204
    go_wp2_with (go_at_call 205; refine (users_w _ _).mono ?_; rintro e w' ⟨rfl, rfl⟩)
    go_ret
    refine ⟨rfl, (hP.set_writers wr).set_none, ?_⟩
    repeat (first | exact World.grownBy.refl _ _ | refine grown_set ?_ _ rfl _)
  · have hr' : ((r : Int) == 0) = false := by simp; omega
    go_enter Tryz.func204, Tryz.ntmps204
    go_wp2_with (go_at_call 205; refine (users_w _ _).mono ?_; rintro e w' ⟨rfl, rfl⟩)
    go_ret
    exact ⟨rfl, (hP.set_writers wr), grown_set (World.grownBy.refl _ _) _ rfl _⟩
/-- one reader less: -/
theorem leave_r (b g f m r wr) (w : World) (hP : PipeIs w b g f m (r + 1) wr) (hw : r < 9223372036854775807) :
    Calls Tryz.prog 204 #[.pointer (some ⟨b, 0, none⟩), .bool false] w fun e w' => e = .returned (.int .i64 0) ∧ PipeIs w' b g f (if r = 0 then 0 else m) r wr ∧ w.grownBy w' (some b) := by
  have h1 := hP.readers
  have h2 := hP.free 66
  have h4 := hP.free 65
  have h5 := hP.many
  have hc : ((r : Int) + 1 == 0) = false := by simp; omega
  by_cases hr : r = 0
  · subst hr
    go_enter Tryz.func204, Tryz.ntmps204
    go_wp2_with (go_at_call 205; refine (users_r _ _).mono ?_; rintro e w' ⟨rfl, rfl⟩)
    go_ret
    refine ⟨rfl, (hP.set_readers 0).set_none, ?_⟩
    repeat (first | exact World.grownBy.refl _ _ | refine grown_set ?_ _ rfl _)
  · have hr' : ((r : Int) == 0) = false := by simp; omega
    go_enter Tryz.func204, Tryz.ntmps204
    go_wp2_with (go_at_call 205; refine (users_r _ _).mono ?_; rintro e w' ⟨rfl, rfl⟩)
    go_ret
    exact ⟨rfl, (hP.set_readers r), grown_set (World.grownBy.refl _ _) _ rfl _⟩
end Go.Proofs.YtckmcajnhobkpaaGreatDoor
