/- Texts of one proof, packed: PipeA, PipeB, PipeC -/
import Derived.Test.YtomjjedgmnkciaaGreatDoorBase
import Derived.BigRegion
set_option linter.unusedVariables false
set_option linter.unusedSimpArgs false
set_option linter.deprecated false
set_option linter.unnecessarySimpa false
/- Pipe: the memory form of a pipe and the small walks. -/
namespace Go.Proofs.YtomjjedgmnkciaaGreatDoor
open Go.RowKit

/-- A pipe's cells in block b: the ring g, the place of the first byte f, how many m, the readers r and the writers wr. -/
structure PipeIs (w : World) (b : Nat) (g : Nat → UInt8) (f m r wr : Nat) : Prop where
  ring : ∀ i, i < 64 → w.cell? ⟨b, i, none⟩ = some (.int .u8 (g i).toNat)
  first : w.cell? ⟨b, 64, none⟩ = some (.int .i64 f)
  many : w.cell? ⟨b, 65, none⟩ = some (.int .i64 m)
  readers : w.cell? ⟨b, 66, none⟩ = some (.int .i64 r)
  writers : w.cell? ⟨b, 67, none⟩ = some (.int .i64 wr)
  free : ∀ i, w.frozen? ⟨b, i, none⟩ = false

theorem users_w (b : Nat) (w : World) : Calls Tryz.prog 159 #[.pointer (some ⟨b, 0, none⟩), .bool true] w fun e w' => e = .returned (.pointer (some ⟨b, 67, none⟩)) ∧ w = w' := by
  go_enter Tryz.func159, Tryz.ntmps159
  go_wp2
  go_ret
  exact ⟨rfl, rfl⟩
theorem users_r (b : Nat) (w : World) : Calls Tryz.prog 159 #[.pointer (some ⟨b, 0, none⟩), .bool false] w fun e w' => e = .returned (.pointer (some ⟨b, 66, none⟩)) ∧ w = w' := by
  go_enter Tryz.func159, Tryz.ntmps159
  go_wp2
  go_ret
  exact ⟨rfl, rfl⟩
def zeroPipe : Array Value := (List.replicate 64 (Value.int .u8 0) ++ List.replicate 4 (Value.int .i64 0)).toArray
theorem zeroP (w : World) : (zeroValue 140).run Tryz.prog w = .ok (.agg zeroPipe) w := by kernel_rfl
theorem zeroPipe_size : zeroPipe.size = 68 := by rfl
theorem cellsP : Tryz.prog.cellsOf 140 = 68 := by kernel_rfl
theorem new_any (w : World) : Calls Tryz.prog 38 #[] w fun e w' => e = .returned (.pointer (some ⟨w.heap.size, 0, none⟩)) ∧ Below w.heap.size w w' ∧ PipeIs w' w.heap.size (fun _ => 0) 0 0 1 1 := by
  have hz := zeroP
  have hs := zeroPipe_size
  have hc := cellsP
  go_enter Tryz.func38, Tryz.ntmps38
  go_wp2
  go_ret
  refine ⟨rfl, (Below.refl _ _).alloc (Nat.le_refl _) _, ?_⟩
  have hr : ∀ i, i < 64 → zeroPipe[i]? = some (.int .u8 0) := by
    intro i hi
    simp only [zeroPipe, List.getElem?_toArray]
    rw [List.getElem?_append_left (by simpa using hi)]
    rw [List.getElem?_replicate, if_pos hi]
  refine ⟨fun i hi => ?_, ?_, ?_, ?_, ?_, ?_⟩
  · rw [World.cell?_alloc_new, Array.getElem?_setIfInBounds, if_neg (by omega), Array.getElem?_setIfInBounds, if_neg (by omega), hr i hi]; rfl
  · rw [World.cell?_alloc_new, Array.getElem?_setIfInBounds, if_neg (by omega), Array.getElem?_setIfInBounds, if_neg (by omega)]; rfl
  · rw [World.cell?_alloc_new, Array.getElem?_setIfInBounds, if_neg (by omega), Array.getElem?_setIfInBounds, if_neg (by omega)]; rfl
  · rw [World.cell?_alloc_new, Array.getElem?_setIfInBounds, if_neg (by omega), Array.getElem?_setIfInBounds, if_pos rfl, if_pos (by omega)]; rfl
  · rw [World.cell?_alloc_new, Array.getElem?_setIfInBounds, if_pos rfl, if_pos (by simp [hs])]; rfl
  · intro i; exact World.frozen?_alloc_new ..

theorem PipeIs.set_many {w : World} {b g f m r wr} (h : PipeIs w b g f m r wr) (m' : Nat) : PipeIs (w.setCell ⟨b, 65, none⟩ (.int .i64 m')) b g f m' r wr :=
  ⟨fun i hi => by rw [cs_other (by simp <;> omega)]; exact h.ring i hi, by rw [cs_other (by simp)]; exact h.first,
   cs_same h.many, by rw [cs_other (by simp)]; exact h.readers, by rw [cs_other (by simp)]; exact h.writers,
   fun i => by rw [fz_set]; exact h.free i⟩
theorem PipeIs.set_many' {w : World} {b g f m r wr} (h : PipeIs w b g f m r wr) {z : Int} {m' : Nat} (hz : z = m') : PipeIs (w.setCell ⟨b, 65, none⟩ (.int .i64 z)) b g f m' r wr := by
  rw [hz]; exact h.set_many m'
theorem PipeIs.set_first' {w : World} {b g f m r wr} (h : PipeIs w b g f m r wr) {z : Int} {m' : Nat} (hz : z = m') : PipeIs (w.setCell ⟨b, 64, none⟩ (.int .i64 z)) b g m' m r wr :=
  ⟨fun i hi => by rw [cs_other (by simp <;> omega)]; exact h.ring i hi, by rw [hz]; exact cs_same h.first, by rw [cs_other (by simp)]; exact h.many,
   by rw [cs_other (by simp)]; exact h.readers, by rw [cs_other (by simp)]; exact h.writers,
   fun i => by rw [fz_set]; exact h.free i⟩
theorem PipeIs.set_none {w : World} {b g f m r wr} (h : PipeIs w b g f m r wr) : PipeIs (w.setCell ⟨b, 65, none⟩ (.int .i64 0)) b g f 0 r wr := by
  simpa using h.set_many 0
theorem PipeIs.set_first {w : World} {b g f m r wr} (h : PipeIs w b g f m r wr) (f' : Nat) : PipeIs (w.setCell ⟨b, 64, none⟩ (.int .i64 f')) b g f' m r wr :=
  ⟨fun i hi => by rw [cs_other (by simp <;> omega)]; exact h.ring i hi, cs_same h.first, by rw [cs_other (by simp)]; exact h.many,
   by rw [cs_other (by simp)]; exact h.readers, by rw [cs_other (by simp)]; exact h.writers,
   fun i => by rw [fz_set]; exact h.free i⟩
theorem PipeIs.set_readers {w : World} {b g f m r wr} (h : PipeIs w b g f m r wr) (r' : Nat) : PipeIs (w.setCell ⟨b, 66, none⟩ (.int .i64 r')) b g f m r' wr :=
  ⟨fun i hi => by rw [cs_other (by simp <;> omega)]; exact h.ring i hi, by rw [cs_other (by simp)]; exact h.first, by rw [cs_other (by simp)]; exact h.many,
   cs_same h.readers, by rw [cs_other (by simp)]; exact h.writers,
   fun i => by rw [fz_set]; exact h.free i⟩
theorem PipeIs.set_writers {w : World} {b g f m r wr} (h : PipeIs w b g f m r wr) (r' : Nat) : PipeIs (w.setCell ⟨b, 67, none⟩ (.int .i64 r')) b g f m r r' :=
  ⟨fun i hi => by rw [cs_other (by simp <;> omega)]; exact h.ring i hi, by rw [cs_other (by simp)]; exact h.first, by rw [cs_other (by simp)]; exact h.many,
   by rw [cs_other (by simp)]; exact h.readers, cs_same h.writers,
   fun i => by rw [fz_set]; exact h.free i⟩
def upd (g : Nat → UInt8) (i : Nat) (v : UInt8) : Nat → UInt8 := fun j => if j = i then v else g j
theorem PipeIs.set_ring {w : World} {b g f m r wr} (h : PipeIs w b g f m r wr) (i : Nat) (hi : i < 64) (v : UInt8) : PipeIs (w.setCell ⟨b, i, none⟩ (.int .u8 v.toNat)) b (upd g i v) f m r wr :=
  ⟨fun j hj => by
     by_cases e : j = i
     · subst e; rw [cs_same (h.ring _ hj)]; simp [upd]
     · rw [cs_other (by simp <;> omega)]; simp [upd, e]; exact h.ring j hj,
   by rw [cs_other (by simp <;> omega)]; exact h.first, by rw [cs_other (by simp <;> omega)]; exact h.many,
   by rw [cs_other (by simp <;> omega)]; exact h.readers, by rw [cs_other (by simp <;> omega)]; exact h.writers,
   fun i => by rw [fz_set]; exact h.free i⟩
theorem PipeIs.keep {w w' : World} {b g f m r wr} (h : PipeIs w b g f m r wr) (hb : w'.heap[b]? = w.heap[b]?) : PipeIs w' b g f m r wr :=
  ⟨fun i hi => by rw [World.cell?_of_block (w := w) hb]; exact h.ring i hi, by rw [World.cell?_of_block (w := w) hb]; exact h.first, by rw [World.cell?_of_block (w := w) hb]; exact h.many,
   by rw [World.cell?_of_block (w := w) hb]; exact h.readers, by rw [World.cell?_of_block (w := w) hb]; exact h.writers, fun i => by rw [World.frozen?_of_block (w := w) hb]; exact h.free i⟩
theorem PipeIs.drew {w : World} {b g f m r wr} (h : PipeIs w b g f m r wr) : PipeIs w.drew b g f m r wr := h.keep rfl

theorem leave_nil (t : Bool) (w : World) : Calls Tryz.prog 158 #[.pointer none, .bool t] w fun e w' => e = .returned (.int .i64 2) ∧ w = w' := by
  go_enter Tryz.func158, Tryz.ntmps158
  go_wp2
  go_ret
  exact ⟨rfl, rfl⟩
theorem leave_w0 (b g f m r) (w : World) (h : PipeIs w b g f m r 0) :
    Calls Tryz.prog 158 #[.pointer (some ⟨b, 0, none⟩), .bool true] w fun e w' => e = .returned (.int .i64 28) ∧ w = w' := by
  have h1 := h.writers
  go_enter Tryz.func158, Tryz.ntmps158
  go_wp2_with (go_at_call 159; refine (users_w _ _).mono ?_; rintro e w' ⟨rfl, rfl⟩)
  go_ret
  exact ⟨rfl, rfl⟩
theorem leave_r0 (b g f m wr) (w : World) (h : PipeIs w b g f m 0 wr) :
    Calls Tryz.prog 158 #[.pointer (some ⟨b, 0, none⟩), .bool false] w fun e w' => e = .returned (.int .i64 28) ∧ w = w' := by
  have h1 := h.readers
  go_enter Tryz.func158, Tryz.ntmps158
  go_wp2_with (go_at_call 159; refine (users_r _ _).mono ?_; rintro e w' ⟨rfl, rfl⟩)
  go_ret
  exact ⟨rfl, rfl⟩
/-- one writer less: -/
theorem leave_w (b g f m r wr) (w : World) (hP : PipeIs w b g f m r (wr + 1)) (hw : wr < 9223372036854775807) :
    Calls Tryz.prog 158 #[.pointer (some ⟨b, 0, none⟩), .bool true] w fun e w' => e = .returned (.int .i64 0) ∧ PipeIs w' b g f (if r = 0 then 0 else m) r wr ∧ w.grownBy w' (some b) := by
  have h1 := hP.writers
  have h2 := hP.free 67
  have h3 := hP.readers
  have h4 := hP.free 65
  have h5 := hP.many
  have hc : ((wr : Int) + 1 == 0) = false := by simp; omega
  by_cases hr : r = 0
  · subst hr
    go_enter Tryz.func158, Tryz.ntmps158
    go_wp2_with (go_at_call 159; refine (users_w _ _).mono ?_; rintro e w' ⟨rfl, rfl⟩)
    go_ret
    refine ⟨rfl, (hP.set_writers wr).set_none, ?_⟩
    repeat (first | exact World.grownBy.refl _ _ | refine grown_set ?_ _ rfl _)
  · have hr' : ((r : Int) == 0) = false := by simp; omega
    go_enter Tryz.func158, Tryz.ntmps158
    go_wp2_with (go_at_call 159; refine (users_w _ _).mono ?_; rintro e w' ⟨rfl, rfl⟩)
    go_ret
    exact ⟨rfl, (hP.set_writers wr), grown_set (World.grownBy.refl _ _) _ rfl _⟩
/-- one reader less: -/
theorem leave_r (b g f m r wr) (w : World) (hP : PipeIs w b g f m (r + 1) wr) (hw : r < 9223372036854775807) :
    Calls Tryz.prog 158 #[.pointer (some ⟨b, 0, none⟩), .bool false] w fun e w' => e = .returned (.int .i64 0) ∧ PipeIs w' b g f (if r = 0 then 0 else m) r wr ∧ w.grownBy w' (some b) := by
  have h1 := hP.readers
  have h2 := hP.free 66
  have h4 := hP.free 65
  have h5 := hP.many
  have hc : ((r : Int) + 1 == 0) = false := by simp; omega
  by_cases hr : r = 0
  · subst hr
    go_enter Tryz.func158, Tryz.ntmps158
    go_wp2_with (go_at_call 159; refine (users_r _ _).mono ?_; rintro e w' ⟨rfl, rfl⟩)
    go_ret
    refine ⟨rfl, (hP.set_readers 0).set_none, ?_⟩
    repeat (first | exact World.grownBy.refl _ _ | refine grown_set ?_ _ rfl _)
  · have hr' : ((r : Int) == 0) = false := by simp; omega
    go_enter Tryz.func158, Tryz.ntmps158
    go_wp2_with (go_at_call 159; refine (users_r _ _).mono ?_; rintro e w' ⟨rfl, rfl⟩)
    go_ret
    exact ⟨rfl, (hP.set_readers r), grown_set (World.grownBy.refl _ _) _ rfl _⟩
end Go.Proofs.YtomjjedgmnkciaaGreatDoor
/- Pipe: Write. -/
namespace Go.Proofs.YtomjjedgmnkciaaGreatDoor
open Go.RowKit

/-- the bytes in the ring, in order -/
def cont (g : Nat → UInt8) (f m : Nat) : List UInt8 := (List.range m).map fun j => g ((f + j) % 64)
/-- the ring when k bytes of l have been put from place p on -/
def fill (g : Nat → UInt8) (p : Nat) (l : List UInt8) : Nat → (Nat → UInt8)
  | 0 => g
  | k + 1 => upd (fill g p l k) ((p + k) % 64) (l.getD k 0)

theorem toList_len (s : ByteArray) : s.toList.length = s.size := by rw [ByteArray.toList_eq]; cases s; rfl
theorem toList_ne (s : ByteArray) (h : 0 < s.size) : s.toList.isEmpty = false := by
  have := toList_len s
  cases e : s.toList with
  | nil => rw [e] at this; simp at this; omega
  | cons a l => rfl
theorem getD_str (s : ByteArray) (k : Nat) (h : k < s.size) : s.data.toList.getD k 0 = s[k] := by
  have h' : k < s.data.size := h
  simp only [List.getD_eq_getElem?_getD, Array.getElem?_toList, Array.getElem?_eq_getElem h', Option.getD_some]
  rfl
theorem fill_step {W : World} {b g f m r wr p} {s : ByteArray} {k : Nat} (h : PipeIs W b (fill g p s.data.toList k) f m r wr) (hk : k < s.size) :
    PipeIs ((W.setCell ⟨b, (p + k) % 64, none⟩ (.int .u8 (s[k]).toNat)).drew) b (fill g p s.data.toList (k + 1)) f m r wr := by
  have := (h.set_ring ((p + k) % 64) (Nat.mod_lt _ (by omega)) s[k]).drew
  simp only [fill, getD_str s k hk]
  exact this
theorem write_nil (s : ByteArray) (w : World) : Calls Tryz.prog 154 #[.pointer none, .string s] w fun e w' => e = .returned (.tuple #[.int .i64 0, .int .i64 2]) ∧ w = w' := by
  go_enter Tryz.func154, Tryz.ntmps154
  go_wp2
  go_ret2
  exact ⟨rfl, rfl⟩
theorem write_w0 (s : ByteArray) (b g f m r) (w : World) (hP : PipeIs w b g f m r 0) : Calls Tryz.prog 154 #[.pointer (some ⟨b, 0, none⟩), .string s] w fun e w' => e = .returned (.tuple #[.int .i64 0, .int .i64 28]) ∧ w = w' := by
  have h1 := hP.writers
  go_enter Tryz.func154, Tryz.ntmps154
  go_wp2
  go_ret2
  exact ⟨rfl, rfl⟩
theorem write_r0 (s : ByteArray) (b g f m wr) (w : World) (hP : PipeIs w b g f m 0 wr) (hw : 0 < wr) : Calls Tryz.prog 154 #[.pointer (some ⟨b, 0, none⟩), .string s] w fun e w' => e = .returned (.tuple #[.int .i64 s.size, .int .i64 0]) ∧ w = w' := by
  have h1 := hP.writers
  have h2 := hP.readers
  have hc : ((wr : Int) == 0) = false := by simp; omega
  go_enter Tryz.func154, Tryz.ntmps154
  go_wp2
  go_ret2
  exact ⟨rfl, rfl⟩
theorem write_full (s : ByteArray) (b g f r wr) (w : World) (hP : PipeIs w b g f 64 r wr) (hw : 0 < wr) (hr : 0 < r) (hs : 0 < s.size) : Calls Tryz.prog 154 #[.pointer (some ⟨b, 0, none⟩), .string s] w fun e w' => e = .returned (.tuple #[.int .i64 0, .int .i64 30]) ∧ w = w' := by
  have h1 := hP.writers
  have h2 := hP.readers
  have h3 := hP.many
  have hc : ((wr : Int) == 0) = false := by simp; omega
  have hc2 : ((r : Int) == 0) = false := by simp; omega
  have hl2 : s.toList.isEmpty = false := toList_ne s hs
  go_enter Tryz.func154, Tryz.ntmps154
  go_wp2
  go_ret2
  exact ⟨rfl, rfl⟩
theorem write_go (s : ByteArray) (b g f m r wr) (w : World) (hP : PipeIs w b g f m r wr) (hw : 0 < wr) (hr : 0 < r) (hf : f < 64) (hm : m < 64) (hs : s.size ≤ maxLen) (hn : 0 < s.size) :
   Calls Tryz.prog 154 #[.pointer (some ⟨b, 0, none⟩), .string s] w fun e w' => e = .returned (.tuple #[.int .i64 (min s.size (64 - m) : Nat), .int .i64 0]) ∧ PipeIs w' b (fill g (f + m) s.data.toList (min s.size (64 - m))) f (m + min s.size (64 - m)) r wr ∧ w.grownBy w' (some b) := by
  unfold maxLen at hs
  have h1 := hP.writers
  have h2 := hP.readers
  have h3 := hP.many
  have hl2 : s.toList.isEmpty = false := toList_ne s hn
  have hc : ((wr : Int) == 0) = false := by simp; omega
  have hc2 : ((r : Int) == 0) = false := by simp; omega
  have hc3 : ((s.size : Int) == 0) = false := by rw [beq_eq_false_iff_ne]; omega
  have hc4 : ((64 : Int) - m == 0) = false := by rw [beq_eq_false_iff_ne]; omega
  by_cases hlt : (64 : Int) - m < s.size
  all_goals
    go_enter Tryz.func154, Tryz.ntmps154
    go_wp2
    go_loopw [40] (fun c W => ∃ k : Nat, k ≤ min s.size (64 - m) ∧ c = .int .i64 k ∧ PipeIs W b (fill g (f + m) s.data.toList k) f m r wr ∧ w.grownBy W (some b)) (fun c _ => 64 - (intOf c).toNat)
    case atStart => exact ⟨0, Nat.zero_le _, rfl, hP, World.grownBy.refl _ _⟩
    case round =>
      obtain ⟨k, hk, rfl, hQ, hG⟩ := hrel
      have ha := hQ.first
      have hb := hQ.many
      have hz5 := hQ.free 65
      by_cases hkn : k < min s.size (64 - m)
      · have hi := hQ.ring ((f + m + k) % 64) (by omega)
        have hz := hQ.free ((f + m + k) % 64)
        have hks : k < s.size := by omega
        go_wp2
        go_region
        go_wp2
        go_roundw
        case rel =>
          refine ⟨k + 1, by omega, by go_num, fill_step hQ hks, ?_⟩
          exact grown_drew (grown_set hG _ rfl _)
        case measure => simp [intOf]; omega
      · obtain rfl : k = min s.size (64 - m) := by omega
        have hlen : min s.size (64 - m) ≤ 64 := by omega
        go_wp2
        go_ret2
        refine ⟨ret_int_v (by omega), hQ.set_many' (by omega), ?_⟩
        · exact grown_set hG _ rfl _
end Go.Proofs.YtomjjedgmnkciaaGreatDoor
/- Pipe: Read. -/
namespace Go.Proofs.YtomjjedgmnkciaaGreatDoor
open Go.RowKit

theorem read_nil (n : Int) (w : World) : Calls Tryz.prog 153 #[.pointer none, .int .i64 n] w fun e w' => e = .returned (.tuple #[.string ⟨#[]⟩, .int .i64 2]) ∧ w = w' := by
  go_enter Tryz.func153, Tryz.ntmps153
  go_wp2
  go_ret2
  exact ⟨rfl, rfl⟩
theorem read_r0 (n : Int) (b g f m wr) (w : World) (hP : PipeIs w b g f m 0 wr) : Calls Tryz.prog 153 #[.pointer (some ⟨b, 0, none⟩), .int .i64 n] w fun e w' => e = .returned (.tuple #[.string ⟨#[]⟩, .int .i64 28]) ∧ w = w' := by
  have h1 := hP.readers
  go_enter Tryz.func153, Tryz.ntmps153
  go_wp2
  go_ret2
  exact ⟨rfl, rfl⟩
theorem read_neg (n : Int) (b g f m r wr) (w : World) (hP : PipeIs w b g f m r wr) (hr : 0 < r) (hn : n < 0) : Calls Tryz.prog 153 #[.pointer (some ⟨b, 0, none⟩), .int .i64 n] w fun e w' => e = .returned (.tuple #[.string ⟨#[]⟩, .int .i64 1]) ∧ w = w' := by
  have h1 := hP.readers
  have hc : ((r : Int) == 0) = false := by rw [beq_eq_false_iff_ne]; omega
  go_enter Tryz.func153, Tryz.ntmps153
  go_wp2
  go_ret2
  exact ⟨rfl, rfl⟩
theorem read_wait (n : Int) (b g f r wr) (w : World) (hP : PipeIs w b g f 0 r wr) (hr : 0 < r) (hwr : 0 < wr) (hn : 0 < n) : Calls Tryz.prog 153 #[.pointer (some ⟨b, 0, none⟩), .int .i64 n] w fun e w' => e = .returned (.tuple #[.string ⟨#[]⟩, .int .i64 30]) ∧ w = w' := by
  have h1 := hP.readers
  have h2 := hP.writers
  have h3 := hP.many
  have hc : ((r : Int) == 0) = false := by rw [beq_eq_false_iff_ne]; omega
  have hc2 : (0 : Int) < wr := by omega
  go_enter Tryz.func153, Tryz.ntmps153
  go_wp2
  go_ret2
  exact ⟨rfl, rfl⟩

theorem make_u8 (w : World) (c : Int) (h0 : 0 ≤ c) (h1 : c ≤ 281474976710656) : (Instr.makeSlice 112 (.int .i64 c) (.int .i64 c)).run Tryz.prog w = .ok (.slice (some ⟨w.heap.size, 0, none⟩) c.toNat c.toNat) (w.alloc (.cells (madeCells #[.int .u8 0] c.toNat) 5)) := by
  have hinf : (Tryz.prog.info? 5).map (fun i => (i.zero, i.size, i.bytes)) = some (some (.int .u8 0), 1, 1) := by kernel_rfl
  obtain ⟨i0, hi, hz0, hz1, hz2⟩ := info_parts hinf
  have := run_make (P := Tryz.prog) w 112 5 i0 (.int .u8 0) (by kernel_rfl) hi hz0 .i64 .i64 c c h0 (Int.le_refl _) (by rw [hz2]; omega) (by omega)
  rw [hz1, Nat.mul_one] at this
  exact this

theorem madeCells_at (v : Value) (n j : Nat) (h : j < n) : (madeCells #[v] n)[j]? = some v := by
  simp [madeCells, h, Nat.mod_one]
theorem cont_getD (g f k j) (h : j < k) : (cont g f k).getD j 0 = g ((f + j) % 64) := by simp [cont, h]
theorem cont_len (g f k) : (cont g f k).length = k := by simp [cont]
theorem conv_back (W : World) (G cap : Nat) (l : List UInt8) (hc : ∀ j (hj : j < l.length), W.cell? ⟨G, j, none⟩ = some (.int .u8 (l[j].toNat : Int))) :
    (convert 112 9 (.slice (some ⟨G, 0, none⟩) l.length cap)).run Tryz.prog W = .ok (.string ⟨l.toArray⟩) W := by
  refine run_convert_bytes_back W 112 9 5 ⟨G, 0, none⟩ cap l (by kernel_rfl) (by kernel_rfl) (by kernel_rfl) ?_
  intro j hj
  rw [← hc j hj]
  unfold Addr.add; split <;> simp_all

/-- what the loop of Read holds: i of the k bytes are in the new block -/
structure Reads (w W : World) (b : Nat) (g : Nat → UInt8) (f m r wr k i : Nat) : Prop where
  cells : ∀ j, j < k → W.cell? ⟨w.heap.size, j, none⟩ = some (.int .u8 ((if j < i then g ((f + j) % 64) else 0) : UInt8).toNat)
  free : ∀ j, W.frozen? ⟨w.heap.size, j, none⟩ = false
  pipe : PipeIs W b g f m r wr
  grown : w.grownBy W none
  size : w.heap.size < W.heap.size
theorem Reads.start {w : World} {b g f m r wr k} (hP : PipeIs w b g f m r wr) : Reads w (w.alloc (.cells (madeCells #[.int .u8 0] k) 5)) b g f m r wr k 0 :=
  ⟨fun j hj => by rw [World.cell?_alloc_new, madeCells_at _ _ _ hj]; simp, fun j => World.frozen?_alloc_new .., by
    have : b < w.heap.size := World.block_lt_of_cell? _ _ hP.first
    exact hP.keep (Below.heap_alloc _ _ _ this), World.grownBy_alloc _ _ _, by simp⟩
theorem Reads.step {w W : World} {b g f m r wr k i} (h : Reads w W b g f m r wr k i) (hik : i < k) (hb : b < w.heap.size) :
    Reads w (W.setCell ⟨w.heap.size, i, none⟩ (.int .u8 (g ((f + i) % 64)).toNat)).drew b g f m r wr k (i + 1) :=
  ⟨fun j hj => by
      rw [World.cell?_drew]
      by_cases e : j = i
      · subst e; rw [cs_same (h.cells _ hj), if_pos (by omega)]
      · rw [cs_other (by simp <;> omega), h.cells _ hj]
        by_cases h2 : j < i
        · rw [if_pos h2, if_pos (by omega)]
        · rw [if_neg h2, if_neg (by omega)],
   fun j => by rw [World.frozen?_drew, fz_set]; exact h.free j,
   h.pipe.keep (Below.heap_setCell _ _ _ _ (by simp <;> omega)),
   grown_drew (grown_setnew h.grown _ (Nat.le_refl _) _), by simpa [World.drew, World.setCell] using h.size⟩
theorem Reads.conv {w W : World} {b g f m r wr k} (h : Reads w W b g f m r wr k k) (hb : b < w.heap.size) (o1 o2 : Nat) (v1 v2 : Value) :
    (convert 112 9 (.slice (some ⟨w.heap.size, 0, none⟩) k k)).run Tryz.prog ((W.setCell ⟨b, o1, none⟩ v1).setCell ⟨b, o2, none⟩ v2) = .ok (.string ⟨(cont g f k).toArray⟩) ((W.setCell ⟨b, o1, none⟩ v1).setCell ⟨b, o2, none⟩ v2) := by
  have := conv_back ((W.setCell ⟨b, o1, none⟩ v1).setCell ⟨b, o2, none⟩ v2) w.heap.size k (cont g f k) (fun j hj => by
    rw [cont_len] at hj
    rw [cs_block (by simp <;> omega), cs_block (by simp <;> omega), h.cells j hj, if_pos hj]
    simp [cont])
  rw [cont_len] at this
  exact this

set_option maxHeartbeats 400000 in
/-- Read hands out k bytes. -/
theorem read_go (n' : Nat) (b g f m r wr) (k : Nat) (w : World) (hP : PipeIs w b g f m r wr) (hr : 0 < r) (hf : f < 64) (hm : m ≤ 64) (hk : k = min n' m) (hgo : 0 < m ∨ wr = 0 ∨ n' = 0) :
   Calls Tryz.prog 153 #[.pointer (some ⟨b, 0, none⟩), .int .i64 n'] w fun e w' => e = .returned (.tuple #[.string ⟨(cont g f k).toArray⟩, .int .i64 0]) ∧ PipeIs w' b g ((f + k) % 64) (m - k) r wr ∧ w.grownBy w' (some b) := by
  have h1 := hP.readers
  have h2 := hP.writers
  have h3 := hP.many
  have hbl : b < w.heap.size := World.block_lt_of_cell? _ _ hP.first
  have hc : ((r : Int) == 0) = false := by rw [beq_eq_false_iff_ne]; omega
  have hmk := fun w => make_u8 w k (by omega) (by omega)
  simp only [Int.toNat_natCast] at hmk
  have hst := Reads.start (k := k) hP
  have hk64 : k ≤ 64 := by omega
  by_cases hm0 : m = 0
  · subst hm0
    obtain rfl : k = 0 := by omega
    clear hk
    simp only [Int.natCast_zero] at hmk
    by_cases hw0 : wr = 0
    · subst hw0
      by_cases hn0 : n' = 0
      · subst hn0
        go_enter Tryz.func153, Tryz.ntmps153
        go_wp2
        go_loopw [46] (fun c W => c = .int .i64 0 ∧ Reads w W b g f 0 r 0 0 0) (fun c _ => 64 - (intOf c).toNat)
        case atStart => exact ⟨rfl, hst⟩
        case round =>
          obtain ⟨rfl, hR⟩ := hrel
          have ha := hR.pipe.first
          have hb := hR.pipe.many
          have hz4 := hR.pipe.free 64
          have hz5 := hR.pipe.free 65
          have hcv := hR.conv hbl
          go_wp2
          go_ret2
          refine ⟨rfl, (hR.pipe.set_first' (by omega)).set_many' (by omega), ?_⟩
          exact grown_set (grown_set (grown_some hR.grown b) _ rfl _) _ rfl _
      · have hn1 : 0 < n' := by omega
        go_enter Tryz.func153, Tryz.ntmps153
        go_wp2
        go_loopw [46] (fun c W => c = .int .i64 0 ∧ Reads w W b g f 0 r 0 0 0) (fun c _ => 64 - (intOf c).toNat)
        case atStart => exact ⟨rfl, hst⟩
        case round =>
          obtain ⟨rfl, hR⟩ := hrel
          have ha := hR.pipe.first
          have hb := hR.pipe.many
          have hz4 := hR.pipe.free 64
          have hz5 := hR.pipe.free 65
          have hcv := hR.conv hbl
          go_wp2
          go_ret2
          refine ⟨rfl, (hR.pipe.set_first' (by omega)).set_many' (by omega), ?_⟩
          exact grown_set (grown_set (grown_some hR.grown b) _ rfl _) _ rfl _
    · obtain rfl : n' = 0 := by omega
      have hw1 : 0 < wr := by omega
      go_enter Tryz.func153, Tryz.ntmps153
      go_wp2
      go_loopw [46] (fun c W => c = .int .i64 0 ∧ Reads w W b g f 0 r wr 0 0) (fun c _ => 64 - (intOf c).toNat)
      case atStart => exact ⟨rfl, hst⟩
      case round =>
        obtain ⟨rfl, hR⟩ := hrel
        have ha := hR.pipe.first
        have hb := hR.pipe.many
        have hz4 := hR.pipe.free 64
        have hz5 := hR.pipe.free 65
        have hcv := hR.conv hbl
        go_wp2
        go_ret2
        refine ⟨rfl, (hR.pipe.set_first' (by omega)).set_many' (by omega), ?_⟩
        exact grown_set (grown_set (grown_some hR.grown b) _ rfl _) _ rfl _
  have hc3 : ((m : Int) == 0) = false := by rw [beq_eq_false_iff_ne]; omega
  rcases Nat.lt_or_ge m n' with hlt | hlt
  · obtain rfl : k = m := by omega
    clear hk hgo
    go_enter Tryz.func153, Tryz.ntmps153
    go_wp2
    go_loopw [46] (fun c W => ∃ i : Nat, i ≤ k ∧ c = .int .i64 i ∧ Reads w W b g f k r wr k i) (fun c _ => 64 - (intOf c).toNat)
    case atStart => exact ⟨0, Nat.zero_le _, rfl, hst⟩
    case round =>
      obtain ⟨i, hi, rfl, hR⟩ := hrel
      have ha := hR.pipe.first
      have hb := hR.pipe.many
      have hz4 := hR.pipe.free 64
      have hz5 := hR.pipe.free 65
      by_cases hin : i < k
      · have hq := hR.cells i hin
        have hqz := hR.free i
        have hg := hR.pipe.ring ((f + i) % 64) (by omega)
        go_wp2
        go_region
        go_wp2
        go_roundw
        case rel => exact ⟨i + 1, by omega, by go_num, hR.step hin hbl⟩
        case measure => simp [intOf]; omega
      · obtain rfl : k = i := by omega
        have hcv := hR.conv hbl
        go_wp2
        go_ret2
        refine ⟨rfl, (hR.pipe.set_first' (by omega)).set_many' (by omega), ?_⟩
        exact grown_set (grown_set (grown_some hR.grown b) _ rfl _) _ rfl _
  · obtain rfl : k = n' := by omega
    clear hk hgo
    go_enter Tryz.func153, Tryz.ntmps153
    go_wp2
    go_loopw [46] (fun c W => ∃ i : Nat, i ≤ k ∧ c = .int .i64 i ∧ Reads w W b g f m r wr k i) (fun c _ => 64 - (intOf c).toNat)
    case atStart => exact ⟨0, Nat.zero_le _, rfl, hst⟩
    case round =>
      obtain ⟨i, hi, rfl, hR⟩ := hrel
      have ha := hR.pipe.first
      have hb := hR.pipe.many
      have hz4 := hR.pipe.free 64
      have hz5 := hR.pipe.free 65
      by_cases hin : i < k
      · have hq := hR.cells i hin
        have hqz := hR.free i
        have hg := hR.pipe.ring ((f + i) % 64) (by omega)
        go_wp2
        go_region
        go_wp2
        go_roundw
        case rel => exact ⟨i + 1, by omega, by go_num, hR.step hin hbl⟩
        case measure => simp [intOf]; omega
      · obtain rfl : k = i := by omega
        have hcv := hR.conv hbl
        go_wp2
        go_ret2
        refine ⟨rfl, (hR.pipe.set_first' (by omega)).set_many' (by omega), ?_⟩
        exact grown_set (grown_set (grown_some hR.grown b) _ rfl _) _ rfl _
theorem write_none (b g f m r wr) (w : World) (hP : PipeIs w b g f m r wr) (hw : 0 < wr) (hr : 0 < r) (hm : m ≤ 64) :
   Calls Tryz.prog 154 #[.pointer (some ⟨b, 0, none⟩), .string ⟨#[]⟩] w fun e w' => e = .returned (.tuple #[.int .i64 0, .int .i64 0]) ∧ PipeIs w' b g f m r wr ∧ w.grownBy w' (some b) := by
  have h1 := hP.writers
  have h2 := hP.readers
  have h3 := hP.many
  have h5 := hP.free 65
  have hc : ((wr : Int) == 0) = false := by rw [beq_eq_false_iff_ne]; omega
  have hc2 : ((r : Int) == 0) = false := by rw [beq_eq_false_iff_ne]; omega
  have he : (ByteArray.mk #[]).size = 0 := rfl
  have hl : (ByteArray.mk #[]).toList.isEmpty = true := by rw [ByteArray.toList_eq]; rfl
  have hlt : ¬ (64 : Int) - m < 0 := by omega
  go_enter Tryz.func154, Tryz.ntmps154
  go_wp2
  go_loopw [40] (fun c W => c = .int .i64 0 ∧ PipeIs W b g f m r wr ∧ w.grownBy W (some b)) (fun c _ => 64 - (intOf c).toNat)
  case atStart => exact ⟨rfl, hP, World.grownBy.refl _ _⟩
  case round =>
    obtain ⟨rfl, hQ, hG⟩ := hrel
    have ha := hQ.first
    have hb := hQ.many
    have hz5 := hQ.free 65
    go_wp2
    go_ret2
    refine ⟨rfl, hQ.set_many' (by omega), ?_⟩
    exact grown_set hG _ rfl _

/-! ### the abstract state: the bytes l that are in the pipe -/
structure PipeSt (w : World) (b : Nat) (l : List UInt8) (r wr : Nat) : Prop where
  len : l.length ≤ 64
  st : ∃ g f, f < 64 ∧ PipeIs w b g f l.length r wr ∧ cont g f l.length = l
theorem PipeSt.keep {w w' : World} {b l r wr} (h : PipeSt w b l r wr) (hb : w'.heap[b]? = w.heap[b]?) : PipeSt w' b l r wr := by
  obtain ⟨g, f, h1, h2, h3⟩ := h.st
  exact ⟨h.len, g, f, h1, h2.keep hb, h3⟩
theorem PipeSt.lt {w : World} {b l r wr} (h : PipeSt w b l r wr) : b < w.heap.size := by
  obtain ⟨g, f, h1, h2, h3⟩ := h.st
  exact World.block_lt_of_cell? _ _ h2.first
theorem PipeIs.St {w : World} {b g f m r wr} (h : PipeIs w b g f m r wr) (hf : f < 64) (hm : m ≤ 64) : PipeSt w b (cont g f m) r wr :=
  ⟨by rw [cont_len]; exact hm, g, f, hf, by rw [cont_len]; exact h, by rw [cont_len]⟩
theorem fill_get (g : Nat → UInt8) (p : Nat) (l : List UInt8) : ∀ n, n ≤ 64 → ∀ q, q < 64 → fill g p l n q = if (q + 64 - p % 64) % 64 < n then l.getD ((q + 64 - p % 64) % 64) 0 else g q := by
  intro n
  induction n with
  | zero => intro _ q hq; simp [fill]
  | succ n ih =>
    intro hn q hq
    simp only [fill, upd]
    by_cases e : q = (p + n) % 64
    · rw [if_pos e]
      have : (q + 64 - p % 64) % 64 = n := by omega
      rw [this, if_pos (by omega)]
    · rw [if_neg e, ih (by omega) q hq]
      have : (q + 64 - p % 64) % 64 ≠ n := by omega
      by_cases h2 : (q + 64 - p % 64) % 64 < n
      · rw [if_pos h2, if_pos (by omega)]
      · rw [if_neg h2, if_neg (by omega)]
theorem cont_fill (g : Nat → UInt8) (f m : Nat) (l : List UInt8) (n : Nat) (_hf : f < 64) (hmn : m + n ≤ 64) (hn : n ≤ l.length) : cont (fill g (f + m) l n) f (m + n) = cont g f m ++ l.take n := by
  apply List.ext_getElem
  · simp [cont]; omega
  · intro j h1 h2
    have hj : j < m + n := by simpa [cont] using h1
    simp only [cont, List.getElem_map, List.getElem_range]
    rw [fill_get g (f + m) l n (by omega) _ (Nat.mod_lt _ (by omega))]
    rw [List.getElem_append]
    by_cases hjm : j < m
    · rw [if_neg (by omega), dif_pos (by simpa using hjm)]
      simp
    · have e : ((f + j) % 64 + 64 - (f + m) % 64) % 64 = j - m := by omega
      rw [e, if_pos (by omega), dif_neg (by simpa using hjm)]
      simp only [List.length_map, List.length_range, List.getElem_take, List.getD_eq_getElem?_getD]
      rw [List.getElem?_eq_getElem (by omega)]; rfl
theorem cont_drop (g : Nat → UInt8) (f m k : Nat) (_hk : k ≤ m) : cont g ((f + k) % 64) (m - k) = (cont g f m).drop k := by
  apply List.ext_getElem
  · simp [cont]
  · intro j h1 h2
    simp only [cont, List.getElem_map, List.getElem_range, List.getElem_drop]
    congr 1; omega
theorem cont_take (g : Nat → UInt8) (f m k : Nat) (hk : k ≤ m) : cont g f k = (cont g f m).take k := by
  apply List.ext_getElem
  · simp [cont]; omega
  · intro j h1 h2
    simp [cont]

theorem new_st (w : World) : Calls Tryz.prog 38 #[] w fun e w' => e = .returned (.pointer (some ⟨w.heap.size, 0, none⟩)) ∧ Below w.heap.size w w' ∧ PipeSt w' w.heap.size [] 1 1 :=
  (new_any w).mono fun _ _ ⟨h1, h2, h3⟩ => ⟨h1, h2, by simpa [cont] using h3.St (by omega) (by omega)⟩
theorem PipeIs.St0 {w : World} {b g f r wr} {l : List UInt8} (h : PipeIs w b g f (if r = 0 then 0 else l.length) r wr) (hf : f < 64) (hl : l.length ≤ 64) (hc : cont g f l.length = l) : PipeSt w b (if r = 0 then [] else l) r wr := by
  by_cases hr : r = 0
  · rw [if_pos hr] at h ⊢
    simpa [cont] using h.St hf (by omega)
  · rw [if_neg hr] at h ⊢
    have := h.St hf hl
    rwa [hc] at this
theorem leave_w_st (b l r wr) (w : World) (h : PipeSt w b l r (wr + 1)) (hw : wr < 9223372036854775807) :
    Calls Tryz.prog 158 #[.pointer (some ⟨b, 0, none⟩), .bool true] w fun e w' => e = .returned (.int .i64 0) ∧ PipeSt w' b (if r = 0 then [] else l) r wr ∧ w.grownBy w' (some b) := by
  obtain ⟨g, f, h1, h2, h3⟩ := h.st
  exact (leave_w b g f _ r wr w h2 hw).mono fun _ _ ⟨e1, e2, e3⟩ => ⟨e1, e2.St0 h1 h.len h3, e3⟩
theorem leave_r_st (b l r wr) (w : World) (h : PipeSt w b l (r + 1) wr) (hw : r < 9223372036854775807) :
    Calls Tryz.prog 158 #[.pointer (some ⟨b, 0, none⟩), .bool false] w fun e w' => e = .returned (.int .i64 0) ∧ PipeSt w' b (if r = 0 then [] else l) r wr ∧ w.grownBy w' (some b) := by
  obtain ⟨g, f, h1, h2, h3⟩ := h.st
  exact (leave_r b g f _ r wr w h2 hw).mono fun _ _ ⟨e1, e2, e3⟩ => ⟨e1, e2.St0 h1 h.len h3, e3⟩
theorem leave_w0_st (b l r) (w : World) (h : PipeSt w b l r 0) :
    Calls Tryz.prog 158 #[.pointer (some ⟨b, 0, none⟩), .bool true] w fun e w' => e = .returned (.int .i64 28) ∧ w = w' := by
  obtain ⟨g, f, h1, h2, h3⟩ := h.st
  exact leave_w0 b g f _ r w h2
theorem leave_r0_st (b l wr) (w : World) (h : PipeSt w b l 0 wr) :
    Calls Tryz.prog 158 #[.pointer (some ⟨b, 0, none⟩), .bool false] w fun e w' => e = .returned (.int .i64 28) ∧ w = w' := by
  obtain ⟨g, f, h1, h2, h3⟩ := h.st
  exact leave_r0 b g f _ wr w h2
/-- what a Read answers -/
def readRes (l : List UInt8) (r wr : Nat) (n : Int) : List UInt8 × Int :=
  if r = 0 then ([], 28) else if n < 0 then ([], 1) else if l = [] ∧ 0 < wr ∧ 0 < n then ([], 30) else (l.take n.toNat, 0)
def readLeft (l : List UInt8) (r : Nat) (n : Int) : List UInt8 := if r = 0 ∨ n < 0 then l else l.drop n.toNat
theorem read_st (n : Int) (b l r wr) (w : World) (h : PipeSt w b l r wr) :
    Calls Tryz.prog 153 #[.pointer (some ⟨b, 0, none⟩), .int .i64 n] w fun e w' => e = .returned (.tuple #[.string ⟨(readRes l r wr n).1.toArray⟩, .int .i64 (readRes l r wr n).2]) ∧ PipeSt w' b (readLeft l r n) r wr ∧ w.grownBy w' (some b) := by
  obtain ⟨g, f, h1, h2, h3⟩ := h.st
  unfold readRes readLeft
  by_cases hr : r = 0
  · subst hr
    refine (read_r0 n b g f _ wr w h2).mono ?_
    rintro e w' ⟨rfl, rfl⟩
    exact ⟨by simp, by simpa using h, World.grownBy.refl _ _⟩
  by_cases hn : n < 0
  · refine (read_neg n b g f _ r wr w h2 (by omega) hn).mono ?_
    rintro e w' ⟨rfl, rfl⟩
    exact ⟨by simp [hr, hn], by simpa [hr, hn] using h, World.grownBy.refl _ _⟩
  by_cases hw : l = [] ∧ 0 < wr ∧ 0 < n
  · obtain ⟨rfl, hw1, hw2⟩ := hw
    refine (read_wait n b g f r wr w h2 (by omega) hw1 hw2).mono ?_
    rintro e w' ⟨rfl, rfl⟩
    exact ⟨by simp [hr, hn, hw1, hw2], by simpa [hr, hn] using h, World.grownBy.refl _ _⟩
  obtain ⟨n', rfl⟩ := Int.eq_ofNat_of_zero_le (Int.not_lt.1 hn)
  have hgo : 0 < l.length ∨ wr = 0 ∨ n' = 0 := by
    by_cases e1 : l = []
    · subst e1
      by_cases e2 : wr = 0
      · exact .inr (.inl e2)
      · refine .inr (.inr ?_)
        rcases Nat.eq_zero_or_pos n' with h0 | h0
        · exact h0
        · exact absurd ⟨rfl, by omega, by omega⟩ hw
    · exact .inl (List.length_pos_iff.2 e1)
  refine (read_go n' b g f l.length r wr _ w h2 (by omega) h1 h.len rfl hgo).mono ?_
  rintro e w' ⟨rfl, hq, hg⟩
  have hl := h.len
  have hs := hq.St (Nat.mod_lt _ (by omega)) (by omega)
  rw [cont_drop g f _ _ (by omega), h3] at hs
  rw [if_neg hr, if_neg hn, if_neg hw, if_neg (by simp [hr]), cont_take g f l.length _ (by omega), h3]
  have hd : l.drop (min n' l.length) = l.drop n' := by
    rcases Nat.le_total n' l.length with h' | h'
    · rw [Nat.min_eq_left h']
    · rw [Nat.min_eq_right h', List.drop_length, List.drop_of_length_le h']
  have ht : l.take (min n' l.length) = l.take n' := by
    rcases Nat.le_total n' l.length with h' | h'
    · rw [Nat.min_eq_left h']
    · rw [Nat.min_eq_right h', List.take_length, List.take_of_length_le h']
  rw [hd] at hs
  exact ⟨by rw [ht]; rfl, hs, hg⟩
/-- what a Write answers -/
def writeRes (l : List UInt8) (r wr : Nat) (s : List UInt8) : Nat × Int :=
  if wr = 0 then (0, 28) else if r = 0 then (s.length, 0) else if l.length = 64 ∧ s ≠ [] then (0, 30) else (min s.length (64 - l.length), 0)
def writeLeft (l : List UInt8) (r wr : Nat) (s : List UInt8) : List UInt8 := if wr = 0 ∨ r = 0 then l else l ++ s.take (64 - l.length)
theorem write_st (s : List UInt8) (hs : s.length ≤ maxLen) (b l r wr) (w : World) (h : PipeSt w b l r wr) :
    Calls Tryz.prog 154 #[.pointer (some ⟨b, 0, none⟩), .string ⟨s.toArray⟩] w fun e w' => e = .returned (.tuple #[.int .i64 (writeRes l r wr s).1, .int .i64 (writeRes l r wr s).2]) ∧ PipeSt w' b (writeLeft l r wr s) r wr ∧ w.grownBy w' (some b) := by
  obtain ⟨g, f, h1, h2, h3⟩ := h.st
  have hl := h.len
  unfold writeRes writeLeft
  have hsz : (ByteArray.mk s.toArray).size = s.length := by simp [ByteArray.size]
  by_cases hw : wr = 0
  · subst hw
    refine (write_w0 _ b g f _ r w h2).mono ?_
    rintro e w' ⟨rfl, rfl⟩
    exact ⟨by simp, by simpa using h, World.grownBy.refl _ _⟩
  by_cases hr : r = 0
  · subst hr
    refine (write_r0 _ b g f _ wr w h2 (by omega)).mono ?_
    rintro e w' ⟨rfl, rfl⟩
    exact ⟨by simp [hw, hsz], by simpa using h, World.grownBy.refl _ _⟩
  rw [if_neg hw, if_neg hr, if_neg (show ¬ (wr = 0 ∨ r = 0) by simp [hw, hr])]
  by_cases hs0 : s = []
  · subst hs0
    refine (write_none b g f _ r wr w h2 (by omega) (by omega) hl).mono ?_
    rintro e w' ⟨rfl, hq, hg⟩
    have hst := hq.St h1 hl
    rw [h3] at hst
    exact ⟨by simp, by simpa using hst, hg⟩
  have hsp : 0 < s.length := List.length_pos_iff.2 hs0
  by_cases hf : l.length = 64
  · rw [hf] at h2
    refine (write_full _ b g f r wr w h2 (by omega) (by omega) (by omega)).mono ?_
    rintro e w' ⟨rfl, rfl⟩
    exact ⟨by simp [hf, hs0], by simpa [hf] using h, World.grownBy.refl _ _⟩
  · refine (write_go _ b g f _ r wr w h2 (by omega) (by omega) h1 (by omega) (by rw [hsz]; exact hs) (by omega)).mono ?_
    rintro e w' ⟨rfl, hq, hg⟩
    rw [hsz] at hq ⊢
    have hst := hq.St h1 (by omega)
    have hdl : (ByteArray.mk s.toArray).data.toList = s := by simp
    rw [hdl, cont_fill g f _ s _ h1 (by omega) (by omega), h3] at hst
    have ht : s.take (min s.length (64 - l.length)) = s.take (64 - l.length) := by
      rcases Nat.le_total s.length (64 - l.length) with h' | h'
      · rw [Nat.min_eq_left h', List.take_length, List.take_of_length_le h']
      · rw [Nat.min_eq_right h']
    rw [ht] at hst
    exact ⟨by simp [hf], hst, hg⟩
end Go.Proofs.YtomjjedgmnkciaaGreatDoor
