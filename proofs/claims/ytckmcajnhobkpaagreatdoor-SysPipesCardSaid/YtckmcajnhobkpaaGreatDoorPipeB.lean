/- Pipe: Write. -/
import Derived.Test.YtckmcajnhobkpaaGreatDoorPipeA
import Derived.BigRegion
namespace Go.Proofs.YtckmcajnhobkpaaGreatDoor
open Go.RowKit

/-- the bytes in the ring, in order -/
def cont (g : Nat → UInt8) (f m : Nat) : List UInt8 := (List.range m).map fun j => g ((f + j) % 64)
/-- the ring when k bytes of l have been put from place p on -/
def fill (g : Nat → UInt8) (p : Nat) (l : List UInt8) : Nat → (Nat → UInt8)
  | 0 => g
  | k + 1 => upd (fill g p l k) ((p + k) % 64) (l.getD k 0)

theorem toList_len (s : ByteArray) : s.toList.length = s.size := by rw [ByteArray.toList_eq]; cases s; rfl
theorem toList_ne (s : ByteArray) (h : 0 < s.size) : s.toList.isEmpty = false := by
  have := toList_len s
  cases e : s.toList with
  | nil => rw [e] at this; simp at this; omega
  | cons a l => rfl
theorem getD_str (s : ByteArray) (k : Nat) (h : k < s.size) : s.data.toList.getD k 0 = s[k] := by
  have h' : k < s.data.size := h
  simp only [List.getD_eq_getElem?_getD, Array.getElem?_toList, Array.getElem?_eq_getElem h', Option.getD_some]
  rfl
theorem fill_step {W : World} {b g f m r wr p} {s : ByteArray} {k : Nat} (h : PipeIs W b (fill g p s.data.toList k) f m r wr) (hk : k < s.size) :
    PipeIs ((W.setCell ⟨b, (p + k) % 64, none⟩ (.int .u8 (s[k]).toNat)).drew) b (fill g p s.data.toList (k + 1)) f m r wr := by
  have := (h.set_ring ((p + k) % 64) (Nat.mod_lt _ (by omega)) s[k]).drew
  simp only [fill, getD_str s k hk]
  exact this
theorem write_nil (s : ByteArray) (w : World) : Calls Tryz.prog 200 #[.pointer none, .string s] w fun e w' => e = .returned (.tuple #[.int .i64 0, .int .i64 2]) ∧ w = w' := by
  go_enter Tryz.func200, Tryz.ntmps200
  go_wp2
  go_ret2
  exact ⟨rfl, rfl⟩
theorem write_w0 (s : ByteArray) (b g f m r) (w : World) (hP : PipeIs w b g f m r 0) : Calls Tryz.prog 200 #[.pointer (some ⟨b, 0, none⟩), .string s] w fun e w' => e = .returned (.tuple #[.int .i64 0, .int .i64 28]) ∧ w = w' := by
  have h1 := hP.writers
  go_enter Tryz.func200, Tryz.ntmps200
  go_wp2
  go_ret2
  exact ⟨rfl, rfl⟩
theorem write_r0 (s : ByteArray) (b g f m wr) (w : World) (hP : PipeIs w b g f m 0 wr) (hw : 0 < wr) : Calls Tryz.prog 200 #[.pointer (some ⟨b, 0, none⟩), .string s] w fun e w' => e = .returned (.tuple #[.int .i64 s.size, .int .i64 0]) ∧ w = w' := by
  have h1 := hP.writers
  have h2 := hP.readers
  have hc : ((wr : Int) == 0) = false := by simp; omega
  go_enter Tryz.func200, Tryz.ntmps200
  go_wp2
  go_ret2
  exact ⟨rfl, rfl⟩
theorem write_full (s : ByteArray) (b g f r wr) (w : World) (hP : PipeIs w b g f 64 r wr) (hw : 0 < wr) (hr : 0 < r) (hs : 0 < s.size) : Calls Tryz.prog 200 #[.pointer (some ⟨b, 0, none⟩), .string s] w fun e w' => e = .returned (.tuple #[.int .i64 0, .int .i64 30]) ∧ w = w' := by
  have h1 := hP.writers
  have h2 := hP.readers
  have h3 := hP.many
  have hc : ((wr : Int) == 0) = false := by simp; omega
  have hc2 : ((r : Int) == 0) = false := by simp; omega
  have hl2 : s.toList.isEmpty = false := toList_ne s hs
  go_enter Tryz.func200, Tryz.ntmps200
  go_wp2
  go_ret2
  exact ⟨rfl, rfl⟩
theorem write_go (s : ByteArray) (b g f m r wr) (w : World) (hP : PipeIs w b g f m r wr) (hw : 0 < wr) (hr : 0 < r) (hf : f < 64) (hm : m < 64) (hs : s.size ≤ maxLen) (hn : 0 < s.size) :
   Calls Tryz.prog 200 #[.pointer (some ⟨b, 0, none⟩), .string s] w fun e w' => e = .returned (.tuple #[.int .i64 (min s.size (64 - m) : Nat), .int .i64 0]) ∧ PipeIs w' b (fill g (f + m) s.data.toList (min s.size (64 - m))) f (m + min s.size (64 - m)) r wr ∧ w.grownBy w' (some b) := by
  unfold maxLen at hs
  have h1 := hP.writers
  have h2 := hP.readers
  have h3 := hP.many
  have hl2 : s.toList.isEmpty = false := toList_ne s hn
  have hc : ((wr : Int) == 0) = false := by simp; omega
  have hc2 : ((r : Int) == 0) = false := by simp; omega
  have hc3 : ((s.size : Int) == 0) = false := by rw [beq_eq_false_iff_ne]; omega
  have hc4 : ((64 : Int) - m == 0) = false := by rw [beq_eq_false_iff_ne]; omega
  by_cases hlt : (64 : Int) - m < s.size
  all_goals
    go_enter Tryz.func200, Tryz.ntmps200
    go_wp2
    go_loopw [40] (fun c W => ∃ k : Nat, k ≤ min s.size (64 - m) ∧ c = .int .i64 k ∧ PipeIs W b (fill g (f + m) s.data.toList k) f m r wr ∧ w.grownBy W (some b)) (fun c _ => 64 - (intOf c).toNat)
    case atStart => exact ⟨0, Nat.zero_le _, rfl, hP, World.grownBy.refl _ _⟩
    case round =>
      obtain ⟨k, hk, rfl, hQ, hG⟩ := hrel
      have ha := hQ.first
      have hb := hQ.many
      have hz5 := hQ.free 65
      by_cases hkn : k < min s.size (64 - m)
      · have hi := hQ.ring ((f + m + k) % 64) (by omega)
        have hz := hQ.free ((f + m + k) % 64)
        have hks : k < s.size := by omega
        go_wp2
        go_region
        go_wp2
        go_roundw
        case rel =>
          refine ⟨k + 1, by omega, by go_num, fill_step hQ hks, ?_⟩
          exact grown_drew (grown_set hG _ rfl _)
        case measure => simp [intOf]; omega
      · obtain rfl : k = min s.size (64 - m) := by omega
        have hlen : min s.size (64 - m) ≤ 64 := by omega
        go_wp2
        go_ret2
        refine ⟨ret_int_v (by omega), hQ.set_many' (by omega), ?_⟩
        · exact grown_set hG _ rfl _
end Go.Proofs.YtckmcajnhobkpaaGreatDoor
