/- Texts: lines put together again; the lines that have a text in them. -/
import Derived.Test.YtmhgehnkhhlbkaaGreatDoorTxM
namespace Go.Proofs.YtmhgehnkhhlbkaaGreatDoor
open Go.RowKit Go.Sort

theorem joinL_take {L : List (List UInt8)} {k : Nat} {x : List UInt8} (h : L[k]? = some x) : joinL (L.take (k + 1)) = joinL (L.take k) ++ (x ++ [10]) := by
  rw [List.take_add_one, h]; simp [joinL]
theorem joinL_append (a b : List (List UInt8)) : joinL (a ++ b) = joinL a ++ joinL b := by simp [joinL]
theorem joinL_take_len (L : List (List UInt8)) (k : Nat) : (joinL (L.take k)).length ≤ (joinL L).length := by
  have : joinL L = joinL (L.take k) ++ joinL (L.drop k) := by rw [← joinL_append, List.take_append_drop]
  rw [this, List.length_append]; omega
set_option maxRecDepth 100000 in
set_option maxHeartbeats 1600000 in
theorem joined_any (v : Value) (L : List (List UInt8)) (w : World) (hv : Strs w v L) (hl : (joinL L).length ≤ 1000000) (h5 : ∀ x, x ∈ L → x.length ≤ 100000) (hLn : L.length ≤ 1000000) :
    Calls Tryz.prog 16 #[v] w fun e w' => e = .returned (.string ⟨(joinL L).toArray⟩) ∧ Below w.heap.size w w' := by
  obtain ⟨a0, cap, hv0, hcap, hat⟩ := hv.shape
  obtain ⟨n, hn⟩ : ∃ n, L.length = n := ⟨_, rfl⟩
  have HN := Lib.hid hn
  rw [hn] at hv0 hat hLn
  subst hv0
  have H5 := Lib.hid h5
  have HJ := Lib.hid (joinL_take_len L)
  have HL := Lib.hid hl
  have hA := below_alloc w (.cells #[.pointer none, .slice none 0 0] 48)
  have hB0 : Lib.IsBuilderF 48 5 w.heap.size w.heap.size (Lib.byteCells []) (w.alloc (.cells #[.pointer none, .slice none 0 0] 48)) := by
    refine .inl ⟨Nat.le_refl _, .slice none 0 0, ?_, ⟨by simp [Lib.byteCells], .inl ⟨rfl, rfl⟩⟩, (fun e => by cases e)⟩
    show (w.heap.push _)[w.heap.size]? = _
    simp
  obtain ⟨base, hbase⟩ : ∃ base, base = w.heap.size := ⟨_, rfl⟩
  rw [← hbase] at hA hB0
  have hblt : ∀ b, b < w.heap.size → b < base := fun b h => by omega
  have HB := Lib.hid hbase
  clear hv hn h5 hl hbase
  go_enter Tryz.func16, Tryz.ntmps16
  go_wp2_with fail
  rw [← HB.out]
  go_loopw [8] (fun i W => ∃ k : Nat, k ≤ n ∧ i = .int .i64 k ∧ Lib.IsBuilderF 48 5 base base (Lib.byteCells (joinL (L.take k))) W ∧ Below base w W) (fun i _ => n - (intOf i).toNat)
  case atStart => exact ⟨0, by omega, rfl, hB0, hA⟩
  case round =>
    clear hB0 hA
    obtain ⟨k, hk, rfl, hBd, hB⟩ := hrel
    have hbs : base ≤ wr.heap.size := by have := hB.size; have := HB.out; omega
    by_cases hkn : k < n
    · obtain ⟨b, off, rfl, hb, hcs⟩ := hat (by omega)
      obtain ⟨x, hx⟩ : ∃ x, L[k]? = some x := ⟨L[k]'(by rw [HN.out]; exact hkn), List.getElem?_eq_getElem _⟩
      have hcell := (hB.cell (p := ⟨b, off + k, none⟩) (hblt b hb)).trans (hcs k x hx)
      have hxl := H5.out x (List.mem_of_getElem? hx)
      have hj := joinL_take hx
      have hjl := HJ.out (k + 1)
      rw [hj] at hjl
      have hll := HL.out
      have HW := Lib.hid (Tryz.Builder_WriteString_k base base (Lib.byteCells (joinL (L.take k))) ⟨(x ++ [10]).toArray⟩ wr hBd (by rw [Lib.byteCells_length, str_size]; simp only [List.length_append] at hjl ⊢; omega) hbs)
      have HJ2 := Lib.hid (show Lib.byteCells (joinL (L.take k)) ++ Lib.strCells ⟨(x ++ [10]).toArray⟩ = Lib.byteCells (joinL (L.take (k + 1))) by rw [hj]; simp [Lib.byteCells, Lib.strCells])
      clear hx hj hjl hll hcs hat hBd
      go_wp2_with fail
      refine HW.out.mono ?_
      rintro e w1 ⟨rfl, hAt, hB1, _⟩
      rw [HJ2.out] at hAt
      go_wp2_with fail
      go_round
      case rel => exact ⟨k + 1, by omega, by go_num, .inr hAt, hB.trans hB1⟩
      case measure => simp [intOf]; omega
    · obtain rfl : k = n := by omega
      rw [← HN.out, List.take_length] at hBd
      have HS := Lib.hid (Tryz.Builder_String_any_k base base (joinL L) wr hBd hbs)
      clear hat hBd
      go_wp2_with fail
      refine HS.out.mono ?_
      rintro e w1 ⟨rfl, _, hB1, _⟩
      go_wp2_with fail
      go_ret
      exact ⟨rfl, HB.out ▸ hB.trans hB1⟩
end Go.Proofs.YtmhgehnkhhlbkaaGreatDoor
