/- Texts: lines in order (the library's side). -/
import Derived.Lib.RowBridge
import Derived.Test.YtmhgehnkhhlbkaaGreatDoorTxJ
import Derived.Test.YtmhgehnkhhlbkaaGreatDoorTxSp
namespace Go.Proofs.YtmhgehnkhhlbkaaGreatDoor
open Go.RowKit
open Go.Sort (Holds putRow grow holds_ahead cell?_grow frozen?_grow heap_grow_old cell?_putRow frozen?_putRow frozen?_ahead grow_empty)

theorem SB.holds {w : World} {b : Nat} {L : List (List UInt8)} (h : SB w b L) : Holds encStr w b 0 L.toArray := by
  intro j hj
  have hj' : j < L.length := by simpa using hj
  rw [Nat.zero_add]
  refine ⟨?_, h.free j hj'⟩
  rw [h.cell j _ (List.getElem?_eq_getElem hj')]
  simp [encStr, hj']
theorem sb_put {w : World} {b : Nat} {L M : List (List UInt8)} (h : SB w b L) (hl : M.length = L.length) (n : Nat) (os : Array Obj) :
    SB (grow (putRow encStr (Go.Sort.ahead w n) b 0 M.toArray) os) b M ∧ ∀ base, base ≤ b → Below base w (grow (putRow encStr (Go.Sort.ahead w n) b 0 M.toArray) os) := by
  have hH := holds_ahead encStr w n b 0 L.toArray h.holds
  have hb := h.lt
  have hlt : b < (putRow encStr (Go.Sort.ahead w n) b 0 M.toArray).heap.size := by simpa using h.lt
  refine ⟨⟨by simp; omega, fun j x hj => ?_, fun j hj => ?_⟩, fun base hbb => ⟨rfl, rfl, rfl, by simp, fun k hk => ?_⟩⟩
  · rw [cell?_grow _ _ _ hlt]
    have hjl := (List.getElem?_eq_some_iff.1 hj).1
    have := cell?_putRow encStr (Go.Sort.ahead w n) b 0 L.toArray M.toArray hH (by simpa using hl) j (by simpa using hjl)
    rw [Nat.zero_add] at this
    rw [this]
    simp [encStr, hjl, (List.getElem?_eq_some_iff.1 hj).2]
  · rw [frozen?_grow _ _ _ hlt, frozen?_putRow, frozen?_ahead]; exact h.free j (by omega)
  · rw [heap_grow_old _ _ (by omega)]
    show (w.heap.modify b _)[k]? = w.heap[k]?
    rw [Array.getElem?_modify, if_neg (by omega)]
theorem sortS_any (b cap n : Nat) (L : List (List UInt8)) (hn : L.length = n) (w : World) (h : SB w b L) (hl : n ≤ 100000) : Calls Tryz.prog 13 #[.slice (some ⟨b, 0, none⟩) n cap] w fun e w' =>
    e = .returned (.tuple #[]) ∧ SB w' b (L.mergeSort fun x y => decide (x ≤ y)) ∧ ∀ base, base ≤ b → Below base w w' := by
  subst hn
  refine (Tryz.slices_Sort_string b 0 cap L w h.holds h.lt (by omega)).mono ?_
  rintro e w' ⟨rfl, k, os, rfl⟩
  exact ⟨rfl, sb_put h (List.length_mergeSort _) k os⟩
theorem compactS_any (b cap n : Nat) (L : List (List UInt8)) (hn : L.length = n) (w : World) (h : SB w b L) (hl : n ≤ 100000) (hc : n ≤ cap) : Calls Tryz.prog 14 #[.slice (some ⟨b, 0, none⟩) n cap] w fun e w' =>
    e = .returned (.slice (some ⟨b, 0, none⟩) (Lib.compact L).length cap) ∧ SB w' b (Lib.compact L) ∧ ∀ base, base ≤ b → Below base w w' := by
  subst hn
  refine (Tryz.slices_Compact_string b 0 cap L w h.holds (by omega) hc).mono ?_
  rintro e w' ⟨rfl, k, rfl⟩
  have hcl := Lib.compact_length_le L
  have := sb_put h (M := Lib.compact L ++ List.replicate (L.length - (Lib.compact L).length) []) (by simp; omega) k #[]
  rw [grow_empty] at this
  exact ⟨rfl, this.1.take, this.2⟩
theorem reverseS_any (b cap n : Nat) (L : List (List UInt8)) (hn : L.length = n) (w : World) (h : SB w b L) (hl : n ≤ 100000) : Calls Tryz.prog 15 #[.slice (some ⟨b, 0, none⟩) n cap] w fun e w' =>
    e = .returned (.tuple #[]) ∧ SB w' b L.reverse ∧ ∀ base, base ≤ b → Below base w w' := by
  subst hn
  refine (Tryz.slices_Reverse_string b 0 cap L w h.holds (by omega)).mono ?_
  rintro e w' ⟨rfl, k, rfl⟩
  have := sb_put h (M := L.reverse) (by simp) k #[]
  rw [grow_empty] at this
  exact ⟨rfl, this⟩
theorem joinL_bound (n : Nat) : ∀ L : List (List UInt8), (∀ x, x ∈ L → x.length ≤ n) → (joinL L).length ≤ L.length * (n + 1)
  | [], _ => by simp [joinL]
  | x :: r, h => by
    have ih := joinL_bound n r (fun y hy => h y (List.mem_cons_of_mem _ hy))
    have hx := h x (by simp)
    simp only [joinL, List.map_cons, List.flatten_cons, List.length_append, List.length_cons, List.length_nil] at ih ⊢
    rw [Nat.succ_mul]; omega
/-- the end: what lies in the block is put together -/
theorem done_any (b cap n : Nat) (M L : List (List UInt8)) (hn : M.length = n) (hM : ∀ x, x ∈ M → x ∈ L) (hMl : M.length ≤ L.length) (hl : L.length ≤ 501) (h5 : ∀ x, x ∈ L → x.length ≤ 501) (hc : n ≤ cap) (w : World) (h : SB w b M) :
    Calls Tryz.prog 16 #[.slice (some ⟨b, 0, none⟩) n cap] w fun e w' => e = .returned (.string ⟨(joinL M).toArray⟩) ∧ Below w.heap.size w w' := by
  subst hn
  have hx : ∀ x, x ∈ M → x.length ≤ 501 := fun x hx => h5 x (hM x hx)
  have hj := joinL_bound 501 M hx
  have : M.length * (501 + 1) ≤ 501 * 502 := Nat.mul_le_mul (by omega) (Nat.le_refl _)
  exact joined_any _ M w (h.strs hc (by omega) (fun x h => by have := hx x h; omega)) (by omega) (fun x h => by have := hx x h; omega) (by omega)
theorem sort_len (l : List (List UInt8)) : (l.mergeSort fun x y => decide (x ≤ y)).length = l.length := List.length_mergeSort _
theorem sort_mem (l : List (List UInt8)) (x : List UInt8) (h : x ∈ (l.mergeSort fun x y => decide (x ≤ y))) : x ∈ l := (List.mergeSort_perm _ _).mem_iff.1 h
theorem compact_mem (l : List (List UInt8)) (x : List UInt8) (h : x ∈ Lib.compact (l.mergeSort fun x y => decide (x ≤ y))) : x ∈ l :=
  sort_mem l x (((compact_sorted _ (List.pairwise_mergeSort (le := fun x y => decide (x ≤ y)) (fun a b c h1 h2 => lineLe_trans h1 h2) (fun a b => by have := lineLe_total a b; simpa [lineLe] using this) l)).1 x).1 h)
set_option maxRecDepth 100000 in
theorem sort_any (s : List UInt8) (back once : Bool) (hs : s.length ≤ 501) (w : World) (hE : Env w) : Calls Tryz.prog 6 #[.string ⟨s.toArray⟩, .bool back, .bool once] w fun e w' =>
    e = .returned (.string ⟨(joinL (libL back once (linesL s))).toArray⟩) ∧ Below w.heap.size w w' := by
  have HL := Lib.hid (lines_any s (by omega) w hE)
  have hLl := lines_len s
  have H5 := Lib.hid (fun x (h : x ∈ linesL s) => Nat.le_trans (line_len h) hs)
  obtain ⟨L, hL⟩ : ∃ L, linesL s = L := ⟨_, rfl⟩
  rw [hL] at HL hLl H5
  rw [hL]
  clear hL
  obtain ⟨n, hn⟩ : ∃ n, L.length = n := ⟨_, rfl⟩
  have HN := Lib.hid hn
  rw [hn] at hLl
  have HM := Lib.hid (sort_len L)
  have HMM := Lib.hid (sort_mem L)
  have HCM := Lib.hid (compact_mem L)
  obtain ⟨M, hM⟩ : ∃ M, (L.mergeSort fun x y => decide (x ≤ y)) = M := ⟨_, rfl⟩
  have HS := Lib.hid (fun (b cap : Nat) (w : World) (h : SB w b L) => hM ▸ sortS_any b cap n L hn w h (by omega))
  have HF := Lib.hid (show libL back once L = (if back then (if once then Lib.compact M else M).reverse else (if once then Lib.compact M else M)) by rw [← hM]; rfl)
  rw [hM] at HM HMM HCM
  have HD := Lib.hid (fun (b cap m : Nat) (D : List (List UInt8)) (h1 : D.length = m) (h2 : ∀ x, x ∈ D → x ∈ L) (h3 : D.length ≤ L.length) (h4 : m ≤ cap) (w : World) (h : SB w b D) => done_any b cap m D L h1 h2 h3 (by omega) H5.out h4 w h)
  have HCl := Lib.hid (Lib.compact_length_le M)
  obtain ⟨C, hC⟩ : ∃ C, Lib.compact M = C := ⟨_, rfl⟩
  obtain ⟨nc, hnc⟩ : ∃ nc, C.length = nc := ⟨_, rfl⟩
  have HC := Lib.hid (fun (b cap : Nat) (w : World) (h : SB w b M) (hc : n ≤ cap) => hC ▸ compactS_any b cap n M (by rw [HM.out]; exact hn) w h (by omega) hc)
  rw [hC] at HCl HF HCM
  have HNC := Lib.hid hnc
  have hncn : nc ≤ n := by rw [← hnc, ← hn, ← HM.out]; exact HCl.out
  clear hM hC hn hnc
  go_enter Tryz.func6, Tryz.ntmps6
  go_wp2_with fail
  refine HL.out.mono ?_
  rintro e w1 ⟨b, cap, rfl, hb, hSB, hcap, hB1⟩
  rw [HN.out] at hcap ⊢
  go_wp2_with fail
  refine (HS.out b cap w1 hSB).mono ?_
  rintro e w2 ⟨rfl, hSB2, hB2⟩
  have hB12 := hB1.trans (hB2 _ hb)
  cases once with
  | false =>
    cases back with
    | false =>
      have hF := HF.out
      simp only [Bool.false_eq_true, if_false] at hF
      have HF2 := Lib.hid hF
      clear hF
      go_wp2_with fail
      refine (HD.out b cap n M (by rw [HM.out, HN.out]) HMM.out (by rw [HM.out]; omega) hcap w2 hSB2).mono ?_
      rintro e w3 ⟨rfl, hB3⟩
      go_wp2_with fail
      go_ret
      rw [HF2.out]
      exact ⟨rfl, below_tr hB12 hB3⟩
    | true =>
      have hF := HF.out
      simp only [Bool.false_eq_true, if_false, if_true] at hF
      have HF2 := Lib.hid hF
      clear hF
      go_wp2_with fail
      refine (reverseS_any b cap n M (by rw [HM.out, HN.out]) w2 hSB2 (by omega)).mono ?_
      rintro e w3 ⟨rfl, hSB3, hB3⟩
      have hB13 := hB12.trans (hB3 _ hb)
      go_wp2_with fail
      refine (HD.out b cap n M.reverse (by rw [List.length_reverse, HM.out, HN.out]) (fun x h => HMM.out x (List.mem_reverse.1 h)) (by rw [List.length_reverse, HM.out]; omega) hcap w3 hSB3).mono ?_
      rintro e w4 ⟨rfl, hB4⟩
      go_wp2_with fail
      go_ret
      rw [HF2.out]
      exact ⟨rfl, below_tr hB13 hB4⟩
  | true =>
    cases back with
    | false =>
      have hF := HF.out
      simp only [Bool.false_eq_true, if_false, if_true] at hF
      have HF2 := Lib.hid hF
      clear hF
      go_wp2_with fail
      refine (HC.out b cap w2 hSB2 hcap).mono ?_
      rintro e w3 ⟨rfl, hSB3, hB3⟩
      rw [HNC.out]
      have hB13 := hB12.trans (hB3 _ hb)
      go_wp2_with fail
      refine (HD.out b cap nc C HNC.out HCM.out (by rw [HNC.out, HN.out]; omega) (by omega) w3 hSB3).mono ?_
      rintro e w4 ⟨rfl, hB4⟩
      go_wp2_with fail
      go_ret
      rw [HF2.out]
      exact ⟨rfl, below_tr hB13 hB4⟩
    | true =>
      have hF := HF.out
      simp only [if_true] at hF
      have HF2 := Lib.hid hF
      clear hF
      go_wp2_with fail
      refine (HC.out b cap w2 hSB2 hcap).mono ?_
      rintro e w3 ⟨rfl, hSB3, hB3⟩
      rw [HNC.out]
      have hB13 := hB12.trans (hB3 _ hb)
      go_wp2_with fail
      refine (reverseS_any b cap nc C HNC.out w3 hSB3 (by omega)).mono ?_
      rintro e w4 ⟨rfl, hSB4, hB4⟩
      have hB14 := hB13.trans (hB4 _ hb)
      go_wp2_with fail
      refine (HD.out b cap nc C.reverse (by rw [List.length_reverse, HNC.out]) (fun x h => HCM.out x (List.mem_reverse.1 h)) (by rw [List.length_reverse, HNC.out, HN.out]; omega) (by omega) w4 hSB4).mono ?_
      rintro e w5 ⟨rfl, hB5⟩
      go_wp2_with fail
      go_ret
      rw [HF2.out]
      exact ⟨rfl, below_tr hB14 hB5⟩
end Go.Proofs.YtmhgehnkhhlbkaaGreatDoor
