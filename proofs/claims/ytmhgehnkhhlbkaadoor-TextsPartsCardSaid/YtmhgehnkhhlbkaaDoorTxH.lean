/- Texts: first and last lines, both sides. -/
import Derived.Test.YtmhgehnkhhlbkaaDoorTxJ
import Derived.Test.YtmhgehnkhhlbkaaDoorTxHp
import Derived.Test.YtmhgehnkhhlbkaaDoorTxEc
namespace Go.Proofs.YtmhgehnkhhlbkaaDoor
open Go.RowKit

theorem splitafter_any (s : List UInt8) (hs : s.length ≤ 100000) (w : World) (hE : Env w) : Calls Tryd.prog 53 #[.string ⟨s.toArray⟩, .string ⟨#[10]⟩] w fun e w' =>
    e = .returned (.slice (some ⟨w.heap.size, 0, none⟩) (cutL [10] s).length (cutL [10] s).length) ∧ SB w' w.heap.size (cutL [10] s) ∧ Below w.heap.size w w' := by
  obtain ⟨m, hm⟩ := hE.maxlen
  have hd : (ByteArray.mk s.toArray).data.toList = s := by simp
  have hd2 : (ByteArray.mk #[10]).data.toList = [10] := rfl
  have hc : Lib.countB ⟨s.toArray⟩ ⟨#[10]⟩ = s.count 10 := by
    show Lib.count _ _ = _
    rw [hd, hd2, Lib.count_one]
  have hcut := splitB_cut 1 (by decide) s
  have hall := Lib.splitB_all ⟨#[10]⟩ (by decide) 1 _ ⟨s.toArray⟩ rfl
  rw [hc] at hall
  have hlen : (cutL [10] s).length = s.count 10 + 1 := by
    have := congrArg List.length hcut
    rw [List.length_map, hall] at this
    exact this.symm
  have hcl : s.count 10 ≤ s.length := List.count_le_length
  have h := Tryd.strings_genSplit ⟨s.toArray⟩ ⟨#[10]⟩ 1 (-1) (s.count 10 + 1) m w (by rw [str_size]; omega) hm (by decide) (by decide) (by decide) (by decide) (by
    rw [if_pos (by decide), hc, str_size]; omega)
  rw [Nat.add_sub_cancel, hall, ← hlen] at h
  have hcells : Lib.cellsOf (Lib.splitB ⟨#[10]⟩ 1 (s.count 10) ⟨s.toArray⟩) (cutL [10] s).length = ((Lib.splitB ⟨#[10]⟩ 1 (s.count 10) ⟨s.toArray⟩).map Value.string).toArray := by
    rw [hlen, ← hall]; exact Lib.cellsOf_full _
  rw [hcells] at h
  have hsb : SB (w.alloc (.cells ((Lib.splitB ⟨#[10]⟩ 1 (s.count 10) ⟨s.toArray⟩).map Value.string).toArray 9)) w.heap.size (cutL [10] s) := by
    refine sb_new w _ _ ?_ _
    show ((Lib.splitB ⟨#[10]⟩ 1 (s.count 10) ⟨s.toArray⟩).map Value.string) = _
    rw [show cutL [10] s = cutL (List.replicate 1 10) s from rfl, ← hcut, List.map_map]
    refine List.map_congr_left (fun x _ => ?_)
    show Value.string x = Value.string ⟨x.data.toList.toArray⟩
    rw [Array.toArray_toList]
  have H := Lib.hid h
  have HSB := Lib.hid hsb
  clear hcut hall hlen hc hcells h hsb hcl hm
  generalize (Lib.splitB ⟨#[10]⟩ 1 (s.count 10) ⟨s.toArray⟩) = C at *
  generalize cutL [10] s = P at *
  go_enter Tryd.func53, Tryd.ntmps53
  go_wp2_with fail
  refine H.out.mono ?_
  rintro e w1 ⟨rfl, rfl⟩
  go_wp2_with fail
  go_ret
  exact ⟨rfl, HSB.out, below_alloc w _⟩
theorem cut_total (s x : List UInt8) (h : x ∈ cutL [10] s) : x.length ≤ s.length := by
  have := mem_flat_len _ _ h; rwa [cut_flat] at this
theorem cut_count (s : List UInt8) : (cutL [10] s).length ≤ s.length + 1 := by
  rw [cut_len]
  have h := lines_len s
  rcases cut_lines s with ⟨r, h1, h2⟩ | ⟨h1, _⟩
  · rw [h1]; rw [h2] at h; simp; omega
  · rw [← h1]; omega
/-- joined without anything between -/
theorem join0_any (b off n cap : Nat) (L : List (List UInt8)) (w : World) (hn : n = L.length) (hcap : n ≤ cap) (hL : L.length ≤ 1000) (hb : 0 < n → b < w.heap.size) (hc : ∀ (j : Nat) x, L[j]? = some x → w.cell? ⟨b, off + j, none⟩ = some (.string ⟨x.toArray⟩)) (h5 : ∀ x, x ∈ L → x.length ≤ 1000) (ht : L.flatten.length ≤ 1000000) (a : Option Addr) (ha : 0 < n → a = some ⟨b, off, none⟩) :
    Calls Tryd.prog 43 #[.slice a n cap, .string ⟨#[]⟩] w fun e w' => e = .returned (.string ⟨L.flatten.toArray⟩) ∧ Below w.heap.size w w' := by
  subst hn
  have hv : Strs w (.slice a L.length cap) L := ⟨by unfold maxLen; omega, ⟨a, cap, rfl, hcap, fun hp => ⟨b, off, ha hp, hb hp, hc⟩⟩, fun i x hx => by have := h5 x (List.mem_of_getElem? hx); unfold maxLen; omega⟩
  have := join_any _ L [] w hv (by rw [join_flat]; omega) (by omega)
  rw [join_flat] at this
  exact this
set_option maxRecDepth 100000 in
theorem head_any (s : List UInt8) (z : Int) (hs : s.length ≤ 500) (w : World) (hE : Env w) : Calls Tryd.prog 27 #[.string ⟨s.toArray⟩, .int .i64 z] w fun e w' => e = .returned (.string ⟨(headL s z.toNat).toArray⟩) ∧ Below w.heap.size w w' := by
  have HS := Lib.hid (splitafter_any s (by omega) w hE)
  have HH := Lib.hid (show headL s z.toNat = ((cutL [10] s).take z.toNat).flatten from rfl)
  have H5 := Lib.hid (fun x hx => cut_total s x hx)
  have Hn := Lib.hid (cut_count s)
  have HF := Lib.hid (show (cutL [10] s).flatten.length ≤ 500 by rw [cut_flat]; exact hs)
  obtain ⟨P, hP⟩ : ∃ P, cutL [10] s = P := ⟨_, rfl⟩
  rw [hP] at HS HH H5 Hn HF
  obtain ⟨n, hn⟩ : ∃ n, P.length = n := ⟨_, rfl⟩
  have HN := Lib.hid hn
  rw [hn] at HS
  have hn5 : n ≤ 501 := by rw [← hn]; have := Hn.out; omega
  have HJ := Lib.hid (fun (k : Nat) (hk : k ≤ n) (w1 : World) (hSB : SB w1 w.heap.size P) => join0_any w.heap.size 0 k n (P.take k) w1 (by rw [List.length_take, hn]; omega) hk (by simp; omega) (fun _ => hSB.lt)
    (fun j x hx => by rw [Nat.zero_add]; exact hSB.cell j x (by rw [List.getElem?_take] at hx; split at hx; exact hx; cases hx)) (fun x hx => by have := H5.out x (List.mem_of_mem_take hx); omega)
    (by have h1 := HF.out; have h2 := congrArg List.flatten (List.take_append_drop k P); rw [List.flatten_append] at h2; have := congrArg List.length h2; rw [List.length_append] at this; omega) (some ⟨w.heap.size, 0, none⟩) (fun _ => rfl))
  clear hP hn
  have hcase : z ≤ 0 ∨ (∃ k : Nat, z = k ∧ 0 < k ∧ k ≤ n) ∨ (n : Int) < z := by
    rcases Int.lt_or_le 0 z with h | h
    · rcases Int.lt_or_le n z with h' | h'
      · exact .inr (.inr h')
      · exact .inr (.inl ⟨z.toNat, by omega, by omega, by omega⟩)
    · exact .inl h
  rcases hcase with hz | ⟨k, rfl, hk0, hkn⟩ | hz
  · have HR := Lib.hid (show headL s z.toNat = (P.take 0).flatten by rw [HH.out, show z.toNat = 0 by omega])
    have e1 : max z 0 = 0 := by omega
    have e2 : min (0 : Int) (n : Int) = 0 := by omega
    clear hz
    go_enter Tryd.func27, Tryd.ntmps27
    go_wp2_with fail
    refine HS.out.mono ?_
    rintro e w1 ⟨rfl, hSB, hB⟩
    have HJ1 := Lib.hid (HJ.out 0 (by omega) w1 hSB)
    clear hSB
    go_wp2_with fail
    refine HJ1.out.mono ?_
    rintro e w2 ⟨rfl, hB2⟩
    go_wp2_with fail
    go_ret
    rw [HR.out]
    exact ⟨rfl, below_tr hB hB2⟩
  · have HR := Lib.hid (show headL s (k : Int).toNat = (P.take k).flatten by rw [HH.out]; rfl)
    have e1 : max (k : Int) 0 = k := by omega
    have e2 : min (k : Int) (n : Int) = k := by omega
    go_enter Tryd.func27, Tryd.ntmps27
    go_wp2_with fail
    refine HS.out.mono ?_
    rintro e w1 ⟨rfl, hSB, hB⟩
    have HJ1 := Lib.hid (HJ.out k (by omega) w1 hSB)
    clear hSB
    go_wp2_with fail
    refine HJ1.out.mono ?_
    rintro e w2 ⟨rfl, hB2⟩
    go_wp2_with fail
    go_ret
    rw [HR.out]
    exact ⟨rfl, below_tr hB hB2⟩
  · have HR := Lib.hid (show headL s z.toNat = (P.take n).flatten by rw [HH.out, List.take_of_length_le (by rw [HN.out]; omega), List.take_of_length_le (by rw [HN.out]; omega)])
    have e1 : max z 0 = z := by omega
    have e2 : min z (n : Int) = n := by omega
    clear hz
    go_enter Tryd.func27, Tryd.ntmps27
    go_wp2_with fail
    refine HS.out.mono ?_
    rintro e w1 ⟨rfl, hSB, hB⟩
    have HJ1 := Lib.hid (HJ.out n (by omega) w1 hSB)
    clear hSB
    go_wp2_with fail
    refine HJ1.out.mono ?_
    rintro e w2 ⟨rfl, hB2⟩
    go_wp2_with fail
    go_ret
    rw [HR.out]
    exact ⟨rfl, below_tr hB hB2⟩
theorem cutA_cases (s : List UInt8) : (cutL [10] s = cutA s ++ [[]]) ∨ (cutA s = cutL [10] s ∧ ∃ r x, cutL [10] s = r ++ [x] ∧ x ≠ []) := by
  have hne := cutL_ne [10] s
  have hl := List.getLast?_eq_some_getLast hne
  have hd := List.dropLast_concat_getLast hne
  unfold cutA
  by_cases h : (cutL [10] s).getLast hne = []
  · left
    rw [hl, h, if_pos rfl]
    rw [h] at hd; exact hd.symm
  · right
    rw [hl, if_neg (fun e => h (Option.some.inj e))]
    exact ⟨rfl, _, _, hd.symm, h⟩
set_option maxRecDepth 100000 in
set_option maxHeartbeats 1600000 in
theorem tail_any (s : List UInt8) (z : Int) (hs : s.length ≤ 500) (w : World) (hE : Env w) : Calls Tryd.prog 29 #[.string ⟨s.toArray⟩, .int .i64 z] w fun e w' => e = .returned (.string ⟨(tailL s z.toNat).toArray⟩) ∧ Below w.heap.size w w' := by
  have HS := Lib.hid (splitafter_any s (by omega) w hE)
  have HT0 := Lib.hid (show tailL s z.toNat = ((cutA s).drop ((cutA s).length - z.toNat)).flatten from rfl)
  have H5 := Lib.hid (fun x hx => cut_total s x hx)
  have Hn := Lib.hid (cut_count s)
  have HF := Lib.hid (show (cutA s).flatten.length ≤ 500 by rw [cutA_flat]; exact hs)
  have hca := cutA_cases s
  obtain ⟨P, hP⟩ : ∃ P, cutL [10] s = P := ⟨_, rfl⟩
  obtain ⟨Q, hQ⟩ : ∃ Q, cutA s = Q := ⟨_, rfl⟩
  rw [hP] at HS H5 Hn hca
  rw [hQ] at HT0 HF hca
  obtain ⟨n, hn⟩ : ∃ n, P.length = n := ⟨_, rfl⟩
  obtain ⟨m, hm⟩ : ∃ m, Q.length = m := ⟨_, rfl⟩
  rw [hn] at HS
  rw [hm] at HT0
  have HT := Lib.hid HT0.out
  have HM := Lib.hid hm
  have hn5 : n ≤ 501 := by rw [← hn]; have := Hn.out; omega
  clear hP hQ HT0
  have hcase : z ≤ 0 ∨ (∃ k : Nat, z = k ∧ 0 < k ∧ k ≤ m) ∨ (m : Int) < z := by
    rcases Int.lt_or_le 0 z with h | h
    · rcases Int.lt_or_le m z with h' | h'
      · exact .inr (.inr h')
      · exact .inr (.inl ⟨z.toNat, by omega, by omega, by omega⟩)
    · exact .inl h
  rcases hca with hPQ | ⟨rfl, r, x, hPx, hx0⟩
  · have hnm : n = m + 1 := by rw [← hn, hPQ, List.length_append, hm]; rfl
    have HJ := Lib.hid (fun (lo : Nat) (hlo : lo ≤ m) (w1 : World) (hSB : SB w1 w.heap.size P) (a : Option Addr) (ha : 0 < m - lo → a = some ⟨w.heap.size, lo, none⟩) => join0_any w.heap.size lo (m - lo) (n - lo) (Q.drop lo) w1 (by rw [List.length_drop, hm]) (by omega) (by simp; omega) (fun _ => hSB.lt)
      (fun j y hy => hSB.cell (lo + j) y (by rw [List.getElem?_drop] at hy; rw [hPQ, List.getElem?_append_left (List.getElem?_eq_some_iff.1 hy).1]; exact hy)) (fun y hy => by have := H5.out y (by rw [hPQ]; exact List.mem_append_left _ (List.mem_of_mem_drop hy)); omega)
      (by have h1 := HF.out; have h2 := congrArg List.flatten (List.take_append_drop lo Q); rw [List.flatten_append] at h2; have := congrArg List.length h2; rw [List.length_append] at this; omega) a ha)
    have hcl : P[m]? = some [] := by rw [hPQ, List.getElem?_append_right (by omega), hm]; simp
    have HCL := Lib.hid hcl
    have hn1 : (n : Int) - 1 = (m : Int) := by omega
    have hn2 : m < n := by omega
    clear hPQ hn hm hcl hnm
    rcases hcase with hz | ⟨k, rfl, hk0, hkn⟩ | hz
    · have HR := Lib.hid (show tailL s z.toNat = (Q.drop m).flatten by rw [HT.out, show z.toNat = 0 by omega, Nat.sub_zero])
      have e1 : max z 0 = 0 := by omega
      have e2 : min (0 : Int) (m : Int) = 0 := by omega
      clear hz
      go_enter Tryd.func29, Tryd.ntmps29
      go_wp2_with fail
      refine HS.out.mono ?_
      rintro e w1 ⟨rfl, hSB, hB⟩
      have hlast := hSB.cell m [] HCL.out
      have hj := HJ.out m (by omega) w1 hSB
      simp only [Nat.sub_self] at hj
      have HJ1 := Lib.hid hj
      clear hj
      clear hSB
      go_wp2_with fail
      refine (HJ1.out _ (fun h => by first | rfl | omega)).mono ?_
      rintro e w2 ⟨rfl, hB2⟩
      go_wp2_with fail
      go_ret
      rw [HR.out]
      exact ⟨rfl, below_tr hB hB2⟩
    · obtain ⟨lo, hlo⟩ : ∃ lo, m - k = lo := ⟨_, rfl⟩
      have HR := Lib.hid (show tailL s (k : Int).toNat = (Q.drop lo).flatten by rw [HT.out, ← hlo]; rfl)
      have e1 : max (k : Int) 0 = k := by omega
      have e2 : min (k : Int) (m : Int) = k := by omega
      have e3 : (m : Int) - k = lo := by omega
      have hlm : lo < m := by omega
      clear hlo
      go_enter Tryd.func29, Tryd.ntmps29
      go_wp2_with fail
      refine HS.out.mono ?_
      rintro e w1 ⟨rfl, hSB, hB⟩
      have hlast := hSB.cell m [] HCL.out
      have HJ1 := Lib.hid (fun a ha => HJ.out lo (by omega) w1 hSB a ha)
      clear hSB
      go_wp2_with fail
      refine (HJ1.out _ (fun h => by first | rfl | omega)).mono ?_
      rintro e w2 ⟨rfl, hB2⟩
      go_wp2_with fail
      go_ret
      rw [HR.out]
      exact ⟨rfl, below_tr hB hB2⟩
    · have HR := Lib.hid (show tailL s z.toNat = (Q.drop 0).flatten by rw [HT.out, show m - z.toNat = 0 by omega])
      have e1 : max z 0 = z := by omega
      have e2 : min z (m : Int) = m := by omega
      clear hz
      go_enter Tryd.func29, Tryd.ntmps29
      go_wp2_with fail
      refine HS.out.mono ?_
      rintro e w1 ⟨rfl, hSB, hB⟩
      have hlast := hSB.cell m [] HCL.out
      have hj := HJ.out 0 (by omega) w1 hSB
      simp only [Nat.sub_zero] at hj
      have HJ1 := Lib.hid hj
      clear hj
      clear hSB
      go_wp2_with fail
      refine (HJ1.out _ (fun h => by first | rfl | omega)).mono ?_
      rintro e w2 ⟨rfl, hB2⟩
      go_wp2_with fail
      go_ret
      rw [HR.out]
      exact ⟨rfl, below_tr hB hB2⟩
  · have hnm : n = m := by rw [← hn, hm]
    subst hnm
    have HJ := Lib.hid (fun (lo : Nat) (hlo : lo ≤ n) (w1 : World) (hSB : SB w1 w.heap.size Q) (a : Option Addr) (ha : 0 < n - lo → a = some ⟨w.heap.size, lo, none⟩) => join0_any w.heap.size lo (n - lo) (n - lo) (Q.drop lo) w1 (by rw [List.length_drop, hm]) (by omega) (by simp; omega) (fun _ => hSB.lt)
      (fun j y hy => hSB.cell (lo + j) y (by rw [List.getElem?_drop] at hy; exact hy)) (fun y hy => by have := H5.out y (List.mem_of_mem_drop hy); omega)
      (by have h1 := HF.out; have h2 := congrArg List.flatten (List.take_append_drop lo Q); rw [List.flatten_append] at h2; have := congrArg List.length h2; rw [List.length_append] at this; omega) a ha)
    obtain ⟨l1, hl1⟩ : ∃ l1, r.length = l1 := ⟨_, rfl⟩
    have hcl : Q[l1]? = some x := by rw [hPx, List.getElem?_append_right (by omega), hl1]; simp
    have HCL := Lib.hid hcl
    have hn0 : n = l1 + 1 := by rw [← hm, hPx, List.length_append, hl1]; rfl
    have hn1 : (n : Int) - 1 = (l1 : Int) := by omega
    have hn2 : l1 < n := by omega
    have hx1 : (x == []) = false := by simp [hx0]
    have hx2 : x.isEmpty = false := by simp [hx0]
    clear hPx hn hm hcl hn0 hx0 hl1
    obtain ⟨m, hmn⟩ : ∃ m, m = n := ⟨_, rfl⟩
    subst hmn
    rcases hcase with hz | ⟨k, rfl, hk0, hkn⟩ | hz
    · have HR := Lib.hid (show tailL s z.toNat = (Q.drop m).flatten by rw [HT.out, show z.toNat = 0 by omega, Nat.sub_zero])
      have e1 : max z 0 = 0 := by omega
      have e2 : min (0 : Int) (m : Int) = 0 := by omega
      clear hz
      go_enter Tryd.func29, Tryd.ntmps29
      go_wp2_with fail
      refine HS.out.mono ?_
      rintro e w1 ⟨rfl, hSB, hB⟩
      have hlast := hSB.cell l1 x HCL.out
      have hj := HJ.out m (by omega) w1 hSB
      simp only [Nat.sub_self] at hj
      have HJ1 := Lib.hid hj
      clear hj
      clear hSB
      go_wp2_with fail
      refine (HJ1.out _ (fun h => by first | rfl | omega)).mono ?_
      rintro e w2 ⟨rfl, hB2⟩
      go_wp2_with fail
      go_ret
      rw [HR.out]
      exact ⟨rfl, below_tr hB hB2⟩
    · obtain ⟨lo, hlo⟩ : ∃ lo, m - k = lo := ⟨_, rfl⟩
      have HR := Lib.hid (show tailL s (k : Int).toNat = (Q.drop lo).flatten by rw [HT.out, ← hlo]; rfl)
      have e1 : max (k : Int) 0 = k := by omega
      have e2 : min (k : Int) (m : Int) = k := by omega
      have e3 : (m : Int) - k = lo := by omega
      have hlm : lo < m := by omega
      clear hlo
      go_enter Tryd.func29, Tryd.ntmps29
      go_wp2_with fail
      refine HS.out.mono ?_
      rintro e w1 ⟨rfl, hSB, hB⟩
      have hlast := hSB.cell l1 x HCL.out
      have HJ1 := Lib.hid (fun a ha => HJ.out lo (by omega) w1 hSB a ha)
      clear hSB
      go_wp2_with fail
      refine (HJ1.out _ (fun h => by first | rfl | omega)).mono ?_
      rintro e w2 ⟨rfl, hB2⟩
      go_wp2_with fail
      go_ret
      rw [HR.out]
      exact ⟨rfl, below_tr hB hB2⟩
    · have HR := Lib.hid (show tailL s z.toNat = (Q.drop 0).flatten by rw [HT.out, show m - z.toNat = 0 by omega])
      have e1 : max z 0 = z := by omega
      have e2 : min z (m : Int) = m := by omega
      clear hz
      go_enter Tryd.func29, Tryd.ntmps29
      go_wp2_with fail
      refine HS.out.mono ?_
      rintro e w1 ⟨rfl, hSB, hB⟩
      have hlast := hSB.cell l1 x HCL.out
      have hj := HJ.out 0 (by omega) w1 hSB
      simp only [Nat.sub_zero] at hj
      have HJ1 := Lib.hid hj
      clear hj
      clear hSB
      go_wp2_with fail
      refine (HJ1.out _ (fun h => by first | rfl | omega)).mono ?_
      rintro e w2 ⟨rfl, hB2⟩
      go_wp2_with fail
      go_ret
      rw [HR.out]
      exact ⟨rfl, below_tr hB hB2⟩
end Go.Proofs.YtmhgehnkhhlbkaaDoor
