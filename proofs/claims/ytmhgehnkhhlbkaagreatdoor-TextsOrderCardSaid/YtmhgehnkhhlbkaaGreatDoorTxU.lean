/- Texts: the chapter's examples; texts that are not too great. -/
import Derived.Test.YtmhgehnkhhlbkaaGreatDoorTxA
import Derived.Test.YtmhgehnkhhlbkaaGreatDoorTxT
namespace Go.Proofs.YtmhgehnkhhlbkaaGreatDoor
open Go.RowKit

theorem below_alloc (w : World) (o : Obj) : Below w.heap.size w (w.alloc o) := (Below.refl _ _).alloc (Nat.le_refl _) _
theorem below_tr {w w1 w2 : World} (h1 : Below w.heap.size w w1) (h2 : Below w1.heap.size w1 w2) : Below w.heap.size w w2 := h1.trans (h2.mono h1.size)
theorem strs_lit (w : World) (L : List (List UInt8)) (cs : Array Value) (n : Nat) (hn : n = L.length) (hl : L.length ≤ 1000) (h5 : ∀ x, x ∈ L → x.length ≤ maxLen) (hcs : cs.toList = L.map fun x => Value.string ⟨x.toArray⟩) (t : TypeId) :
    Strs (w.alloc (.cells cs t)) (.slice (some ⟨w.heap.size, 0, none⟩) n n) L := by
  subst hn
  refine ⟨by unfold maxLen; omega, ⟨_, L.length, rfl, Nat.le_refl _, fun _ => ⟨w.heap.size, 0, rfl, by simp, fun i x hx => ?_⟩⟩, fun i x hx => h5 x (List.mem_of_getElem? hx)⟩
  rw [Nat.zero_add, World.cell?_alloc_new]
  have : cs.toList[i]? = some (.string ⟨x.toArray⟩) := by rw [hcs, List.getElem?_map, hx]; rfl
  rw [Array.getElem?_toList] at this
  exact this
def fewL (L : List (List UInt8)) : Bool := L.all (fun x => decide (x.length ≤ 500)) && decide (L.length ≤ 30)
theorem few_iff (L : List (List UInt8)) : fewL L = true ↔ (∀ x, x ∈ L → x.length ≤ 500) ∧ L.length ≤ 30 := by simp [fewL]
set_option maxRecDepth 100000 in
theorem few_any (v : Value) (L : List (List UInt8)) (w : World) (hv : Strs w v L) (hL : L.length ≤ 9000000000000000000) : Calls Tryz.prog 5 #[v] w fun e w' => e = .returned (.bool (fewL L)) ∧ w = w' := by
  obtain ⟨a0, cap, hv0, hcap, hat⟩ := hv.shape
  have HF := Lib.hid (show fewL L = (L.all (fun x => decide (x.length ≤ 500)) && decide (L.length ≤ 30)) from rfl)
  have HO := Lib.hid hv.ok
  obtain ⟨n, hn⟩ : ∃ n, L.length = n := ⟨_, rfl⟩
  have HN := Lib.hid hn
  rw [hn] at hat hcap HF hL hv0
  subst hv0
  clear hn hv
  go_enter Tryz.func5, Tryz.ntmps5
  go_wp2_with fail
  go_loop [3] (fun i => ∃ k : Nat, k ≤ n ∧ i = .int .i64 k ∧ Hid (∀ x, x ∈ L.take k → x.length ≤ 500)) (fun i => n - (intOf i).toNat)
  case atStart => exact ⟨0, by omega, rfl, Lib.hid (fun x hx => by simp at hx)⟩
  case round =>
    obtain ⟨k, hk, rfl, HK⟩ := hrel
    by_cases hkn : k < n
    · obtain ⟨b, off, rfl, hb, hcs⟩ := hat (by omega)
      obtain ⟨x, hx⟩ : ∃ x, L[k]? = some x := ⟨L[k]'(by rw [HN.out]; exact hkn), List.getElem?_eq_getElem _⟩
      have hcell := hcs k x hx
      have hxl := HO.out k x hx
      unfold maxLen at hxl
      have hmem : x ∈ L := List.mem_of_getElem? hx
      by_cases h5 : x.length ≤ 500
      · have HK2 := Lib.hid (show ∀ y, y ∈ L.take (k + 1) → y.length ≤ 500 from fun y hy => by
          rw [List.take_add_one, hx] at hy
          rcases List.mem_append.1 hy with hy | hy
          · exact HK.out y hy
          · simp at hy; subst hy; exact h5)
        clear hx hcs hat hmem
        go_wp2_with fail
        go_round
        case rel => exact ⟨k + 1, by omega, by go_num, HK2⟩
        case measure => simp [intOf]; omega
      · have HR := Lib.hid (show fewL L = false by rw [HF.out]; simp; intro h; exact absurd (h x hmem) h5)
        clear hx hcs hat hmem
        go_wp2_with fail
        go_ret
        exact ⟨ret_bool HR.out.symm, rfl⟩
    · obtain rfl : k = n := by omega
      have HR := Lib.hid (show fewL L = decide (k ≤ 30) by
        rw [HF.out, show L.all (fun x => decide (x.length ≤ 500)) = true by
          rw [List.all_eq_true]; intro x hx; rw [← HN.out, List.take_length] at HK; exact decide_eq_true (HK.out x hx)]
        rfl)
      clear hat
      go_wp2_with fail
      go_ret
      exact ⟨ret_bool (by rw [HR.out]; simp; omega), rfl⟩
theorem tr_ex : trL [104, 101, 108, 108, 111] [97, 45, 121] [98, 45, 122] = some [105, 102, 109, 109, 112] := by
  have h1 : setL [97, 45, 121] = some (rngN 97 25) := by rw [setL_range _ _ _ (by decide), setL_nil]; rfl
  have h2 : setL [98, 45, 122] = some (rngN 98 25) := by rw [setL_range _ _ _ (by decide), setL_nil]; rfl
  rw [trL, h1, h2]
  decide
theorem pr_ex : printfL [37, 115, 61, 37, 100, 10] [[97], [48, 55], [98]] = some [97, 61, 55, 10, 98, 61, 48, 10] := by
  simp [printfL, printfS, passS, pctS, numL, unsg, badNum, sg, strip, digB]
theorem wc_ex : wordsAt true [97, 32, 98, 10, 99] = 3 := by decide
set_option maxRecDepth 100000 in
theorem awake_any (w : World) (hE : Env w) : Calls Tryz.prog 8 #[] w fun e w' => e = .returned (.bool true) ∧ Below w.heap.size w w' := by
  have HW := Lib.hid (wc_any [97, 32, 98, 10, 99] (by decide) w)
  rw [wc_ex, show ([97, 32, 98, 10, 99] : List UInt8).count 10 = 1 by decide, show ([97, 32, 98, 10, 99] : List UInt8).length = 5 from rfl] at HW
  have HT := Lib.hid (tr_any [104, 101, 108, 108, 111] [97, 45, 121] [98, 45, 122] (by decide) (by decide) (by decide))
  rw [tr_ex] at HT
  have HP := Lib.hid (fun (w1 : World) (hE1 : Env w1) => printf_any [37, 115, 61, 37, 100, 10] (.slice (some ⟨w1.heap.size, 0, none⟩) 3 3) [[97], [48, 55], [98]] (by decide) (w1.alloc (.cells #[.string ⟨#[97]⟩, .string ⟨#[48, 55]⟩, .string ⟨#[98]⟩] 9))
    (strs_lit w1 [[97], [48, 55], [98]] _ 3 rfl (by decide) (by decide) rfl _) (by decide) (by decide) (hE1.below ((Below.refl _ _).alloc (Nat.le_refl _) _)))
  rw [pr_ex] at HP
  go_enter Tryz.func8, Tryz.ntmps8
  go_wp2_with fail
  refine HW.out.mono ?_
  rintro e w1 ⟨rfl, hB1⟩
  go_wp2_with fail
  refine (HT.out w1).mono ?_
  rintro e w2 ⟨rfl, hB2⟩
  have hB12 := hB1.trans (hB2.mono hB1.size)
  have hE2 := hE.below hB12
  simp only [txtRet]
  go_wp2_with fail
  refine (HP.out w2 hE2).mono ?_
  rintro e w3 ⟨rfl, hB3⟩
  have hA : Below w2.heap.size w2 (w2.alloc (.cells #[.string ⟨#[97]⟩, .string ⟨#[48, 55]⟩, .string ⟨#[98]⟩] 9)) := (Below.refl _ _).alloc (Nat.le_refl _) _
  have hB23 := hA.trans (hB3.mono hA.size)
  simp only [txtRet]
  go_wp2_with fail
  go_ret
  exact ⟨rfl, hB12.trans (hB23.mono hB12.size)⟩
end Go.Proofs.YtmhgehnkhhlbkaaGreatDoor
