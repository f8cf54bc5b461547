/- Fds: forks, ends of pipes, the chapter's examples. -/
import Derived.Test.YtgfnfomkhhpjaaaGreatDoorFdE
namespace Go.Proofs.YtgfnfomkhhpjaaaGreatDoor
open Go.RowKit

set_option maxRecDepth 100000 in
/-- a fork of a set of which two numbers are open -/
theorem fork_two {S F tab p n sv O1 O2 v1 v2} (w : World) (hS : SetIs w S F tab) (hF : FilesIs w F p n sv) (h1 : OpenIs w O1 v1 1) (h2 : OpenIs w O2 v2 1) (hSF : S ≠ F) (hS1 : S ≠ O1) (hS2 : S ≠ O2) (hF1 : F ≠ O1) (hF2 : F ≠ O2) (h12 : O1 ≠ O2) (hn : n < 100000)
    (t0 : tab 0 = some ⟨O1, 0, none⟩) (t1 : tab 1 = some ⟨O2, 0, none⟩) (ht : ∀ i, 2 ≤ i → i < 16 → tab i = none) :
    Calls Tryz.prog 17 #[.pointer (some ⟨S, 0, none⟩)] w fun e w' => ∃ C, e = .returned (.pointer (some ⟨C, 0, none⟩)) ∧ w.heap.size ≤ C ∧
      SetIs w' S F tab ∧ SetIs w' C F (fun i => if i < 16 then tab i else none) ∧ FilesIs w' F p n sv ∧ OpenIs w' O1 v1 2 ∧ OpenIs w' O2 v2 2 ∧ Kept [F, O1, O2] w w' := by
  obtain ⟨A, hA⟩ : ∃ A : Array Value, (tabL tab).toArray = A := ⟨_, rfl⟩
  have HA := Lib.hid (show ∀ i, i < 16 → A[i]? = some (.pointer (tab i)) from fun i hi => by rw [← hA, List.getElem?_toArray, tabL_at tab i hi])
  have hsz : A.size = 16 := by rw [← hA]; simp [tabL]
  have HA0 := Lib.hid hA
  have HT := Lib.hid ht
  have hf := hS.files
  have l0 := hS.lt
  have l1 := h1.lt
  have l2 := h2.lt
  have l3 := hF.lt
  clear hA ht
  go_enter Tryz.func17, Tryz.ntmps17
  go_wp2_with fail
  refine (set_any F w).mono ?_
  rintro e w1 ⟨rfl, hB1, hC1⟩
  have k1 : Kept [] w w1 := Kept.of_below hB1
  have hSa := hS.kept k1 (by simp)
  have hFa := hF.kept k1 (by simp)
  have h1a := h1.kept k1 (by simp)
  have h2a := h2.kept k1 (by simp)
  go_wp2_with (refine tab_load hSa A HA0.out rfl _ rfl rfl ?_)
  go_loopw [17] (fun i W => ∃ k : Nat, k ≤ 16 ∧ i = .int .i64 k ∧ SetIs W w.heap.size F (fun i => if i < k then tab i else none) ∧ FilesIs W F p n sv ∧ OpenIs W O1 v1 (if 0 < k then 2 else 1) ∧ OpenIs W O2 v2 (if 1 < k then 2 else 1) ∧ Kept [F, O1, O2] w W) (fun i _ => 16 - (intOf i).toNat)
  case atStart => exact ⟨0, by omega, rfl, by simpa using hC1, hFa, by simpa using h1a, by simpa using h2a, k1.more (by simp)⟩
  case round =>
    obtain ⟨k, hk, rfl, hC, hFb, h1b, h2b, kb⟩ := hrel
    by_cases hk16 : k < 16
    · have hak := HA.out k hk16
      have hki : (k : Int) < 16 := by omega
      have hix := tab_index A (tab k) k hk16 hak
      by_cases hk0 : k = 0
      · subst hk0
        rw [t0] at hix
        have hix2 : ∀ W : World, (Instr.index 54 (.agg A) (.int .i64 0)).run Tryz.prog W = .ok (.pointer (some ⟨O1, 0, none⟩)) W := hix
        go_wp2_with fail
        refine (share_any 0 wr hC hFb h1b (by omega) (by omega) hF1 (by omega) (by omega) (by simp)).mono ?_
        rintro e w2 ⟨rfl, a1, a2, a3, a4⟩
        go_wp2_with fail
        go_round
        case rel => exact ⟨1, by omega, by go_num, by
          have : updT (fun i => if i < 0 then tab i else none) 0 (some ⟨O1, 0, none⟩) = (fun i => if i < 1 then tab i else none) := by
            funext i; unfold updT; by_cases hi : i = 0
            · subst hi; simp [t0]
            · simp [hi]
          rw [← this]; exact a1, by simpa using a2, by simpa using a3, by simpa using h2b.kept a4 (by simp; omega), kb.step a4 (by simp)⟩
        case measure => simp [intOf]
      · by_cases hk1 : k = 1
        · subst hk1
          rw [t1] at hix
          have hix2 : ∀ W : World, (Instr.index 54 (.agg A) (.int .i64 1)).run Tryz.prog W = .ok (.pointer (some ⟨O2, 0, none⟩)) W := hix
          go_wp2_with fail
          refine (share_any 1 wr hC hFb h2b (by omega) (by omega) hF2 (by omega) (by omega) (by simp)).mono ?_
          rintro e w2 ⟨rfl, a1, a2, a3, a4⟩
          go_wp2_with fail
          go_round
          case rel => exact ⟨2, by omega, by go_num, by
            have : updT (fun i => if i < 1 then tab i else none) 1 (some ⟨O2, 0, none⟩) = (fun i => if i < 2 then tab i else none) := by
              funext i; unfold updT; by_cases hi : i = 1
              · subst hi; simp [t1]
              · by_cases h0 : i = 0
                · subst h0; simp
                · simp [hi, h0, show ¬ i < 2 by omega]
            rw [← this]; exact a1, by simpa using a2, by simpa using h1b.kept a4 (by simp; omega), by simpa using a3, kb.step a4 (by simp)⟩
          case measure => simp [intOf]
        · have htk := HT.out k (by omega) hk16
          rw [htk] at hix
          go_wp2_with fail
          go_round
          case rel => exact ⟨k + 1, by omega, by go_num, by
            have : (fun i => if i < k + 1 then tab i else none) = (fun i => if i < k then tab i else none) := by
              funext i; by_cases hi : i = k
              · subst hi; simp [htk]
              · simp [show (i < k + 1) = (i < k) by rw [eq_iff_iff]; omega]
            rw [this]; exact hC, hFb, by simpa [show 0 < k by omega] using h1b, by simpa [show 1 < k by omega, show 0 < k by omega] using h2b, kb⟩
          case measure => simp [intOf]; omega
    · obtain rfl : k = 16 := by omega
      go_wp2_with fail
      go_ret
      exact ⟨w.heap.size, rfl, Nat.le_refl _, hS.kept kb (by simp; omega), hC, hFb, by simpa using h1b, by simpa using h2b, kb⟩
theorem cell_keep_alloc {w : World} {b : Nat} (h : b < w.heap.size) (o : Obj) : (w.alloc o).heap[b]? = w.heap[b]? := ((Below.refl w.heap.size w).alloc (Nat.le_refl _) o).block b h
theorem endw_w {P l r wr} (s : List UInt8) (er : Int) (m : Nat) (l' : List UInt8) (w : World) (hP : PipeSt w P l r wr) (hs : s.length ≤ maxLen) (h1 : writeRes l r wr s = (m, er)) (h2 : writeLeft l r wr s = l') :
    Calls Tryz.prog 135 #[.agg #[.pointer (some ⟨P, 0, none⟩), .bool true], .string ⟨s.toArray⟩] w fun e w' => e = .returned (.tuple #[.int .i64 m, .int .i64 er]) ∧ PipeSt w' P l' r wr ∧ Kept [P] w w' := by
  have k0 := (Kept.refl [P] w).alloc (.cells #[.pointer (some ⟨P, 0, none⟩), .bool true] 65)
  have hP0 := hP.keep (cell_keep_alloc hP.lt (.cells #[.pointer (some ⟨P, 0, none⟩), .bool true] 65))
  have H := Lib.hid (write_st s hs P l r wr _ hP0)
  rw [h1, h2] at H
  clear hP0
  clear hP h1 h2
  go_enter Tryz.func135, Tryz.ntmps135
  go_wp2_with fail
  refine H.out.mono ?_
  rintro e w1 ⟨rfl, a1, a2⟩
  go_wp2_with fail
  go_ret2
  exact ⟨rfl, a1, k0.grown a2 (by simp)⟩
theorem endr_r {P l r wr} (n : Int) (t : List UInt8) (er : Int) (l' : List UInt8) (w : World) (hP : PipeSt w P l r wr) (h1 : readRes l r wr n = (t, er)) (h2 : readLeft l r n = l') :
    Calls Tryz.prog 134 #[.agg #[.pointer (some ⟨P, 0, none⟩), .bool false], .int .i64 n] w fun e w' => e = .returned (.tuple #[.string ⟨t.toArray⟩, .int .i64 er]) ∧ PipeSt w' P l' r wr ∧ Kept [P] w w' := by
  have k0 := (Kept.refl [P] w).alloc (.cells #[.pointer (some ⟨P, 0, none⟩), .bool false] 65)
  have hP0 := hP.keep (cell_keep_alloc hP.lt (.cells #[.pointer (some ⟨P, 0, none⟩), .bool false] 65))
  have H := Lib.hid (read_st n P l r wr _ hP0)
  rw [h1, h2] at H
  clear hP0
  clear hP h1 h2
  go_enter Tryz.func134, Tryz.ntmps134
  go_wp2_with fail
  refine H.out.mono ?_
  rintro e w1 ⟨rfl, a1, a2⟩
  go_wp2_with fail
  go_ret2
  exact ⟨rfl, a1, k0.grown a2 (by simp)⟩
theorem endr_w (P : Nat) (n : Int) (w : World) :
    Calls Tryz.prog 134 #[.agg #[.pointer (some ⟨P, 0, none⟩), .bool true], .int .i64 n] w fun e w' => e = .returned (.tuple #[.string ⟨#[]⟩, .int .i64 33]) ∧ Kept [] w w' := by
  go_enter Tryz.func134, Tryz.ntmps134
  go_wp2
  go_ret2
  exact ⟨rfl, (Kept.refl [] w).alloc _⟩
set_option maxRecDepth 100000 in
theorem ewrite_any {S F tab O P l r wr k} (fd : Nat) (s : List UInt8) (er : Int) (m : Nat) (l' : List UInt8) (w : World) (hS : SetIs w S F tab) (hf : fd < 16) (ht : tab fd = some ⟨O, 0, none⟩) (hO : OpenIs w O (endV P true) k) (hP : PipeSt w P l r wr) (hs : s.length ≤ maxLen) (h1 : writeRes l r wr s = (m, er)) (h2 : writeLeft l r wr s = l') :
    Calls Tryz.prog 9 #[.pointer (some ⟨S, 0, none⟩), .int .i64 fd, .string ⟨s.toArray⟩] w fun e w' => e = .returned (.tuple #[.int .i64 m, .int .i64 er]) ∧ PipeSt w' P l' r wr ∧ Kept [P] w w' := by
  have hm : ∀ W : World, (method 294 65 (.agg #[.pointer (some ⟨P, 0, none⟩), .bool true]) "Write").run Tryz.prog W = .ok (135, .agg #[.pointer (some ⟨P, 0, none⟩), .bool true]) W := fun _ => by kernel_rfl
  have h8 := hO.thing
  have HA := Lib.hid (at_some fd _ w hS hf ht)
  have HW := Lib.hid (endw_w s er m l' w hP hs h1 h2)
  clear hP h1 h2
  unfold endV at h8
  go_enter Tryz.func9, Tryz.ntmps9
  go_wp2_with fail
  refine HA.out.mono ?_
  rintro e w1 ⟨rfl, rfl⟩
  go_wp2_with fail
  refine HW.out.mono ?_
  rintro e w2 ⟨rfl, a1, a2⟩
  go_wp2_with fail
  go_ret2
  exact ⟨rfl, a1, a2⟩
set_option maxRecDepth 100000 in
theorem eread_any {S F tab O P l r wr k} (fd : Nat) (n : Int) (t : List UInt8) (er : Int) (l' : List UInt8) (w : World) (hS : SetIs w S F tab) (hf : fd < 16) (ht : tab fd = some ⟨O, 0, none⟩) (hO : OpenIs w O (endV P false) k) (hP : PipeSt w P l r wr) (h1 : readRes l r wr n = (t, er)) (h2 : readLeft l r n = l') :
    Calls Tryz.prog 8 #[.pointer (some ⟨S, 0, none⟩), .int .i64 fd, .int .i64 n] w fun e w' => e = .returned (.tuple #[.string ⟨t.toArray⟩, .int .i64 er]) ∧ PipeSt w' P l' r wr ∧ Kept [P] w w' := by
  have hm : ∀ W : World, (method 294 65 (.agg #[.pointer (some ⟨P, 0, none⟩), .bool false]) "Read").run Tryz.prog W = .ok (134, .agg #[.pointer (some ⟨P, 0, none⟩), .bool false]) W := fun _ => by kernel_rfl
  have h8 := hO.thing
  have HA := Lib.hid (at_some fd _ w hS hf ht)
  have HW := Lib.hid (endr_r n t er l' w hP h1 h2)
  clear hP h1 h2
  unfold endV at h8
  go_enter Tryz.func8, Tryz.ntmps8
  go_wp2_with fail
  refine HA.out.mono ?_
  rintro e w1 ⟨rfl, rfl⟩
  go_wp2_with fail
  refine HW.out.mono ?_
  rintro e w2 ⟨rfl, a1, a2⟩
  go_wp2_with fail
  go_ret2
  exact ⟨rfl, a1, a2⟩
set_option maxRecDepth 100000 in
theorem ereadw_any {S F tab O P k} (fd : Nat) (n : Int) (w : World) (hS : SetIs w S F tab) (hf : fd < 16) (ht : tab fd = some ⟨O, 0, none⟩) (hO : OpenIs w O (endV P true) k) :
    Calls Tryz.prog 8 #[.pointer (some ⟨S, 0, none⟩), .int .i64 fd, .int .i64 n] w fun e w' => e = .returned (.tuple #[.string ⟨#[]⟩, .int .i64 33]) ∧ Kept [] w w' := by
  have hm : ∀ W : World, (method 294 65 (.agg #[.pointer (some ⟨P, 0, none⟩), .bool true]) "Read").run Tryz.prog W = .ok (134, .agg #[.pointer (some ⟨P, 0, none⟩), .bool true]) W := fun _ => by kernel_rfl
  have h8 := hO.thing
  have HA := Lib.hid (at_some fd _ w hS hf ht)
  have HW := Lib.hid (endr_w P n w)
  unfold endV at h8
  go_enter Tryz.func8, Tryz.ntmps8
  go_wp2_with fail
  refine HA.out.mono ?_
  rintro e w1 ⟨rfl, rfl⟩
  go_wp2_with fail
  refine HW.out.mono ?_
  rintro e w2 ⟨rfl, a1⟩
  go_wp2_with fail
  go_ret2
  exact ⟨rfl, a1⟩
set_option maxRecDepth 100000 in
theorem awake_any (w : World) : Calls Tryz.prog 19 #[] w fun e w' => e = .returned (.bool true) ∧ Below w.heap.size w w' := by
  go_enter Tryz.func19, Tryz.ntmps19
  go_wp2_with fail
  refine (begun_any w).mono ?_
  rintro e w1 ⟨p, F, S, rfl, hB, hF0, hS0, hSF, hS, hF⟩
  have l1 := hB.size
  go_wp2_with fail
  refine (pipe_any w1 hS (fun _ _ => rfl) hF hSF).mono ?_
  rintro e w2 ⟨P, O1, O2, rfl, g1, g2, g3, hS2, hF2, ho1, ho2, hP, k2⟩
  have l2 := k2.size
  go_wp2_with fail
  refine (ewrite_any 1 [104, 105] 0 2 [104, 105] w2 hS2 (by omega) rfl ho2 hP (by simp [maxLen]) (by rfl) (by rfl)).mono ?_
  rintro e w3 ⟨rfl, hP3, k3⟩
  have l3 := k3.size
  have s1 := hS.lt
  have f1 := hF.lt
  have hS3 := hS2.kept k3 (by simp; omega)
  have hF3 := hF2.kept k3 (by simp; omega)
  have h13 := ho1.kept k3 (by simp; omega)
  have h23 := ho2.kept k3 (by simp; omega)
  have HR := Lib.hid (fork_two w3 hS3 hF3 h13 h23 hSF (by omega) (by omega) (by omega) (by omega) (by omega) (by omega) rfl rfl (fun i h1 h2 => by unfold updT; rw [if_neg (by omega), if_neg (by omega)]))
  have o1 := h13.lt
  have o2 := h23.lt
  clear hS hF hS2 hF2 ho1 ho2 hP
  go_wp2_with fail
  refine HR.out.mono ?_
  rintro e w4 ⟨C, rfl, hC, hS4, hC4, hF4, h14, h24, k4⟩
  have l4 := k4.size
  have hP4 := hP3.keep (k4.block P (by have := hP3.lt; omega) (by simp; omega))
  clear hS3 hF3 h13 h23 hP3 HR
  go_wp2_with fail
  refine (eread_any 0 9 [104, 105] 0 [] w4 hC4 (by omega) rfl h14 hP4 (by rfl) (by rfl)).mono ?_
  rintro e w5 ⟨rfl, hP5, k5⟩
  have l5 := k5.size
  have hS5 := hS4.kept k5 (by simp; omega)
  have hF5 := hF4.kept k5 (by simp; omega)
  have h25 := h24.kept k5 (by simp; omega)
  clear hS4 hC4 hF4 h14 h24 hP4
  go_wp2_with fail
  refine (ereadw_any 1 1 w5 hS5 (by omega) rfl h25).mono ?_
  rintro e w6 ⟨rfl, k6⟩
  have l6 := k6.size
  have hF6 := hF5.kept k6 (by simp)
  clear hS5 hF5 h25 hP5
  go_wp2_with fail
  refine (fopen_any w6 hF6).mono ?_
  rintro e w7 ⟨rfl, rfl⟩
  go_wp2_with fail
  go_ret
  refine ⟨rfl, ?_⟩
  refine Kept.below hB (B := [S, F, P, O1, O2]) ?_ (by simp; omega)
  exact ((((k2.more (by simp)).step k3 (by simp)).step k4 (by simp)).step k5 (by simp)).step k6 (by simp)
end Go.Proofs.YtgfnfomkhhpjaaaGreatDoor
