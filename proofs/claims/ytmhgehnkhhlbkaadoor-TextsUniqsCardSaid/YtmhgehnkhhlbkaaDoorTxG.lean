/- Texts: without the lines that are like the one ahead. -/
import Derived.Test.YtmhgehnkhhlbkaaDoorTxJ
import Derived.Test.YtmhgehnkhhlbkaaDoorTxGp
import Derived.Deep.RegionLaw
import Derived.IntWalk
namespace Go.Proofs.YtmhgehnkhhlbkaaDoor
open Go.RowKit

/-- append to strings of the call's own, as one step of a region that draws -/
theorem step_app_s {ops : Array Oper} {o : Oper} {a : Act} {w : World} {K : Act → World → Prop} {Q : Exit → Act → World → Prop} {E : Prop}
    (hg : o.guard = none) (s x : Operand) (hop : o.op = Op.call { callee := Callee.builtin Builtin.append, args := #[s, x], argTypes := #[35, 35] })
    (base : Nat) (v : Value) (L : List (List UInt8)) (hs : a.eval s = v) (hown : OwnS w base v L) (b : List UInt8) (g : Nat) (hx : a.eval x = .slice (some ⟨g, 0, none⟩) 1 1) (hc : w.cell? ⟨g, 0, none⟩ = some (.string ⟨b.toArray⟩))
    (hlen : L.length + 1 ≤ 1000000000000) (hbase : base ≤ w.heap.size)
    (hK : ∀ v' w', OwnS w' base v' (L ++ [b]) → w.grownBy w' v.ownBlock → K (a.put o.dst v') w') :
    if Region.wanted o (yielded ops a.tmps) = true then Oper.wp Tryd.prog o a w K Q else E := by
  have hw : Region.wanted o (yielded ops a.tmps) = true := by simp [Region.wanted, hg]
  rw [if_pos hw]
  obtain ⟨i0, hi, hz0, hz1, hz2⟩ := info_parts info_str
  obtain ⟨v', w', hrun, h1, h2, _⟩ := run_append_own (P := Tryd.prog) (w := w) base 35 o.type 9 i0 (.string ByteArray.empty) 1 16 (by kernel_rfl) hi hz0 hz1 hz2 rfl (by omega) v L.length _ hown ⟨g, 0, none⟩ 1 1 [.string ⟨b.toArray⟩] rfl
    (by intro j u hj; match j, hj with | 0, hj => simp at hj; subst hj; simpa [Addr.add] using hc) (by intro u hu; simp at hu; subst hu; rfl) (by simp only [maxLen]; omega) (by omega) hbase
  unfold Oper.wp
  simp [execOp, hop, resolve, invoke, builtin, hs, hx, hrun, Result.andThen]
  exact hK v' w' (by simpa [OwnS] using h1) h2
theorem dec_run (c : Int) (k : Nat) (hk : k < 10) (hc : c = 48 + k) (w : World) : (convert 33 9 (.slice (some ⟨w.heap.size, 0, none⟩) 1 1)).run Tryd.prog (w.alloc (.cells #[.int .u8 c] 5)) = .ok (.string ⟨[UInt8.ofNat (48 + k)].toArray⟩) (w.alloc (.cells #[.int .u8 c] 5)) := by
  have := (OwnB.lit w w.heap.size (Nat.le_refl _) [UInt8.ofNat (48 + k)] 1 rfl (by simp) #[.int .u8 c] (by simp [hc]; omega)).conv
  exact this
theorem u8_in (x : Int) (h : 0 ≤ x ∧ x ≤ 255) : IntKind.u8.wrap x = x := by
  unfold IntKind.wrap; simp [IntKind.signed, IntKind.bits]; omega
theorem dec_len6 : ∀ (n : Nat), n < 1000000 → (Lib.decDigits n).length ≤ 6 := by
  intro n hn
  rw [Lib.decDigits]; split
  · simp
  · rw [Lib.decDigits]; split
    · simp
    · rw [Lib.decDigits]; split
      · simp
      · rw [Lib.decDigits]; split
        · simp
        · rw [Lib.decDigits]; split
          · simp
          · rw [Lib.decDigits, dif_pos (by omega)]; simp
set_option maxRecDepth 100000 in
theorem decimals_any : ∀ (f : Nat) (n : Nat) (w : World), n < 10 ^ f → n < 1000000 → Calls Tryd.prog 48 #[.int .i64 n] w fun e w' => e = .returned (.string ⟨(Lib.decDigits n).toArray⟩) ∧ Below w.heap.size w w' := by
  intro f
  induction f with
  | zero =>
    intro n w h _
    obtain rfl : n = 0 := by simpa using h
    have hcv := dec_run 48 0 (by omega) rfl w
    have HD := Lib.hid (show Lib.decDigits 0 = [UInt8.ofNat (48 + 0)] by rw [Lib.decDigits, dif_pos (by decide)])
    go_enter Tryd.func48, Tryd.ntmps48
    go_wp2_with fail
    go_ret
    rw [HD.out]
    exact ⟨rfl, below_alloc w _⟩
  | succ f ih =>
    intro n w h hbig
    by_cases h10 : n < 10
    · have hcv := dec_run (48 + n) n h10 rfl w
      have hd := show Lib.decDigits n = [UInt8.ofNat (48 + n)] by rw [Lib.decDigits, dif_pos h10]
      obtain ⟨c8, hc8⟩ : ∃ c8, UInt8.ofNat (48 + n) = c8 := ⟨_, rfl⟩
      rw [hc8] at hcv hd
      have HD := Lib.hid hd
      clear hc8 hd
      go_enter Tryd.func48, Tryd.ntmps48
      go_wp2_with fail
      go_ret
      rw [HD.out]
      exact ⟨rfl, below_alloc w _⟩
    · have hq : (n : Int) / 10 = ((n / 10 : Nat) : Int) := by omega
      have hr : (n : Int) % 10 = ((n % 10 : Nat) : Int) := by omega
      have hr10 : n % 10 < 10 := by omega
      have HI := Lib.hid (fun w1 : World => ih (n / 10) w1 (by rw [Nat.pow_succ] at h; omega) (by omega))
      have hcv := fun w1 : World => dec_run (48 + (n % 10 : Nat)) (n % 10) hr10 rfl w1
      have hd := show Lib.decDigits n = Lib.decDigits (n / 10) ++ [UInt8.ofNat (48 + n % 10)] by rw [Lib.decDigits, dif_neg h10]
      obtain ⟨c8, hc8⟩ : ∃ c8, UInt8.ofNat (48 + n % 10) = c8 := ⟨_, rfl⟩
      rw [hc8] at hd
      have hcv2 : ∀ w1 : World, (convert 33 9 (.slice (some ⟨w1.heap.size, 0, none⟩) 1 1)).run Tryd.prog (w1.alloc (.cells #[.int .u8 (48 + (n % 10 : Nat))] 5)) = .ok (.string ⟨[c8].toArray⟩) (w1.alloc (.cells #[.int .u8 (48 + (n % 10 : Nat))] 5)) := fun w1 => hc8 ▸ hcv w1
      obtain ⟨q, hq2⟩ : ∃ q, n / 10 = q := ⟨_, rfl⟩
      obtain ⟨r, hr2⟩ : ∃ r, n % 10 = r := ⟨_, rfl⟩
      rw [hq2] at hq HI hd
      rw [hr2] at hr hcv2 hr10
      have hcv3 : ∀ (W : World) (g : Nat), W.cell? ⟨g, 0, none⟩ = some (.int .u8 (48 + r)) → (convert 33 9 (.slice (some ⟨g, 0, none⟩) 1 1)).run Tryd.prog W = .ok (.string ⟨[c8].toArray⟩) W := by
        intro W g hW
        refine run_convert_bytes_back W 33 9 5 ⟨g, 0, none⟩ 1 [c8] (by kernel_rfl) (by kernel_rfl) (by kernel_rfl) ?_
        intro j hj
        obtain rfl : j = 0 := by simpa using hj
        have e8 : ((c8.toNat : Nat) : Int) = 48 + r := by rw [← hc8, UInt8.toNat_ofNat']; omega
        simp [Addr.add, hW, e8]
      have HD := Lib.hid hd
      obtain ⟨D, hD⟩ : ∃ D, Lib.decDigits q = D := ⟨_, rfl⟩
      have HDl := Lib.hid (dec_len6 q (by omega))
      rw [hD] at HI HD HDl
      have hDl := HDl.out
      clear hc8 hd hcv hq2 hr2 hD
      go_enter Tryd.func48, Tryd.ntmps48
      go_wp2_with fail
      clear hcv2
      have hw1 : IntKind.i64.wrap (q : Int) = q := IntWalk.i64_in _ (by omega)
      have htm : (n : Int).tmod 10 = (r : Int) := by rw [Int.tmod_eq_emod_of_nonneg (by omega)]; omega
      have hw2 : IntKind.i64.wrap (48 + (r : Int)) = 48 + (r : Int) := IntWalk.i64_in _ (by omega)
      have hw3 : IntKind.u8.wrap (48 + (r : Int)) = 48 + (r : Int) := u8_in _ (by omega)
      go_region_with (go_at_call 48; refine (HI.out _).mono ?_; rintro e w1 ⟨rfl, hB1⟩; have hbc := (bcell hB1).1)
      all_goals
        go_wp2_with fail
        go_ret
        rw [HD.out]
        refine ⟨rfl, ?_⟩
        first
          | exact below_tr (((Below.refl _ _).drew).alloc (Nat.le_refl _) _) hB1
          | exact below_tr (show Below w.heap.size w w1 from ⟨hB1.os, hB1.tape, hB1.output, hB1.size, hB1.block⟩) (below_alloc w1 _)
def uniqL (s : List UInt8) (cnt : Bool) : List UInt8 := joinL ((grp (linesL s)).map (lineU cnt))
theorem lineU_len (cnt : Bool) (p : Nat × List UInt8) (h1 : p.1 < 1000) (h2 : p.2.length ≤ 500) : (lineU cnt p).length ≤ 504 := by
  have := dec_short p.1 h1
  unfold lineU; split
  · simp; omega
  · omega
theorem joinL_bound (n : Nat) : ∀ L : List (List UInt8), (∀ x, x ∈ L → x.length ≤ n) → (joinL L).length ≤ L.length * (n + 1)
  | [], _ => by simp [joinL]
  | x :: r, h => by
    have ih := joinL_bound n r (fun y hy => h y (List.mem_cons_of_mem _ hy))
    have hx := h x (by simp)
    simp only [joinL, List.map_cons, List.flatten_cons, List.length_append, List.length_cons, List.length_nil] at ih ⊢
    rw [Nat.succ_mul]; omega
def sliceN : Value → Nat | .slice _ m _ => m | _ => 0
theorem run_drop {L : List (List UInt8)} {k j : Nat} {x : List UInt8} (h : (L.drop k).take j = List.replicate j x) (hj : 1 ≤ j) (hne : (L.drop (k + j)).head? ≠ some x) : grp (L.drop k) = (j, x) :: grp (L.drop (k + j)) := by
  have e : L.drop k = List.replicate j x ++ L.drop (k + j) := by
    rw [← h, ← List.drop_drop]; exact (List.take_append_drop j _).symm
  obtain ⟨i, rfl⟩ : ∃ i, j = i + 1 := ⟨j - 1, by omega⟩
  rw [e]
  exact grp_run x _ hne i
set_option maxRecDepth 100000 in
set_option maxHeartbeats 3200000 in
theorem uniq_any (s : List UInt8) (cnt : Bool) (hs : s.length ≤ 500) (w : World) (hE : Env w) : Calls Tryd.prog 23 #[.string ⟨s.toArray⟩, .bool cnt] w fun e w' => e = .returned (.string ⟨(uniqL s cnt).toArray⟩) ∧ Below w.heap.size w w' := by
  have HL := Lib.hid (lines_any s (by omega) w hE)
  have HLl := Lib.hid (lines_len s)
  have HL5 := Lib.hid (fun x (h : x ∈ linesL s) => line_len h)
  have HU := Lib.hid (show uniqL s cnt = joinL ((grp (linesL s)).map (lineU cnt)) from rfl)
  obtain ⟨L, hL⟩ : ∃ L, linesL s = L := ⟨_, rfl⟩
  rw [hL] at HL HLl HL5 HU
  have HG5 := Lib.hid (fun p hp => grp_mem L p hp)
  have HGl := Lib.hid (grp_len L)
  obtain ⟨GG, hGG⟩ : ∃ GG, grp L = GG := ⟨_, rfl⟩
  have HGG := Lib.hid hGG
  rw [hGG] at HU HG5 HGl
  clear hL hGG
  go_enter Tryd.func23, Tryd.ntmps23
  go_wp2_with fail
  refine HL.out.mono ?_
  rintro e w1 ⟨b, cap, rfl, hb, hSB, hcap, hB1⟩
  obtain ⟨n, hn⟩ : ∃ n, L.length = n := ⟨_, rfl⟩
  have HN := Lib.hid hn
  rw [hn] at hcap ⊢
  have hn5 : n ≤ 500 := by have := HLl.out; omega
  have HSB := Lib.hid hSB
  have HB1 := Lib.hid hB1
  have hs1 := hB1.size
  clear hn hSB hB1 HL
  go_wp2_with fail
  go_loopw [5, 6] (fun v l W => ∃ (k m c : Nat) (a : Option Addr) (G : List (Nat × List UInt8)), k + m = n ∧ m ≤ c ∧ l = .slice a m c ∧ (0 < m → a = some ⟨b, k, none⟩) ∧ OwnS W w1.heap.size v (G.map (lineU cnt)) ∧ G.length ≤ k ∧ Hid (GG = G ++ grp (L.drop k)) ∧ Below w1.heap.size w1 W) (fun _ l _ => sliceN l)
  case atStart => exact ⟨0, n, cap, _, [], by omega, hcap, rfl, fun _ => rfl, OwnS.nil _ _, by simp, Lib.hid (by rw [List.drop_zero]; exact HGG.out.symm), Below.refl _ _⟩
  case round =>
    obtain ⟨k, m, c, a, G, hkm, hmc, rfl, ha, hO, hGk, HS, hB⟩ := hrel
    have hsz := hB.size
    by_cases hm0 : 0 < m
    · obtain rfl := ha hm0
      obtain ⟨x, hx⟩ : ∃ x, L[k]? = some x := ⟨L[k]'(by rw [HN.out]; omega), List.getElem?_eq_getElem _⟩
      have hcx := keep_cell (HSB.out.cell k x hx) hB
      have hxl := HL5.out x (List.mem_of_getElem? hx)
      have HX := Lib.hid hx
      clear hx ha
      obtain ⟨wo, hwo⟩ : ∃ wo : World, wo = wr := ⟨_, rfl⟩
      subst hwo
      go_wp2_with fail
      go_loopw [7] (fun i W => ∃ j : Nat, 1 ≤ j ∧ j ≤ m ∧ i = .int .i64 j ∧ Hid ((L.drop k).take j = List.replicate j x) ∧ Below wo.heap.size wo W) (fun i _ => m - (intOf i).toNat)
      case atStart => exact ⟨1, by omega, by omega, rfl, Lib.hid (by
          have hd : L.drop k = x :: L.drop (k + 1) := by
            obtain ⟨h1, h2⟩ := List.getElem?_eq_some_iff.1 HX.out
            rw [← h2]; exact List.drop_eq_getElem_cons h1
          rw [hd]; rfl), Below.refl _ _⟩
      case round =>
        obtain ⟨j, hj1, hjm, rfl, HJ, hBj⟩ := hrel
        have hcx2 := keep_cell hcx hBj
        have hj0 : (0 : Int) ≤ j := by omega
        have hm0' : (0 : Int) < m := by omega
        by_cases hend : j < m
        · obtain ⟨y, hy⟩ : ∃ y, L[k + j]? = some y := ⟨L[k + j]'(by rw [HN.out]; omega), List.getElem?_eq_getElem _⟩
          have hcy := keep_cell (keep_cell (HSB.out.cell (k + j) y hy) hB) hBj
          have hjm' : (j : Int) < m := by omega
          by_cases hyx : y = x
          · subst hyx
            have HJ2 := Lib.hid (show (L.drop k).take (j + 1) = List.replicate (j + 1) y by
              rw [List.take_add_one, HJ.out, List.getElem?_drop, hy, List.replicate_succ']; rfl)
            have heq : (y == y) = true := by simp
            clear hy
            go_wp2_with fail
            go_quiet (fail)
            go_wp2_with fail
            go_round
            case rel => exact ⟨j + 1, by omega, by omega, by go_num, HJ2, below_drewN hBj _⟩
            case measure => simp [intOf]; omega
          · have HT := Lib.hid (show GG = (G ++ [(j, x)]) ++ grp (L.drop (k + j)) by
              rw [HS.out, run_drop HJ.out hj1 (by rw [List.head?_drop, hy]; simpa using hyx), List.append_assoc]; rfl)
            have heq : (y == x) = false := by simp [hyx]
            clear hy hyx
            go_wp2_with fail
            go_quiet (fail)
            have hBd := below_drewN hBj nq
            obtain ⟨wd, hwd⟩ : ∃ wd, wd = wr.drewN nq := ⟨_, rfl⟩
            rw [← hwd] at hBd ⊢
            clear hwd
            have hBW := below_tr HB1.out hB
            have hBW2 := below_tr hBW hBd
            have hE2 := hE.below hBW2
            have hO2 := hO.below hBd
            have hBd1 := hB.trans (hBd.mono hsz)
            have hsz2 := hBd1.size
            have hcx3 := keep_cell hcx hBd
            clear hcx2
            have hjc : (j : Int) ≤ c := by omega
            cases cnt with
            | false =>
              have HLN := Lib.hid (show lineU false (j, x) = x from rfl)
              go_wp2_with fail
              have hcellW : ((wd.alloc (.cells #[.string ⟨x.toArray⟩] 9)).drew).cell? ⟨wd.heap.size, 0, none⟩ = some (.string ⟨x.toArray⟩) := by
                show (wd.alloc _).cell? _ = _
                rw [World.cell?_alloc_new]; rfl
              have hlenW : (G.map (lineU false)).length + 1 ≤ 1000000000000 := by simp; omega
              have hbaseW : w1.heap.size ≤ ((wd.alloc (.cells #[.string ⟨x.toArray⟩] 9)).drew).heap.size := by simp; omega
              have hownW := (hO2.alloc (.cells #[.string ⟨x.toArray⟩] 9)).drew
              have hBW5 : Below w1.heap.size w1 ((wd.alloc (.cells #[.string ⟨x.toArray⟩] 9)).drew) := (hBd1.alloc (by omega) _).drew
              have HMAP := Lib.hid (show (G ++ [(j, x)]).map (lineU false) = G.map (lineU false) ++ [x] by rw [List.map_append, ← HLN.out]; rfl)
              by_cases hcj : c = j
              · try (exfalso; omega)
                all_goals
                  have hmj : m = j := by omega
                  subst hcj
                  have hmc0 : m - c = 0 := by omega
                  go_region_law (refine step_app_s rfl _ _ rfl w1.heap.size _ _ rfl hownW x wd.heap.size rfl hcellW hlenW hbaseW ?_; intro v1 w5 hown1 hg1)
                  all_goals
                    have hBZ := below_ownS hBW5 hownW hg1 hbaseW
                    clear hBW5 hownW hcellW
                    go_simp
                    go_wp2_with fail
                    go_round
                    case rel => exact ⟨k + c, 0, 0, _, G ++ [(c, x)], by omega, by omega, rfl, (fun h => by omega), HMAP.out ▸ hown1, by simp; omega, HT, hBZ⟩
                    case measure => simp only [sliceN]; omega
              · have hcj2 : j < c := by omega
                have hcj3 : ¬ j = c := by omega
                have hcj4 : ¬ c - j = 0 := by omega
                have hcj5 : 0 < c - j := by omega
                go_region_law (refine step_app_s rfl _ _ rfl w1.heap.size _ _ rfl hownW x wd.heap.size rfl hcellW hlenW hbaseW ?_; intro v1 w5 hown1 hg1)
                all_goals
                  have hBZ := below_ownS hBW5 hownW hg1 hbaseW
                  clear hBW5 hownW hcellW
                  go_simp
                  go_wp2_with fail
                  go_round
                  case rel => exact ⟨k + j, m - j, c - j, _, G ++ [(j, x)], by omega, by omega, rfl, (fun h => rfl), HMAP.out ▸ hown1, by simp; omega, HT, hBZ⟩
                  case measure => simp only [sliceN]; omega
            | true =>
              have HLN0 := Lib.hid (show lineU true (j, x) = Lib.decDigits j ++ [32] ++ x from rfl)
              have hit : Lib.itoa (j : Int) = Lib.decDigits j := by rw [Lib.itoa, if_neg (by omega)]; rfl
              have hcon := Tryd.strconv_Itoa (j : Int) (by omega) (by omega) wd hE2.pow10
              rw [hit] at hcon
              have hdl := dec_short j (by omega)
              obtain ⟨D, hD⟩ : ∃ D, Lib.decDigits j = D := ⟨_, rfl⟩
              rw [hD] at hcon HLN0 hdl
              have HC := Lib.hid hcon
              clear hit hcon hD
              go_wp2_with fail
              refine HC.out.mono ?_
              rintro e w6 ⟨rfl, kk, os, rfl⟩
              have hB6 := Lib.below_grow wd.heap.size wd (Nat.le_refl _) kk os
              generalize Sort.grow (wd.drewN kk) os = w6 at *
              have hO6 := hO2.below hB6
              have hB16 := hBd1.trans (hB6.mono hsz2)
              have hsz6 := hB16.size
              obtain ⟨line, hline⟩ : ∃ line, D ++ [32] ++ x = line := ⟨_, rfl⟩
              have HLN := Lib.hid (hline ▸ HLN0.out)
              have HLINE := Lib.hid hline
              clear hline HC
              go_wp2_with fail
              rw [show D ++ 32 :: x = line by rw [← HLINE.out]; simp]
              have hcellW : ((w6.alloc (.cells #[.string ⟨line.toArray⟩] 9)).drew).cell? ⟨w6.heap.size, 0, none⟩ = some (.string ⟨line.toArray⟩) := by
                show (w6.alloc _).cell? _ = _
                rw [World.cell?_alloc_new]; rfl
              have hlenW : (G.map (lineU true)).length + 1 ≤ 1000000000000 := by simp; omega
              have hbaseW : w1.heap.size ≤ ((w6.alloc (.cells #[.string ⟨line.toArray⟩] 9)).drew).heap.size := by simp; omega
              have hownW := (hO6.alloc (.cells #[.string ⟨line.toArray⟩] 9)).drew
              have hBW5 : Below w1.heap.size w1 ((w6.alloc (.cells #[.string ⟨line.toArray⟩] 9)).drew) := (hB16.alloc (by omega) _).drew
              have HMAP := Lib.hid (show (G ++ [(j, x)]).map (lineU true) = G.map (lineU true) ++ [line] by rw [List.map_append, ← HLN.out]; rfl)
              by_cases hcj : c = j
              · try (exfalso; omega)
                all_goals
                  have hmj : m = j := by omega
                  subst hcj
                  have hmc0 : m - c = 0 := by omega
                  go_region_law (refine step_app_s rfl _ _ rfl w1.heap.size _ _ rfl hownW line w6.heap.size rfl hcellW hlenW hbaseW ?_; intro v1 w5 hown1 hg1)
                  all_goals
                    have hBZ := below_ownS hBW5 hownW hg1 hbaseW
                    clear hBW5 hownW hcellW
                    go_simp
                    go_wp2_with fail
                    go_round
                    case rel => exact ⟨k + c, 0, 0, _, G ++ [(c, x)], by omega, by omega, rfl, (fun h => by omega), HMAP.out ▸ hown1, by simp; omega, HT, hBZ⟩
                    case measure => simp only [sliceN]; omega
              · have hcj2 : j < c := by omega
                have hcj3 : ¬ j = c := by omega
                have hcj4 : ¬ c - j = 0 := by omega
                have hcj5 : 0 < c - j := by omega
                go_region_law (refine step_app_s rfl _ _ rfl w1.heap.size _ _ rfl hownW line w6.heap.size rfl hcellW hlenW hbaseW ?_; intro v1 w5 hown1 hg1)
                all_goals
                  have hBZ := below_ownS hBW5 hownW hg1 hbaseW
                  clear hBW5 hownW hcellW
                  go_simp
                  go_wp2_with fail
                  go_round
                  case rel => exact ⟨k + j, m - j, c - j, _, G ++ [(j, x)], by omega, by omega, rfl, (fun h => rfl), HMAP.out ▸ hown1, by simp; omega, HT, hBZ⟩
                  case measure => simp only [sliceN]; omega
        · have hjm2 : j = m := by omega
          have HT := Lib.hid (show GG = (G ++ [(j, x)]) ++ grp (L.drop (k + j)) by
              rw [HS.out, run_drop HJ.out hj1 (by rw [List.head?_drop, List.getElem?_eq_none (by rw [HN.out]; omega)]; simp), List.append_assoc]; rfl)
          have hnjm : ¬ (j : Int) < m := by omega
          have hdjm : decide ((j : Int) < m) = false := by rw [decide_eq_false_iff_not]; omega
          clear hjm2
          go_wp2_with fail
          go_quiet (fail)
          have hBd := below_drewN hBj nq
          obtain ⟨wd, hwd⟩ : ∃ wd, wd = wr.drewN nq := ⟨_, rfl⟩
          rw [← hwd] at hBd ⊢
          clear hwd
          have hBW := below_tr HB1.out hB
          have hBW2 := below_tr hBW hBd
          have hE2 := hE.below hBW2
          have hO2 := hO.below hBd
          have hBd1 := hB.trans (hBd.mono hsz)
          have hsz2 := hBd1.size
          have hcx3 := keep_cell hcx hBd
          clear hcx2
          have hjc : (j : Int) ≤ c := by omega
          cases cnt with
          | false =>
            have HLN := Lib.hid (show lineU false (j, x) = x from rfl)
            go_wp2_with fail
            have hcellW : ((wd.alloc (.cells #[.string ⟨x.toArray⟩] 9)).drew).cell? ⟨wd.heap.size, 0, none⟩ = some (.string ⟨x.toArray⟩) := by
              show (wd.alloc _).cell? _ = _
              rw [World.cell?_alloc_new]; rfl
            have hlenW : (G.map (lineU false)).length + 1 ≤ 1000000000000 := by simp; omega
            have hbaseW : w1.heap.size ≤ ((wd.alloc (.cells #[.string ⟨x.toArray⟩] 9)).drew).heap.size := by simp; omega
            have hownW := (hO2.alloc (.cells #[.string ⟨x.toArray⟩] 9)).drew
            have hBW5 : Below w1.heap.size w1 ((wd.alloc (.cells #[.string ⟨x.toArray⟩] 9)).drew) := (hBd1.alloc (by omega) _).drew
            have HMAP := Lib.hid (show (G ++ [(j, x)]).map (lineU false) = G.map (lineU false) ++ [x] by rw [List.map_append, ← HLN.out]; rfl)
            by_cases hcj : c = j
            · try (exfalso; omega)
              all_goals
                have hmj : m = j := by omega
                subst hcj
                have hmc0 : m - c = 0 := by omega
                go_region_law (refine step_app_s rfl _ _ rfl w1.heap.size _ _ rfl hownW x wd.heap.size rfl hcellW hlenW hbaseW ?_; intro v1 w5 hown1 hg1)
                all_goals
                  have hBZ := below_ownS hBW5 hownW hg1 hbaseW
                  clear hBW5 hownW hcellW
                  go_simp
                  go_wp2_with fail
                  go_round
                  case rel => exact ⟨k + c, 0, 0, _, G ++ [(c, x)], by omega, by omega, rfl, (fun h => by omega), HMAP.out ▸ hown1, by simp; omega, HT, hBZ⟩
                  case measure => simp only [sliceN]; omega
            · have hcj2 : j < c := by omega
              have hcj3 : ¬ j = c := by omega
              have hcj4 : ¬ c - j = 0 := by omega
              have hcj5 : 0 < c - j := by omega
              go_region_law (refine step_app_s rfl _ _ rfl w1.heap.size _ _ rfl hownW x wd.heap.size rfl hcellW hlenW hbaseW ?_; intro v1 w5 hown1 hg1)
              all_goals
                have hBZ := below_ownS hBW5 hownW hg1 hbaseW
                clear hBW5 hownW hcellW
                go_simp
                go_wp2_with fail
                go_round
                case rel => exact ⟨k + j, m - j, c - j, _, G ++ [(j, x)], by omega, by omega, rfl, (fun h => rfl), HMAP.out ▸ hown1, by simp; omega, HT, hBZ⟩
                case measure => simp only [sliceN]; omega
          | true =>
            have HLN0 := Lib.hid (show lineU true (j, x) = Lib.decDigits j ++ [32] ++ x from rfl)
            have hit : Lib.itoa (j : Int) = Lib.decDigits j := by rw [Lib.itoa, if_neg (by omega)]; rfl
            have hcon := Tryd.strconv_Itoa (j : Int) (by omega) (by omega) wd hE2.pow10
            rw [hit] at hcon
            have hdl := dec_short j (by omega)
            obtain ⟨D, hD⟩ : ∃ D, Lib.decDigits j = D := ⟨_, rfl⟩
            rw [hD] at hcon HLN0 hdl
            have HC := Lib.hid hcon
            clear hit hcon hD
            go_wp2_with fail
            refine HC.out.mono ?_
            rintro e w6 ⟨rfl, kk, os, rfl⟩
            have hB6 := Lib.below_grow wd.heap.size wd (Nat.le_refl _) kk os
            generalize Sort.grow (wd.drewN kk) os = w6 at *
            have hO6 := hO2.below hB6
            have hB16 := hBd1.trans (hB6.mono hsz2)
            have hsz6 := hB16.size
            obtain ⟨line, hline⟩ : ∃ line, D ++ [32] ++ x = line := ⟨_, rfl⟩
            have HLN := Lib.hid (hline ▸ HLN0.out)
            have HLINE := Lib.hid hline
            clear hline HC
            go_wp2_with fail
            rw [show D ++ 32 :: x = line by rw [← HLINE.out]; simp]
            have hcellW : ((w6.alloc (.cells #[.string ⟨line.toArray⟩] 9)).drew).cell? ⟨w6.heap.size, 0, none⟩ = some (.string ⟨line.toArray⟩) := by
              show (w6.alloc _).cell? _ = _
              rw [World.cell?_alloc_new]; rfl
            have hlenW : (G.map (lineU true)).length + 1 ≤ 1000000000000 := by simp; omega
            have hbaseW : w1.heap.size ≤ ((w6.alloc (.cells #[.string ⟨line.toArray⟩] 9)).drew).heap.size := by simp; omega
            have hownW := (hO6.alloc (.cells #[.string ⟨line.toArray⟩] 9)).drew
            have hBW5 : Below w1.heap.size w1 ((w6.alloc (.cells #[.string ⟨line.toArray⟩] 9)).drew) := (hB16.alloc (by omega) _).drew
            have HMAP := Lib.hid (show (G ++ [(j, x)]).map (lineU true) = G.map (lineU true) ++ [line] by rw [List.map_append, ← HLN.out]; rfl)
            by_cases hcj : c = j
            · try (exfalso; omega)
              all_goals
                have hmj : m = j := by omega
                subst hcj
                have hmc0 : m - c = 0 := by omega
                go_region_law (refine step_app_s rfl _ _ rfl w1.heap.size _ _ rfl hownW line w6.heap.size rfl hcellW hlenW hbaseW ?_; intro v1 w5 hown1 hg1)
                all_goals
                  have hBZ := below_ownS hBW5 hownW hg1 hbaseW
                  clear hBW5 hownW hcellW
                  go_simp
                  go_wp2_with fail
                  go_round
                  case rel => exact ⟨k + c, 0, 0, _, G ++ [(c, x)], by omega, by omega, rfl, (fun h => by omega), HMAP.out ▸ hown1, by simp; omega, HT, hBZ⟩
                  case measure => simp only [sliceN]; omega
            · have hcj2 : j < c := by omega
              have hcj3 : ¬ j = c := by omega
              have hcj4 : ¬ c - j = 0 := by omega
              have hcj5 : 0 < c - j := by omega
              go_region_law (refine step_app_s rfl _ _ rfl w1.heap.size _ _ rfl hownW line w6.heap.size rfl hcellW hlenW hbaseW ?_; intro v1 w5 hown1 hg1)
              all_goals
                have hBZ := below_ownS hBW5 hownW hg1 hbaseW
                clear hBW5 hownW hcellW
                go_simp
                go_wp2_with fail
                go_round
                case rel => exact ⟨k + j, m - j, c - j, _, G ++ [(j, x)], by omega, by omega, rfl, (fun h => rfl), HMAP.out ▸ hown1, by simp; omega, HT, hBZ⟩
                case measure => simp only [sliceN]; omega
    · obtain rfl : m = 0 := by omega
      have hGG2 : GG = G := by rw [HS.out, show L.drop k = [] from List.drop_eq_nil_of_le (by rw [HN.out]; omega)]; simp [grp]
      have HU2 := Lib.hid (show uniqL s cnt = joinL (G.map (lineU cnt)) by rw [HU.out, hGG2])
      have hl504 : ∀ y, y ∈ G.map (lineU cnt) → y.length ≤ 504 := by
        intro y hy
        obtain ⟨p, hp, rfl⟩ := List.mem_map.1 hy
        obtain ⟨h1, h2⟩ := HG5.out p (hGG2 ▸ hp)
        exact lineU_len cnt p (by have := HLl.out; omega) (by have := HL5.out _ h2; omega)
      have hGl : (G.map (lineU cnt)).length ≤ 500 := by simp; omega
      have hjl := joinL_bound 504 _ hl504
      have HJ := Lib.hid (joined_any u5 (G.map (lineU cnt)) wr (hO.strs (fun x hx => by have := hl504 x hx; unfold maxLen; omega)) (by omega) (fun x hx => by have := hl504 x hx; omega) (by omega))
      obtain ⟨a5, c5, hv5⟩ := hO.len
      obtain ⟨n5, hn5'⟩ : ∃ n5, (G.map (lineU cnt)).length = n5 := ⟨_, rfl⟩
      rw [hn5'] at hv5
      rw [hv5] at HJ ⊢
      have hBW := below_tr HB1.out hB
      clear hGG2 hl504 hGl hjl hO hv5 hn5' ha
      go_wp2_with fail
      refine HJ.out.mono ?_
      rintro e w9 ⟨rfl, hB9⟩
      go_wp2_with fail
      go_ret
      rw [HU2.out]
      exact ⟨rfl, below_tr hBW hB9⟩
end Go.Proofs.YtmhgehnkhhlbkaaDoor
