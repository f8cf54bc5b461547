/- Texts: without the lines that are like the one ahead. -/
import Derived.Test.YtmhgehnkhhlbkaaGreatDoorTxK
import Derived.Test.YtmhgehnkhhlbkaaGreatDoorTxGp
import Derived.Deep.RegionLaw
import Derived.IntWalk
namespace Go.Proofs.YtmhgehnkhhlbkaaGreatDoor
open Go.RowKit

/-- append to strings of the call's own, as one step of a region that draws -/
theorem step_app_s {ops : Array Oper} {o : Oper} {a : Act} {w : World} {K : Act → World → Prop} {Q : Exit → Act → World → Prop} {E : Prop}
    (hg : o.guard = none) (s x : Operand) (hop : o.op = Op.call { callee := Callee.builtin Builtin.append, args := #[s, x], argTypes := #[27, 27] })
    (base : Nat) (v : Value) (L : List (List UInt8)) (hs : a.eval s = v) (hown : OwnS w base v L) (b : List UInt8) (g : Nat) (hx : a.eval x = .slice (some ⟨g, 0, none⟩) 1 1) (hc : w.cell? ⟨g, 0, none⟩ = some (.string ⟨b.toArray⟩))
    (hlen : L.length + 1 ≤ 1000000000000) (hbase : base ≤ w.heap.size)
    (hK : ∀ v' w', OwnS w' base v' (L ++ [b]) → w.grownBy w' v.ownBlock → K (a.put o.dst v') w') :
    if Region.wanted o (yielded ops a.tmps) = true then Oper.wp Tryz.prog o a w K Q else E := by
  have hw : Region.wanted o (yielded ops a.tmps) = true := by simp [Region.wanted, hg]
  rw [if_pos hw]
  obtain ⟨i0, hi, hz0, hz1, hz2⟩ := info_parts info_str
  obtain ⟨v', w', hrun, h1, h2, _⟩ := run_append_own (P := Tryz.prog) (w := w) base 27 o.type 9 i0 (.string ByteArray.empty) 1 16 (by kernel_rfl) hi hz0 hz1 hz2 rfl (by omega) v L.length _ hown ⟨g, 0, none⟩ 1 1 [.string ⟨b.toArray⟩] rfl
    (by intro j u hj; match j, hj with | 0, hj => simp at hj; subst hj; simpa [Addr.add] using hc) (by intro u hu; simp at hu; subst hu; rfl) (by simp only [maxLen]; omega) (by omega) hbase
  unfold Oper.wp
  simp [execOp, hop, resolve, invoke, builtin, hs, hx, hrun, Result.andThen]
  exact hK v' w' (by simpa [OwnS] using h1) h2
theorem bdrewG {n : Nat} {w w' : World} (h : Below n w w') (k : Nat) : Below n w (w'.drewN k) := ⟨h.os, h.tape, h.output, h.size, h.block⟩
def uniqL (s : List UInt8) (cnt : Bool) : List UInt8 := joinL ((grp (linesL s)).map (lineU cnt))
def sliceN : Value → Nat | .slice _ m _ => m | _ => 0
theorem run_drop {L : List (List UInt8)} {k j : Nat} {x : List UInt8} (h : (L.drop k).take j = List.replicate j x) (hj : 1 ≤ j) (hne : (L.drop (k + j)).head? ≠ some x) : grp (L.drop k) = (j, x) :: grp (L.drop (k + j)) := by
  have e : L.drop k = List.replicate j x ++ L.drop (k + j) := by
    rw [← h, ← List.drop_drop]; exact (List.take_append_drop j _).symm
  obtain ⟨i, rfl⟩ : ∃ i, j = i + 1 := ⟨j - 1, by omega⟩
  rw [e]
  exact grp_run x _ hne i
set_option maxRecDepth 100000 in
set_option maxHeartbeats 3200000 in
theorem uniqF_any (s : List UInt8) (hs : s.length ≤ 501) (w : World) (hE : Env w) : Calls Tryz.prog 11 #[.string ⟨s.toArray⟩, .bool false] w fun e w' => e = .returned (.string ⟨(uniqL s false).toArray⟩) ∧ Below w.heap.size w w' := by
  have HL := Lib.hid (lines_any s (by omega) w hE)
  have HLl := Lib.hid (lines_len s)
  have HL5 := Lib.hid (fun x (h : x ∈ linesL s) => line_len h)
  have HU := Lib.hid (show uniqL s false = joinL ((grp (linesL s)).map (lineU false)) from rfl)
  obtain ⟨L, hL⟩ : ∃ L, linesL s = L := ⟨_, rfl⟩
  rw [hL] at HL HLl HL5 HU
  have HG5 := Lib.hid (fun p hp => grp_mem L p hp)
  have HGl := Lib.hid (grp_len L)
  obtain ⟨GG, hGG⟩ : ∃ GG, grp L = GG := ⟨_, rfl⟩
  have HGG := Lib.hid hGG
  rw [hGG] at HU HG5 HGl
  clear hL hGG
  go_enter Tryz.func11, Tryz.ntmps11
  go_wp2_with fail
  refine HL.out.mono ?_
  rintro e w1 ⟨b, cap, rfl, hb, hSB, hcap, hB1⟩
  obtain ⟨n, hn⟩ : ∃ n, L.length = n := ⟨_, rfl⟩
  have HN := Lib.hid hn
  rw [hn] at hcap ⊢
  have hn5 : n ≤ 501 := by have := HLl.out; omega
  have HSB := Lib.hid hSB
  have HB1 := Lib.hid hB1
  have hs1 := hB1.size
  clear hn hSB hB1 HL
  go_wp2_with fail
  go_loopw [5, 6] (fun v l W => ∃ (k m c : Nat) (a : Option Addr) (G : List (Nat × List UInt8)), k + m = n ∧ m ≤ c ∧ l = .slice a m c ∧ (0 < m → a = some ⟨b, k, none⟩) ∧ OwnS W w1.heap.size v (G.map (lineU false)) ∧ G.length ≤ k ∧ Hid (GG = G ++ grp (L.drop k)) ∧ Below w1.heap.size w1 W) (fun _ l _ => sliceN l)
  case atStart => exact ⟨0, n, cap, _, [], by omega, hcap, rfl, fun _ => rfl, OwnS.nil _ _, by simp, Lib.hid (by rw [List.drop_zero]; exact HGG.out.symm), Below.refl _ _⟩
  case round =>
    obtain ⟨k, m, c, a, G, hkm, hmc, rfl, ha, hO, hGk, HS, hB⟩ := hrel
    have hsz := hB.size
    by_cases hm0 : 0 < m
    · obtain rfl := ha hm0
      obtain ⟨x, hx⟩ : ∃ x, L[k]? = some x := ⟨L[k]'(by rw [HN.out]; omega), List.getElem?_eq_getElem _⟩
      have hcx := keep_cell (HSB.out.cell k x hx) hB
      have hxl := HL5.out x (List.mem_of_getElem? hx)
      have HX := Lib.hid hx
      clear hx ha
      obtain ⟨wo, hwo⟩ : ∃ wo : World, wo = wr := ⟨_, rfl⟩
      subst hwo
      go_wp2_with fail
      go_loopw [7] (fun i W => ∃ j : Nat, 1 ≤ j ∧ j ≤ m ∧ i = .int .i64 j ∧ Hid ((L.drop k).take j = List.replicate j x) ∧ Below wo.heap.size wo W) (fun i _ => m - (intOf i).toNat)
      case atStart => exact ⟨1, by omega, by omega, rfl, Lib.hid (by
          have hd : L.drop k = x :: L.drop (k + 1) := by
            obtain ⟨h1, h2⟩ := List.getElem?_eq_some_iff.1 HX.out
            rw [← h2]; exact List.drop_eq_getElem_cons h1
          rw [hd]; rfl), Below.refl _ _⟩
      case round =>
        obtain ⟨j, hj1, hjm, rfl, HJ, hBj⟩ := hrel
        have hcx2 := keep_cell hcx hBj
        have hj0 : (0 : Int) ≤ j := by omega
        have hm0' : (0 : Int) < m := by omega
        by_cases hend : j < m
        · obtain ⟨y, hy⟩ : ∃ y, L[k + j]? = some y := ⟨L[k + j]'(by rw [HN.out]; omega), List.getElem?_eq_getElem _⟩
          have hcy := keep_cell (keep_cell (HSB.out.cell (k + j) y hy) hB) hBj
          have hjm' : (j : Int) < m := by omega
          by_cases hyx : y = x
          · subst hyx
            have HJ2 := Lib.hid (show (L.drop k).take (j + 1) = List.replicate (j + 1) y by
              rw [List.take_add_one, HJ.out, List.getElem?_drop, hy, List.replicate_succ']; rfl)
            have heq : (y == y) = true := by simp
            clear hy
            go_wp2_with fail
            go_quiet (fail)
            go_wp2_with fail
            go_round
            case rel => exact ⟨j + 1, by omega, by omega, by go_num, HJ2, bdrewG hBj _⟩
            case measure => simp [intOf]; omega
          · have HT := Lib.hid (show GG = (G ++ [(j, x)]) ++ grp (L.drop (k + j)) by
              rw [HS.out, run_drop HJ.out hj1 (by rw [List.head?_drop, hy]; simpa using hyx), List.append_assoc]; rfl)
            have heq : (y == x) = false := by simp [hyx]
            clear hy hyx
            go_wp2_with fail
            go_quiet (fail)
            have hBd := bdrewG hBj nq
            obtain ⟨wd, hwd⟩ : ∃ wd, wd = wr.drewN nq := ⟨_, rfl⟩
            rw [← hwd] at hBd ⊢
            clear hwd
            have hBW := below_tr HB1.out hB
            have hBW2 := below_tr hBW hBd
            have hE2 := hE.below hBW2
            have hO2 := hO.below hBd
            have hBd1 := hB.trans (hBd.mono hsz)
            have hsz2 := hBd1.size
            have hcx3 := keep_cell hcx hBd
            clear hcx2
            have hjc : (j : Int) ≤ c := by omega
            have HLN := Lib.hid (show lineU false (j, x) = x from rfl)
            go_wp2_with fail
            have hcellW : ((wd.alloc (.cells #[.string ⟨x.toArray⟩] 9)).drew).cell? ⟨wd.heap.size, 0, none⟩ = some (.string ⟨x.toArray⟩) := by
              show (wd.alloc _).cell? _ = _
              rw [World.cell?_alloc_new]; rfl
            have hlenW : (G.map (lineU false)).length + 1 ≤ 1000000000000 := by simp; omega
            have hbaseW : w1.heap.size ≤ ((wd.alloc (.cells #[.string ⟨x.toArray⟩] 9)).drew).heap.size := by simp; omega
            have hownW := (hO2.alloc (.cells #[.string ⟨x.toArray⟩] 9)).drew
            have hBW5 : Below w1.heap.size w1 ((wd.alloc (.cells #[.string ⟨x.toArray⟩] 9)).drew) := (hBd1.alloc (by omega) _).drew
            have HMAP := Lib.hid (show (G ++ [(j, x)]).map (lineU false) = G.map (lineU false) ++ [x] by rw [List.map_append, ← HLN.out]; rfl)
            by_cases hcj : c = j
            · try (exfalso; omega)
              all_goals
                have hmj : m = j := by omega
                subst hcj
                have hmc0 : m - c = 0 := by omega
                go_region_law (refine step_app_s rfl _ _ rfl w1.heap.size _ _ rfl hownW x wd.heap.size rfl hcellW hlenW hbaseW ?_; intro v1 w5 hown1 hg1)
                all_goals
                  have hBZ := below_ownS hBW5 hownW hg1 hbaseW
                  clear hBW5 hownW hcellW
                  go_simp
                  go_wp2_with fail
                  go_round
                  case rel => exact ⟨k + c, 0, 0, _, G ++ [(c, x)], by omega, by omega, rfl, (fun h => by omega), HMAP.out ▸ hown1, by simp; omega, HT, hBZ⟩
                  case measure => simp only [sliceN]; omega
            · have hcj2 : j < c := by omega
              have hcj3 : ¬ j = c := by omega
              have hcj4 : ¬ c - j = 0 := by omega
              have hcj5 : 0 < c - j := by omega
              go_region_law (refine step_app_s rfl _ _ rfl w1.heap.size _ _ rfl hownW x wd.heap.size rfl hcellW hlenW hbaseW ?_; intro v1 w5 hown1 hg1)
              all_goals
                have hBZ := below_ownS hBW5 hownW hg1 hbaseW
                clear hBW5 hownW hcellW
                go_simp
                go_wp2_with fail
                go_round
                case rel => exact ⟨k + j, m - j, c - j, _, G ++ [(j, x)], by omega, by omega, rfl, (fun h => rfl), HMAP.out ▸ hown1, by simp; omega, HT, hBZ⟩
                case measure => simp only [sliceN]; omega
        · have hjm2 : j = m := by omega
          have HT := Lib.hid (show GG = (G ++ [(j, x)]) ++ grp (L.drop (k + j)) by
              rw [HS.out, run_drop HJ.out hj1 (by rw [List.head?_drop, List.getElem?_eq_none (by rw [HN.out]; omega)]; simp), List.append_assoc]; rfl)
          have hnjm : ¬ (j : Int) < m := by omega
          have hdjm : decide ((j : Int) < m) = false := by rw [decide_eq_false_iff_not]; omega
          clear hjm2
          go_wp2_with fail
          go_quiet (fail)
          have hBd := bdrewG hBj nq
          obtain ⟨wd, hwd⟩ : ∃ wd, wd = wr.drewN nq := ⟨_, rfl⟩
          rw [← hwd] at hBd ⊢
          clear hwd
          have hBW := below_tr HB1.out hB
          have hBW2 := below_tr hBW hBd
          have hE2 := hE.below hBW2
          have hO2 := hO.below hBd
          have hBd1 := hB.trans (hBd.mono hsz)
          have hsz2 := hBd1.size
          have hcx3 := keep_cell hcx hBd
          clear hcx2
          have hjc : (j : Int) ≤ c := by omega
          have HLN := Lib.hid (show lineU false (j, x) = x from rfl)
          go_wp2_with fail
          have hcellW : ((wd.alloc (.cells #[.string ⟨x.toArray⟩] 9)).drew).cell? ⟨wd.heap.size, 0, none⟩ = some (.string ⟨x.toArray⟩) := by
            show (wd.alloc _).cell? _ = _
            rw [World.cell?_alloc_new]; rfl
          have hlenW : (G.map (lineU false)).length + 1 ≤ 1000000000000 := by simp; omega
          have hbaseW : w1.heap.size ≤ ((wd.alloc (.cells #[.string ⟨x.toArray⟩] 9)).drew).heap.size := by simp; omega
          have hownW := (hO2.alloc (.cells #[.string ⟨x.toArray⟩] 9)).drew
          have hBW5 : Below w1.heap.size w1 ((wd.alloc (.cells #[.string ⟨x.toArray⟩] 9)).drew) := (hBd1.alloc (by omega) _).drew
          have HMAP := Lib.hid (show (G ++ [(j, x)]).map (lineU false) = G.map (lineU false) ++ [x] by rw [List.map_append, ← HLN.out]; rfl)
          by_cases hcj : c = j
          · try (exfalso; omega)
            all_goals
              have hmj : m = j := by omega
              subst hcj
              have hmc0 : m - c = 0 := by omega
              go_region_law (refine step_app_s rfl _ _ rfl w1.heap.size _ _ rfl hownW x wd.heap.size rfl hcellW hlenW hbaseW ?_; intro v1 w5 hown1 hg1)
              all_goals
                have hBZ := below_ownS hBW5 hownW hg1 hbaseW
                clear hBW5 hownW hcellW
                go_simp
                go_wp2_with fail
                go_round
                case rel => exact ⟨k + c, 0, 0, _, G ++ [(c, x)], by omega, by omega, rfl, (fun h => by omega), HMAP.out ▸ hown1, by simp; omega, HT, hBZ⟩
                case measure => simp only [sliceN]; omega
          · have hcj2 : j < c := by omega
            have hcj3 : ¬ j = c := by omega
            have hcj4 : ¬ c - j = 0 := by omega
            have hcj5 : 0 < c - j := by omega
            go_region_law (refine step_app_s rfl _ _ rfl w1.heap.size _ _ rfl hownW x wd.heap.size rfl hcellW hlenW hbaseW ?_; intro v1 w5 hown1 hg1)
            all_goals
              have hBZ := below_ownS hBW5 hownW hg1 hbaseW
              clear hBW5 hownW hcellW
              go_simp
              go_wp2_with fail
              go_round
              case rel => exact ⟨k + j, m - j, c - j, _, G ++ [(j, x)], by omega, by omega, rfl, (fun h => rfl), HMAP.out ▸ hown1, by simp; omega, HT, hBZ⟩
              case measure => simp only [sliceN]; omega
    · obtain rfl : m = 0 := by omega
      have hGG2 : GG = G := by rw [HS.out, show L.drop k = [] from List.drop_eq_nil_of_le (by rw [HN.out]; omega)]; simp [grp]
      have HU2 := Lib.hid (show uniqL s false = joinL (G.map (lineU false)) by rw [HU.out, hGG2])
      have hl1004 : ∀ y, y ∈ G.map (lineU false) → y.length ≤ 504 := by
        intro y hy
        obtain ⟨p, hp, rfl⟩ := List.mem_map.1 hy
        obtain ⟨h1, h2⟩ := HG5.out p (hGG2 ▸ hp)
        show p.2.length ≤ 504
        have := HL5.out _ h2; omega
      have hGl : (G.map (lineU false)).length ≤ 501 := by simp; omega
      have hjl := joinL_bound 504 _ hl1004
      have HJ := Lib.hid (joined_any u5 (G.map (lineU false)) wr (hO.strs (fun x hx => by have := hl1004 x hx; unfold maxLen; omega)) (by omega) (fun x hx => by have := hl1004 x hx; omega) (by omega))
      obtain ⟨a5, c5, hv5⟩ := hO.len
      obtain ⟨n5, hn5'⟩ : ∃ n5, (G.map (lineU false)).length = n5 := ⟨_, rfl⟩
      rw [hn5'] at hv5
      rw [hv5] at HJ ⊢
      have hBW := below_tr HB1.out hB
      clear hGG2 hl1004 hGl hjl hO hv5 hn5' ha
      go_wp2_with fail
      refine HJ.out.mono ?_
      rintro e w9 ⟨rfl, hB9⟩
      go_wp2_with fail
      go_ret
      rw [HU2.out]
      exact ⟨rfl, below_tr hBW hB9⟩
end Go.Proofs.YtmhgehnkhhlbkaaGreatDoor
