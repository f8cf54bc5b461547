/- Texts of one proof, packed: PtE -/
import Derived.Test.YtggdedihfhibfaaGreatDoorR39
import Derived.Sort.CutIn
set_option linter.unusedVariables false
set_option linter.unusedSimpArgs false
set_option linter.deprecated false
set_option linter.unnecessarySimpa false
/- paths: the iterator of the names that a part fits. -/
namespace Go.Proofs.YtggdedihfhibfaaGreatDoor
open Go.RowKit IntWalk Go.Shelf
set_option linter.unusedVariables false
set_option linter.unusedSimpArgs false
attribute [local go_sem] Oper.semAt_some

theorem filter_take {f : List UInt8 → Bool} {L : List (List UInt8)} {k : Nat} {x : List UInt8} (h : L[k]? = some x) : (L.take (k + 1)).filter f = if f x = true then (L.take k).filter f ++ [x] else (L.take k).filter f := by
  rw [List.take_add_one, h]
  simp only [Option.toList_some, List.filter_append]
  by_cases hx : f x = true
  · rw [if_pos hx]; simp [hx]
  · rw [if_neg hx]; simp [hx]
theorem special_first {L : List GTok} (h : L ≠ []) : ∃ t r, L = t :: r := by
  cases L with
  | nil => exact absurd rfl h
  | cons t r => exact ⟨t, r, rfl⟩
theorem hidden_eq {L : List GTok} {t0 : GTok} {tr : List GTok} {x : List UInt8} {c : UInt8} (h : L = t0 :: tr) (hx : x[0]? = some c) : hiddenS L x = ((c == 46) && !(t0.k == 1 && t0.c == 46)) := by
  subst h
  unfold hiddenS
  rw [List.head?_eq_getElem?, hx]
  rfl
section
variable {W0 wp : World} {s : Fs} {lay : FId → Nat} {ob bb tb pb : Nat} {dir : Int} {p : PartS} {tv : Value} {b : List UInt8}
theorem FitAt.cells {W : World} (h : FitAt W0 s lay wp ob bb tb pb dir p tv b W) : W.cell? ⟨bb, 0, none⟩ = some (.string ⟨b.toArray⟩) ∧ W.cell? ⟨tb, 0, none⟩ = some (.pointer (some ⟨lay .F, 0, none⟩)) ∧ W.cell? ⟨tb, 1, none⟩ = some (.int .i64 dir) ∧ W.cell? ⟨pb, 1, none⟩ = some tv :=
  ⟨by simp [World.cell?, h.begin_], by simp [World.cell?, h.tree, ptrTo], by simp [World.cell?, h.tree], by simp [World.cell?, h.part]⟩
set_option maxRecDepth 100000 in
set_option maxHeartbeats 8000000 in
theorem fitting_seq (n : Nat) (hE : EnvG W0) (hT : Tr s) (w : World) (hw : FitAt W0 s lay wp ob bb tb pb dir p tv b w) (hsp : p.toks ≠ []) (hL : p.toks.length ≤ 100000) (hk : TOk p.toks) :
    SeqU Fence.wide n Tryz.prog 61 #[.pointer (some ⟨bb, 0, none⟩), .pointer (some ⟨tb, 0, none⟩), .pointer (some ⟨pb, 0, none⟩)] encN (Kb w.heap.size ob) (fun x _ => x.length ≤ 32) (fun xs => xs = s.fitS dir p.toks b) 101 w := by
  intro l J W hW hJ hY h0
  have HA := Lib.hid (hw.next hW)
  have HW := Lib.hid hW
  have hwl := hw.low.size
  have HJ := Lib.hid hJ
  have HJ0 := Lib.hid h0
  have HY := Lib.hid hY
  have HWk := Lib.hid (walk_any hE dir (lookS b) true W HA.out.fsn)
  have HFS := Lib.hid (show s.fitS dir p.toks b = if (s.walkS dir (lookS b) true).2 = 0 then (s.listS (s.walkS dir (lookS b) true).1).filter (fitsS p.toks) else [] from rfl)
  obtain ⟨zn, ze, hz⟩ : ∃ a c, s.walkS dir (lookS b) true = (a, c) := ⟨_, _, rfl⟩
  rw [hz] at HWk HFS
  have HLi := Lib.hid (fun (V : World) (h : FsIs s lay V) => nlist_any h hT zn)
  have HLL := Lib.hid (list_len hT zn)
  obtain ⟨c0, c1, c2, c3⟩ := HA.out.cells
  obtain ⟨a3, n3, rfl, htk⟩ := id hw.tok
  have hl0 : 0 < p.toks.length := List.length_pos_iff.2 hsp
  obtain ⟨tk, rfl, _, _⟩ := htk hl0
  clear htk
  clear hz hw hW hJ h0 hY
  unfold ptrTo at *
  refine callsIn_of_wp Tryz.func61 rfl trivial ?_ rfl
  simp only [Tryz.ntmps61, List.size_toArray, List.length_cons, List.length_nil, Nat.reduceAdd, Nat.reduceSub, Array.replicate_succ, Array.replicate_zero, List.push_toArray, List.append_toArray, List.nil_append, List.cons_append]
  gi_upto_if 15 with (fail)
  gi_cut [5] from 13 (fun v5 wc => v5 = .string ⟨(lookS b).toArray⟩ ∧ wc = W)
  case first =>
    by_cases hb : b = []
    · subst hb
      gi_wp2
      gi_meet
      case rel => exact ⟨rfl, rfl⟩
    · obtain ⟨bc, br, rfl⟩ : ∃ bc br, b = bc :: br := by cases b with | nil => exact absurd rfl hb | cons bc br => exact ⟨bc, br, rfl⟩
      gi_wp2
      gi_meet
      case rel => exact ⟨by rw [lookS, if_neg hb], rfl⟩
  case rest =>
    obtain ⟨rfl, rfl⟩ := hcut
    by_cases hze : ze = 0
    · subst hze
      gi_wp2_with first
        | (refine ⟨trivial, (fun h => by cases h), ?_⟩; gi_at_call 16; (refine (callsIn_wide.2 (HLi.out w1 HA1.out.fsn.is)).mono ?_); rintro e w2 ⟨lv, lz, rfl, hl⟩; have HA2 := Lib.hid (HA1.out.next hl.below); have HL2 := Lib.hid (hl.lst HA1.out.hob.2 HA1.out.lt); have HK2 := Lib.hid (HK1.out.trans (hl.below.mono HK1.out.size)); clear hl; obtain ⟨la, lcap, rfl, _⟩ := id HL2.out; obtain ⟨y0, y1, y2, y3⟩ := HA2.out.cells)
        | (refine ⟨trivial, (fun h => by cases h), ?_⟩; gi_at_call 14; (with_reducible refine (callsIn_wide.2 HWk.out).mono ?_); rintro e w1 ⟨rfl, hst⟩; have HK1 := Lib.hid (Step.below HA.out.fsn.is hst); have HA1 := Lib.hid (HA.out.next HK1.out); clear hst; obtain ⟨x0, x1, x2, x3⟩ := HA1.out.cells)
      have HJ2 := Lib.hid (show J [] w2 from HJ.out [] wc w2 none HJ0.out (grown_none HK2.out) (fun r e => by cases e))
      have hWs := HK2.out.size
      have hL100 := HLL.out.1
      gi_loopw [36] (fun iv wr => ∃ k : Nat, iv = .int .i64 k ∧ k ≤ (s.listS zn).length ∧ RowKit.Hid (J (((s.listS zn).take k).filter (fitsS p.toks)) wr) ∧ RowKit.Hid (Kb w.heap.size ob w2 wr)) (fun iv _ => (s.listS zn).length - (intOf iv).toNat)
      case atStart => exact ⟨0, rfl, Nat.zero_le _, HJ2, Lib.hid (Kb.refl _ _ _)⟩
      case round =>
        obtain ⟨k, rfl, hkl, HJk, HKb⟩ := hrel
        have HAr := Lib.hid (HA2.out.kb HKb.out (by omega))
        have HLr := Lib.hid (HL2.out.kb HKb.out)
        obtain ⟨z0, z1, z2, z3⟩ := HAr.out.cells
        by_cases hlt : k < (s.listS zn).length
        · obtain ⟨x, hx⟩ : ∃ x, (s.listS zn)[k]? = some x := ⟨_, List.getElem?_eq_getElem hlt⟩
          obtain ⟨la', lcap', hle, hls⟩ := HLr.out
          obtain ⟨g, cur, ty, rfl, hg, _, _, hcu⟩ := hls (by omega)
          cases hle
          have hxc : wr.cell? ⟨g, k, none⟩ = some (.string ⟨x.toArray⟩) := by simp [World.cell?, hg, hcu k x hx]
          have hx0 := HLL.out.2 x (List.mem_of_getElem? hx)
          obtain ⟨c, _, hc, hcs⟩ := str_at x 0 hx0.1
          obtain ⟨t0, tr, ht0⟩ := special_first hsp
          obtain ⟨a', c', e', hs'⟩ := HAr.out.tokn
          cases e'
          obtain ⟨b', e'', _, hcells⟩ := hs' hl0
          cases e''
          obtain ⟨rv, k0, k1, _⟩ := hcells 0 t0 (by rw [ht0]; rfl)
          simp only [Nat.zero_mul, Nat.zero_add] at k0 k1
          have HM := Lib.hid (match_any p.toks _ x wr HAr.out.tokn hL hk (by omega))
          have HYk := Lib.hid (fun (V : World) (hb : Below wr.heap.size wr V) => HY.out (((s.listS zn).take k).filter (fitsS p.toks)) x V (HJ.out _ wr V none HJk.out (grown_none hb) (fun r e => by cases e)) hx0.2 (by have := List.length_filter_le (fitsS p.toks) ((s.listS zn).take k); have h2 := List.length_take_le k (s.listS zn); omega))
          have hfe := filter_take (f := fitsS p.toks) hx
          have HHid := Lib.hid (hidden_eq ht0 hcs)
          have HNo := Lib.hid (fun (hh : hiddenS p.toks x = true) => (show ((s.listS zn).take (k + 1)).filter (fitsS p.toks) = ((s.listS zn).take k).filter (fitsS p.toks) by rw [hfe, if_neg (by unfold fitsS; rw [hh]; simp)]))
          have HNm := Lib.hid (fun (hh : matchS p.toks x = false) => (show ((s.listS zn).take (k + 1)).filter (fitsS p.toks) = ((s.listS zn).take k).filter (fitsS p.toks) by rw [hfe, if_neg (by unfold fitsS; rw [hh]; simp)]))
          have HYe := Lib.hid (fun (hh : matchS p.toks x = true) (h2 : hiddenS p.toks x = false) => (show ((s.listS zn).take (k + 1)).filter (fitsS p.toks) = ((s.listS zn).take k).filter (fitsS p.toks) ++ [x] by rw [hfe, if_pos (by unfold fitsS; rw [hh, h2]; rfl)]))
          have hlz : (0 : Int) < (p.toks.length : Int) := by omega
          have hkz : (k : Int) < ((s.listS zn).length : Int) := by omega
          have hxz : 0 < (x.toArray).size := by simpa using hx0.1
          clear hx ht0 hcs hcells hs' hg hcu hls hfe
          by_cases hc46 : c = 46
          · have hcb : ((c.toNat : Int) == 46) = true := by subst hc46; rfl
            have hce : (c == 46) = true := by subst hc46; rfl
            rw [hce] at HHid
            by_cases hk1 : t0.k = 1
            · have hkb : ((t0.k : Int) != 1) = false := by rw [hk1]; rfl
              have hke : (t0.k == 1) = true := by rw [hk1]; rfl
              rw [hke] at HHid
              by_cases hc1 : t0.c = 46
              · have hcc : ((t0.c.toNat : Int) != 46) = false := by rw [hc1]; rfl
                have hcd : (t0.c == 46) = true := by rw [hc1]; rfl
                rw [hcd] at HHid
                have HH := Lib.hid (show hiddenS p.toks x = false from HHid.out)
                clear hc46 hk1 hc1
                cases hm : matchS p.toks x
                · rw [hm] at HM
                  gi_wp2_with (refine ⟨trivial, (fun h => by cases h), ?_⟩; gi_at_call 18; (with_reducible refine (callsIn_wide.2 HM.out).mono ?_); rintro e w4 ⟨rfl, hb4⟩)
                  refine ⟨(fun f hf => by cases hf), ?_⟩
                  gi_wp2
                  go_roundw
                  case rel => exact ⟨k + 1, by go_num, by omega, Lib.hid (by rw [HNm.out hm]; exact HJ.out _ wr w4 none HJk.out (grown_none hb4) (fun r e => by cases e)), Lib.hid (HKb.out.trans (Kb.of_below hb4 HAr.out.hob.2))⟩
                  case measure => simp [intOf]; omega
                · rw [hm] at HM
                  gi_wp2_with (refine ⟨trivial, (fun h => by cases h), ?_⟩; gi_at_call 18; (with_reducible refine (callsIn_wide.2 HM.out).mono ?_); rintro e w4 ⟨rfl, hb4⟩; have HB4 := Lib.hid hb4; clear hb4; obtain ⟨fn, tmps, assign, body, hy, hR⟩ := (show YieldAt Fence.wide (n - 1) Tryz.prog l #[.string ⟨x.toArray⟩] w4 (fun e W' => e = .returned (.bool true) ∧ J (((s.listS zn).take k).filter (fitsS p.toks) ++ [x]) W' ∧ Kb w.heap.size ob w4 W') from HYk.out w4 HB4.out))
                  refine ⟨(fun h => by cases h), hR.mono ?_⟩
                  rintro e W9 ⟨rfl, hJ9, hk9⟩
                  have HJ9 := Lib.hid hJ9
                  have HK9 := Lib.hid (HKb.out.trans ((Kb.of_below HB4.out HAr.out.hob.2).trans hk9))
                  clear hJ9 hk9 hR
                  gi_wp2
                  go_roundw
                  case rel => exact ⟨k + 1, by go_num, by omega, Lib.hid (by rw [HYe.out hm HH.out]; exact HJ9.out), HK9⟩
                  case measure => simp [intOf]; omega
              · have hcc : ((t0.c.toNat : Int) != 46) = true := by rw [bne_iff_ne]; intro h; exact hc1 (UInt8.toNat_inj.1 (by simpa using (by omega : t0.c.toNat = 46)))
                have hcd : (t0.c == 46) = false := by simpa using hc1
                rw [hcd] at HHid
                have HH := Lib.hid (show hiddenS p.toks x = true from HHid.out)
                clear hc46 hk1 hc1
                gi_wp2
                refine ⟨trivial, ?_⟩
                gi_wp2
                refine ⟨(fun f hf => by cases hf), ?_⟩
                gi_wp2
                go_roundw
                case rel => exact ⟨k + 1, by go_num, by omega, Lib.hid (HNo.out HH.out ▸ HJk.out), HKb⟩
                case measure => simp [intOf]; omega
            · have hkb : ((t0.k : Int) != 1) = true := by rw [bne_iff_ne]; omega
              have hke : (t0.k == 1) = false := by simpa using hk1
              rw [hke] at HHid
              have HH := Lib.hid (show hiddenS p.toks x = true from HHid.out)
              clear hc46 hk1
              gi_wp2
              refine ⟨trivial, ?_⟩
              gi_wp2
              refine ⟨(fun f hf => by cases hf), ?_⟩
              gi_wp2
              go_roundw
              case rel => exact ⟨k + 1, by go_num, by omega, Lib.hid (HNo.out HH.out ▸ HJk.out), HKb⟩
              case measure => simp [intOf]; omega
          · have hcb : ((c.toNat : Int) == 46) = false := by rw [beq_eq_false_iff_ne]; intro h; exact hc46 (UInt8.toNat_inj.1 (by simpa using (by omega : c.toNat = 46)))
            have hce : (c == 46) = false := by simpa using hc46
            rw [hce] at HHid
            have HH := Lib.hid (show hiddenS p.toks x = false from HHid.out)
            clear hc46
            cases hm : matchS p.toks x
            · rw [hm] at HM
              gi_wp2_with (refine ⟨trivial, (fun h => by cases h), ?_⟩; gi_at_call 18; (with_reducible refine (callsIn_wide.2 HM.out).mono ?_); rintro e w4 ⟨rfl, hb4⟩)
              refine ⟨(fun f hf => by cases hf), ?_⟩
              gi_wp2
              go_roundw
              case rel => exact ⟨k + 1, by go_num, by omega, Lib.hid (by rw [HNm.out hm]; exact HJ.out _ wr w4 none HJk.out (grown_none hb4) (fun r e => by cases e)), Lib.hid (HKb.out.trans (Kb.of_below hb4 HAr.out.hob.2))⟩
              case measure => simp [intOf]; omega
            · rw [hm] at HM
              gi_wp2_with (refine ⟨trivial, (fun h => by cases h), ?_⟩; gi_at_call 18; (with_reducible refine (callsIn_wide.2 HM.out).mono ?_); rintro e w4 ⟨rfl, hb4⟩; have HB4 := Lib.hid hb4; clear hb4; obtain ⟨fn, tmps, assign, body, hy, hR⟩ := (show YieldAt Fence.wide (n - 1) Tryz.prog l #[.string ⟨x.toArray⟩] w4 (fun e W' => e = .returned (.bool true) ∧ J (((s.listS zn).take k).filter (fitsS p.toks) ++ [x]) W' ∧ Kb w.heap.size ob w4 W') from HYk.out w4 HB4.out))
              refine ⟨(fun h => by cases h), hR.mono ?_⟩
              rintro e W9 ⟨rfl, hJ9, hk9⟩
              have HJ9 := Lib.hid hJ9
              have HK9 := Lib.hid (HKb.out.trans ((Kb.of_below HB4.out HAr.out.hob.2).trans hk9))
              clear hJ9 hk9 hR
              gi_wp2
              go_roundw
              case rel => exact ⟨k + 1, by go_num, by omega, Lib.hid (by rw [HYe.out hm HH.out]; exact HJ9.out), HK9⟩
              case measure => simp [intOf]; omega
        · obtain rfl : k = (s.listS zn).length := by omega
          have hkz : ¬ ((s.listS zn).length : Int) < ((s.listS zn).length : Int) := by omega
          gi_wp2
          (try simp only [Exit.inBlock, Exit.then])
          refine bodyPost_end (results_none rfl _ _ _) rfl ?_
          refine ⟨⟨_, rfl⟩, ?_⟩
          have hJf := HJk.out
          rw [List.take_length] at hJf
          rw [HFS.out, if_pos (by first | trivial | rfl)]
          exact hJf
    · have hzb : (ze != 0) = true := by simpa using hze
      gi_wp2_with (refine ⟨trivial, (fun h => by cases h), ?_⟩; gi_at_call 14; (with_reducible refine (callsIn_wide.2 HWk.out).mono ?_); rintro e w1 ⟨rfl, hst⟩; have HK1 := Lib.hid (Step.below HA.out.fsn.is hst); clear hst)
      (try simp only [Exit.inBlock, Exit.then])
      refine bodyPost_ret (results_none rfl _ _ _) rfl ?_
      refine ⟨⟨_, rfl⟩, [], ?_, HJ.out [] wc w1 none HJ0.out (grown_none HK1.out) (fun r e => by cases e)⟩
      rw [HFS.out, if_neg hze]
end
end Go.Proofs.YtggdedihfhibfaaGreatDoor
