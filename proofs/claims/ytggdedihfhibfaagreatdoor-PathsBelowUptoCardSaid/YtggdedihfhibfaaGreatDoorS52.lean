/- Texts of one proof, packed: BeC -/
import Derived.Test.YtggdedihfhibfaaGreatDoorS47
import Derived.Test.YtggdedihfhibfaaGreatDoorS48
import Derived.Deep.RegionHeld3
set_option linter.unusedVariables false
set_option linter.unusedSimpArgs false
set_option linter.deprecated false
set_option linter.unnecessarySimpa false
/- conchlaw21.PathsBelow: the walk. (printed by wip/tools/gen_below.py) -/
namespace Go.Proofs.YtggdedihfhibfaaGreatDoor
open Go.RowKit IntWalk
set_option linter.unusedVariables false
set_option linter.unusedSimpArgs false

theorem onto_size (y : List UInt8) : (⟨#[100, 47]⟩ : ByteArray) ++ (⟨y.toArray⟩ : ByteArray) = ⟨(onto y).toArray⟩ := by
  apply ByteArray.ext
  simp [onto, D2]
set_option maxRecDepth 100000 in
set_option maxHeartbeats 8000000 in
theorem below_law (W : World) (v : Value) (L : List MadeR) (hL : Mades W v L) (fv : Value) (a : List UInt8 × List Bool) (hF : FieldArg W fv a) (hqb : a.2.length ≤ 1048576) (hE : EnvG W) :
    Calls Tryz.prog 6 #[v, fv] W fun e w' => e = .returned (.bool true) ∧ Below W.heap.size W w' := by
  obtain ⟨x, q⟩ := a
  obtain ⟨qv, rfl, hq, hxl, hql⟩ := hF
  dsimp only at hq hxl hql hqb ⊢
  obtain ⟨qa, qc, rfl, _⟩ := id hq.1
  have hxl' : x.length ≤ 9223372036854775807 := by simpa [maxLen] using hxl
  have hql' : q.length ≤ 9223372036854775807 := by omega
  obtain ⟨w0, hw0⟩ : ∃ w0, W.alloc (.cells #[.string ⟨x.toArray⟩, .slice qa q.length qc] 31) = w0 := ⟨_, rfl⟩
  have hb0 : Below W.heap.size W w0 := by rw [← hw0]; exact (Below.refl _ W).alloc (Nat.le_refl _) _
  have hx0 : w0.heap[W.heap.size]? = some (.cells #[.string ⟨x.toArray⟩, .slice qa q.length qc] 31 (0, 0)) := by rw [← hw0]; exact r_alloc_at _ _
  have HB0 := Lib.hid hb0
  have HX0 := Lib.hid hx0
  have HFw := Lib.hid (few_any w0 v L (hL.below hb0))
  have HSm := Lib.hid (fun (V : World) => small_cnt x qa q.length qc V hxl')
  have HAw := Lib.hid (fun (V : World) (hb : Below W.heap.size W V) => awake_any V (hE.next hb))
  have HL := Lib.hid hL
  have HE := Lib.hid hE
  have HQ := Lib.hid hq
  obtain ⟨la, lcap, rfl, _⟩ := hL.shape
  clear hL hE hq hb0 hx0 hxl hql
  unfold fieldV
  cases hf : fewS L
  · rw [hf] at HFw
    go_enter Tryz.func6, Tryz.ntmps6
    go_wp2_with first
      | (go_at_call 9; (refine (HAw.out w1 HB1.out).mono ?_); rintro e w2 ⟨rfl, hb2⟩)
      | (go_at_call 8; (with_reducible refine HFw.out.mono ?_); rintro e w1 ⟨rfl, hb1⟩; have HB1 := Lib.hid (HB0.out.trans (hb1.mono HB0.out.size)); clear hb1)
    go_ret
    exact ⟨rfl, HB1.out.trans (hb2.mono HB1.out.size)⟩
  · rw [hf] at HFw
    obtain ⟨h15, hsm⟩ := fewS_ok hf
    have HT := Lib.hid (fun (w1 : World) (hb : Below W.heap.size W w1) => tree_any w1 _ L (HL.out.below hb) (HE.out.next hb) h15 hsm)
    have HTN := Lib.hid (treeS_trn gen_begin L)
    have hN : 6 + L.length ≤ 100 := by omega
    unfold ptrTo at HT
    clear hsm hf
    generalize treeS L = s at HT HTN
    by_cases h30 : x.length ≤ 30
    · have h30' : ¬ (x.length : Int) > 30 := by omega
      by_cases h0 : 0 < x.length
      · have h0' : (x.length : Int) > 0 := by omega
        obtain ⟨c, _, hcc, hcs⟩ := str_at x 0 h0
        have HCS := Lib.hid hcs
        clear hcs
        cases h47 : ((c.toNat : Int) == 47)
        · have HHD : RowKit.Hid (x.head? ≠ some 47) := Lib.hid (by
            rw [List.head?_eq_getElem?, HCS.out]
            intro e
            cases e
            cases h47)
          go_enter Tryz.func6, Tryz.ntmps6
          go_wp2_with first
            | (go_at_call 9; (refine (HAw.out w2 HB2.out).mono ?_); rintro e w3 ⟨rfl, hb3⟩)
            | (go_at_call 12; (refine (HSm.out w1).mono ?_); rintro e w2 ⟨⟨sb, rfl, hsb⟩, hb2⟩; have HB2 := Lib.hid (HB1.out.trans (hb2.mono HB1.out.size)); have HX2 := Lib.hid ((hb2.block _ (blk_lt HX1.out)).trans HX1.out); obtain ⟨y0, y1⟩ := cell01 HX2.out; clear hb2; have HSB := Lib.hid hsb; clear hsb; cases sb)
            | (go_at_call 8; (with_reducible refine HFw.out.mono ?_); rintro e w1 ⟨rfl, hb1⟩; have HB1 := Lib.hid (HB0.out.trans (hb1.mono HB0.out.size)); have HX1 := Lib.hid ((hb1.block _ (blk_lt HX0.out)).trans HX0.out); obtain ⟨x0, x1⟩ := cell01 HX1.out; clear hb1)
          · go_ret
            exact ⟨rfl, HB2.out.trans (hb3.mono HB2.out.size)⟩
          · have HXC := Lib.hid (HSB.out (by first | rfl | trivial))
            have HTr := Lib.hid (HTN.out.tr hN)
            obtain ⟨dn, d1, d2, hda⟩ := HTN.out.dat
            have HWD := Lib.hid (walk_d hda true)
            have hbe := expand_below HTN.out hda x q (by omega) HXC.out.2 HHD.out
            have HBE := Lib.hid hbe.1
            have HLN := Lib.hid hbe.2
            clear hbe
            have HE2 := Lib.hid (HE.out.next HB2.out)
            clear hda x0 x1
            go_wp2_with first
              | (go_at_call 11; (refine (expand_ft HE2.out HTr.out dn x q (.slice qa q.length qc) w4 HF4.out ⟨HQ.out.1.below HB4.out, HQ.out.2⟩ (by omega) hql').mono ?_); rintro e w5 ⟨⟨ve, rfl, hre⟩, hb5⟩; have HR5 := Lib.hid hre; have HB5 := Lib.hid (HB4.out.trans (hb5.mono HB4.out.size)); have HF5 := Lib.hid (HF4.out.kept hb5); have HX5 := Lib.hid ((hb5.block _ (blk_lt HX4.out)).trans HX4.out); obtain ⟨y05, y15⟩ := cell01 HX5.out; obtain ⟨ea, ec, rfl⟩ := row_form hre; clear hre hb5 y04 y14)
              | (go_at_call 14; (refine (walk_any HE2.out 1 [100] true w3 HF3.out).mono ?_); rw [HWD.out]; rintro e w4 ⟨rfl, hst⟩; have hb4 := hst.below HF3.out.is; have HF4 := Lib.hid (show FT w2 (lay .F) s w4 from ⟨lay, rfl, HF3.out.kept hb4, hgen⟩); have HB4 := Lib.hid (HB3.out.trans (hb4.mono HB3.out.size)); have HX4 := Lib.hid ((hb4.block _ (blk_lt HX3.out)).trans HX3.out); obtain ⟨y04, y14⟩ := cell01 HX4.out; clear hst hb4 y03 y13)
              | (go_at_call 10; (refine (HT.out w2 HB2.out).mono ?_); rintro e w3 ⟨F, rb, rfl, hf3⟩; obtain ⟨lay, rfl, hfs, hgen⟩ := hf3; have HF3 := Lib.hid hfs; have HB3 := Lib.hid (HB2.out.trans (hfs.below.mono HB2.out.size)); have HX3 := Lib.hid ((hfs.below.block _ (blk_lt HX2.out)).trans HX2.out); obtain ⟨y03, y13⟩ := cell01 HX3.out; clear hfs y0 y1)
            have hsz5 := blk_lt HX5.out
            have h63 : ¬ 9223372036854775807 < 2 + x.length := by omega
            have h64 : ¬ 9223372036854775807 < x.length + 2 := by omega
            go_cut [10] (fun yv wx => ∃ p : Nat, yv = .pointer (some ⟨p, 0, none⟩) ∧ RowKit.Hid (YAt w5 (onto x) q p wx))
            case first =>
              go_region_held3 (fun V => V.cell? ⟨W.heap.size, 0, none⟩ = some (.string ⟨x.toArray⟩) ∧ V.cell? ⟨W.heap.size, 1, none⟩ = some (.slice qa q.length qc)) (first | go_keep | exact cell01 (by repeat (first | exact HX6.out | exact HX5.out | refine al_at ?_ _ | refine dr_at ?_ | refine st_at ?_ _ _ (by simp; omega)))) ((refine step_app_b (by rfl) _ _ (by rfl) (by rfl) (by first | exact new_at rfl | exact new_at (by simp) | exact al_at (new_at rfl) _) (⟨HQ.out.1.below (by repeat (first | exact HB5.out | refine Below.al ?_ _ | refine Below.dr ?_)), HQ.out.2⟩) hqb (by rfl) W.heap.size (by have := blk_lt HX5.out; simp; omega) (by repeat (first | exact HX5.out | refine al_at ?_ _ | refine dr_at ?_)) ?_; intro g cap w6 hx6 hg6 hb6; have HX6 := Lib.hid hx6; have HG6 := Lib.hid hg6; have HQ6 := Lib.hid hb6; clear hx6 hg6 hb6; first | (have hy := HG6.out.block (w5.heap.size + 1) (by simp) (by simp); have HY6 : RowKit.Hid (YNew (w5.heap.size + 1) w6) := Lib.hid (hy.trans (new_at (by simp))); obtain ⟨z0, z1⟩ := HY6.out.frozen; obtain ⟨z2, z3⟩ := HY6.out.cells; clear hy) | (have hy := HG6.out.block w5.heap.size (by simp; omega) (by simp); have HY6 : RowKit.Hid (YNew w5.heap.size w6) := Lib.hid (hy.trans (al_at (new_at rfl) _)); obtain ⟨z0, z1⟩ := HY6.out.frozen; obtain ⟨z2, z3⟩ := HY6.out.cells; clear hy) | skip))
              all_goals (go_wp2_with fail; go_meet)
              · exact ⟨_, rfl, Lib.hid (yat_new ((Below.refl _ w5).alloc (Nat.le_refl _) _).drew HG6.out (Nat.le_refl _) HQ6.out)⟩
              · exact ⟨_, rfl, Lib.hid (yat_set (((Below.refl _ w5).alloc (Nat.le_refl _) _).alloc (by simp) _).drew HG6.out (by omega) HQ6.out HY6.out (by omega))⟩
              · exact ⟨_, rfl, Lib.hid (yat_set (((Below.refl _ w5).alloc (Nat.le_refl _) _).alloc (by simp) _).drew HG6.out (by omega) HQ6.out HY6.out (by omega))⟩
            case rest =>
              rename World => w7
              obtain ⟨p, rfl, HY⟩ := hcut
              obtain ⟨hb57, yg, ycap, k0, k1, hq7⟩ := id HY.out
              have HB57 := Lib.hid hb57
              have HQ7 := Lib.hid hq7
              have HF7 := Lib.hid (HF5.out.kept hb57)
              have HR7 := Lib.hid (show w7.ownsRow w4.heap.size 9 1 (.slice ea (s.expandS dn x q).length ec) (s.expandS dn x q).length ((s.expandS dn x q).map encB) from HR5.out.kept (grown_none hb57) (by cases (.slice ea (s.expandS dn x q).length ec : Value).ownBlock <;> simp))
              have HB7 := Lib.hid (HB5.out.trans (hb57.mono HB5.out.size))
              have hql2 : q.length + 2 ≤ 9223372036854775807 := by omega
              clear hb57 hq7 y05 y15
              go_wp2_with (go_at_call 11; (refine (expand_ft HE2.out HTr.out 1 (onto x) (false :: false :: q) (.slice yg (q.length + 2) ycap) w7 HF7.out HQ7.out (by simp [onto, D2]; omega) (by simp; omega)).mono ?_); rw [HBE.out]; rintro e w8 ⟨⟨ve, rfl, hre⟩, hb8⟩; have HR8 := Lib.hid hre; have HRI := Lib.hid (HR7.out.kept (w' := w8) (grown_none hb8) (by cases (.slice ea (s.expandS dn x q).length ec : Value).ownBlock <;> simp)); have HB8 := Lib.hid (HB7.out.trans (hb8.mono HB7.out.size)); obtain ⟨oa, oc, rfl⟩ := row_form hre; clear hre hb8 k0 k1)
              have hrl : (s.expandS dn x q).length ≤ 9223372036854775807 := by
                rcases Nat.eq_zero_or_pos (s.expandS dn x q).length with h0 | h0
                · omega
                · obtain ⟨a, c, e, hh⟩ := row_in HRI.out
                  cases e
                  obtain ⟨g, rfl, _⟩ := hh h0
                  obtain ⟨_, _, _, h1, h2, _⟩ := row_cur HRI.out
                  simp only [maxLen] at h2
                  omega
              have HR8' := Lib.hid (show w8.ownsRow w7.heap.size 9 1 (.slice oa ((s.expandS dn x q).map onto).length oc) ((s.expandS dn x q).map onto).length (((s.expandS dn x q).map onto).map encB) by rw [List.length_map]; simpa using HR8.out)
              obtain ⟨a1, c1, e1, hs1⟩ := row_in HRI.out
              obtain ⟨a2, c2, e2, hs2⟩ := row_in HR8'.out
              cases e1
              rw [List.length_map] at hs2 e2
              cases e2
              have HS1 := Lib.hid hs1
              have HS2 := Lib.hid hs2
              clear hs1 hs2
              generalize s.expandS dn x q = R at HLN HS1 HS2 hrl
              go_loopw [12] (fun iv wr => ∃ k : Nat, iv = .int .i64 k ∧ k ≤ R.length ∧ RowKit.Hid (Below w8.heap.size w8 wr)) (fun iv _ => R.length - (intOf iv).toNat)
              case atStart => exact ⟨0, rfl, Nat.zero_le _, Lib.hid (Below.refl _ _)⟩
              case round =>
                obtain ⟨k, rfl, hk, HB⟩ := hrel
                rename World => wr
                by_cases hlt : k < R.length
                · obtain ⟨g1, rfl, _, hg1, hc1⟩ := HS1.out (by omega)
                  obtain ⟨g2, rfl, _, hg2, hc2⟩ := HS2.out (by omega)
                  have hlk : R[k]? = some R[k] := List.getElem?_eq_getElem hlt
                  have d1 := (HB.out.cell (p := ⟨g1, k, none⟩) hg1).trans (hc1 k _ hlk)
                  have d2 := (HB.out.cell (p := ⟨g2, k, none⟩) hg2).trans (hc2 k (onto R[k]) (by rw [List.getElem?_map, hlk]; rfl))
                  have hyl := HLN.out R[k] (List.getElem_mem hlt)
                  generalize R[k] = y at d1 d2 hyl
                  unfold onto D2 at d2
                  have hkl : (k : Int) < (R.length : Int) := by omega
                  have h65 : ¬ 9223372036854775807 < 2 + y.length := by omega
                  have h66 : ¬ 9223372036854775807 < y.length + 2 := by omega
                  clear hlk hc1 hc2
                  go_wp2
                  go_quiet (fail)
                  go_wp2_with fail
                  go_roundw
                  case rel => exact ⟨k + 1, by go_num, by omega, Lib.hid ⟨HB.out.os, HB.out.tape, HB.out.output, HB.out.size, HB.out.block⟩⟩
                  case measure => simp [intOf]; omega
                · obtain rfl : k = R.length := by omega
                  have hkl : ¬ (R.length : Int) < (R.length : Int) := by omega
                  have HB9 := Lib.hid (HB8.out.trans (HB.out.mono HB8.out.size))
                  go_wp2_with (go_at_call 9; (refine (HAw.out wr HB9.out).mono ?_); rintro e w9 ⟨rfl, hb9⟩)
                  go_ret
                  exact ⟨rfl, HB9.out.trans (hb9.mono HB9.out.size)⟩
        · go_enter Tryz.func6, Tryz.ntmps6
          go_wp2_with first
            | (go_at_call 9; (refine (HAw.out w2 HB2.out).mono ?_); rintro e w3 ⟨rfl, hb3⟩)
            | (go_at_call 12; (refine (HSm.out w1).mono ?_); rintro e w2 ⟨⟨sb, rfl, hsb⟩, hb2⟩; have HB2 := Lib.hid (HB1.out.trans (hb2.mono HB1.out.size)); have HX2 := Lib.hid ((hb2.block _ (blk_lt HX1.out)).trans HX1.out); obtain ⟨y0, y1⟩ := cell01 HX2.out; clear hb2; have HSB := Lib.hid hsb; clear hsb; cases sb)
            | (go_at_call 8; (with_reducible refine HFw.out.mono ?_); rintro e w1 ⟨rfl, hb1⟩; have HB1 := Lib.hid (HB0.out.trans (hb1.mono HB0.out.size)); have HX1 := Lib.hid ((hb1.block _ (blk_lt HX0.out)).trans HX0.out); obtain ⟨x0, x1⟩ := cell01 HX1.out; clear hb1)
          · go_ret
            exact ⟨rfl, HB2.out.trans (hb3.mono HB2.out.size)⟩
          · go_ret
            exact ⟨rfl, HB2.out.trans (hb3.mono HB2.out.size)⟩
      · have h0' : ¬ (x.length : Int) > 0 := by omega
        have HHD : RowKit.Hid (x.head? ≠ some 47) := Lib.hid (by
          have : x = [] := List.eq_nil_of_length_eq_zero (by omega)
          rw [this]; decide)
        go_enter Tryz.func6, Tryz.ntmps6
        go_wp2_with first
          | (go_at_call 9; (refine (HAw.out w2 HB2.out).mono ?_); rintro e w3 ⟨rfl, hb3⟩)
          | (go_at_call 12; (refine (HSm.out w1).mono ?_); rintro e w2 ⟨⟨sb, rfl, hsb⟩, hb2⟩; have HB2 := Lib.hid (HB1.out.trans (hb2.mono HB1.out.size)); have HX2 := Lib.hid ((hb2.block _ (blk_lt HX1.out)).trans HX1.out); obtain ⟨y0, y1⟩ := cell01 HX2.out; clear hb2; have HSB := Lib.hid hsb; clear hsb; cases sb)
          | (go_at_call 8; (with_reducible refine HFw.out.mono ?_); rintro e w1 ⟨rfl, hb1⟩; have HB1 := Lib.hid (HB0.out.trans (hb1.mono HB0.out.size)); have HX1 := Lib.hid ((hb1.block _ (blk_lt HX0.out)).trans HX0.out); obtain ⟨x0, x1⟩ := cell01 HX1.out; clear hb1)
        · go_ret
          exact ⟨rfl, HB2.out.trans (hb3.mono HB2.out.size)⟩
        · have HXC := Lib.hid (HSB.out (by first | rfl | trivial))
          have HTr := Lib.hid (HTN.out.tr hN)
          obtain ⟨dn, d1, d2, hda⟩ := HTN.out.dat
          have HWD := Lib.hid (walk_d hda true)
          have hbe := expand_below HTN.out hda x q (by omega) HXC.out.2 HHD.out
          have HBE := Lib.hid hbe.1
          have HLN := Lib.hid hbe.2
          clear hbe
          have HE2 := Lib.hid (HE.out.next HB2.out)
          clear hda x0 x1
          go_wp2_with first
            | (go_at_call 11; (refine (expand_ft HE2.out HTr.out dn x q (.slice qa q.length qc) w4 HF4.out ⟨HQ.out.1.below HB4.out, HQ.out.2⟩ (by omega) hql').mono ?_); rintro e w5 ⟨⟨ve, rfl, hre⟩, hb5⟩; have HR5 := Lib.hid hre; have HB5 := Lib.hid (HB4.out.trans (hb5.mono HB4.out.size)); have HF5 := Lib.hid (HF4.out.kept hb5); have HX5 := Lib.hid ((hb5.block _ (blk_lt HX4.out)).trans HX4.out); obtain ⟨y05, y15⟩ := cell01 HX5.out; obtain ⟨ea, ec, rfl⟩ := row_form hre; clear hre hb5 y04 y14)
            | (go_at_call 14; (refine (walk_any HE2.out 1 [100] true w3 HF3.out).mono ?_); rw [HWD.out]; rintro e w4 ⟨rfl, hst⟩; have hb4 := hst.below HF3.out.is; have HF4 := Lib.hid (show FT w2 (lay .F) s w4 from ⟨lay, rfl, HF3.out.kept hb4, hgen⟩); have HB4 := Lib.hid (HB3.out.trans (hb4.mono HB3.out.size)); have HX4 := Lib.hid ((hb4.block _ (blk_lt HX3.out)).trans HX3.out); obtain ⟨y04, y14⟩ := cell01 HX4.out; clear hst hb4 y03 y13)
            | (go_at_call 10; (refine (HT.out w2 HB2.out).mono ?_); rintro e w3 ⟨F, rb, rfl, hf3⟩; obtain ⟨lay, rfl, hfs, hgen⟩ := hf3; have HF3 := Lib.hid hfs; have HB3 := Lib.hid (HB2.out.trans (hfs.below.mono HB2.out.size)); have HX3 := Lib.hid ((hfs.below.block _ (blk_lt HX2.out)).trans HX2.out); obtain ⟨y03, y13⟩ := cell01 HX3.out; clear hfs y0 y1)
          have hsz5 := blk_lt HX5.out
          have h63 : ¬ 9223372036854775807 < 2 + x.length := by omega
          have h64 : ¬ 9223372036854775807 < x.length + 2 := by omega
          go_cut [10] (fun yv wx => ∃ p : Nat, yv = .pointer (some ⟨p, 0, none⟩) ∧ RowKit.Hid (YAt w5 (onto x) q p wx))
          case first =>
            go_region_held3 (fun V => V.cell? ⟨W.heap.size, 0, none⟩ = some (.string ⟨x.toArray⟩) ∧ V.cell? ⟨W.heap.size, 1, none⟩ = some (.slice qa q.length qc)) (first | go_keep | exact cell01 (by repeat (first | exact HX6.out | exact HX5.out | refine al_at ?_ _ | refine dr_at ?_ | refine st_at ?_ _ _ (by simp; omega)))) ((refine step_app_b (by rfl) _ _ (by rfl) (by rfl) (by first | exact new_at rfl | exact new_at (by simp) | exact al_at (new_at rfl) _) (⟨HQ.out.1.below (by repeat (first | exact HB5.out | refine Below.al ?_ _ | refine Below.dr ?_)), HQ.out.2⟩) hqb (by rfl) W.heap.size (by have := blk_lt HX5.out; simp; omega) (by repeat (first | exact HX5.out | refine al_at ?_ _ | refine dr_at ?_)) ?_; intro g cap w6 hx6 hg6 hb6; have HX6 := Lib.hid hx6; have HG6 := Lib.hid hg6; have HQ6 := Lib.hid hb6; clear hx6 hg6 hb6; first | (have hy := HG6.out.block (w5.heap.size + 1) (by simp) (by simp); have HY6 : RowKit.Hid (YNew (w5.heap.size + 1) w6) := Lib.hid (hy.trans (new_at (by simp))); obtain ⟨z0, z1⟩ := HY6.out.frozen; obtain ⟨z2, z3⟩ := HY6.out.cells; clear hy) | (have hy := HG6.out.block w5.heap.size (by simp; omega) (by simp); have HY6 : RowKit.Hid (YNew w5.heap.size w6) := Lib.hid (hy.trans (al_at (new_at rfl) _)); obtain ⟨z0, z1⟩ := HY6.out.frozen; obtain ⟨z2, z3⟩ := HY6.out.cells; clear hy) | skip))
            all_goals (go_wp2_with fail; go_meet)
            · exact ⟨_, rfl, Lib.hid (yat_new ((Below.refl _ w5).alloc (Nat.le_refl _) _).drew HG6.out (Nat.le_refl _) HQ6.out)⟩
            · exact ⟨_, rfl, Lib.hid (yat_set (((Below.refl _ w5).alloc (Nat.le_refl _) _).alloc (by simp) _).drew HG6.out (by omega) HQ6.out HY6.out (by omega))⟩
            · exact ⟨_, rfl, Lib.hid (yat_set (((Below.refl _ w5).alloc (Nat.le_refl _) _).alloc (by simp) _).drew HG6.out (by omega) HQ6.out HY6.out (by omega))⟩
          case rest =>
            rename World => w7
            obtain ⟨p, rfl, HY⟩ := hcut
            obtain ⟨hb57, yg, ycap, k0, k1, hq7⟩ := id HY.out
            have HB57 := Lib.hid hb57
            have HQ7 := Lib.hid hq7
            have HF7 := Lib.hid (HF5.out.kept hb57)
            have HR7 := Lib.hid (show w7.ownsRow w4.heap.size 9 1 (.slice ea (s.expandS dn x q).length ec) (s.expandS dn x q).length ((s.expandS dn x q).map encB) from HR5.out.kept (grown_none hb57) (by cases (.slice ea (s.expandS dn x q).length ec : Value).ownBlock <;> simp))
            have HB7 := Lib.hid (HB5.out.trans (hb57.mono HB5.out.size))
            have hql2 : q.length + 2 ≤ 9223372036854775807 := by omega
            clear hb57 hq7 y05 y15
            go_wp2_with (go_at_call 11; (refine (expand_ft HE2.out HTr.out 1 (onto x) (false :: false :: q) (.slice yg (q.length + 2) ycap) w7 HF7.out HQ7.out (by simp [onto, D2]; omega) (by simp; omega)).mono ?_); rw [HBE.out]; rintro e w8 ⟨⟨ve, rfl, hre⟩, hb8⟩; have HR8 := Lib.hid hre; have HRI := Lib.hid (HR7.out.kept (w' := w8) (grown_none hb8) (by cases (.slice ea (s.expandS dn x q).length ec : Value).ownBlock <;> simp)); have HB8 := Lib.hid (HB7.out.trans (hb8.mono HB7.out.size)); obtain ⟨oa, oc, rfl⟩ := row_form hre; clear hre hb8 k0 k1)
            have hrl : (s.expandS dn x q).length ≤ 9223372036854775807 := by
              rcases Nat.eq_zero_or_pos (s.expandS dn x q).length with h0 | h0
              · omega
              · obtain ⟨a, c, e, hh⟩ := row_in HRI.out
                cases e
                obtain ⟨g, rfl, _⟩ := hh h0
                obtain ⟨_, _, _, h1, h2, _⟩ := row_cur HRI.out
                simp only [maxLen] at h2
                omega
            have HR8' := Lib.hid (show w8.ownsRow w7.heap.size 9 1 (.slice oa ((s.expandS dn x q).map onto).length oc) ((s.expandS dn x q).map onto).length (((s.expandS dn x q).map onto).map encB) by rw [List.length_map]; simpa using HR8.out)
            obtain ⟨a1, c1, e1, hs1⟩ := row_in HRI.out
            obtain ⟨a2, c2, e2, hs2⟩ := row_in HR8'.out
            cases e1
            rw [List.length_map] at hs2 e2
            cases e2
            have HS1 := Lib.hid hs1
            have HS2 := Lib.hid hs2
            clear hs1 hs2
            generalize s.expandS dn x q = R at HLN HS1 HS2 hrl
            go_loopw [12] (fun iv wr => ∃ k : Nat, iv = .int .i64 k ∧ k ≤ R.length ∧ RowKit.Hid (Below w8.heap.size w8 wr)) (fun iv _ => R.length - (intOf iv).toNat)
            case atStart => exact ⟨0, rfl, Nat.zero_le _, Lib.hid (Below.refl _ _)⟩
            case round =>
              obtain ⟨k, rfl, hk, HB⟩ := hrel
              rename World => wr
              by_cases hlt : k < R.length
              · obtain ⟨g1, rfl, _, hg1, hc1⟩ := HS1.out (by omega)
                obtain ⟨g2, rfl, _, hg2, hc2⟩ := HS2.out (by omega)
                have hlk : R[k]? = some R[k] := List.getElem?_eq_getElem hlt
                have d1 := (HB.out.cell (p := ⟨g1, k, none⟩) hg1).trans (hc1 k _ hlk)
                have d2 := (HB.out.cell (p := ⟨g2, k, none⟩) hg2).trans (hc2 k (onto R[k]) (by rw [List.getElem?_map, hlk]; rfl))
                have hyl := HLN.out R[k] (List.getElem_mem hlt)
                generalize R[k] = y at d1 d2 hyl
                unfold onto D2 at d2
                have hkl : (k : Int) < (R.length : Int) := by omega
                have h65 : ¬ 9223372036854775807 < 2 + y.length := by omega
                have h66 : ¬ 9223372036854775807 < y.length + 2 := by omega
                clear hlk hc1 hc2
                go_wp2
                go_quiet (fail)
                go_wp2_with fail
                go_roundw
                case rel => exact ⟨k + 1, by go_num, by omega, Lib.hid ⟨HB.out.os, HB.out.tape, HB.out.output, HB.out.size, HB.out.block⟩⟩
                case measure => simp [intOf]; omega
              · obtain rfl : k = R.length := by omega
                have hkl : ¬ (R.length : Int) < (R.length : Int) := by omega
                have HB9 := Lib.hid (HB8.out.trans (HB.out.mono HB8.out.size))
                go_wp2_with (go_at_call 9; (refine (HAw.out wr HB9.out).mono ?_); rintro e w9 ⟨rfl, hb9⟩)
                go_ret
                exact ⟨rfl, HB9.out.trans (hb9.mono HB9.out.size)⟩
    · have h30' : (x.length : Int) > 30 := by omega
      go_enter Tryz.func6, Tryz.ntmps6
      go_wp2_with first
        | (go_at_call 9; (refine (HAw.out w1 HB1.out).mono ?_); rintro e w2 ⟨rfl, hb2⟩)
        | (go_at_call 8; (with_reducible refine HFw.out.mono ?_); rintro e w1 ⟨rfl, hb1⟩; have HB1 := Lib.hid (HB0.out.trans (hb1.mono HB0.out.size)); have HX1 := Lib.hid ((hb1.block _ (blk_lt HX0.out)).trans HX0.out); obtain ⟨x0, x1⟩ := cell01 HX1.out; clear hb1)
      go_ret
      exact ⟨rfl, HB1.out.trans (hb2.mono HB1.out.size)⟩
end Go.Proofs.YtggdedihfhibfaaGreatDoor
