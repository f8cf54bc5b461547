/- Texts of one proof, packed: NaB, NaC -/
import Derived.Test.YtggdedihfhibfaaGreatDoorR45
import Derived.Test.YtggdedihfhibfaaGreatDoorR47
set_option linter.unusedVariables false
set_option linter.unusedSimpArgs false
set_option linter.deprecated false
set_option linter.unnecessarySimpa false
/- conchlaw21.small, conchref08.Texts; a field as a law's argument. -/
namespace Go.Proofs.YtggdedihfhibfaaGreatDoor
open Go.RowKit IntWalk
set_option linter.unusedVariables false
set_option linter.unusedSimpArgs false

def SmallP (x : List UInt8) (e : Ending) : Prop := ∃ b : Bool, e = .returned (.bool b) ∧ (b = true → x.length ≤ 60)
set_option maxRecDepth 100000 in
set_option maxHeartbeats 2000000 in
theorem small_any (x : List UInt8) (a0 : Option Addr) (n0 c0 : Nat) (W : World) (hx : x.length ≤ 9223372036854775807) : Calls Tryz.prog 12 #[.agg #[.string ⟨x.toArray⟩, .slice a0 n0 c0]] W fun e w' => SmallP x e ∧ Below W.heap.size W w' := by
  have hB := (Below.refl W.heap.size W).alloc (Nat.le_refl _) (.cells #[.string ⟨x.toArray⟩, .slice a0 n0 c0] 31)
  have HB := Lib.hid hB
  have hc : (W.alloc (.cells #[.string ⟨x.toArray⟩, .slice a0 n0 c0] 31)).cell? ⟨W.heap.size, 0, none⟩ = some (.string ⟨x.toArray⟩) := (cell01 (r_alloc_at _ _)).1
  obtain ⟨w1, hw1⟩ : ∃ w1, W.alloc (.cells #[.string ⟨x.toArray⟩, .slice a0 n0 c0] 31) = w1 := ⟨_, rfl⟩
  rw [hw1] at hc HB
  clear hB
  go_enter Tryz.func12, Tryz.ntmps12
  go_wp2
  clear hw1
  go_loopw [3, 4] (fun nv iv wr => ∃ n i : Nat, nv = .int .i64 n ∧ iv = .int .i64 i ∧ n ≤ i ∧ i ≤ x.length ∧ i ≤ 61 ∧ wr = w1) (fun _ iv _ => 61 - (intOf iv).toNat)
  case atStart => exact ⟨0, 0, rfl, rfl, Nat.le_refl _, Nat.zero_le _, by omega, rfl⟩
  case round =>
    obtain ⟨n, i, rfl, rfl, hn, hi, hi61, rfl⟩ := hrel
    by_cases hlt : i < x.length
    · have hl1 : (i : Int) < (x.length : Int) := by omega
      by_cases h60 : i ≤ 60
      · have h6 : (i : Int) ≤ 60 := by omega
        obtain ⟨c, _, hcc, hcs⟩ := str_at x i hlt
        cases h47 : ((c.toNat : Int) == 47)
        · go_wp2
          go_roundw
          case rel => exact ⟨n, i + 1, rfl, by go_num, by omega, by omega, by omega, by first | rfl | trivial⟩
          case measure => simp [intOf]; omega
        · go_wp2
          go_roundw
          case rel => exact ⟨n + 1, i + 1, by go_num, by go_num, by omega, by omega, by omega, by first | rfl | trivial⟩
          case measure => simp [intOf]; omega
      · have h6 : ¬ (i : Int) ≤ 60 := by omega
        have hx6 : ¬ (x.length : Int) ≤ 60 := by omega
        go_wp2
        go_ret
        exact ⟨⟨_, rfl, fun h => by cases h⟩, HB.out⟩
    · have hl1 : ¬ (i : Int) < (x.length : Int) := by omega
      by_cases hx6 : x.length ≤ 60
      · have hx6' : (x.length : Int) ≤ 60 := by omega
        go_wp2
        go_ret
        exact ⟨⟨_, rfl, fun _ => hx6⟩, HB.out⟩
      · have hx6' : ¬ (x.length : Int) ≤ 60 := by omega
        go_wp2
        go_ret
        exact ⟨⟨_, rfl, fun h => by cases h⟩, HB.out⟩
theorem row_in {W : World} {base : Nat} {v : Value} {L : List (List UInt8)} (h : W.ownsRow base 9 1 v L.length (L.map encB)) : ∃ a c, v = .slice a L.length c ∧ (0 < L.length → ∃ g, a = some ⟨g, 0, none⟩ ∧ base ≤ g ∧ g < W.heap.size ∧ ∀ (t : Nat) (y : List UInt8), L[t]? = some y → W.cell? ⟨g, t, none⟩ = some (.string ⟨y.toArray⟩)) := by
  rcases h.2 with ⟨rfl, hn⟩ | ⟨g, cap, cur, rfl, hbg, hg, _⟩
  · exact ⟨none, 0, by rw [hn], fun q => by omega⟩
  · obtain ⟨cu, hR, hb, _, _, hc⟩ := row_cur h
    exact ⟨_, cap, rfl, fun _ => ⟨g, rfl, hb, blk_lt hR.at_, fun t y ht => hR.cell (hc t y ht)⟩⟩
set_option maxRecDepth 100000 in
set_option maxHeartbeats 2000000 in
theorem texts_same (W : World) (b1 b2 : Nat) (v1 v2 : Value) (L : List (List UInt8)) (h1 : W.ownsRow b1 9 1 v1 L.length (L.map encB)) (h2 : W.ownsRow b2 9 1 v2 L.length (L.map encB)) (hl : L.length ≤ 100000) :
    Calls Tryz.prog 19 #[v1, v2] W fun e w' => e = .returned (.bool true) ∧ Below W.heap.size W w' := by
  obtain ⟨a1, c1, rfl, hs1⟩ := row_in h1
  obtain ⟨a2, c2, rfl, hs2⟩ := row_in h2
  have HS1 := Lib.hid hs1
  have HS2 := Lib.hid hs2
  clear h1 h2 hs1 hs2
  go_enter Tryz.func19, Tryz.ntmps19
  go_wp2
  go_loopw [5] (fun iv wr => ∃ k : Nat, iv = .int .i64 k ∧ k ≤ L.length ∧ Below W.heap.size W wr) (fun iv _ => L.length - (intOf iv).toNat)
  case atStart => exact ⟨0, rfl, Nat.zero_le _, Below.refl _ _⟩
  case round =>
    obtain ⟨k, rfl, hk, hb⟩ := hrel
    by_cases hlt : k < L.length
    · obtain ⟨g1, rfl, _, hg1, hc1⟩ := HS1.out (by omega)
      obtain ⟨g2, rfl, _, hg2, hc2⟩ := HS2.out (by omega)
      have hlk : L[k]? = some L[k] := List.getElem?_eq_getElem hlt
      have d1 := (hb.cell (p := ⟨g1, k, none⟩) hg1).trans (hc1 k _ hlk)
      have d2 := (hb.cell (p := ⟨g2, k, none⟩) hg2).trans (hc2 k _ hlk)
      generalize L[k] = y at d1 d2
      have hkl : (k : Int) < (L.length : Int) := by omega
      clear hlk hc1 hc2
      go_wp2
      go_quiet (fail)
      go_wp2_with fail
      go_roundw
      case rel => exact ⟨k + 1, by go_num, by omega, ⟨hb.os, hb.tape, hb.output, hb.size, hb.block⟩⟩
      case measure => simp [intOf]; omega
    · obtain rfl : k = L.length := by omega
      have hkl : ¬ (L.length : Int) < (L.length : Int) := by omega
      go_wp2
      go_ret
      exact ⟨rfl, hb⟩
/-- a field as an argument -/
def FieldArg (W : World) (v : Value) (a : List UInt8 × List Bool) : Prop := ∃ qv, v = fieldV a.1 qv ∧ BoolsC W qv a.2 ∧ a.1.length ≤ maxLen ∧ a.2.length ≤ maxLen
end Go.Proofs.YtggdedihfhibfaaGreatDoor
/- conchlaw21.PathsNames: the walk. -/
namespace Go.Proofs.YtggdedihfhibfaaGreatDoor
open Go.RowKit IntWalk
set_option linter.unusedVariables false
set_option linter.unusedSimpArgs false

theorem take_pick {f : List UInt8 → Bool} {L : List (List UInt8)} {k : Nat} {x : List UInt8} (h : L[k]? = some x) (b : Bool) (hb : f x = b) : (L.take (k + 1)).filter f = if b then (L.take k).filter f ++ [x] else (L.take k).filter f := by
  rw [take_filter h, hb]
theorem picks_val {L : List GTok} {t0 : GTok} {tr : List GTok} {n : List UInt8} {c : UInt8} (h : L = t0 :: tr) (hx : n[0]? = some c) : picksS L n = (matchS L n && (c != 46 || t0.k == 1)) := by
  subst h
  unfold picksS
  rw [List.head?_eq_getElem?, hx]
  have : (some c != some (46 : UInt8)) = (c != 46) := by
    by_cases e : c = 46
    · subst e; rfl
    · simp [e, bne]
  rw [this]
theorem endsX_len (x : List UInt8) (l : List (List UInt8)) : (wantS.endsX x l).length ≤ l.length + 1 := by
  unfold wantS.endsX
  split
  · simp
  · omega
/-- what lies between two names of the law's -/
structure PickI (w5 : World) (L1 : List (List UInt8)) (t : List GTok) (i : Nat) (wv : Value) (W : World) : Prop where
  below : Below w5.heap.size w5 W
  own : W.ownsRow w5.heap.size 9 1 wv ((L1.take i).filter (picksS t)).length (((L1.take i).filter (picksS t)).map encB)
set_option maxRecDepth 100000 in
set_option maxHeartbeats 8000000 in
theorem names_law (W : World) (v : Value) (L : List MadeR) (hL : Mades W v L) (fv : Value) (a : List UInt8 × List Bool) (hF : FieldArg W fv a) (hE : EnvG W) :
    Calls Tryz.prog 5 #[v, fv] W fun e w' => e = .returned (.bool true) ∧ Below W.heap.size W w' := by
  obtain ⟨x, q⟩ := a
  obtain ⟨qv, rfl, hq, hxl, hql⟩ := hF
  dsimp only at hq hxl hql ⊢
  obtain ⟨qa, qc, rfl, _⟩ := id hq.1
  have hxl' : x.length ≤ 9223372036854775807 := by simpa [maxLen] using hxl
  have hql' : q.length ≤ 9223372036854775807 := by simpa [maxLen] using hql
  obtain ⟨w0, hw0⟩ : ∃ w0, W.alloc (.cells #[.string ⟨x.toArray⟩, .slice qa q.length qc] 31) = w0 := ⟨_, rfl⟩
  have hb0 : Below W.heap.size W w0 := by rw [← hw0]; exact (Below.refl _ W).alloc (Nat.le_refl _) _
  have hx0 : w0.heap[W.heap.size]? = some (.cells #[.string ⟨x.toArray⟩, .slice qa q.length qc] 31 (0, 0)) := by rw [← hw0]; exact r_alloc_at _ _
  have HB0 := Lib.hid hb0
  have HX0 := Lib.hid hx0
  have HFw := Lib.hid (few_any w0 v L (hL.below hb0))
  have HSm := Lib.hid (fun (V : World) => small_any x qa q.length qc V hxl')
  have HAw := Lib.hid (fun (V : World) (hb : Below W.heap.size W V) => awake_any V (hE.next hb))
  have HL := Lib.hid hL
  have HE := Lib.hid hE
  have HQ := Lib.hid hq
  obtain ⟨la, lcap, rfl, _⟩ := hL.shape
  clear hL hE hq hb0 hx0 hxl hql
  unfold fieldV
  cases hf : fewS L
  · rw [hf] at HFw
    go_enter Tryz.func5, Tryz.ntmps5
    go_wp2_with first
      | (go_at_call 9; (refine (HAw.out w1 HB1.out).mono ?_); rintro e w2 ⟨rfl, hb2⟩)
      | (go_at_call 8; (with_reducible refine HFw.out.mono ?_); rintro e w1 ⟨rfl, hb1⟩; have HB1 := Lib.hid (HB0.out.trans (hb1.mono HB0.out.size)); clear hb1)
    go_ret
    exact ⟨rfl, HB1.out.trans (hb2.mono HB1.out.size)⟩
  · rw [hf] at HFw
    obtain ⟨h15, hsm⟩ := fewS_ok hf
    have HT := Lib.hid (fun (w1 : World) (hb : Below W.heap.size W w1) => tree_any w1 _ L (HL.out.below hb) (HE.out.next hb) h15 hsm)
    have HTN := Lib.hid (treeS_trn gen_begin L)
    have hN : 6 + L.length ≤ 100 := by omega
    unfold ptrTo at HT
    clear hsm hf
    generalize treeS L = s at HT HTN
    go_enter Tryz.func5, Tryz.ntmps5
    go_wp2_with first
      | (go_at_call 9; (refine (HAw.out w2 HB2.out).mono ?_); rintro e w3 ⟨rfl, hb3⟩)
      | (go_at_call 12; (refine (HSm.out w1).mono ?_); rintro e w2 ⟨⟨sb, rfl, hsb⟩, hb2⟩; have HB2 := Lib.hid (HB1.out.trans (hb2.mono HB1.out.size)); have HX2 := Lib.hid ((hb2.block _ (blk_lt HX1.out)).trans HX1.out); obtain ⟨y0, y1⟩ := cell01 HX2.out; clear hb2; cases sb)
      | (go_at_call 8; (with_reducible refine HFw.out.mono ?_); rintro e w1 ⟨rfl, hb1⟩; have HB1 := Lib.hid (HB0.out.trans (hb1.mono HB0.out.size)); have HX1 := Lib.hid ((hb1.block _ (blk_lt HX0.out)).trans HX0.out); obtain ⟨x0, x1⟩ := cell01 HX1.out; clear hb1)
    · go_ret
      exact ⟨rfl, HB2.out.trans (hb3.mono HB2.out.size)⟩
    · have hx60 := hsb (by first | rfl | trivial)
      clear hsb x0 x1
      go_loopw [5] (fun iv wr => ∃ i : Nat, iv = .int .i64 i ∧ i ≤ x.length ∧ RowKit.Hid (∀ (j : Nat) (c : UInt8), j < i → x[j]? = some c → c ≠ 47) ∧ RowKit.Hid (wr = w2)) (fun iv _ => x.length - (intOf iv).toNat)
      case atStart => exact ⟨0, rfl, Nat.zero_le _, Lib.hid (fun j c h => by omega), Lib.hid rfl⟩
      case round =>
        obtain ⟨i, rfl, hi, HN, HW⟩ := hrel
        obtain rfl := HW.out
        by_cases hlt : i < x.length
        · have hil : (i : Int) < (x.length : Int) := by omega
          obtain ⟨c, _, hcc, hcs⟩ := str_at x i hlt
          have HCS := Lib.hid hcs
          clear hcs
          cases h47 : ((c.toNat : Int) == 47)
          · go_wp2
            go_roundw
            case rel =>
              refine ⟨i + 1, by go_num, by omega, Lib.hid (fun j c' hj hc' => ?_), Lib.hid (by first | rfl | trivial)⟩
              by_cases e : j = i
              · subst e
                rw [HCS.out] at hc'
                cases hc'
                intro hc7
                subst hc7
                cases h47
              · exact HN.out j c' (by omega) hc'
            case measure => simp [intOf]; omega
          · go_wp2_with (go_at_call 9; (refine (HAw.out wr HB2.out).mono ?_); rintro e w3 ⟨rfl, hb3⟩)
            go_ret
            exact ⟨rfl, HB2.out.trans (hb3.mono HB2.out.size)⟩
        · obtain rfl : i = x.length := by omega
          have hil : ¬ (x.length : Int) < (x.length : Int) := by omega
          have HNS := Lib.hid (show (47 : UInt8) ∉ x from fun hm => by
            obtain ⟨j, hj⟩ := List.getElem?_of_mem hm
            exact HN.out j 47 (List.getElem?_eq_some_iff.1 hj).1 hj rfl)
          have HTr := Lib.hid (HTN.out.tr hN)
          go_wp2_with first
            | (go_at_call 16; (refine (nlist_any HF4.out.is HTr.out 1).mono ?_); rintro e w5 ⟨lv, lz, rfl, hl⟩; have HB5 := Lib.hid hl.below; have HLO := Lib.hid (row_mono hl.own (show w4.heap.size ≤ w4.heap.size + 1 by omega)); have HT5 := Lib.hid (HT4.out.below hl.below); obtain ⟨y05, y15⟩ := cell01 ((hl.below.block _ (blk_lt HX4.out)).trans HX4.out); clear hl y04 y14)
            | (go_at_call 15; (refine (parse_any x q (.slice qa q.length qc) w3 (HQ.out.1.below HB3.out) (by omega) hql').mono ?_); rintro e w4 ⟨⟨tv, rfl, htk⟩, hb4⟩; have HB4 := Lib.hid hb4; have HT4 := Lib.hid htk; have HF4 := Lib.hid (HF3.out.kept hb4); have HX4 := Lib.hid ((hb4.block _ (blk_lt HX3.out)).trans HX3.out); obtain ⟨y04, y14⟩ := cell01 HX4.out; clear hb4 htk y03 y13)
            | (go_at_call 10; (refine (HT.out wr HB2.out).mono ?_); rintro e w3 ⟨F, rb, rfl, hf3⟩; obtain ⟨lay, rfl, hfs, hgen⟩ := hf3; have HF3 := Lib.hid hfs; have HB3 := Lib.hid (HB2.out.trans (hfs.below.mono HB2.out.size)); have HX3 := Lib.hid ((hfs.below.block _ (blk_lt HX2.out)).trans HX2.out); obtain ⟨y03, y13⟩ := cell01 HX3.out; clear hfs y0 y1)
          -- PICKS
          obtain ⟨ta, tc, rfl, htoks⟩ := id HT5.out
          obtain ⟨lva, lvc, rfl, hlrow⟩ := row_in HLO.out
          have HLR := Lib.hid hlrow
          have HTK := Lib.hid htoks
          have hLL := list_len HTr.out 1
          have hL100 := hLL.1
          have HLN := Lib.hid hLL.2
          have HE2 := Lib.hid (HE.out.next HB2.out)
          have HFT := Lib.hid (show FT wr (lay .F) s w5 from ⟨lay, rfl, HF4.out.kept HB5.out, hgen⟩)
          have HB25 := Lib.hid (show Below W.heap.size W w5 from (HB3.out.trans (HB4.out.mono HB3.out.size)).trans (HB5.out.mono (Nat.le_trans HB3.out.size HB4.out.size)))
          have HWANT := Lib.hid (expand_want HTN.out hN HF4.out.is.ok x q HNS.out)
          have HX5 := Lib.hid ((HB5.out.block _ (blk_lt HX4.out)).trans HX4.out)
          have HTOK := Lib.hid (parseS_ok (s := x) q (by omega))
          have htl := parseS_len x q
          have HPW := Lib.hid (show wantS s x q = wantS.endsX x (if specialS (parseS x q) then (s.listS 1).filter (picksS (parseS x q)) else []) from rfl)
          have HSNE := Lib.hid (@special_ne (parseS x q))
          generalize s.listS 1 = L1 at HLO HLR hL100 HLN HPW
          generalize parseS x q = tk at HT5 HTK HTOK htl HPW HSNE
          clear hLL hlrow htoks y05 y15
          have hwn : ((if specialS tk = true then L1.filter (picksS tk) else [])).length ≤ 100 := by
            split
            · exact Nat.le_trans (List.length_filter_le _ _) hL100
            · simp
          have hes := endsX_len x (if specialS tk = true then L1.filter (picksS tk) else [])
          go_loopw [9, 12] (fun wv iv wr => ∃ i : Nat, iv = .int .i64 i ∧ i ≤ L1.length ∧ RowKit.Hid (specialS tk = false → i = 0) ∧ RowKit.Hid (PickI w5 L1 tk i wv wr)) (fun _ iv _ => L1.length - (intOf iv).toNat)
          case atStart => exact ⟨0, rfl, Nat.zero_le _, Lib.hid (fun _ => rfl), Lib.hid ⟨Below.refl _ _, World.ownsRow_nil _ _ _ _⟩⟩
          case round =>
            obtain ⟨i, rfl, hi, HZ, HI⟩ := hrel
            rename World => V
            obtain ⟨wa, wc, rfl⟩ := row_form HI.out.own
            have HV0 := Lib.hid HI.out.below
            have HRV0 := Lib.hid HI.out.own
            have HSP := Lib.hid (special_any tk (.slice ta tk.length tc) V (HT5.out.below HV0.out) (by omega) HTOK.out.k)
            by_cases hlt : i < L1.length
            · have hil : (i : Int) < (L1.length : Int) := by omega
              cases hsp : specialS tk
              · rw [hsp] at HSP
                have hi0 := HZ.out hsp
                have HFl : RowKit.Hid (([] : List (List UInt8)) = if specialS tk = true then L1.filter (picksS tk) else []) := Lib.hid (by rw [hsp]; rfl)
                have hwl : ((L1.take i).filter (picksS tk)) = [] := by rw [hi0]; rfl
                rw [hwl] at HRV0 ⊢
                clear hi0
                go_upto_if 57 with (go_at_call 17; (with_reducible refine HSP.out.mono ?_); rintro e w6 ⟨rfl, hb6⟩; have HV := Lib.hid (HV0.out.trans (hb6.mono HV0.out.size)); clear hb6)
                obtain ⟨Fl, hFl⟩ : ∃ Fl : List (List UInt8), Fl = [] := ⟨_, rfl⟩
                have HFl2 := HFl
                clear HFl
                have HFl := HFl2
                have hfl0 : Fl = [] := hFl
                subst hfl0
                have HX6 := Lib.hid ((HV.out.block _ (blk_lt HX5.out)).trans HX5.out)
                have HW1 := Lib.hid (show wantS s x q = [x] by rw [HPW.out, ← HFl.out]; rfl)
                have HR7 := Lib.hid (show (w6.alloc (.cells #[.string ⟨x.toArray⟩] 9)).ownsRow 0 9 1 (.slice (some ⟨w6.heap.size, 0, none⟩) 1 1) (wantS s x q).length ((wantS s x q).map encB) by rw [HW1.out]; exact one_row w6 x 0 (Nat.zero_le _))
                have HB7 := Lib.hid (show Below w5.heap.size w5 (w6.alloc (.cells #[.string ⟨x.toArray⟩] 9)) from HV.out.alloc HV.out.size _)
                have HBW7 := Lib.hid (show Below W.heap.size W (w6.alloc (.cells #[.string ⟨x.toArray⟩] 9)) from HB25.out.trans (HB7.out.mono HB25.out.size))
                have HX7 := Lib.hid ((HB7.out.block _ (blk_lt HX5.out)).trans HX5.out)
                obtain ⟨z0, z1⟩ := cell01 HX6.out
                obtain ⟨z2, z3⟩ := cell01 HX7.out
                go_wp2_with first
                    | (go_at_call 9; (refine (HAw.out w9 HB9.out).mono ?_); rintro e w10 ⟨rfl, hb10⟩)
                    | (go_at_call 19; (refine (texts_same w8 _ _ _ _ (wantS s x q) HR8.out HQ8.out (by rw [HPW.out]; omega)).mono ?_); rintro e w9 ⟨rfl, hb9⟩; have HB9 := Lib.hid (HB8.out.trans (hb9.mono HB8.out.size)); clear hb9)
                    | (go_at_call 11; (refine (expand_ft HE2.out HTr.out 1 x q (.slice qa q.length qc) _ (HFT.out.kept HB7.out) ⟨HQ.out.1.below HBW7.out, HQ.out.2⟩ (by omega) hql').mono ?_); rintro e w8 ⟨⟨ve, rfl, hre⟩, hb8⟩; rw [HWANT.out] at hre; have HR8 := Lib.hid hre; have HQ8 := Lib.hid (World.ownsRow.kept HR7.out (w' := w8) (row := none) (grown_none hb8) (by cases (.slice (some ⟨w6.heap.size, 0, none⟩) 1 1 : Value).ownBlock <;> simp)); obtain ⟨ea, ec, rfl⟩ := row_form hre; have HB8 := Lib.hid ((HBW7.out).trans (hb8.mono (HBW7.out).size)); clear hre hb8)
                go_ret
                exact ⟨rfl, HB9.out.trans (hb10.mono HB9.out.size)⟩
              · rw [hsp] at HSP
                obtain ⟨n, hn⟩ : ∃ n, L1[i]? = some n := ⟨_, List.getElem?_eq_getElem hlt⟩
                obtain ⟨lg, rfl, _, hlg, hlc⟩ := HLR.out (by omega)
                have hnl := HLN.out n (List.mem_of_getElem? hn)
                obtain ⟨c, _, hcc, hcs⟩ := str_at n 0 hnl.1
                obtain ⟨t0, tr, ht0⟩ := special_first (HSNE.out hsp)
                have htl0 : 0 < tk.length := by rw [ht0]; simp
                obtain ⟨tg, rfl, htg, htc⟩ := HTK.out htl0
                obtain ⟨rv, k0, _⟩ := htc 0 t0 (by rw [ht0]; rfl)
                simp only [Nat.zero_mul] at k0
                have HNC := Lib.hid (hlc i n hn)
                have HK0 := Lib.hid k0
                have HPV := Lib.hid (picks_val ht0 hcs)
                have HFT2 := Lib.hid (fun (b : Bool) (hb : picksS tk n = b) => take_pick hn b hb)
                have HMC := Lib.hid (fun (V' : World) (hb : Below w5.heap.size w5 V') => match_any tk (.slice (some ⟨tg, 0, none⟩) tk.length tc) n V' (HT5.out.below hb) (by omega) HTOK.out (by omega))
                have htz : (0 : Int) < (tk.length : Int) := by omega
                have hnz : 0 < (n.toArray).size := by simpa using hnl.1
                have d0 := (HV0.out.cell (p := ⟨lg, i, none⟩) hlg).trans HNC.out
                clear hn hlc hcs htc k0 ht0
                have HZ2 := Lib.hid (fun (h : true = false) => (show i + 1 = 0 by cases h))
                cases hm : matchS tk n
                · have HF2 := HFT2.out false (by rw [HPV.out, hm]; rfl)
                  go_wp2_with first
                    | (go_at_call 18; (refine (HMC.out w6 HV6.out).mono ?_); rw [hm]; rintro e w7 ⟨rfl, hb7⟩; have HB67 := Lib.hid (HB6.out.trans (hb7.mono HB6.out.size)); clear hb7)
                    | (go_at_call 17; (with_reducible refine HSP.out.mono ?_); rintro e w6 ⟨rfl, hb6⟩; have HV6 := Lib.hid (HV0.out.trans (hb6.mono HV0.out.size)); have HB6 := Lib.hid hb6; have d1 := (HV6.out.cell (p := ⟨lg, i, none⟩) hlg).trans HNC.out; clear hb6)
                  go_roundw
                  case rel =>
                    refine ⟨i + 1, by go_num, by omega, HZ2, Lib.hid ⟨HV0.out.trans (HB67.out.mono HV0.out.size), ?_⟩⟩
                    rw [HF2]
                    exact HRV0.out.kept (grown_none HB67.out) (by cases (Value.slice wa ((L1.take i).filter (picksS tk)).length wc).ownBlock <;> simp)
                  case measure => simp [intOf]; omega
                · have hwsl : ((L1.take i).filter (picksS tk)).length ≤ 100 := by have := List.length_filter_le (picksS tk) (L1.take i); have := List.length_take_le i L1; omega
                  have HINF := Lib.hid (info_parts info_str)
                  by_cases hc46 : c = 46
                  · have hcb : ((c.toNat : Int) != 46) = false := by subst hc46; rfl
                    have hce : (c != 46) = false := by subst hc46; rfl
                    by_cases hk1 : t0.k = 1
                    · have hkb : ((t0.k : Int) == 1) = true := by rw [hk1]; rfl
                      have hke : (t0.k == 1) = true := by rw [hk1]; rfl
                      clear hc46 hk1
                      have HF2 := Lib.hid (HFT2.out true (by rw [HPV.out, hm]; rw [hce, hke]; rfl))
                      generalize (L1.take i).filter (picksS tk) = ws at HF2 HRV0 hwsl ⊢
                      go_wp2_with first
                        | (at_builtin; obtain ⟨i0, hi0', hz0, hz1, hz2⟩ := HINF.out; refine wpList_append_own _ rfl _ _ 32 rfl w5.heap.size 9 i0 (.string ByteArray.empty) 1 16 (by kernel_rfl) hi0' hz0 hz1 hz2 rfl (by decide) _ _ _ rfl (HRV7.out.alloc _) ⟨w7.heap.size, 0, none⟩ 1 1 [.string ⟨n.toArray⟩] rfl rfl (cell_one _ _ _) (by simp [Value.oneCell']) (by simp only [maxLen]; omega) (by omega) (by simp only [World.size_alloc]; have := HV7.out.size; omega) ?_; intro v' w8 hown' hgrow _; have HO8 := Lib.hid hown'; have HG8 := Lib.hid hgrow; clear hi0' hz0 hz1 hz2)
                        | (go_at_call 18; (refine (HMC.out w6 HV6.out).mono ?_); rw [hm]; rintro e w7 ⟨rfl, hb7⟩; have HB67 := Lib.hid (HB6.out.trans (hb7.mono HB6.out.size)); have HV7 := Lib.hid (HV0.out.trans (HB67.out.mono HV0.out.size)); have d2 := (HV7.out.cell (p := ⟨lg, i, none⟩) hlg).trans HNC.out; have e2 := (HV7.out.cell (p := ⟨tg, 0, none⟩) htg).trans HK0.out; have HRV7 := Lib.hid (HRV0.out.kept (grown_none HB67.out) (by cases (Value.slice wa ws.length wc).ownBlock <;> simp)); clear hb7)
                        | (go_at_call 17; (with_reducible refine HSP.out.mono ?_); rintro e w6 ⟨rfl, hb6⟩; have HV6 := Lib.hid (HV0.out.trans (hb6.mono HV0.out.size)); have HB6 := Lib.hid hb6; have d1 := (HV6.out.cell (p := ⟨lg, i, none⟩) hlg).trans HNC.out; clear hb6)
                      go_roundw
                      case rel =>
                        refine ⟨i + 1, by go_num, by omega, HZ2, Lib.hid ⟨(HV7.out.alloc HV7.out.size _).grown HG8.out (by simp only [World.size_alloc]; have := HV7.out.size; omega) (fun k e => (World.ownsRow.lt HRV7.out k e).1), ?_⟩⟩
                        rw [HF2.out]
                        have := HO8.out
                        simpa [encB] using this
                      case measure => simp [intOf]; omega
                    · have hkb : ((t0.k : Int) == 1) = false := by rw [beq_eq_false_iff_ne]; omega
                      have hke : (t0.k == 1) = false := by simpa using hk1
                      clear hc46 hk1
                      have HF2 := Lib.hid (HFT2.out false (by rw [HPV.out, hm]; rw [hce, hke]; rfl))
                      generalize (L1.take i).filter (picksS tk) = ws at HF2 HRV0 hwsl ⊢
                      go_wp2_with first
                        | (go_at_call 18; (refine (HMC.out w6 HV6.out).mono ?_); rw [hm]; rintro e w7 ⟨rfl, hb7⟩; have HB67 := Lib.hid (HB6.out.trans (hb7.mono HB6.out.size)); have HV7 := Lib.hid (HV0.out.trans (HB67.out.mono HV0.out.size)); have d2 := (HV7.out.cell (p := ⟨lg, i, none⟩) hlg).trans HNC.out; have e2 := (HV7.out.cell (p := ⟨tg, 0, none⟩) htg).trans HK0.out; have HRV7 := Lib.hid (HRV0.out.kept (grown_none HB67.out) (by cases (Value.slice wa ws.length wc).ownBlock <;> simp)); clear hb7)
                        | (go_at_call 17; (with_reducible refine HSP.out.mono ?_); rintro e w6 ⟨rfl, hb6⟩; have HV6 := Lib.hid (HV0.out.trans (hb6.mono HV0.out.size)); have HB6 := Lib.hid hb6; have d1 := (HV6.out.cell (p := ⟨lg, i, none⟩) hlg).trans HNC.out; clear hb6)
                      go_roundw
                      case rel =>
                        refine ⟨i + 1, by go_num, by omega, HZ2, Lib.hid ⟨HV7.out, ?_⟩⟩
                        rw [HF2.out]
                        exact HRV7.out
                      case measure => simp [intOf]; omega
                  · have hcb : ((c.toNat : Int) != 46) = true := by rw [bne_iff_ne]; intro h; exact hc46 (UInt8.toNat_inj.1 (by simpa using (by omega : c.toNat = 46)))
                    have hce : (c != 46) = true := by simpa using hc46
                    clear hc46
                    have HF2 := Lib.hid (HFT2.out true (by rw [HPV.out, hm]; rw [hce]; rfl))
                    generalize (L1.take i).filter (picksS tk) = ws at HF2 HRV0 hwsl ⊢
                    go_wp2_with first
                      | (at_builtin; obtain ⟨i0, hi0', hz0, hz1, hz2⟩ := HINF.out; refine wpList_append_own _ rfl _ _ 32 rfl w5.heap.size 9 i0 (.string ByteArray.empty) 1 16 (by kernel_rfl) hi0' hz0 hz1 hz2 rfl (by decide) _ _ _ rfl (HRV7.out.alloc _) ⟨w7.heap.size, 0, none⟩ 1 1 [.string ⟨n.toArray⟩] rfl rfl (cell_one _ _ _) (by simp [Value.oneCell']) (by simp only [maxLen]; omega) (by omega) (by simp only [World.size_alloc]; have := HV7.out.size; omega) ?_; intro v' w8 hown' hgrow _; have HO8 := Lib.hid hown'; have HG8 := Lib.hid hgrow; clear hi0' hz0 hz1 hz2)
                      | (go_at_call 18; (refine (HMC.out w6 HV6.out).mono ?_); rw [hm]; rintro e w7 ⟨rfl, hb7⟩; have HB67 := Lib.hid (HB6.out.trans (hb7.mono HB6.out.size)); have HV7 := Lib.hid (HV0.out.trans (HB67.out.mono HV0.out.size)); have d2 := (HV7.out.cell (p := ⟨lg, i, none⟩) hlg).trans HNC.out; have e2 := (HV7.out.cell (p := ⟨tg, 0, none⟩) htg).trans HK0.out; have HRV7 := Lib.hid (HRV0.out.kept (grown_none HB67.out) (by cases (Value.slice wa ws.length wc).ownBlock <;> simp)); clear hb7)
                      | (go_at_call 17; (with_reducible refine HSP.out.mono ?_); rintro e w6 ⟨rfl, hb6⟩; have HV6 := Lib.hid (HV0.out.trans (hb6.mono HV0.out.size)); have HB6 := Lib.hid hb6; have d1 := (HV6.out.cell (p := ⟨lg, i, none⟩) hlg).trans HNC.out; clear hb6)
                    go_roundw
                    case rel =>
                      refine ⟨i + 1, by go_num, by omega, HZ2, Lib.hid ⟨(HV7.out.alloc HV7.out.size _).grown HG8.out (by simp only [World.size_alloc]; have := HV7.out.size; omega) (fun k e => (World.ownsRow.lt HRV7.out k e).1), ?_⟩⟩
                      rw [HF2.out]
                      have := HO8.out
                      simpa [encB] using this
                    case measure => simp [intOf]; omega
            · obtain rfl : i = L1.length := by omega
              have hil : ¬ (L1.length : Int) < (L1.length : Int) := by omega
              have HFl : RowKit.Hid ((L1.take L1.length).filter (picksS tk) = if specialS tk = true then L1.filter (picksS tk) else []) := Lib.hid (by
                rw [List.take_length]
                cases hsp : specialS tk with
                | true => rfl
                | false =>
                  have h0 := HZ.out hsp
                  have : L1 = [] := List.eq_nil_of_length_eq_zero h0
                  rw [this]; rfl)
              have HV := HV0
              generalize (L1.take L1.length).filter (picksS tk) = Fl at HFl HRV0 ⊢
              have HRV := HRV0
              clear HI HRV0 HV0
              by_cases hfl : Fl = []
              · have hz : Fl = [] := hfl
                subst hz
                have HW1 := Lib.hid (show wantS s x q = [x] by rw [HPW.out, ← HFl.out]; rfl)
                have HR7 := Lib.hid (show (V.alloc (.cells #[.string ⟨x.toArray⟩] 9)).ownsRow 0 9 1 (.slice (some ⟨V.heap.size, 0, none⟩) 1 1) (wantS s x q).length ((wantS s x q).map encB) by rw [HW1.out]; exact one_row V x 0 (Nat.zero_le _))
                have HB7 := Lib.hid (show Below w5.heap.size w5 (V.alloc (.cells #[.string ⟨x.toArray⟩] 9)) from HV.out.alloc HV.out.size _)
                have HBW7 := Lib.hid (show Below W.heap.size W (V.alloc (.cells #[.string ⟨x.toArray⟩] 9)) from HB25.out.trans (HB7.out.mono HB25.out.size))
                have HX7 := Lib.hid ((HB7.out.block _ (blk_lt HX5.out)).trans HX5.out)
                obtain ⟨z0, z1⟩ := cell01 ((HV.out.block _ (blk_lt HX5.out)).trans HX5.out)
                obtain ⟨z2, z3⟩ := cell01 HX7.out
                have hl0 : (([] : List (List UInt8)).length : Int) = 0 := rfl
                go_wp2_with first
                  | (go_at_call 9; (refine (HAw.out w9 HB9.out).mono ?_); rintro e w10 ⟨rfl, hb10⟩)
                  | (go_at_call 19; (refine (texts_same w8 _ _ _ _ (wantS s x q) HR8.out HQ8.out (by rw [HPW.out]; omega)).mono ?_); rintro e w9 ⟨rfl, hb9⟩; have HB9 := Lib.hid (HB8.out.trans (hb9.mono HB8.out.size)); clear hb9)
                  | (go_at_call 11; (refine (expand_ft HE2.out HTr.out 1 x q (.slice qa q.length qc) _ (HFT.out.kept HB7.out) ⟨HQ.out.1.below HBW7.out, HQ.out.2⟩ (by omega) hql').mono ?_); rintro e w8 ⟨⟨ve, rfl, hre⟩, hb8⟩; rw [HWANT.out] at hre; have HR8 := Lib.hid hre; have HQ8 := Lib.hid (World.ownsRow.kept HR7.out (w' := w8) (row := none) (grown_none hb8) (by cases (.slice (some ⟨V.heap.size, 0, none⟩) 1 1 : Value).ownBlock <;> simp)); obtain ⟨ea, ec, rfl⟩ := row_form hre; have HB8 := Lib.hid ((HBW7.out).trans (hb8.mono (HBW7.out).size)); clear hre hb8)
                go_ret
                exact ⟨rfl, HB9.out.trans (hb10.mono HB9.out.size)⟩
              · have hflp : 0 < Fl.length := List.length_pos_iff.2 hfl
                have hl0 : ((Fl.length : Int) == 0) = false := by rw [beq_eq_false_iff_ne]; omega
                have HW1 := Lib.hid (show wantS s x q = Fl by rw [HPW.out, ← HFl.out]; unfold wantS.endsX; rw [if_neg hfl])
                have HR7 := Lib.hid (show V.ownsRow w5.heap.size 9 1 (.slice wa Fl.length wc) (wantS s x q).length ((wantS s x q).map encB) by rw [HW1.out]; exact HRV.out)
                have HBW7 := Lib.hid (show Below W.heap.size W V from HB25.out.trans (HV.out.mono HB25.out.size))
                obtain ⟨z0, z1⟩ := cell01 ((HV.out.block _ (blk_lt HX5.out)).trans HX5.out)
                go_wp2_with first
                  | (go_at_call 9; (refine (HAw.out w9 HB9.out).mono ?_); rintro e w10 ⟨rfl, hb10⟩)
                  | (go_at_call 19; (refine (texts_same w8 _ _ _ _ (wantS s x q) HR8.out HQ8.out (by rw [HPW.out]; omega)).mono ?_); rintro e w9 ⟨rfl, hb9⟩; have HB9 := Lib.hid (HB8.out.trans (hb9.mono HB8.out.size)); clear hb9)
                  | (go_at_call 11; (refine (expand_ft HE2.out HTr.out 1 x q (.slice qa q.length qc) V (HFT.out.kept HV.out) ⟨HQ.out.1.below HBW7.out, HQ.out.2⟩ (by omega) hql').mono ?_); rintro e w8 ⟨⟨ve, rfl, hre⟩, hb8⟩; rw [HWANT.out] at hre; have HR8 := Lib.hid hre; have HQ8 := Lib.hid (World.ownsRow.kept HR7.out (w' := w8) (row := none) (grown_none hb8) (by cases (.slice wa Fl.length wc : Value).ownBlock <;> simp)); obtain ⟨ea, ec, rfl⟩ := row_form hre; have HB8 := Lib.hid ((HBW7.out).trans (hb8.mono (HBW7.out).size)); clear hre hb8)
                go_ret
                exact ⟨rfl, HB9.out.trans (hb10.mono HB9.out.size)⟩
end Go.Proofs.YtggdedihfhibfaaGreatDoor
