/- Texts of one proof, packed: GlH -/
import Derived.Test.YtggdedihfhibfaaGreatDoorR09
import Derived.Test.YtggdedihfhibfaaGreatDoorR13
import Derived.Deep.DeepCutAuto
set_option linter.unusedVariables false
set_option linter.unusedSimpArgs false
set_option linter.deprecated false
set_option linter.unnecessarySimpa false
/- glob.reach, Match: the walk -/
namespace Go.Proofs.YtggdedihfhibfaaGreatDoor
open Go.RowKit IntWalk
set_option linter.unusedVariables false
set_option linter.unusedSimpArgs false

def TOk (L : List GTok) : Prop := ∀ t ∈ L, t.k ≤ 4 ∧ t.rs.length ≤ 100000
theorem TOk.k {L : List GTok} (h : TOk L) : KOk L := fun t ht => (h t ht).1
set_option maxRecDepth 100000 in
set_option maxHeartbeats 8000000 in
theorem reach_any (L : List GTok) (v : Value) (s : List UInt8) (w : World) (h : TokAt w v L) (hL : L.length ≤ 100000) (hk : TOk L) (hs : s.length ≤ 1000) :
    Calls Tryz.prog 46 #[v, .string ⟨s.toArray⟩] w fun e w' => (∃ b, e = .returned (.slice (some ⟨b, 0, none⟩) (s.length + 1) (s.length + 1)) ∧ BRow w' b s.length (reachS L s)) ∧ Below w.heap.size w w' := by
  have HMK := Lib.hid (fun (W : World) => make_b W s.length (by omega) ((s.length : Int) + 1) rfl)
  have HTA := Lib.hid h
  obtain ⟨a, cap, rfl, hcs⟩ := h
  have HCS := Lib.hid hcs
  clear hcs
  have hmk := HMK.out
  have bn := BRow.new w s.length
  have n0 := bn.cell 0 (by omega)
  have n1 := bn.fz 0
  obtain ⟨W1, hW1⟩ : ∃ W1, (w.alloc (zerosB s.length)).setCell ⟨w.heap.size, 0, none⟩ (.bool true) = W1 := ⟨_, rfl⟩
  have HB1 := Lib.hid (show BRow W1 w.heap.size s.length (reachS [] s) by
    rw [← hW1]; exact bn.set 0 true (fun j hj => by show (j == 0) = _; cases j <;> rfl))
  have HW1 := Lib.hid (show Below w.heap.size w W1 by rw [← hW1]; exact ((Below.refl _ w).alloc (Nat.le_refl _) _).setCell (p := ⟨w.heap.size, 0, none⟩) (Nat.le_refl _) _)
  have HWE := Lib.hid hW1
  clear hW1 bn
  go_enter Tryz.func46, Tryz.ntmps46
  go_wp2
  rw [HWE.out]
  clear n0 n1 HWE
  go_loopw [5, 7, 8, 9, 10, 19] (fun nv xv yv iv jv cv W => ∃ (j nb : Nat), cv = .int .i64 j ∧ j ≤ L.length ∧ nv = .slice (some ⟨nb, 0, none⟩) (s.length + 1) (s.length + 1) ∧ w.heap.size ≤ nb ∧ RowKit.Hid (BRow W nb s.length (reachS (L.take j) s)) ∧ RowKit.Hid (Below w.heap.size w W)) (fun _ _ _ _ _ cv _ => L.length - (intOf cv).toNat)
  case atStart => exact ⟨0, _, rfl, by omega, rfl, Nat.le_refl _, HB1, HW1⟩
  case round =>
    rename World => w4
    obtain ⟨j, nb, rfl, hj, rfl, hnb, HBR, HBL⟩ := hrel
    by_cases hlt : j < L.length
    · obtain ⟨b, rfl, hbl, hbc⟩ := HCS.out (by omega)
      obtain ⟨t, ht⟩ : ∃ t, L[j]? = some t := ⟨L[j], List.getElem?_eq_getElem hlt⟩
      obtain ⟨rv, c0, c1, c2, c3, c4⟩ := hbc j t ht
      have hlt2 : (j : Int) < L.length := by omega
      obtain ⟨ht4, htr⟩ := hk t (List.mem_of_getElem? ht)
      have HSN := Lib.hid (show reachS (L.take (j + 1)) s = stepS s (reachS (L.take j) s) t by rw [List.take_add_one, ht]; exact reachS_snoc _ _ _)
      obtain ⟨k, tc, neg, rs⟩ := t
      obtain ⟨a9, c9, rfl⟩ : ∃ a c, rv = .slice a rs.length c := c4.form
      dsimp only at c0 c1 c2 c3 c4 ht4 htr
      have hbl2 := HBL.out
      have d0 := (hbl2.cell (p := ⟨b, _, none⟩) hbl).trans c0
      have d1 := (hbl2.cell (p := ⟨b, _, none⟩) hbl).trans c1
      have d2 := (hbl2.cell (p := ⟨b, _, none⟩) hbl).trans c2
      have d3 := (hbl2.cell (p := ⟨b, _, none⟩) hbl).trans c3
      have HR := Lib.hid (show RS w s.length nb (w4.heap.size + 1) w4.heap.size ⟨k, tc, neg, rs⟩ (.slice a9 rs.length c9) (reachS (L.take j) s) (fun _ => false) ((w4.alloc (.cells #[.int .i64 k, .int .u8 tc.toNat, .bool neg, .slice a9 rs.length c9] 49)).alloc (zerosB s.length)) by
        have hb2 := ((Below.refl _ w4).alloc (Nat.le_refl _) (.cells #[.int .i64 k, .int .u8 tc.toNat, .bool neg, .slice a9 rs.length c9] 49)).alloc (by simp) (zerosB s.length)
        have hnl := HBR.out.lt
        refine ⟨HBR.out.below hb2, ?_, ?_, (c4.below hbl2).below hb2, hbl2.trans (hb2.mono hbl2.size), hnb, by have := hbl2.size; omega, by omega⟩
        · have := BRow.new (w4.alloc (.cells #[.int .i64 k, .int .u8 tc.toNat, .bool neg, .slice a9 rs.length c9] 49)) s.length
          rwa [World.size_alloc] at this
        · rw [Below.heap_alloc _ _ _ (by simp)]; exact r_alloc_at _ _)
      clear c0 c1 c2 c3 c4 hbl2 hbc ht
      obtain ⟨F, hF⟩ : ∃ F, reachS (L.take j) s = F := ⟨_, rfl⟩
      rw [hF] at HR HSN
      clear hF HBR
      by_cases h3 : k = 3
      · have q3 : ((k : Int) == 3) = true := by rw [h3]; rfl
        have HK3 := Lib.hid h3
        clear h3
        go_wp2_with (refine copy_b rfl _ _ rfl rfl rfl HR.out.nxt HR.out.now ?_; intro w6 hb6 hg6; have HR6 := Lib.hid (HR.out.put hg6 hb6); clear hb6 hg6)
        clear HR d0 d1 d2 d3
        go_loopw [9] (fun iv W => ∃ m : Nat, iv = .int .i64 ((m : Int) + 1) ∧ m ≤ s.length ∧ RowKit.Hid (RS w s.length nb (w4.heap.size + 1) w4.heap.size ⟨k, tc, neg, rs⟩ (.slice a9 rs.length c9) F (fun p => if p ≤ m then manyS F p else F p) W)) (fun iv _ => s.length + 1 - (intOf iv).toNat)
        case atStart => exact ⟨0, rfl, by omega, Lib.hid ⟨HR6.out.now, HR6.out.nxt.ext (fun p hp => by cases p <;> rfl), HR6.out.tok, HR6.out.rng, HR6.out.below, HR6.out.on, HR6.out.ox, HR6.out.ne⟩⟩
        case round =>
          obtain ⟨m, rfl, hm, HRR⟩ := hrel
          by_cases hml : m < s.length
          · have g1 := HRR.out.nxt.cell (m + 1) (by omega)
            have g0 := HRR.out.nxt.cell m (by omega)
            have gz := HRR.out.nxt.fz (m + 1)
            simp only [show ¬ (m + 1 ≤ m) by omega, if_false, Nat.le_refl, if_true] at g1 g0
            have HS2 := Lib.hid (fun (v : Bool) (hv : manyS F (m + 1) = v) => HRR.out.set (g' := fun p => if p ≤ m + 1 then manyS F p else F p) (m + 1) v (fun p hp => by
              by_cases e : p = m + 1
              · subst e; simp [hv]
              · simp only [e, if_false]
                by_cases e2 : p ≤ m
                · simp [e2, show p ≤ m + 1 by omega]
                · simp [e2, show ¬ p ≤ m + 1 by omega]))
            have hml2 : (m : Int) + 1 ≤ s.length := by omega
            cases hf1 : F (m + 1)
            · rw [hf1] at g1
              cases hf2 : manyS F m
              · rw [hf2] at g0
                have HZ := Lib.hid (HS2.out false (by simp [manyS, hf1, hf2]))
                clear HS2 hf1 hf2
                go_wp2
                go_roundw
                case rel => exact ⟨m + 1, by go_num, by omega, HZ⟩
                case measure => simp [intOf]; omega
              · rw [hf2] at g0
                have HZ := Lib.hid (HS2.out true (by simp [manyS, hf1, hf2]))
                clear HS2 hf1 hf2
                go_wp2
                go_roundw
                case rel => exact ⟨m + 1, by go_num, by omega, HZ⟩
                case measure => simp [intOf]; omega
            · rw [hf1] at g1
              have HZ := Lib.hid (HS2.out true (by simp [manyS, hf1]))
              clear HS2 hf1
              go_wp2
              go_roundw
              case rel => exact ⟨m + 1, by go_num, by omega, HZ⟩
              case measure => simp [intOf]; omega
          · have hmN : m = s.length := by omega
            subst hmN
            have HZ := Lib.hid (show BRow wr (w4.heap.size + 1) s.length (reachS (L.take (j + 1)) s) from HRR.out.nxt.ext (fun p hp => by rw [HSN.out]; simp [stepS, hp, HK3.out]))
            have hsz : w.heap.size ≤ w4.heap.size := HBL.out.size
            go_wp2
            go_roundw
            case rel => exact ⟨j + 1, _, by go_num, by omega, rfl, by omega, HZ, Lib.hid HRR.out.below⟩
            case measure => simp [intOf]; omega
      · have q3 : ((k : Int) == 3) = false := by simp; omega
        have q3' : ¬ (k : Int) = 3 := by omega
        have HK3 := Lib.hid h3
        clear h3
        go_wp2
        clear d0 d1 d2 d3
        go_loopw [55, 10] (fun cv _ W => ∃ m : Nat, cv = .int .i64 m ∧ m ≤ s.length ∧ RowKit.Hid (RS w s.length nb (w4.heap.size + 1) w4.heap.size ⟨k, tc, neg, rs⟩ (.slice a9 rs.length c9) F (fun p => if p ≤ m then oneS ⟨k, tc, neg, rs⟩ s F p else false) W)) (fun cv _ _ => s.length + 1 - (intOf cv).toNat)
        case atStart => exact ⟨0, rfl, by omega, Lib.hid ⟨HR.out.now, HR.out.nxt.ext (fun p hp => by cases p <;> rfl), HR.out.tok, HR.out.rng, HR.out.below, HR.out.on, HR.out.ox, HR.out.ne⟩⟩
        case round =>
          obtain ⟨m, rfl, hm, HRR⟩ := hrel
          by_cases hml : m < s.length
          · have HS2 := Lib.hid (fun (W : World) (g : Nat → Bool) (h : RS w s.length nb (w4.heap.size + 1) w4.heap.size ⟨k, tc, neg, rs⟩ (.slice a9 rs.length c9) F (fun p => if p ≤ m then oneS ⟨k, tc, neg, rs⟩ s F p else false) W) (v : Bool) (hv : oneS ⟨k, tc, neg, rs⟩ s F (m + 1) = v) => h.set (g' := fun p => if p ≤ m + 1 then oneS ⟨k, tc, neg, rs⟩ s F p else false) (m + 1) v (fun p hp => by
              by_cases e : p = m + 1
              · subst e; simp [hv]
              · simp only [e, if_false]
                by_cases e2 : p ≤ m
                · simp [e2, show p ≤ m + 1 by omega]
                · simp [e2, show ¬ p ≤ m + 1 by omega]))
            obtain ⟨c, _, hc, hcs⟩ := str_at s m hml
            have hac : atB s m = c := atB_some hcs
            have hm0 : (0 : Int) ≤ m := by omega
            have hm1 : (m : Int) < s.length := by omega
            have hm2 : (m : Int) < (s.length : Int) + 1 := by omega
            have hm3 : (m : Int) + 1 < (s.length : Int) + 1 := by omega
            have hm4 : (0 : Int) ≤ (m : Int) + 1 := by omega
            have hm5 : ((m : Int) + 1).toNat = m + 1 := by omega
            have hm6 : IntKind.i64.wrap ((m : Int) + 1) = (m : Int) + 1 := i64_in _ (by omega)
            cases hf : F m
            · have HZ := Lib.hid (HS2.out wr.drew F HRR.out.drew false (by simp [oneS, hf]))
              have g0 := HRR.out.now.cell m hm
              rw [hf] at g0
              have g1 := HRR.out.nxt.cell (m + 1) (by omega)
              have gz := HRR.out.nxt.fz (m + 1)
              clear HS2 hf hac hcs
              go_wp2_with fail
              go_still_tail 15, (by kernel_rfl)
              change wpList _ _ _ _ _ wr.drew
              go_wp2_with fail
              clear g0 g1 gz hm3 hm4 hm5 hm6
              go_roundw
              case rel => exact ⟨m + 1, by go_num, by omega, HZ⟩
              case measure => simp [intOf]; omega
            · obtain ⟨hv, hhv⟩ : ∃ hv, hasS ⟨k, tc, neg, rs⟩ c = hv := ⟨_, rfl⟩
              have HZ := Lib.hid (fun (w2 : World) (h : RS w s.length nb (w4.heap.size + 1) w4.heap.size ⟨k, tc, neg, rs⟩ (.slice a9 rs.length c9) F (fun p => if p ≤ m then oneS ⟨k, tc, neg, rs⟩ s F p else false) w2) => HS2.out w2 F h hv (by simp [oneS, hf, hac, hhv]))
              have HH := Lib.hid (show Calls Tryz.prog 79 #[.agg #[.int .i64 k, .int .u8 tc.toNat, .bool neg, .slice a9 rs.length c9], .int .u8 c.toNat] wr.drew fun e w' => e = .returned (.bool hv) ∧ Below wr.drew.heap.size wr.drew w' by
                rw [← hhv]; exact has_any ⟨k, tc, neg, rs⟩ (.slice a9 rs.length c9) c wr.drew HRR.out.drew.rng ht4 htr)
              have HRD := Lib.hid HRR.out.drew
              have K0 := Lib.hid (show wr.drew.cell? ⟨nb, m, none⟩ = some (.bool true) ∧ wr.drew.cell? ⟨w4.heap.size, 0, none⟩ = some (.int .i64 k) ∧ wr.drew.cell? ⟨w4.heap.size, 1, none⟩ = some (.int .u8 tc.toNat) ∧ wr.drew.cell? ⟨w4.heap.size, 2, none⟩ = some (.bool neg) ∧ wr.drew.cell? ⟨w4.heap.size, 3, none⟩ = some (.slice a9 rs.length c9) ∧ wr.drew.cell? ⟨w4.heap.size + 1, m + 1, none⟩ = some (.bool (cellB wr.drew (w4.heap.size + 1) (m + 1))) ∧ wr.drew.frozen? ⟨w4.heap.size + 1, m + 1, none⟩ = false from HRR.out.drew.s16 hml hf)
              have HS16 := Lib.hid (fun (w2 : World) (g : Nat → Bool) (h : RS w s.length nb (w4.heap.size + 1) w4.heap.size ⟨k, tc, neg, rs⟩ (.slice a9 rs.length c9) F g w2) => (show w2.cell? ⟨nb, m, none⟩ = some (.bool true) ∧ w2.cell? ⟨w4.heap.size, 0, none⟩ = some (.int .i64 k) ∧ w2.cell? ⟨w4.heap.size, 1, none⟩ = some (.int .u8 tc.toNat) ∧ w2.cell? ⟨w4.heap.size, 2, none⟩ = some (.bool neg) ∧ w2.cell? ⟨w4.heap.size, 3, none⟩ = some (.slice a9 rs.length c9) ∧ w2.cell? ⟨w4.heap.size + 1, m + 1, none⟩ = some (.bool (cellB w2 (w4.heap.size + 1) (m + 1))) ∧ w2.frozen? ⟨w4.heap.size + 1, m + 1, none⟩ = false from h.s16 hml hf))
              clear HS2 hf hac hcs hhv
              go_wp2_with fail
              go_region_held3 (fun W => W.cell? ⟨nb, m, none⟩ = some (.bool true) ∧ W.cell? ⟨w4.heap.size, 0, none⟩ = some (.int .i64 k) ∧ W.cell? ⟨w4.heap.size, 1, none⟩ = some (.int .u8 tc.toNat) ∧ W.cell? ⟨w4.heap.size, 2, none⟩ = some (.bool neg) ∧ W.cell? ⟨w4.heap.size, 3, none⟩ = some (.slice a9 rs.length c9) ∧ W.cell? ⟨w4.heap.size + 1, m + 1, none⟩ = some (.bool (cellB W (w4.heap.size + 1) (m + 1))) ∧ W.frozen? ⟨w4.heap.size + 1, m + 1, none⟩ = false) (first | with_reducible exact K0.out | with_reducible exact K2.out | with_reducible exact K3.out) (first | (go_at_call 79; (with_reducible refine HH.out.mono ?_); rintro e w2 ⟨rfl, hb2⟩; have HR2 := Lib.hid (HRD.out.next hb2); have K2 := Lib.hid (HS16.out _ _ HR2.out); have K3 := Lib.hid (HS16.out _ _ (HZ.out _ HR2.out)); clear hb2))
              have HY := Lib.hid (HZ.out _ HR2.out)
              clear K0 K2 K3 hm3 hm4 hm5 hm6 HH HS16 HZ
              go_wp2
              go_roundw
              case rel => exact ⟨m + 1, by go_num, by omega, HY⟩
              case measure => simp [intOf]; omega
          · have hmN : m = s.length := by omega
            subst hmN
            have HZ := Lib.hid (show BRow wr (w4.heap.size + 1) s.length (reachS (L.take (j + 1)) s) from HRR.out.nxt.ext (fun p hp => by rw [HSN.out]; simp [stepS, hp, HK3.out]))
            have hsz : w.heap.size ≤ w4.heap.size := HBL.out.size
            go_wp2
            go_roundw
            case rel => exact ⟨j + 1, _, by go_num, by omega, rfl, by omega, HZ, Lib.hid HRR.out.below⟩
            case measure => simp [intOf]; omega
    · have hjL : j = L.length := by omega
      subst hjL
      have HF := Lib.hid (show BRow w4 nb s.length (reachS L s) by have := HBR.out; rwa [List.take_length] at this)
      go_wp2
      go_ret
      exact ⟨⟨_, rfl, HF.out⟩, HBL.out⟩
theorem match_any (L : List GTok) (v : Value) (s : List UInt8) (w : World) (h : TokAt w v L) (hL : L.length ≤ 100000) (hk : TOk L) (hs : s.length ≤ 1000) :
    Calls Tryz.prog 18 #[v, .string ⟨s.toArray⟩] w fun e w' => e = .returned (.bool (matchS L s)) ∧ Below w.heap.size w w' := by
  have H1 := Lib.hid (reach_any L v s w h hL hk hs)
  obtain ⟨a, cap, rfl, _⟩ := h
  have hb1 : (s.length : Int) < (s.length : Int) + 1 := by omega
  have hb2 : s.length < s.length + 1 := by omega
  unfold matchS
  go_enter Tryz.func18, Tryz.ntmps18
  go_wp2_with (go_at_call 46; (with_reducible refine H1.out.mono ?_); rintro e w2 ⟨⟨b, rfl, hrow⟩, hb⟩; have hcell := hrow.cell s.length (Nat.le_refl _); have HB := Lib.hid hb; clear hrow hb)
  go_ret
  exact ⟨rfl, HB.out⟩
end Go.Proofs.YtggdedihfhibfaaGreatDoor
