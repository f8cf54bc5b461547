/- Texts of one proof, packed: GlB -/
import Derived.Test.YtggdedihfhibfaaGreatDoorR05
import Derived.Deep.RegionHeld3
import Derived.Deep.DeepCutAuto
import Derived.Deep.CutBlock
set_option linter.unusedVariables false
set_option linter.unusedSimpArgs false
set_option linter.deprecated false
set_option linter.unnecessarySimpa false
/- glob.pattern.class -/
namespace Go.Proofs.YtggdedihfhibfaaGreatDoor
open Go.RowKit IntWalk
set_option linter.unusedVariables false
set_option linter.unusedSimpArgs false

/-- what class hands back -/
def ClassPost (w : World) (c : Option (GTok × Nat)) (e : Ending) (w' : World) : Prop := Below w.heap.size w w' ∧ match c with
  | none => e = .returned (.tuple #[tokV 0 0 false (.slice none 0 0), .int .i64 0, .bool false])
  | some (t, n) => ∃ rv, e = .returned (.tuple #[tokV 4 0 t.neg rv, .int .i64 n, .bool true]) ∧ OwnR w' w.heap.size rv t.rs
theorem OwnR.mono {w : World} {base base' : Nat} {v : Value} {rs : List (UInt8 × UInt8)} (h : OwnR w base v rs) (hb : base' ≤ base) : OwnR w base' v rs := by
  obtain ⟨h3, hr⟩ := h
  refine ⟨h3, ?_⟩
  rcases hr with ⟨rfl, hn⟩ | ⟨g, cap, cur, rfl, hbg, hg, hr⟩
  · exact .inl ⟨rfl, hn⟩
  · exact .inr ⟨g, cap, cur, rfl, Nat.le_trans hb hbg, hg, hr⟩
section
variable {w w0 w' w9 W : World} {s : List UInt8} {q : List Bool} {v rv : Value} {neg : Bool} {rs : List (UInt8 × UInt8)} {n : Nat}
/-- class' own store of its answer -/
def putTok (W : World) (g : Nat) (a b c d : Value) : World := (((W.setCell ⟨g, 0, none⟩ a).setCell ⟨g, 1, none⟩ b).setCell ⟨g, 2, none⟩ c).setCell ⟨g, 3, none⟩ d
theorem putTok_at {g : Nat} {a b c d a' b' c' d' : Value} {ty : TypeId} (h : W.heap[g]? = some (.cells #[a', b', c', d'] ty (0, 0))) : (putTok W g a b c d).heap[g]? = some (.cells #[a, b, c, d] ty (0, 0)) := by
  unfold putTok
  simp [World.setCell, Array.getElem?_modify, h]
theorem putTok_ne {g k : Nat} {a b c d : Value} (h : k ≠ g) : (putTok W g a b c d).heap[k]? = W.heap[k]? := by
  unfold putTok
  rw [Below.heap_setCell _ _ _ _ (by rintro rfl; exact h rfl), Below.heap_setCell _ _ _ _ (by rintro rfl; exact h rfl), Below.heap_setCell _ _ _ _ (by rintro rfl; exact h rfl), Below.heap_setCell _ _ _ _ (by rintro rfl; exact h rfl)]
theorem putTok_below {B g : Nat} {a b c d : Value} {w : World} (h : Below B w W) (hB : B ≤ g) : Below B w (putTok W g a b c d) :=
  (((h.setCell (p := ⟨g, 0, none⟩) hB _).setCell (p := ⟨g, 1, none⟩) hB _).setCell (p := ⟨g, 2, none⟩) hB _).setCell (p := ⟨g, 3, none⟩) hB _
theorem post_some (h : CS w w0 s v neg w' rv rs) : ClassPost w (some (⟨4, 0, neg, rs⟩, n)) (.returned (.tuple #[.agg #[.int .i64 4, .int .u8 0, .bool neg, rv], .int .i64 n, .bool true])) (putTok w' (w.heap.size + 1) (.int .i64 4) (.int .u8 0) (.bool neg) rv) := by
  have hs := h.size
  exact ⟨putTok_below h.below (by omega), rv, rfl, (h.own.kept (fun k hk => putTok_ne (by have := (h.own.lt k hk).1; omega))).mono (by omega)⟩
theorem post_none (h : CS w w0 s v neg w' rv rs) : ClassPost w none (.returned (.tuple #[.agg #[.int .i64 0, .int .u8 0, .bool false, .slice none 0 0], .int .i64 0, .bool false])) (putTok w' (w.heap.size + 1) (.int .i64 0) (.int .u8 0) (.bool false) (.slice none 0 0)) :=
  ⟨putTok_below h.below (by omega), rfl⟩
theorem CS.turnable (h : CS w w0 s v neg W rv rs) : W.cell? ⟨w.heap.size + 1 + 1, 2, none⟩ = some (.bool neg) ∧ W.frozen? ⟨w.heap.size + 1 + 1, 2, none⟩ = false := by
  have ht := h.t
  exact ⟨by simp [World.cell?, ht], by simp [World.frozen?, ht]⟩
theorem CS.rcells (h : CS w w0 s v neg W rv rs) : W.cell? ⟨w.heap.size + 1, 0, none⟩ = some (.int .i64 0) ∧ W.cell? ⟨w.heap.size + 1, 1, none⟩ = some (.int .u8 0) ∧ W.cell? ⟨w.heap.size + 1, 2, none⟩ = some (.bool false) ∧ W.cell? ⟨w.heap.size + 1, 3, none⟩ = some (.slice none 0 0) ∧ W.frozen? ⟨w.heap.size + 1, 0, none⟩ = false ∧ W.frozen? ⟨w.heap.size + 1, 1, none⟩ = false ∧ W.frozen? ⟨w.heap.size + 1, 2, none⟩ = false ∧ W.frozen? ⟨w.heap.size + 1, 3, none⟩ = false := by
  have ht := h.r
  exact ⟨by simp [World.cell?, ht], by simp [World.cell?, ht], by simp [World.cell?, ht], by simp [World.cell?, ht], by simp [World.frozen?, ht], by simp [World.frozen?, ht], by simp [World.frozen?, ht], by simp [World.frozen?, ht]⟩
theorem atB_some {i : Nat} {b : UInt8} (h : s[i]? = some b) : atB s i = b := by unfold atB; rw [h]; rfl
theorem ranges_two {e f i : Nat} {a b : UInt8} (h1 : i + 2 < e) (h2 : plainS s q (i + 1) 45 = true) (ha : s[i]? = some a) (hb : s[i + 2]? = some b) : rangesS s q e (f + 1) i = (a, b) :: rangesS s q e f (i + 3) := by
  simp [rangesS, h1, h2, show i < e by omega, atB_some ha, atB_some hb]
theorem ranges_one {e f i : Nat} {a : UInt8} (h1 : i < e) (h2 : ¬ (i + 2 < e ∧ plainS s q (i + 1) 45 = true)) (ha : s[i]? = some a) : rangesS s q e (f + 1) i = (a, a) :: rangesS s q e f (i + 1) := by
  simp [rangesS, h1, h2, atB_some ha]
theorem ranges_end {e f i : Nat} (h1 : e ≤ i) : rangesS s q e f i = [] := by
  cases f with
  | zero => rfl
  | succ f => simp [rangesS, show ¬ i < e by omega]
end
set_option maxRecDepth 100000 in
set_option maxHeartbeats 20000000 in
theorem class_any (s : List UInt8) (q : List Bool) (v : Value) (i : Nat) (w : World) (hq : BoolsAt w v q) (hs : s.length ≤ 100000) (hi : i < s.length) (hql : q.length ≤ 9223372036854775807) :
    Calls Tryz.prog 75 #[patV s v, .int .i64 i] w (ClassPost w (classS s q i)) := by
  obtain ⟨W3, hW3⟩ : ∃ W3, ((w.alloc (.cells #[.string ⟨s.toArray⟩, v] 88)).alloc (.cells #[.int .i64 0, .int .u8 0, .bool false, .slice none 0 0] 49)).alloc (.cells #[.int .i64 4, .int .u8 0, .bool false, .slice none 0 0] 49) = W3 := ⟨_, rfl⟩
  have HC0 := Lib.hid (show CS w w s v false W3 (.slice none 0 0) [] by
    rw [← hW3]
    refine ⟨OwnR.nil _ _, ?_, ?_, ?_, ?_, by simp⟩
    · rw [Below.heap_alloc _ _ _ (by simp; omega), Below.heap_alloc _ _ _ (by simp)]; exact r_alloc_at _ _
    · rw [Below.heap_alloc _ _ _ (by simp)]
      have := r_alloc_at (w.alloc (.cells #[.string ⟨s.toArray⟩, v] 88)) (.cells #[.int .i64 0, .int .u8 0, .bool false, .slice none 0 0] 49)
      simpa using this
    · have := r_alloc_at ((w.alloc (.cells #[.string ⟨s.toArray⟩, v] 88)).alloc (.cells #[.int .i64 0, .int .u8 0, .bool false, .slice none 0 0] 49)) (.cells #[.int .i64 4, .int .u8 0, .bool false, .slice none 0 0] 49)
      simpa using this
    · exact (((Below.refl _ w).alloc (Nat.le_refl _) _).alloc (by simp) _).alloc (by simp; omega) _)
  have HW := Lib.hid hW3
  have HPL := Lib.hid (fun (W : World) (hb : Below w.heap.size w W) (k : Nat) (z : Int) (hz : z = k) (hk : k ≤ 100100) (c : UInt8) (y : Int) (hy : y = c.toNat) (t : Bool) (ht : plainS s q k c = t) => (show Calls Tryz.prog 74 #[patV s v, .int .i64 z, .int .u8 y] W fun e w' => e = .returned (.bool t) ∧ Below W.heap.size W w' by
    subst hz; subst hy; subst ht; exact plain_any s q v k c W (hq.below hb) hs hk hql))
  obtain ⟨a0, cap0, rfl, _⟩ := hq
  unfold patV at *
  obtain ⟨b0, b1, b2, b3⟩ := HC0.out.cells
  obtain ⟨C, hC⟩ : ∃ C, classS s q i = C := ⟨_, rfl⟩
  rw [hC]
  obtain ⟨t, ht⟩ : ∃ t, plainS s q (i + 1) 33 = t := ⟨_, rfl⟩
  have HCL := Lib.hid (show C = classRest s q t (if t then i + 2 else i + 1) by rw [← hC]; unfold classS; rw [ht]; cases t <;> rfl)
  have HP0 := Lib.hid (HPL.out W3 HC0.out.below (i + 1) ((i : Int) + 1) (by omega) (by omega) 33 33 rfl _ ht)
  clear hC ht hW3
  go_enter Tryz.func75, Tryz.ntmps75
  go_upto_if 14 with (go_at_call 74; rw [HW.out]; (with_reducible refine HP0.out.mono ?_); rintro e w2 ⟨rfl, hb2⟩; have HC1 := Lib.hid (HC0.out.next hb2); have x2 := HC1.out.turnable; clear hb2)
  go_cut [1] (fun iv W => ∃ (neg : Bool) (j : Nat), iv = .int .i64 j ∧ j ≤ s.length + 1 ∧ RowKit.Hid (C = classRest s q neg j) ∧ RowKit.Hid (CS w w s (.slice a0 q.length cap0) neg W (.slice none 0 0) []))
  case first =>
    obtain ⟨x3, x4⟩ := x2
    cases t
    · go_wp2_with fail
      go_meet
      exact ⟨false, i + 1, by go_num, by omega, HCL, HC1⟩
    · go_wp2_with fail
      go_meet
      exact ⟨true, i + 2, by go_num, by omega, HCL, Lib.hid HC1.out.turn⟩
  case rest =>
    clear b0 b1 b2 b3 HCL x2 HC1 HP0 HC0
    obtain ⟨neg, k, rfl, hk, HCL, HC1⟩ := hcut
    obtain ⟨E, hE⟩ : ∃ E, endS s q s.length (k + 1) = E := ⟨_, rfl⟩
    obtain ⟨R, hR⟩ : ∃ R, rangesS s q E s.length k = R := ⟨_, rfl⟩
    have HCN := Lib.hid (show s.length ≤ E → C = none by intro h; rw [HCL.out]; unfold classRest; rw [hE, if_pos h])
    have HCS := Lib.hid (show E < s.length → C = some (⟨4, 0, neg, R⟩, E + 1) by intro h; rw [HCL.out]; unfold classRest; rw [hE, hR, if_neg (by omega)])
    have HE := Lib.hid hE
    have HR := Lib.hid hR
    clear hE hR HCL
    go_wp2_with fail
    go_loopw [8] (fun ev W => ∃ (e f : Nat), ev = .int .i64 e ∧ RowKit.Hid (endS s q f e = E) ∧ s.length ≤ e + f ∧ k < e ∧ e ≤ s.length + 3 ∧ RowKit.Hid (CS w w s (.slice a0 q.length cap0) neg W (.slice none 0 0) [])) (fun ev _ => s.length + 5 - (intOf ev).toNat)
    case atStart => exact ⟨k + 1, s.length, by go_num, HE, by omega, by omega, by omega, HC1⟩
    case round =>
      obtain ⟨e, f, rfl, HEE, hf, hie, hes, HC⟩ := hrel
      obtain ⟨b0, b1, b2, b3⟩ := HC.out.cells
      by_cases hlt : e < s.length
      · obtain ⟨f, rfl⟩ : ∃ f', f = f' + 1 := ⟨f - 1, by omega⟩
        cases hpe : plainS s q e 93
        · have HP := Lib.hid (HPL.out wr HC.out.below e (e : Int) rfl (by omega) 93 93 rfl _ hpe)
          have HE2 := Lib.hid (show endS s q f (e + 1) = E by rw [← HEE.out]; simp [endS, hlt, hpe])
          clear hpe
          go_wp2_with (go_at_call 74; (with_reducible refine HP.out.mono ?_); rintro e w3 ⟨rfl, hb3⟩; have HC3 := Lib.hid (HC.out.next hb3); clear hb3)
          go_roundw
          case rel => exact ⟨e + 1, f, by go_num, HE2, by omega, by omega, by omega, HC3⟩
          case measure => simp [intOf]; omega
        · have HP := Lib.hid (HPL.out wr HC.out.below e (e : Int) rfl (by omega) 93 93 rfl _ hpe)
          obtain rfl : e = E := by rw [← HEE.out]; simp [endS, hpe]
          clear hpe
          have HC9 := Lib.hid (HCS.out hlt)
          have hd9 : decide (s.length ≤ e) = false := decide_eq_false (by omega)
          go_wp2_with (go_at_call 74; (with_reducible refine HP.out.mono ?_); rintro e w3 ⟨rfl, hb3⟩; have HC3 := Lib.hid (HC.out.next hb3); obtain ⟨d0, d1, d2, d3⟩ := HC3.out.cells; clear hb3)
          clear b0 b1 b2 b3 d0 d1 d2 d3
          go_loopw [1] (fun iv W => ∃ (j g : Nat) (rv : Value) (rs : List (UInt8 × UInt8)), iv = .int .i64 j ∧ RowKit.Hid (rs ++ rangesS s q e g j = R) ∧ e ≤ j + g ∧ rs.length ≤ j ∧ j ≤ s.length ∧ RowKit.Hid (CS w w s (.slice a0 q.length cap0) neg W rv rs)) (fun iv _ => s.length + 5 - (intOf iv).toNat)
          case atStart => exact ⟨k, s.length, _, [], rfl, HR, by omega, by simp, by omega, HC3⟩
          case round =>
            obtain ⟨j, g, rv, rs, rfl, HRR, hg, hrs, hj, HCC⟩ := hrel
            obtain ⟨d0, d1, d2, d3⟩ := HCC.out.cells
            by_cases hje : j < e
            · obtain ⟨g, rfl⟩ : ∃ g', g = g' + 1 := ⟨g - 1, by omega⟩
              have hjs : j < s.length := by omega
              obtain ⟨x, _, hx, hxs⟩ := str_at s j hjs
              obtain ⟨a9, c9, rfl⟩ := HCC.out.own.form
              by_cases hj2 : j + 2 < e
              · have hjs2 : j + 2 < s.length := by omega
                obtain ⟨y, _, hy, hys⟩ := str_at s (j + 2) hjs2
                cases hpd : plainS s q (j + 1) 45
                · have HP := Lib.hid (HPL.out wr HCC.out.below (j + 1) ((j : Int) + 1) (by omega) (by omega) 45 45 rfl _ hpd)
                  have HR2 := Lib.hid (show (rs ++ [(x, x)]) ++ rangesS s q e g (j + 1) = R by rw [← HRR.out, ranges_one hje (by rw [hpd]; simp) hxs]; simp)
                  clear hpd
                  have hl6 : rs.length ≤ 1000000 := by omega
                  go_upto_region 15 with (go_at_call 74; (with_reducible refine HP.out.mono ?_); rintro e w4 ⟨rfl, hb4⟩; have HC4 := Lib.hid (HCC.out.next hb4); obtain ⟨e0, e1, e2, e3⟩ := HC4.out.cells; clear hb4)
                  have L2 : (w4.alloc (.cells #[.int .u8 x.toNat, .int .u8 x.toNat] 193)).drew.cell? ⟨w.heap.size + 1 + 1, 3, none⟩ = some (.slice a9 rs.length c9) := (HC4.out.laid x x).cells.2.2.1
                  go_cut [] (fun wx => ∃ (g6 cap6 : Nat), RowKit.Hid (CS w w s (.slice a0 q.length cap0) neg wx (.slice (some ⟨g6, 0, none⟩) (rs.length + 1) cap6) (rs ++ [(x, x)])))
                  case first =>
                    clear HRR HCS HCN HC9 HE HR HEE HR2 HC3 HC HC1 HPL HW hg hrs hj hxs hie hes hd9 hf hys HP d0 d1 d2 d3 HCC
                    go_region_law (refine step_app_r rfl _ _ rfl HC4.out rfl rfl x x rfl hl6 ?_; intro g6 cap6 w6 hcs hk6; have HC6 := Lib.hid hcs; obtain ⟨f6, f7, f8⟩ := hk6; clear hcs)
                    all_goals (go_wp2_with fail; go_meet; exact ⟨_, _, HC6⟩)
                  case rest =>
                    obtain ⟨g6, cap6, HC6⟩ := hcut
                    go_wp2_with fail
                    go_roundw
                    case rel => exact ⟨j + 1, g, _, rs ++ [(x, x)], by go_num, HR2, by omega, by simp; omega, by omega, HC6⟩
                    case measure => simp [intOf]; omega
                · have HP := Lib.hid (HPL.out wr HCC.out.below (j + 1) ((j : Int) + 1) (by omega) (by omega) 45 45 rfl _ hpd)
                  have HR2 := Lib.hid (show (rs ++ [(x, y)]) ++ rangesS s q e g (j + 3) = R by rw [← HRR.out, ranges_two hj2 hpd hxs hys]; simp)
                  clear hpd
                  have hl6 : rs.length ≤ 1000000 := by omega
                  go_upto_region 13 with (go_at_call 74; (with_reducible refine HP.out.mono ?_); rintro e w4 ⟨rfl, hb4⟩; have HC4 := Lib.hid (HCC.out.next hb4); obtain ⟨e0, e1, e2, e3⟩ := HC4.out.cells; clear hb4)
                  have L2 : (w4.alloc (.cells #[.int .u8 x.toNat, .int .u8 y.toNat] 193)).drew.cell? ⟨w.heap.size + 1 + 1, 3, none⟩ = some (.slice a9 rs.length c9) := (HC4.out.laid x y).cells.2.2.1
                  go_cut [] (fun wx => ∃ (g6 cap6 : Nat), RowKit.Hid (CS w w s (.slice a0 q.length cap0) neg wx (.slice (some ⟨g6, 0, none⟩) (rs.length + 1) cap6) (rs ++ [(x, y)])))
                  case first =>
                    clear HRR HCS HCN HC9 HE HR HEE HR2 HC3 HC HC1 HPL HW hg hrs hj hxs hie hes hd9 hf hys HP d0 d1 d2 d3 HCC
                    have q1 : IntKind.i64.wrap ((j : Int) + 2) = (j : Int) + 2 := i64_in _ (by omega)
                    have q2 : (0 : Int) ≤ (j : Int) + 2 := by omega
                    have q3 : (j : Int) + 2 < s.length := by omega
                    have q4 : ((j : Int) + 2).toNat = j + 2 := by omega
                    go_region_law (refine step_app_r rfl _ _ rfl HC4.out rfl rfl x y rfl hl6 ?_; intro g6 cap6 w6 hcs hk6; have HC6 := Lib.hid hcs; obtain ⟨f6, f7, f8⟩ := hk6; clear hcs)
                    all_goals (go_wp2_with fail; go_meet; exact ⟨_, _, HC6⟩)
                  case rest =>
                    obtain ⟨g6, cap6, HC6⟩ := hcut
                    go_wp2_with fail
                    go_roundw
                    case rel => exact ⟨j + 3, g, _, rs ++ [(x, y)], by go_num, HR2, by omega, by simp; omega, by omega, HC6⟩
                    case measure => simp [intOf]; omega
              · have HR2 := Lib.hid (show (rs ++ [(x, x)]) ++ rangesS s q e g (j + 1) = R by rw [← HRR.out, ranges_one hje (fun q => hj2 q.1) hxs]; simp)
                have hl6 : rs.length ≤ 1000000 := by omega
                go_upto_region 15 with (fail)
                have L2 : (wr.alloc (.cells #[.int .u8 x.toNat, .int .u8 x.toNat] 193)).drew.cell? ⟨w.heap.size + 1 + 1, 3, none⟩ = some (.slice a9 rs.length c9) := (HCC.out.laid x x).cells.2.2.1
                go_cut [] (fun wx => ∃ (g6 cap6 : Nat), RowKit.Hid (CS w w s (.slice a0 q.length cap0) neg wx (.slice (some ⟨g6, 0, none⟩) (rs.length + 1) cap6) (rs ++ [(x, x)])))
                case first =>
                  clear HRR HCS HCN HC9 HE HR HEE HR2 HC3 HC HC1 HPL HW hg hrs hj hxs hie hes hd9 hf
                  go_region_law (refine step_app_r rfl _ _ rfl HCC.out rfl rfl x x rfl hl6 ?_; intro g6 cap6 w6 hcs hk6; have HC6 := Lib.hid hcs; obtain ⟨f6, f7, f8⟩ := hk6; clear hcs)
                  all_goals (go_wp2_with fail; go_meet; exact ⟨_, _, HC6⟩)
                case rest =>
                  obtain ⟨g6, cap6, HC6⟩ := hcut
                  go_wp2_with fail
                  go_roundw
                  case rel => exact ⟨j + 1, g, _, rs ++ [(x, x)], by go_num, HR2, by omega, by simp; omega, by omega, HC6⟩
                  case measure => simp [intOf]; omega
            · obtain rfl : rs = R := by rw [← HRR.out, ranges_end (by omega)]; simp
              have HF := Lib.hid (show ClassPost w C (.returned (.tuple #[.agg #[.int .i64 4, .int .u8 0, .bool neg, rv], .int .i64 (e + 1), .bool true])) (putTok wr (w.heap.size + 1) (.int .i64 4) (.int .u8 0) (.bool neg) rv) by
                rw [HC9.out]; exact post_some HCC.out)
              have HX := Lib.hid (putTok_at (a := .int .i64 4) (b := .int .u8 0) (c := .bool neg) (d := rv) HCC.out.r)
              obtain ⟨t0, t1, t2⟩ := HCC.out.tcells
              obtain ⟨z0, z1, z2, z3, y0, y1, y2, y3⟩ := HCC.out.rcells
              obtain ⟨a9, c9, rfl⟩ := HCC.out.own.form
              unfold putTok at HF HX
              go_wp2_with fail
              refine bodyPost_ret (class_ret _ _ _ _ _ _ _ _ HX.out rfl _ rfl rfl rfl) rfl ?_
              exact HF.out
      · have HF := Lib.hid (show ClassPost w C (.returned (.tuple #[.agg #[.int .i64 0, .int .u8 0, .bool false, .slice none 0 0], .int .i64 0, .bool false])) (putTok wr (w.heap.size + 1) (.int .i64 0) (.int .u8 0) (.bool false) (.slice none 0 0)) by
          rw [HCN.out (by rw [← HEE.out]; cases f with | zero => exact Nat.le_of_not_lt hlt | succ f => simp [endS, hlt]; omega)]; exact post_none HC.out)
        have HX := Lib.hid (putTok_at (a := .int .i64 0) (b := .int .u8 0) (c := .bool false) (d := .slice none 0 0) HC.out.r)
        obtain ⟨z0, z1, z2, z3, y0, y1, y2, y3⟩ := HC.out.rcells
        have hge : s.length ≤ e := by omega
        have hd9 : decide (s.length ≤ e) = true := decide_eq_true hge
        unfold putTok at HF HX
        go_wp2_with fail
        refine bodyPost_ret (class_ret _ _ _ _ _ _ _ _ HX.out rfl _ rfl rfl rfl) rfl ?_
        exact HF.out
end Go.Proofs.YtggdedihfhibfaaGreatDoor
