/- Texts of one proof, packed: GlD -/
import Derived.Test.YtggdedihfhibfaaGreatDoorR05
set_option linter.unusedVariables false
set_option linter.unusedSimpArgs false
set_option linter.deprecated false
set_option linter.unnecessarySimpa false
/- glob.Special; tokens as they lie. -/
namespace Go.Proofs.YtggdedihfhibfaaGreatDoor
open Go.RowKit IntWalk
set_option linter.unusedVariables false
set_option linter.unusedSimpArgs false

/-- a token's cells -/
def TokCells (W : World) (b k : Nat) (t : GTok) : Prop := ∃ rv, W.cell? ⟨b, k, none⟩ = some (.int .i64 t.k) ∧ W.cell? ⟨b, k + 1, none⟩ = some (.int .u8 t.c.toNat) ∧ W.cell? ⟨b, k + 2, none⟩ = some (.bool t.neg) ∧ W.cell? ⟨b, k + 3, none⟩ = some rv ∧ OwnR W 0 rv t.rs
/-- tokens in a row -/
def TokAt (W : World) (v : Value) (L : List GTok) : Prop := ∃ a cap, v = .slice a L.length cap ∧ (0 < L.length → ∃ b, a = some ⟨b, 0, none⟩ ∧ b < W.heap.size ∧ ∀ (i : Nat) (t : GTok), L[i]? = some t → TokCells W b (i * 4) t)
theorem TokAt.below {W W' : World} {v : Value} {L : List GTok} (h : TokAt W v L) (hb : Below W.heap.size W W') : TokAt W' v L := by
  obtain ⟨a, cap, rfl, hs⟩ := h
  refine ⟨a, cap, rfl, fun h0 => ?_⟩
  obtain ⟨b, rfl, hl, hc⟩ := hs h0
  refine ⟨b, rfl, Nat.lt_of_lt_of_le hl hb.size, fun i t ht => ?_⟩
  obtain ⟨rv, c0, c1, c2, c3, c4⟩ := hc i t ht
  exact ⟨rv, (hb.cell (p := ⟨b, _, none⟩) hl).trans c0, (hb.cell (p := ⟨b, _, none⟩) hl).trans c1, (hb.cell (p := ⟨b, _, none⟩) hl).trans c2, (hb.cell (p := ⟨b, _, none⟩) hl).trans c3, c4.below hb⟩
def specialS (L : List GTok) : Bool := L.any fun t => t.k != 1
set_option maxRecDepth 100000 in
theorem special1 (t : GTok) (rv : Value) (w : World) (hk : t.k ≤ 4) (hrv : ∃ a n c, rv = .slice a n c) :
    Calls Tryz.prog 45 #[tokV t.k t.c t.neg rv] w fun e w' => e = .returned (.bool (t.k != 1)) ∧ Below w.heap.size w w' := by
  have hB := (Below.refl w.heap.size w).alloc (Nat.le_refl _) (.cells #[.int .i64 t.k, .int .u8 t.c.toNat, .bool t.neg, rv] 49)
  obtain ⟨a, n, c, rfl⟩ := hrv
  unfold tokV
  by_cases h1 : t.k = 1
  · rw [h1] at hB ⊢
    go_enter Tryz.func45, Tryz.ntmps45
    go_wp2
    go_ret
    exact ⟨rfl, hB⟩
  · have h2 : (t.k != 1) = true := by simpa using h1
    have h3 : ((t.k : Int) != 1) = true := by simp; omega
    rw [h2]
    go_enter Tryz.func45, Tryz.ntmps45
    go_wp2
    go_ret
    exact ⟨rfl, hB⟩
def KOk (L : List GTok) : Prop := ∀ t ∈ L, t.k ≤ 4
set_option maxRecDepth 100000 in
set_option maxHeartbeats 1000000 in
theorem tokidx_any (L : List GTok) (v : Value) (w : World) (h : TokAt w v L) (hL : L.length ≤ 100000) (hk : KOk L) :
    Calls Tryz.prog 78 #[v, .func (.func 45) #[] #[]] w fun e w' => (∃ z : Int, e = .returned (.int .i64 z) ∧ (decide (0 ≤ z) = specialS L)) ∧ Below w.heap.size w w' := by
  obtain ⟨a, cap, rfl, hs⟩ := h
  by_cases hL0 : L = []
  · subst hL0
    go_enter Tryz.func78, Tryz.ntmps78
    go_wp2
    go_loopw [8] (fun iv W => iv = .int .i64 0 ∧ W = w) (fun _ _ => 0)
    case atStart => exact ⟨rfl, rfl⟩
    case round =>
      obtain ⟨rfl, rfl⟩ := hrel
      go_wp2
      go_ret
      exact ⟨⟨_, rfl, rfl⟩, Below.refl _ _⟩
  · obtain ⟨b, rfl, hl, hc⟩ := hs (by rw [List.length_pos_iff]; exact hL0)
    have HC := Lib.hid hc
    clear hc hs
    go_enter Tryz.func78, Tryz.ntmps78
    go_wp2
    go_loopw [8, 5] (fun iv jv W => ∃ j : Nat, iv = .int .i64 j ∧ j ≤ L.length ∧ RowKit.Hid (specialS (L.take j) = false) ∧ RowKit.Hid (Below w.heap.size w W)) (fun iv _ _ => L.length - (intOf iv).toNat)
    case atStart => exact ⟨0, rfl, by omega, Lib.hid rfl, Lib.hid (Below.refl _ _)⟩
    case round =>
      obtain ⟨j, rfl, hj, HT, HB⟩ := hrel
      by_cases hlt : j < L.length
      · obtain ⟨t, ht⟩ : ∃ t, L[j]? = some t := ⟨L[j], List.getElem?_eq_getElem hlt⟩
        obtain ⟨rv, c0, c1, c2, c3, c4⟩ := HC.out j t ht
        have hb := HB.out
        have d0 := (hb.cell (p := ⟨b, _, none⟩) hl).trans c0
        have d1 := (hb.cell (p := ⟨b, _, none⟩) hl).trans c1
        have d2 := (hb.cell (p := ⟨b, _, none⟩) hl).trans c2
        have d3 := (hb.cell (p := ⟨b, _, none⟩) hl).trans c3
        have HS := Lib.hid (special1 t rv wr (hk t (List.mem_of_getElem? ht)) (by obtain ⟨a, c, e⟩ := c4.form; exact ⟨_, _, _, e⟩))
        have hsp : specialS (L.take (j + 1)) = (t.k != 1) := by
          rw [List.take_add_one, ht]
          have := HT.out
          unfold specialS at this ⊢
          rw [List.any_append, this]; simp
        obtain ⟨av, nv, cv, e⟩ : ∃ a n c, rv = .slice a n c := by obtain ⟨a, c, e⟩ := c4.form; exact ⟨_, _, _, e⟩
        subst e
        have HSP := Lib.hid hsp
        clear c0 c1 c2 c3 c4 hb hsp
        unfold tokV at HS
        have hlt2 : (j : Int) < L.length := by omega
        cases hk1 : (t.k != 1)
        · rw [hk1] at HS
          go_wp2_with (go_at_call 45; (with_reducible refine HS.out.mono ?_); rintro e w2 ⟨rfl, hb2⟩)
          go_roundw
          case rel => exact ⟨j + 1, by go_num, by omega, Lib.hid (HSP.out.trans hk1), Lib.hid (HB.out.trans (hb2.mono HB.out.size))⟩
          case measure => simp [intOf]; omega
        · rw [hk1] at HS
          go_wp2_with (go_at_call 45; (with_reducible refine HS.out.mono ?_); rintro e w2 ⟨rfl, hb2⟩)
          go_ret
          refine ⟨⟨_, rfl, ?_⟩, HB.out.trans (hb2.mono HB.out.size)⟩
          have h1 : specialS L = true := by
            unfold specialS
            rw [List.any_eq_true]
            exact ⟨t, List.mem_of_getElem? ht, hk1⟩
          rw [h1]; simp
      · have hjL : j = L.length := by omega
        subst hjL
        go_wp2
        go_ret
        refine ⟨⟨_, rfl, ?_⟩, HB.out⟩
        have := HT.out
        rw [List.take_length] at this
        rw [this]; rfl
set_option maxRecDepth 100000 in
theorem special_any (L : List GTok) (v : Value) (w : World) (h : TokAt w v L) (hL : L.length ≤ 100000) (hk : KOk L) :
    Calls Tryz.prog 17 #[v] w fun e w' => e = .returned (.bool (specialS L)) ∧ Below w.heap.size w w' := by
  have H1 := Lib.hid (tokidx_any L v w h hL hk)
  obtain ⟨a, cap, rfl, _⟩ := h
  have H2 := Lib.hid (show Calls Tryz.prog 44 #[.slice a L.length cap, .func (.func 45) #[] #[]] w fun e w' => e = .returned (.bool (specialS L)) ∧ Below w.heap.size w w' by
    go_enter Tryz.func44, Tryz.ntmps44
    go_wp2_with (go_at_call 78; (with_reducible refine H1.out.mono ?_); rintro e w2 ⟨⟨z, rfl, hz⟩, hb⟩)
    go_ret
    exact ⟨rfl, hb⟩)
  clear H1
  go_enter Tryz.func17, Tryz.ntmps17
  go_wp2_with (go_at_call 44; (with_reducible refine H2.out.mono ?_); rintro e w2 ⟨rfl, hb⟩)
  go_ret
  exact ⟨rfl, hb⟩
end Go.Proofs.YtggdedihfhibfaaGreatDoor
