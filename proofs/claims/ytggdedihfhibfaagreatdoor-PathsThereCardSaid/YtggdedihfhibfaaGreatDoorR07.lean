/- Texts of one proof, packed: GlF -/
import Derived.Test.YtggdedihfhibfaaGreatDoorR06
import Derived.Deep.RegionHeld3
set_option linter.unusedVariables false
set_option linter.unusedSimpArgs false
set_option linter.deprecated false
set_option linter.unnecessarySimpa false
/- glob.Token.has -/
namespace Go.Proofs.YtggdedihfhibfaaGreatDoor
open Go.RowKit IntWalk
set_option linter.unusedVariables false
set_option linter.unusedSimpArgs false

def inR (c : UInt8) (r : UInt8 × UInt8) : Bool := decide (r.1 ≤ c) && decide (c ≤ r.2)
def rngHas (c : UInt8) (rs : List (UInt8 × UInt8)) : Bool := rs.any (inR c)
def hasS (t : GTok) (c : UInt8) : Bool := if t.k = 1 then t.c == c else if t.k = 2 then true else if t.k = 4 then (rngHas c t.rs != t.neg) else false
theorem u8_le (a b : UInt8) : decide ((a.toNat : Int) ≤ (b.toNat : Int)) = decide (a ≤ b) := by
  rw [Bool.eq_iff_iff, decide_eq_true_iff, decide_eq_true_iff, UInt8.le_iff_toNat_le]; omega
theorem OwnR.cellsAt {w : World} {base : Nat} {v : Value} {rs : List (UInt8 × UInt8)} (h : OwnR w base v rs) (h0 : rs ≠ []) : ∃ g cap, v = .slice (some ⟨g, 0, none⟩) rs.length cap ∧ g < w.heap.size ∧ ∀ (j : Nat) (r : UInt8 × UInt8), rs[j]? = some r → w.cell? ⟨g, j * 2, none⟩ = some (.int .u8 r.1.toNat) ∧ w.cell? ⟨g, j * 2 + 1, none⟩ = some (.int .u8 r.2.toNat) := by
  obtain ⟨h3, hr⟩ := h
  rcases hr with ⟨rfl, hn⟩ | ⟨g, cap, cur, rfl, hbg, hg, hnc, hcm, hcs, htk⟩
  · exact absurd (List.eq_nil_of_length_eq_zero hn) h0
  · refine ⟨g, cap, rfl, blk_lt hg, fun j r hj => ?_⟩
    have hjl : j < rs.length := (List.getElem?_eq_some_iff.1 hj).1
    have key : ∀ (L : List (UInt8 × UInt8)) (k i : Nat) (x : UInt8 × UInt8), L[k]? = some x → i < 2 → ((L.map rngA).flatMap Array.toList)[k * 2 + i]? = (rngA x)[i]? := by
      intro L
      induction L with
      | nil => intro k i x hk; simp at hk
      | cons y L ih =>
        intro k i x hk hi
        cases k with
        | zero =>
          simp at hk
          subst hk
          rw [List.map_cons, List.flatMap_cons, List.getElem?_append_left (by simp [rngA]; omega)]
          simp
        | succ k =>
          rw [List.map_cons, List.flatMap_cons, List.getElem?_append_right (by simp [rngA]; omega)]
          have e : (k + 1) * 2 + i - (rngA y).toList.length = k * 2 + i := by simp [rngA]; omega
          rw [e]
          exact ih k i x (by simpa using hk) hi
    have hc : ∀ i, i < 2 → cur[j * 2 + i]? = (rngA r)[i]? := fun i hi => by
      have h4 := key rs j i r hj hi
      rw [← htk, List.getElem?_take_of_lt (by omega), Array.getElem?_toList] at h4
      exact h4
    have c0 := hc 0 (by omega)
    have c1 := hc 1 (by omega)
    simp [rngA] at c0 c1
    exact ⟨by simp [World.cell?, hg, c0], by simp [World.cell?, hg, c1]⟩
set_option maxRecDepth 100000 in
theorem has1_any (c : UInt8) (r : UInt8 × UInt8) (cb : Nat) (w : World) (hc : w.cell? ⟨cb, 0, none⟩ = some (.int .u8 c.toNat)) :
    Calls Tryz.prog 119 #[.agg #[.int .u8 r.1.toNat, .int .u8 r.2.toNat], .pointer (some ⟨cb, 0, none⟩)] w fun e w' => e = .returned (.bool (inR c r)) ∧ Below w.heap.size w w' := by
  have hB := (Below.refl w.heap.size w).alloc (Nat.le_refl _) (.cells #[.int .u8 r.1.toNat, .int .u8 r.2.toNat] 193)
  have hl := World.block_lt_of_cell? w _ hc
  have hl2 : cb < w.heap.size := hl
  have e1 := u8_le r.1 c
  have e2 := u8_le c r.2
  unfold inR
  by_cases h1 : r.1 ≤ c
  · have h1' : (r.1.toNat : Int) ≤ c.toNat := by have := UInt8.le_iff_toNat_le.1 h1; omega
    rw [decide_eq_true h1]
    by_cases h2 : c ≤ r.2
    · have h2' : (c.toNat : Int) ≤ r.2.toNat := by have := UInt8.le_iff_toNat_le.1 h2; omega
      rw [decide_eq_true h2]
      clear e1 e2
      go_enter Tryz.func119, Tryz.ntmps119
      go_wp2
      go_ret
      exact ⟨by (simp <;> omega), hB⟩
    · have h2n : r.2.toNat < c.toNat := Nat.lt_of_not_le (fun q => h2 (UInt8.le_iff_toNat_le.2 q))
      have h2' : (r.2.toNat : Int) < c.toNat := by omega
      rw [decide_eq_false h2]
      clear e1 e2
      go_enter Tryz.func119, Tryz.ntmps119
      go_wp2
      go_ret
      exact ⟨by (simp <;> omega), hB⟩
  · have h1n : c.toNat < r.1.toNat := Nat.lt_of_not_le (fun q => h1 (UInt8.le_iff_toNat_le.2 q))
    have h1' : (c.toNat : Int) < r.1.toNat := by omega
    rw [decide_eq_false h1]
    clear e1 e2
    go_enter Tryz.func119, Tryz.ntmps119
    go_wp2
    go_ret
    exact ⟨by (simp <;> omega), hB⟩
set_option maxRecDepth 100000 in
set_option maxHeartbeats 1000000 in
theorem rngidx_any (c : UInt8) (rs : List (UInt8 × UInt8)) (v : Value) (cb : Nat) (w : World) (h : OwnR w 0 v rs) (hL : rs.length ≤ 100000) (hc : w.cell? ⟨cb, 0, none⟩ = some (.int .u8 c.toNat)) :
    Calls Tryz.prog 150 #[v, .func (.func 119) #[] #[.pointer (some ⟨cb, 0, none⟩)]] w fun e w' => (∃ z : Int, e = .returned (.int .i64 z) ∧ (decide (0 ≤ z) = rngHas c rs)) ∧ Below w.heap.size w w' := by
  by_cases hL0 : rs = []
  · subst hL0
    obtain ⟨a, cap, rfl⟩ := h.form
    go_enter Tryz.func150, Tryz.ntmps150
    go_wp2
    go_loopw [8] (fun iv W => iv = .int .i64 0 ∧ W = w) (fun _ _ => 0)
    case atStart => exact ⟨rfl, rfl⟩
    case round =>
      obtain ⟨rfl, rfl⟩ := hrel
      go_wp2
      go_ret
      exact ⟨⟨_, rfl, rfl⟩, Below.refl _ _⟩
  · obtain ⟨b, cap, rfl, hl, hcs⟩ := h.cellsAt hL0
    have HC := Lib.hid hcs
    have HCB := Lib.hid hc
    have hlc := World.block_lt_of_cell? w _ hc
    clear hcs hc h
    go_enter Tryz.func150, Tryz.ntmps150
    go_wp2
    go_loopw [8, 5] (fun iv jv W => ∃ j : Nat, iv = .int .i64 j ∧ j ≤ rs.length ∧ RowKit.Hid (rngHas c (rs.take j) = false) ∧ RowKit.Hid (Below w.heap.size w W)) (fun iv _ _ => rs.length - (intOf iv).toNat)
    case atStart => exact ⟨0, rfl, by omega, Lib.hid rfl, Lib.hid (Below.refl _ _)⟩
    case round =>
      obtain ⟨j, rfl, hj, HT, HB⟩ := hrel
      by_cases hlt : j < rs.length
      · obtain ⟨t, ht⟩ : ∃ t, rs[j]? = some t := ⟨rs[j], List.getElem?_eq_getElem hlt⟩
        obtain ⟨c0, c1⟩ := HC.out j t ht
        have hb := HB.out
        have d0 := (hb.cell (p := ⟨b, _, none⟩) hl).trans c0
        have d1 := (hb.cell (p := ⟨b, _, none⟩) hl).trans c1
        have HS := Lib.hid (has1_any c t cb wr ((hb.cell hlc).trans HCB.out))
        have hsp : rngHas c (rs.take (j + 1)) = inR c t := by
          rw [List.take_add_one, ht]
          have := HT.out
          unfold rngHas at this ⊢
          rw [List.any_append, this]; simp
        have HSP := Lib.hid hsp
        clear c0 c1 hb hsp
        have hlt2 : (j : Int) < rs.length := by omega
        cases hk1 : inR c t
        · rw [hk1] at HS
          go_wp2_with (go_at_call 119; (with_reducible refine HS.out.mono ?_); rintro e w2 ⟨rfl, hb2⟩)
          go_roundw
          case rel => exact ⟨j + 1, by go_num, by omega, Lib.hid (HSP.out.trans hk1), Lib.hid (HB.out.trans (hb2.mono HB.out.size))⟩
          case measure => simp [intOf]; omega
        · rw [hk1] at HS
          go_wp2_with (go_at_call 119; (with_reducible refine HS.out.mono ?_); rintro e w2 ⟨rfl, hb2⟩)
          go_ret
          refine ⟨⟨_, rfl, ?_⟩, HB.out.trans (hb2.mono HB.out.size)⟩
          have h1 : rngHas c rs = true := by
            unfold rngHas
            rw [List.any_eq_true]
            exact ⟨t, List.mem_of_getElem? ht, hk1⟩
          rw [h1]; simp
      · have hjL : j = rs.length := by omega
        subst hjL
        go_wp2
        go_ret
        refine ⟨⟨_, rfl, ?_⟩, HB.out⟩
        have := HT.out
        rw [List.take_length] at this
        rw [this]; rfl
theorem rnghas_any (c : UInt8) (rs : List (UInt8 × UInt8)) (v : Value) (cb : Nat) (w : World) (h : OwnR w 0 v rs) (hL : rs.length ≤ 100000) (hc : w.cell? ⟨cb, 0, none⟩ = some (.int .u8 c.toNat)) :
    Calls Tryz.prog 118 #[v, .func (.func 119) #[] #[.pointer (some ⟨cb, 0, none⟩)]] w fun e w' => e = .returned (.bool (rngHas c rs)) ∧ Below w.heap.size w w' := by
  have H1 := Lib.hid (rngidx_any c rs v cb w h hL hc)
  obtain ⟨a, cap, rfl⟩ := h.form
  go_enter Tryz.func118, Tryz.ntmps118
  go_wp2_with (go_at_call 150; (with_reducible refine H1.out.mono ?_); rintro e w2 ⟨⟨z, rfl, hz⟩, hb⟩)
  go_ret
  exact ⟨rfl, hb⟩
set_option maxRecDepth 100000 in
set_option maxHeartbeats 1000000 in
theorem has_any (t : GTok) (rv : Value) (c : UInt8) (w : World) (hr : OwnR w 0 rv t.rs) (hk : t.k ≤ 4) (hL : t.rs.length ≤ 100000) :
    Calls Tryz.prog 79 #[tokV t.k t.c t.neg rv, .int .u8 c.toNat] w fun e w' => e = .returned (.bool (hasS t c)) ∧ Below w.heap.size w w' := by
  obtain ⟨a, cap, e⟩ := hr.form
  obtain ⟨k, tc, neg, rs⟩ := t
  dsimp only at e hk hL hr ⊢
  subst e
  unfold tokV hasS
  dsimp only
  have hB := ((Below.refl w.heap.size w).alloc (Nat.le_refl _) (.cells #[.int .i64 k, .int .u8 tc.toNat, .bool neg, .slice a rs.length cap] 49)).alloc (by simp) (.cells #[.int .u8 c.toNat] 5)
  by_cases h1 : k = 1
  · subst h1
    have e1 := byte_eq tc c
    by_cases hcc : tc = c
    · subst hcc
      go_enter Tryz.func79, Tryz.ntmps79
      go_wp2
      go_ret
      exact ⟨by simp, hB⟩
    · have hbf : (tc == c) = false := by simpa using hcc
      rw [hbf] at e1
      go_enter Tryz.func79, Tryz.ntmps79
      go_wp2
      go_ret
      exact ⟨by simp [hbf, e1], hB⟩
  · rw [if_neg h1]
    have q1 : ((k : Int) == 1) = false := by simp; omega
    have q1' : ¬ ((k : Int) = 1) := by omega
    by_cases h2 : k = 2
    · subst h2
      go_enter Tryz.func79, Tryz.ntmps79
      go_wp2
      go_ret
      exact ⟨rfl, hB⟩
    · rw [if_neg h2]
      have q2 : ((k : Int) == 2) = false := by simp; omega
      have q2' : ¬ ((k : Int) = 2) := by omega
      by_cases h4 : k = 4
      · subst h4
        obtain ⟨W2, hW2⟩ : ∃ W2, (w.alloc (.cells #[.int .i64 4, .int .u8 tc.toNat, .bool neg, .slice a rs.length cap] 49)).alloc (.cells #[.int .u8 c.toNat] 5) = W2 := ⟨_, rfl⟩
        have hB2 : Below w.heap.size w W2 := by rw [← hW2]; exact hB
        have hc2 : W2.heap[w.heap.size + 1]? = some (.cells #[.int .u8 c.toNat] 5 (0, 0)) := by rw [← hW2]; have := r_alloc_at (w.alloc (.cells #[.int .i64 4, .int .u8 tc.toNat, .bool neg, .slice a rs.length cap] 49)) (.cells #[.int .u8 c.toNat] 5); simpa using this
        have ht2 : W2.heap[w.heap.size]? = some (.cells #[.int .i64 4, .int .u8 tc.toNat, .bool neg, .slice a rs.length cap] 49 (0, 0)) := by rw [← hW2, Below.heap_alloc _ _ _ (by simp)]; exact r_alloc_at _ _
        have HCF := Lib.hid (rnghas_any c rs (.slice a rs.length cap) (w.heap.size + 1) W2.drew (hr.below (hB2.drew)) hL (by show W2.cell? _ = _; simp [World.cell?, hc2]))
        have t2 : W2.cell? ⟨w.heap.size, 2, none⟩ = some (.bool neg) := by simp [World.cell?, ht2]
        have t3 : W2.cell? ⟨w.heap.size, 3, none⟩ = some (.slice a rs.length cap) := by simp [World.cell?, ht2]
        have HK := Lib.hid (show ∀ w', Below W2.drew.heap.size W2.drew w' → (w'.cell? ⟨w.heap.size, 2, none⟩ = some (.bool neg) ∧ w'.cell? ⟨w.heap.size, 3, none⟩ = some (.slice a rs.length cap)) from fun w' hb => ⟨(hb.cell (p := ⟨w.heap.size, 2, none⟩) (blk_lt ht2)).trans t2, (hb.cell (p := ⟨w.heap.size, 3, none⟩) (blk_lt ht2)).trans t3⟩)
        have HW2 := Lib.hid hW2
        have K0 := Lib.hid (show (W2.drew.cell? ⟨w.heap.size, 2, none⟩ = some (.bool neg) ∧ W2.drew.cell? ⟨w.heap.size, 3, none⟩ = some (.slice a rs.length cap)) from ⟨t2, t3⟩)
        have HBB := Lib.hid hB2
        clear hB hB2 hW2 hc2 ht2
        go_enter Tryz.func79, Tryz.ntmps79
        go_wp2
        rw [HW2.out]
        go_region_held3 (fun W => W.cell? ⟨w.heap.size, 2, none⟩ = some (.bool neg) ∧ W.cell? ⟨w.heap.size, 3, none⟩ = some (.slice a rs.length cap)) (first | with_reducible exact K0.out | with_reducible exact K2.out) (first | (go_at_call 118; (with_reducible refine HCF.out.mono ?_); rintro e w2 ⟨rfl, hb2⟩; have K2 := Lib.hid (HK.out w2 hb2); have HB9 := Lib.hid hb2; clear hb2))
        have HZ := Lib.hid (HBB.out.drew.trans (HB9.out.mono HBB.out.size))
        clear K2 K0 HK HB9 HBB HW2 HCF t2 t3
        go_wp2
        go_ret
        refine ⟨?_, HZ.out⟩
        cases rngHas c rs <;> cases neg <;> rfl
      · rw [if_neg h4]
        have q4 : ((k : Int) == 4) = false := by simp; omega
        have q4' : ¬ ((k : Int) = 4) := by omega
        go_enter Tryz.func79, Tryz.ntmps79
        go_wp2
        go_ret
        exact ⟨rfl, hB⟩
end Go.Proofs.YtggdedihfhibfaaGreatDoor
