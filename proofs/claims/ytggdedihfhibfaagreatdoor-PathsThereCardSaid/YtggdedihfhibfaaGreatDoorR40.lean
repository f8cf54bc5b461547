/- Texts of one proof, packed: PtF, PtH -/
import Derived.Test.YtggdedihfhibfaaGreatDoorR39
import Derived.Lib.SliceRun
import Derived.Test.YtggdedihfhibfaaGreatDoorR36
set_option linter.unusedVariables false
set_option linter.unusedSimpArgs false
set_option linter.deprecated false
set_option linter.unnecessarySimpa false
/- slices.DeleteFunc over begins: what is not there goes. -/
namespace Go.Proofs.YtggdedihfhibfaaGreatDoor
open Go.RowKit IntWalk
set_option linter.unusedVariables false
set_option linter.unusedSimpArgs false

section
variable {W0 : World} {s : Fs} {lay : FId → Nat}
set_option maxRecDepth 100000 in
theorem exp2_any (hE : EnvG W0) (fb db : Nat) (dir : Int) (b : List UInt8) (w : World) (h : FsIn W0 s lay w) (hf : w.cell? ⟨fb, 0, none⟩ = some (ptrTo (lay .F))) (hd : w.cell? ⟨db, 0, none⟩ = some (.int .i64 dir)) :
    Calls Tryz.prog 34 #[.string ⟨b.toArray⟩, .pointer (some ⟨fb, 0, none⟩), .pointer (some ⟨db, 0, none⟩)] w fun e w' => e = .returned (.bool (!s.isS dir b)) ∧ Below w.heap.size w w' := by
  have HW := Lib.hid (walk_any hE dir b false w h)
  have HI := Lib.hid h.is
  have HS := Lib.hid (show s.isS dir b = ((s.walkS dir b false).2 == 0) from rfl)
  obtain ⟨zn, ze, hz⟩ : ∃ a c, s.walkS dir b false = (a, c) := ⟨_, _, rfl⟩
  rw [hz] at HW HS
  clear hz h
  unfold ptrTo at *
  go_enter Tryz.func34, Tryz.ntmps34
  go_wp2_with (go_at_call 14; (with_reducible refine HW.out.mono ?_); rintro e w1 ⟨rfl, hst⟩; have HB := Lib.hid (Step.below HI.out hst); clear hst)
  go_ret
  exact ⟨by rw [HS.out]; rfl, HB.out⟩
/-- what is asked of the world for the predicate -/
structure DelAt (W0 : World) (s : Fs) (lay : FId → Nat) (fb db : Nat) (dir : Int) (g : Nat) (wp W : World) : Prop where
  fs : FsIn W0 s lay wp
  f : wp.cell? ⟨fb, 0, none⟩ = some (ptrTo (lay .F))
  d : wp.cell? ⟨db, 0, none⟩ = some (.int .i64 dir)
  low : Below wp.heap.size wp W
  g : wp.heap.size ≤ g
theorem cell_lt {W : World} {a : Addr} {v : Value} (h : W.cell? a = some v) : a.block < W.heap.size := World.block_lt_of_cell? W a h
theorem DelAt.call {fb db g : Nat} {dir : Int} {wp W : World} (h : DelAt W0 s lay fb db dir g wp W) (hE : EnvG W0) (b : List UInt8) :
    Calls Tryz.prog 34 #[.string ⟨b.toArray⟩, .pointer (some ⟨fb, 0, none⟩), .pointer (some ⟨db, 0, none⟩)] W fun e w' => e = .returned (.bool (!s.isS dir b)) ∧ Below W.heap.size W w' :=
  exp2_any hE fb db dir b W (h.fs.kept h.low) ((h.low.cell (cell_lt h.f)).trans h.f) ((h.low.cell (cell_lt h.d)).trans h.d)
theorem DelAt.next {fb db g : Nat} {dir : Int} {wp W W' : World} (h : DelAt W0 s lay fb db dir g wp W) (hb : W.grownBy W' (some g)) : DelAt W0 s lay fb db dir g wp W' :=
  ⟨h.fs, h.f, h.d, h.low.grown hb h.low.size (fun k e => by cases e; exact h.g), h.g⟩
/-- a row of texts of which some have turned -/
structure RowS (W : World) (g cap : Nat) (cur : Array Value) : Prop where
  at_ : W.heap[g]? = some (.cells cur 9 (0, 0))
  size : cur.size = cap
theorem RowS.cell {W : World} {g cap : Nat} {cur : Array Value} (h : RowS W g cap cur) {j : Nat} {v : Value} (hv : cur[j]? = some v) : W.cell? ⟨g, j, none⟩ = some v := by simp [World.cell?, h.at_, hv]
theorem RowS.fz {W : World} {g cap : Nat} {cur : Array Value} (h : RowS W g cap cur) (j : Nat) : W.frozen? ⟨g, j, none⟩ = false := by simp [World.frozen?, h.at_]
theorem RowS.set {W : World} {g cap : Nat} {cur : Array Value} (h : RowS W g cap cur) (j : Nat) (v : Value) : RowS (W.setCell ⟨g, j, none⟩ v) g cap (cur.setIfInBounds j v) :=
  ⟨by simp [World.setCell, Array.getElem?_modify, h.at_], by simp [h.size]⟩
theorem RowS.below {W W' : World} {g cap : Nat} {cur : Array Value} (h : RowS W g cap cur) (hb : Below W.heap.size W W') : RowS W' g cap cur := ⟨(hb.block g (blk_lt h.at_)).trans h.at_, h.size⟩
theorem RowS.sets {g cap : Nat} : ∀ (vs : List Value) (o : Nat) {W : World} {cur : Array Value}, RowS W g cap cur → ∃ cur', RowS (W.setCells g o vs) g cap cur' ∧ ∀ j, j < o → cur'[j]? = cur[j]?
  | [], o, W, cur, h => ⟨cur, h, fun _ _ => rfl⟩
  | v :: r, o, W, cur, h => by
    obtain ⟨cur', h1, h2⟩ := RowS.sets r (o + 1) (h.set o v)
    refine ⟨cur', h1, fun j hj => (h2 j (by omega)).trans ?_⟩
    rw [Array.getElem?_setIfInBounds, if_neg (by omega)]
theorem gr_trans {A B C : World} {r : Option Nat} (h : A.grownBy B r) (k : B.grownBy C r) : A.grownBy C r :=
  ⟨k.os.trans h.os, k.tape.trans h.tape, k.output.trans h.output, Nat.le_trans h.size k.size, fun i h1 h2 => (k.block i (Nat.lt_of_lt_of_le h1 h.size) h2).trans (h.block i h1 h2)⟩
theorem gr_set (W : World) (g o : Nat) (v : Value) : W.grownBy (W.setCell ⟨g, o, none⟩ v) (some g) :=
  ⟨rfl, rfl, rfl, by simp [World.setCell], fun k _ h2 => Below.heap_setCell _ _ _ _ (fun e => h2 (by simp at e; rw [e]))⟩
theorem gr_sets (g : Nat) : ∀ (vs : List Value) (o : Nat) (W : World), W.grownBy (W.setCells g o vs) (some g)
  | [], o, W => ⟨rfl, rfl, rfl, Nat.le_refl _, fun _ _ _ => rfl⟩
  | v :: r, o, W => gr_trans (gr_set W g o v) (gr_sets g r (o + 1) _)
theorem gr_below {W W' : World} (r : Option Nat) (h : Below W.heap.size W W') : W.grownBy W' r := ⟨h.os, h.tape, h.output, h.size, fun k h1 _ => h.block k h1⟩
/-- j texts are looked at: those that stay stand in front, the rest as it was -/
structure DelIs (keep : List UInt8 → Bool) (l : List (List UInt8)) (j i : Nat) (cur : Array Value) : Prop where
  len : ((l.take j).filter keep).length = i
  done : ∀ (t : Nat) (x : List UInt8), ((l.take j).filter keep)[t]? = some x → cur[t]? = some (.string ⟨x.toArray⟩)
  rest : ∀ (t : Nat) (x : List UInt8), j ≤ t → l[t]? = some x → cur[t]? = some (.string ⟨x.toArray⟩)
theorem DelIs.le {keep : List UInt8 → Bool} {l : List (List UInt8)} {j i : Nat} {cur : Array Value} (h : DelIs keep l j i cur) : i ≤ j := by
  have := List.length_filter_le keep (l.take j)
  have h2 := List.length_take_le j l
  rw [← h.len]; omega
theorem take_filter {f : List UInt8 → Bool} {L : List (List UInt8)} {k : Nat} {x : List UInt8} (h : L[k]? = some x) : (L.take (k + 1)).filter f = if f x = true then (L.take k).filter f ++ [x] else (L.take k).filter f := by
  rw [List.take_add_one, h]
  simp only [Option.toList_some, List.filter_append]
  by_cases hx : f x = true
  · rw [if_pos hx]; simp [hx]
  · rw [if_neg hx]; simp [hx]
theorem DelIs.skip {keep : List UInt8 → Bool} {l : List (List UInt8)} {j i : Nat} {cur : Array Value} {x : List UInt8} (h : DelIs keep l j i cur) (hx : l[j]? = some x) (hk : keep x = false) : DelIs keep l (j + 1) i cur := by
  have e := take_filter (f := keep) hx
  rw [if_neg (by rw [hk]; simp)] at e
  exact ⟨by rw [e]; exact h.len, by rw [e]; exact h.done, fun t y ht => h.rest t y (by omega)⟩
theorem DelIs.keep {keep : List UInt8 → Bool} {l : List (List UInt8)} {j i : Nat} {cur : Array Value} {x : List UInt8} (h : DelIs keep l j i cur) (hx : l[j]? = some x) (hk : keep x = true) (hs : i < cur.size) : DelIs keep l (j + 1) (i + 1) (cur.setIfInBounds i (.string ⟨x.toArray⟩)) := by
  have e := take_filter (f := keep) hx
  rw [if_pos hk] at e
  have hle := h.le
  refine ⟨by rw [e, List.length_append, h.len]; rfl, fun t y ht => ?_, fun t y ht hy => ?_⟩
  · rw [e] at ht
    rw [Array.getElem?_setIfInBounds]
    by_cases et : i = t
    · subst et
      rw [List.getElem?_append_right (by rw [h.len]; exact Nat.le_refl _), h.len] at ht
      simp at ht
      subst ht
      rw [if_pos rfl, if_pos hs]
    · rw [if_neg et]
      refine h.done t y ?_
      rwa [List.getElem?_append_left] at ht
      have h1 := (List.getElem?_eq_some_iff.1 ht).1
      rw [List.length_append, h.len, List.length_singleton] at h1
      rw [h.len]; omega
  · rw [Array.getElem?_setIfInBounds, if_neg (by omega)]
    exact h.rest t y (by omega) hy
theorem DelIs.first {keep : List UInt8 → Bool} {l : List (List UInt8)} {k : Nat} {cur : Array Value} {x : List UInt8} (hc : ∀ (t : Nat) (y : List UInt8), l[t]? = some y → cur[t]? = some (.string ⟨y.toArray⟩)) (hx : l[k]? = some x) (hk : keep x = false) (ha : ∀ (t : Nat) (y : List UInt8), t < k → l[t]? = some y → keep y = true) :
    DelIs keep l (k + 1) k cur := by
  have hf : (l.take k).filter keep = l.take k := List.filter_eq_self.2 (fun y hy => by
    obtain ⟨t, ht⟩ := List.getElem?_of_mem hy
    rw [List.getElem?_take] at ht
    split at ht
    · exact ha t y (by assumption) ht
    · cases ht)
  have hlt := (List.getElem?_eq_some_iff.1 hx).1
  refine DelIs.skip ⟨by rw [hf, List.length_take]; omega, fun t y ht => ?_, fun t y _ ht => hc t y ht⟩ hx hk
  rw [hf, List.getElem?_take] at ht
  split at ht
  · exact hc t y ht
  · cases ht
variable {fb db g : Nat} {dir : Int} {wp : World}
/-- what the search ahead says -/
def FirstGone (s : Fs) (dir : Int) (l : List (List UInt8)) (z : Int) : Prop := (z = -1 ∧ ∀ x ∈ l, s.isS dir x = true) ∨ ∃ (j : Nat) (x : List UInt8), z = j ∧ l[j]? = some x ∧ s.isS dir x = false ∧ ∀ (t : Nat) (y : List UInt8), t < j → l[t]? = some y → s.isS dir y = true
set_option maxRecDepth 100000 in
set_option maxHeartbeats 2000000 in
theorem delidx_any (hE : EnvG W0) (w : World) (hD : DelAt W0 s lay fb db dir g wp w) (l : List (List UInt8)) (cap : Nat) (cur : Array Value) (hR : RowS w g cap cur) (hc : ∀ (t : Nat) (y : List UInt8), l[t]? = some y → cur[t]? = some (.string ⟨y.toArray⟩)) (hl : l.length ≤ 100000) :
    Calls Tryz.prog 62 #[.slice (some ⟨g, 0, none⟩) l.length cap, .func (.func 34) #[] #[.pointer (some ⟨fb, 0, none⟩), .pointer (some ⟨db, 0, none⟩)]] w fun e w' =>
      (∃ z : Int, e = .returned (.int .i64 z) ∧ FirstGone s dir l z) ∧ Below w.heap.size w w' := by
  have HD := Lib.hid hD
  have HR := Lib.hid hR
  have HC := Lib.hid hc
  clear hD hR hc
  go_enter Tryz.func62, Tryz.ntmps62
  go_wp2
  go_loopw [8, 5] (fun iv jv W => ∃ j : Nat, iv = .int .i64 j ∧ j ≤ l.length ∧ RowKit.Hid (∀ (t : Nat) (y : List UInt8), t < j → l[t]? = some y → s.isS dir y = true) ∧ RowKit.Hid (Below w.heap.size w W)) (fun iv _ _ => l.length - (intOf iv).toNat)
  case atStart => exact ⟨0, rfl, by omega, Lib.hid (fun t y ht => by omega), Lib.hid (Below.refl _ _)⟩
  case round =>
    obtain ⟨j, rfl, hj, HT, HB⟩ := hrel
    by_cases hlt : j < l.length
    · obtain ⟨x, hx⟩ : ∃ x, l[j]? = some x := ⟨l[j], List.getElem?_eq_getElem hlt⟩
      have d0 := (HR.out.below HB.out).cell (HC.out j x hx)
      have HS := Lib.hid ((HD.out.next (gr_below (some g) HB.out)).call hE x)
      have HX := Lib.hid hx
      clear hx
      have hlt2 : (j : Int) < l.length := by omega
      cases hk1 : s.isS dir x
      · rw [hk1] at HS
        go_wp2_with (go_at_call 34; (with_reducible refine HS.out.mono ?_); rintro e w2 ⟨rfl, hb2⟩)
        go_ret
        exact ⟨⟨_, rfl, .inr ⟨j, x, rfl, HX.out, hk1, HT.out⟩⟩, HB.out.trans (hb2.mono HB.out.size)⟩
      · rw [hk1] at HS
        go_wp2_with (go_at_call 34; (with_reducible refine HS.out.mono ?_); rintro e w2 ⟨rfl, hb2⟩)
        go_roundw
        case rel =>
          refine ⟨j + 1, by go_num, by omega, Lib.hid (fun t y ht hy => ?_), Lib.hid (HB.out.trans (hb2.mono HB.out.size))⟩
          by_cases e : t = j
          · subst e; rw [HX.out] at hy; cases hy; exact hk1
          · exact HT.out t y (by omega) hy
        case measure => simp [intOf]; omega
    · have hjL : j = l.length := by omega
      subst hjL
      go_wp2
      go_ret
      refine ⟨⟨_, rfl, .inl ⟨rfl, fun y hy => ?_⟩⟩, HB.out⟩
      obtain ⟨t, ht⟩ := List.getElem?_of_mem hy
      exact HT.out t y (List.getElem?_eq_some_iff.1 ht).1 ht
def encB (x : List UInt8) : Value := .string ⟨x.toArray⟩
theorem row_cur {W : World} {base g cap : Nat} {l : List (List UInt8)} (h : W.ownsRow base 9 1 (.slice (some ⟨g, 0, none⟩) l.length cap) l.length (l.map encB)) : ∃ cur, RowS W g cap cur ∧ base ≤ g ∧ l.length ≤ cap ∧ cap ≤ maxLen ∧ ∀ (t : Nat) (y : List UInt8), l[t]? = some y → cur[t]? = some (.string ⟨y.toArray⟩) := by
  obtain ⟨h3, hr⟩ := h
  rcases hr with ⟨e, hn⟩ | ⟨g', cap', cur, e, hbg, hg, hnc, hcm, hcs, htk⟩
  · cases e
  · cases e
    refine ⟨cur, ⟨hg, by omega⟩, hbg, hnc, hcm, fun t y ht => ?_⟩
    have hjl : t < l.length := (List.getElem?_eq_some_iff.1 ht).1
    have h1 : (cur.toList.take (l.length * 1))[t]? = some (encB y) := by rw [htk, List.getElem?_map, ht]; rfl
    rw [List.getElem?_take_of_lt (by omega), Array.getElem?_toList] at h1
    exact h1
theorem row_of_cur {W : World} {base g cap n : Nat} {L : List (List UInt8)} {cur : Array Value} (h : RowS W g cap cur) (hb : base ≤ g) (hm : cap ≤ maxLen) (hn : n = L.length) (hc : L.length ≤ cap) (hv : ∀ (t : Nat) (y : List UInt8), L[t]? = some y → cur[t]? = some (.string ⟨y.toArray⟩)) :
    W.ownsRow base 9 1 (.slice (some ⟨g, 0, none⟩) n cap) L.length (L.map encB) := by
  subst hn
  refine ⟨by simp, .inr ⟨g, cap, cur, rfl, hb, h.at_, hc, hm, by rw [h.size]; simp, ?_⟩⟩
  apply List.ext_getElem?
  intro t
  rw [List.getElem?_take, List.getElem?_map]
  by_cases ht : t < L.length * 1
  · rw [if_pos ht, Array.getElem?_toList, hv t L[t] (List.getElem?_eq_getElem (by omega)), List.getElem?_eq_getElem (by omega)]
    rfl
  · rw [if_neg ht, List.getElem?_eq_none (by omega)]
    rfl
set_option maxRecDepth 100000 in
set_option maxHeartbeats 4000000 in
theorem del_some (hE : EnvG W0) (w : World) (hD : DelAt W0 s lay fb db dir g wp w) (base : Nat) (l : List (List UInt8)) (cap : Nat) (hrow : w.ownsRow base 9 1 (.slice (some ⟨g, 0, none⟩) l.length cap) l.length (l.map encB)) (hl : l.length ≤ 100000) :
    Calls Tryz.prog 33 #[.slice (some ⟨g, 0, none⟩) l.length cap, .func (.func 34) #[] #[.pointer (some ⟨fb, 0, none⟩), .pointer (some ⟨db, 0, none⟩)]] w fun e w' =>
      ∃ v', e = .returned v' ∧ w'.ownsRow base 9 1 v' (l.filter (s.isS dir)).length ((l.filter (s.isS dir)).map encB) ∧ w.grownBy w' (some g) := by
  obtain ⟨cur, hR, hbg, hlc, hcm, hcv⟩ := row_cur hrow
  have HI := Lib.hid (delidx_any hE w hD l cap cur hR hcv hl)
  have HD := Lib.hid hD
  have HR := Lib.hid hR
  have HC := Lib.hid hcv
  have HRow := Lib.hid hrow
  have hcm' : cap ≤ 9223372036854775807 := by simpa [maxLen] using hcm
  clear hD hR hcv hrow
  go_enter Tryz.func33, Tryz.ntmps33
  go_wp2_with (go_at_call 62; (with_reducible refine HI.out.mono ?_); rintro e w2 ⟨⟨z, rfl, hz⟩, hb2⟩; rcases hz with ⟨rfl, hall⟩ | ⟨k, x, rfl, hx, hk, ha⟩; rotate_left; have hkl := (List.getElem?_eq_some_iff.1 hx).1; have hkw : IntKind.i64.wrap ((k : Int) + 1) = (k : Int) + 1 := i64_in _ (by omega); have hne : ((k : Int) == -1) = false := (by rw [beq_eq_false_iff_ne]; omega))
  · have HF := Lib.hid (DelIs.first HC.out hx hk ha)
    have HB2 := Lib.hid hb2
    clear hx hk ha hb2
    go_loopw [5, 6] (fun iv jv W => ∃ (i j : Nat) (cu : Array Value), iv = .int .i64 i ∧ jv = .int .i64 j ∧ j ≤ l.length ∧ i < j ∧ RowKit.Hid (DelIs (s.isS dir) l j i cu) ∧ RowKit.Hid (RowS W g cap cu) ∧ RowKit.Hid (w.grownBy W (some g))) (fun _ jv _ => l.length - (intOf jv).toNat)
    case atStart => exact ⟨k, k + 1, cur, rfl, by go_num, by omega, by omega, HF, Lib.hid (HR.out.below HB2.out), Lib.hid (gr_below _ HB2.out)⟩
    case round =>
      obtain ⟨i, j, cu, rfl, rfl, hj, hij, HDI, HRo, HG⟩ := hrel
      by_cases hlt : j < l.length
      · obtain ⟨y, hy⟩ : ∃ y, l[j]? = some y := ⟨l[j], List.getElem?_eq_getElem hlt⟩
        have d0 := HRo.out.cell (HDI.out.rest j y (Nat.le_refl _) hy)
        have HS := Lib.hid ((HD.out.next HG.out).call hE y)
        have HY := Lib.hid hy
        clear hy
        have hlt2 : (j : Int) < l.length := by omega
        have hil : (i : Int) < l.length := by omega
        cases hk1 : s.isS dir y
        · rw [hk1] at HS
          go_wp2_with (go_at_call 34; (with_reducible refine HS.out.mono ?_); rintro e w3 ⟨rfl, hb3⟩)
          go_roundw
          case rel => exact ⟨i, j + 1, cu, rfl, by go_num, by omega, by omega, Lib.hid (HDI.out.skip HY.out hk1), Lib.hid (HRo.out.below hb3), Lib.hid (gr_trans HG.out (gr_below _ hb3))⟩
          case measure => simp [intOf]; omega
        · rw [hk1] at HS
          have hcz : i < cu.size := by rw [HRo.out.size]; omega
          go_wp2_with (go_at_call 34; (with_reducible refine HS.out.mono ?_); rintro e w3 ⟨rfl, hb3⟩; have hr3 := HRo.out.below hb3; have d1 := hr3.cell (Array.getElem?_eq_getElem hcz); have f1 := hr3.fz i)
          go_roundw
          case rel => exact ⟨i + 1, j + 1, _, by go_num, by go_num, by omega, by omega, Lib.hid (HDI.out.keep HY.out hk1 hcz), Lib.hid (hr3.set i _), Lib.hid (gr_trans (gr_trans HG.out (gr_below _ hb3)) (gr_set _ _ _ _))⟩
          case measure => simp [intOf]; omega
      · obtain rfl : j = l.length := by omega
        have hcl : ∀ ty, (Builtin.clear_ #[32] ty #[.slice (some ⟨g, i, none⟩) (l.length - i) (cap - i)]).run Tryz.prog wr = .ok (.tuple #[]) (wr.setCells g i (List.replicate (l.length - i) (.string ByteArray.empty))) :=
          fun ty => Lib.run_clear_slice wr 32 9 ty (.string ByteArray.empty) Tryz.underlying32 Tryz.zeroValue9 rfl rfl g i _ _ (by omega)
            (fun t ht => by rw [HRo.out.cell (Array.getElem?_eq_getElem (show i + t < cu.size by rw [HRo.out.size]; omega))]; rfl) (fun t ht => HRo.out.fz _)
        have hci : ¬ cap = i := by omega
        have hil : i ≤ l.length := by omega
        have hil2 : (i : Int) ≤ (l.length : Int) := by omega
        have hic : (i : Int) ≤ (cap : Int) := by omega
        go_wp2
        go_ret
        obtain ⟨cu', h1, h2⟩ := RowS.sets (List.replicate (l.length - i) (.string ByteArray.empty)) i HRo.out
        have hlen := HDI.out.len
        have hdone := HDI.out.done
        rw [List.take_length] at hlen hdone
        refine ⟨_, rfl, row_of_cur h1 hbg hcm (by rw [hlen]) (by rw [hlen]; omega) (fun t y ht => ?_), gr_trans HG.out (gr_sets _ _ _ _)⟩
        have htl := (List.getElem?_eq_some_iff.1 ht).1
        rw [hlen] at htl
        exact (h2 t htl).trans (hdone t y ht)
  · have hf : l.filter (s.isS dir) = l := List.filter_eq_self.2 hall
    go_ret
    refine ⟨_, rfl, ?_, gr_below _ hb2⟩
    rw [hf]
    exact World.ownsRow.kept HRow.out (row := none) (grown_none hb2) (.inr (by simp [Value.ownBlock]))
set_option maxRecDepth 100000 in
theorem del_none (fb db : Nat) (w : World) :
    Calls Tryz.prog 33 #[.slice none 0 0, .func (.func 34) #[] #[.pointer (some ⟨fb, 0, none⟩), .pointer (some ⟨db, 0, none⟩)]] w fun e w' => e = .returned (.slice none 0 0) ∧ w' = w := by
  have HI := Lib.hid (show Calls Tryz.prog 62 #[.slice none 0 0, .func (.func 34) #[] #[.pointer (some ⟨fb, 0, none⟩), .pointer (some ⟨db, 0, none⟩)]] w fun e w' => e = .returned (.int .i64 (-1)) ∧ w' = w by
    go_enter Tryz.func62, Tryz.ntmps62
    go_wp2
    go_loopw [8] (fun iv W => iv = .int .i64 0 ∧ W = w) (fun _ _ => 0)
    case atStart => exact ⟨rfl, rfl⟩
    case round =>
      obtain ⟨rfl, rfl⟩ := hrel
      go_wp2
      go_ret
      exact ⟨rfl, rfl⟩)
  go_enter Tryz.func33, Tryz.ntmps33
  go_wp2_with (go_at_call 62; (with_reducible refine HI.out.mono ?_); rintro e w2 ⟨rfl, rfl⟩)
  go_ret
  exact ⟨rfl, rfl⟩
end
end Go.Proofs.YtggdedihfhibfaaGreatDoor
/- paths.Expand: a field without special parts, or in no tree. -/
namespace Go.Proofs.YtggdedihfhibfaaGreatDoor
open Go.RowKit IntWalk Go.Shelf
set_option linter.unusedVariables false
set_option linter.unusedSimpArgs false

theorem one_row (W : World) (x : List UInt8) (base : Nat) (h : base ≤ W.heap.size) : (W.alloc (.cells #[.string ⟨x.toArray⟩] 9)).ownsRow base 9 1 (.slice (some ⟨W.heap.size, 0, none⟩) 1 1) 1 [encB x] :=
  ⟨rfl, .inr ⟨W.heap.size, 1, _, rfl, h, r_alloc_at _ _, Nat.le_refl _, by simp [maxLen], rfl, rfl⟩⟩
theorem box3 (w : World) (o1 o2 o3 : Obj) : (((w.alloc o1).alloc o2).alloc o3).heap[w.heap.size]? = some o1 ∧ (((w.alloc o1).alloc o2).alloc o3).heap[w.heap.size + 1]? = some o2 ∧ (((w.alloc o1).alloc o2).alloc o3).heap[w.heap.size + 2]? = some o3 := by
  refine ⟨(Below.heap_alloc _ _ _ (by simp; omega)).trans ((Below.heap_alloc _ _ _ (by simp)).trans (r_alloc_at _ _)), (Below.heap_alloc _ _ _ (by simp)).trans ?_, ?_⟩
  · have := r_alloc_at (w.alloc o1) o2
    simpa using this
  · have := r_alloc_at ((w.alloc o1).alloc o2) o3
    simpa using this
theorem cell0 {w : World} {b : Nat} {v : Value} {t : TypeId} {fz : Nat × Nat} (h : w.heap[b]? = some (.cells #[v] t fz)) : w.cell? ⟨b, 0, none⟩ = some v := by unfold World.cell?; rw [h]; rfl
theorem cell01 {w : World} {b : Nat} {u v : Value} {t : TypeId} {fz : Nat × Nat} (h : w.heap[b]? = some (.cells #[u, v] t fz)) : w.cell? ⟨b, 0, none⟩ = some u ∧ w.cell? ⟨b, 1, none⟩ = some v := by unfold World.cell?; rw [h]; exact ⟨rfl, rfl⟩
/-- what Expand hands back -/
def Gives (w : World) (L : List (List UInt8)) (e : Ending) (w' : World) : Prop := (∃ v, e = .returned v ∧ w'.ownsRow w.heap.size 9 1 v L.length (L.map encB)) ∧ Below w.heap.size w w'
def fieldV (x : List UInt8) (qv : Value) : Value := .agg #[.string ⟨x.toArray⟩, qv]
theorem pieces_ok {x : List UInt8} (hx : x.length ≤ 100000) : ∀ (l : List (List UInt8)) (q : List Bool), (∀ y ∈ l, y.length ≤ x.length) → POk (piecesS l q)
  | [], q, _ => fun p hp => by simp [piecesS] at hp
  | y :: l, q, h => fun p hp => by
    have hy := h y (by simp)
    rcases List.mem_cons.1 (show p ∈ ⟨y, parseS y q⟩ :: piecesS l (q.drop (y.length + 1)) from hp) with rfl | hp
    · exact ⟨Nat.le_trans (parseS_len y q) (by omega), parseS_ok q (by omega), by show y.length ≤ _; omega⟩
    · exact pieces_ok hx l _ (fun z hz => h z (List.mem_cons_of_mem _ hz)) p hp
theorem cutP_count (x : List UInt8) : (cutP x).length ≤ x.length + 1 := by rw [cutP_len]; have := List.count_le_length (a := (47 : UInt8)) (l := x); omega
set_option maxRecDepth 100000 in
set_option maxHeartbeats 2000000 in
theorem expand_nil (dir : Int) (x : List UInt8) (q : List Bool) (qv : Value) (w : World) (hq : BoolsC w qv q) (hx : x.length ≤ 1000) (hql : q.length ≤ 9223372036854775807) (m : Int) (hm : w.cell? ⟨0, 0, none⟩ = some (.int .i64 m)) :
    Calls Tryz.prog 11 #[.pointer none, .int .i64 dir, fieldV x qv] w (Gives w [x]) := by
  obtain ⟨a0, cap0, rfl, _⟩ := id hq.1
  obtain ⟨w3, hw3⟩ : ∃ w3, ((w.alloc (.cells #[.pointer none] 25)).alloc (.cells #[.int .i64 dir] 3)).alloc (.cells #[.string ⟨x.toArray⟩, .slice a0 q.length cap0] 31) = w3 := ⟨_, rfl⟩
  have hb3 : Below w.heap.size w w3 := by rw [← hw3]; exact ((((Below.refl _ w).alloc (Nat.le_refl _) _).alloc (by simp) _).alloc (by simp; omega) _)
  have hP := parts_any x q _ w3 ⟨hq.1.below hb3, hq.2⟩ (by omega) hql m ((hb3.cell (cell_lt hm)).trans hm)
  have HP := Lib.hid hP
  have HB := Lib.hid hb3
  have HW3 := Lib.hid hw3
  have hx3 := box3 w (.cells #[.pointer none] 25) (.cells #[.int .i64 dir] 3) (.cells #[.string ⟨x.toArray⟩, .slice a0 q.length cap0] 31)
  rw [hw3] at hx3
  obtain ⟨e0, e1, e2⟩ := hx3
  have HE := Lib.hid (show w3.cell? ⟨w.heap.size, 0, none⟩ = some (.pointer none) ∧ w3.cell? ⟨w.heap.size + 2, 0, none⟩ = some (.string ⟨x.toArray⟩) from ⟨cell0 e0, (cell01 e2).1⟩)
  clear hw3 hb3 hP hm hq e0 e1 e2
  unfold fieldV
  go_enter Tryz.func11, Tryz.ntmps11
  go_wp2_with (go_at_call 29; rw [HW3.out]; (with_reducible refine HP.out.mono ?_); rintro e w4 ⟨⟨pv, rfl, hpv⟩, hb4⟩; have c0 := (hb4.cell (cell_lt HE.out.1)).trans HE.out.1; have c2 := (hb4.cell (cell_lt HE.out.2)).trans HE.out.2; have HB4 := Lib.hid hb4; obtain ⟨pa, pc, rfl, _⟩ := id hpv.inn; clear hb4 hpv)
  go_ret
  refine ⟨⟨_, rfl, one_row w4 x _ (Nat.le_trans HB.out.size HB4.out.size)⟩, ?_⟩
  have h4 := HB.out.trans (HB4.out.mono HB.out.size)
  exact h4.alloc h4.size _
set_option maxRecDepth 100000 in
set_option maxHeartbeats 2000000 in
theorem expand_plain (F : Nat) (dir : Int) (x : List UInt8) (q : List Bool) (qv : Value) (w : World) (hq : BoolsC w qv q) (hx : x.length ≤ 1000) (hql : q.length ≤ 9223372036854775807) (hsp : anyS (piecesS (cutP x) q) = false) (m : Int) (hm : w.cell? ⟨0, 0, none⟩ = some (.int .i64 m)) :
    Calls Tryz.prog 11 #[ptrTo F, .int .i64 dir, fieldV x qv] w (Gives w [x]) := by
  obtain ⟨a0, cap0, rfl, _⟩ := id hq.1
  obtain ⟨w3, hw3⟩ : ∃ w3, ((w.alloc (.cells #[ptrTo F] 25)).alloc (.cells #[.int .i64 dir] 3)).alloc (.cells #[.string ⟨x.toArray⟩, .slice a0 q.length cap0] 31) = w3 := ⟨_, rfl⟩
  have hb3 : Below w.heap.size w w3 := by rw [← hw3]; exact ((((Below.refl _ w).alloc (Nat.le_refl _) _).alloc (by simp) _).alloc (by simp; omega) _)
  have hP := parts_any x q _ w3 ⟨hq.1.below hb3, hq.2⟩ (by omega) hql m ((hb3.cell (cell_lt hm)).trans hm)
  have HP := Lib.hid hP
  have HB := Lib.hid hb3
  have hx3 := box3 w (.cells #[ptrTo F] 25) (.cells #[.int .i64 dir] 3) (.cells #[.string ⟨x.toArray⟩, .slice a0 q.length cap0] 31)
  rw [hw3] at hx3
  obtain ⟨e0, e1, e2⟩ := hx3
  have HE := Lib.hid (show w3.cell? ⟨w.heap.size, 0, none⟩ = some (ptrTo F) ∧ w3.cell? ⟨w.heap.size + 2, 0, none⟩ = some (.string ⟨x.toArray⟩) from ⟨cell0 e0, (cell01 e2).1⟩)
  have hpl : (piecesS (cutP x) q).length ≤ 100000 := by rw [piecesS_len]; have := cutP_count x; omega
  have HK := Lib.hid (pieces_ok (x := x) (by omega) (cutP x) q (fun y hy => cutP_mem hy))
  unfold ptrTo at hw3 HE ⊢
  have HW3 := Lib.hid hw3
  clear hw3 hb3 hP hm hq e0 e1 e2
  unfold fieldV
  go_enter Tryz.func11, Tryz.ntmps11
  go_wp2_with first
    | (go_at_call 30; (refine (parthas_any _ _ w4 HPV.out hpl HK.out).mono ?_); rw [hsp]; rintro e w5 ⟨rfl, hb5⟩; have c5 := (hb5.cell (cell_lt c2)).trans c2; have HB5 := Lib.hid (HB4.out.trans (hb5.mono HB4.out.size)); clear hb5)
    | (go_at_call 29; rw [HW3.out]; (with_reducible refine HP.out.mono ?_); rintro e w4 ⟨⟨pv, rfl, hpv⟩, hb4⟩; have c0 := (hb4.cell (cell_lt HE.out.1)).trans HE.out.1; have c2 := (hb4.cell (cell_lt HE.out.2)).trans HE.out.2; have HB4 := Lib.hid hb4; have HPV := Lib.hid hpv.inn; obtain ⟨pa, pc, rfl, _⟩ := id hpv.inn; clear hb4 hpv)
  go_ret
  refine ⟨⟨_, rfl, one_row w5 x _ (Nat.le_trans HB.out.size HB5.out.size)⟩, ?_⟩
  have h4 := HB.out.trans (HB5.out.mono HB.out.size)
  exact h4.alloc h4.size _
end Go.Proofs.YtggdedihfhibfaaGreatDoor
