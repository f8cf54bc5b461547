/- Texts of one proof, packed: UtD, UtE -/
import Derived.Test.YtbecmcjibpamoaaGreatDoorU07
import Derived.Test.YtbecmcjibpamoaaGreatDoorShelf
import Derived.Deep.RegionHeld3
set_option linter.unusedVariables false
set_option linter.unusedSimpArgs false
set_option linter.deprecated false
set_option linter.unnecessarySimpa false
/- utils: what words say: a utility's name, no options, its operands. -/
namespace Go.Proofs.YtbecmcjibpamoaaGreatDoor
open Go.RowKit IntWalk
set_option linter.unusedVariables false
set_option linter.unusedSimpArgs false

/-- a row of texts at a block -/
def RowAt (w : World) (g o : Nat) (L : List (List UInt8)) : Prop := ∀ (i : Nat) (y : List UInt8), L[i]? = some y → w.cell? ⟨g, o + i, none⟩ = some (.string ⟨y.toArray⟩)
theorem RowAt.below {w w' : World} {g o : Nat} {L : List (List UInt8)} (h : RowAt w g o L) (hg : g < w.heap.size) (hb : Below w.heap.size w w') : RowAt w' g o L := fun i y hi => (hb.cell (p := ⟨g, o + i, none⟩) hg).trans (h i y hi)
theorem index_str (g o c : Nat) (L : List (List UInt8)) (x : List UInt8) (w : World) (hL : RowAt w g o L) (hl : L.length ≤ 100000) :
    Calls Tryz.prog 113 #[.slice (some ⟨g, o, none⟩) L.length c, .string ⟨x.toArray⟩] w fun e w' => (∃ z : Int, e = .returned (.int .i64 z) ∧ (0 ≤ z ↔ x ∈ L)) ∧ w = w' := by
  have HL := Lib.hid hL
  clear hL
  go_enter Tryz.func113, Tryz.ntmps113
  go_wp2
  go_loopw [8] (fun iv wr => ∃ i : Nat, iv = .int .i64 i ∧ i ≤ L.length ∧ RowKit.Hid ((L.take i).contains x = false) ∧ w = wr) (fun iv _ => L.length - (intOf iv).toNat)
  case atStart => exact ⟨0, rfl, Nat.zero_le _, Lib.hid (by simp), by first | rfl | trivial⟩
  case round =>
    obtain ⟨i, rfl, hi, HN, rfl⟩ := hrel
    by_cases hlt : i < L.length
    · have hil : (i : Int) < (L.length : Int) := by omega
      obtain ⟨y, hy⟩ : ∃ y, L[i]? = some y := ⟨_, List.getElem?_eq_getElem hlt⟩
      have d0 := HL.out i y hy
      have HT := Lib.hid (show L.take (i + 1) = L.take i ++ [y] by rw [List.take_add_one, hy]; rfl)
      have hmem := List.mem_of_getElem? hy
      clear hy
      by_cases hxy : x = y
      · subst hxy
        have HC := Lib.hid hmem
        clear hmem
        go_wp2
        go_ret
        exact ⟨⟨_, rfl, ⟨fun _ => HC.out, fun _ => by omega⟩⟩, by first | rfl | trivial⟩
      · have hb : (x == y) = false := by simpa using hxy
        clear hmem
        go_wp2
        go_roundw
        case rel => exact ⟨i + 1, by go_num, by omega, Lib.hid (by rw [HT.out]; have := HN.out; simp at this ⊢; exact ⟨this, fun q => hxy q⟩), by first | rfl | trivial⟩
        case measure => simp [intOf]; omega
    · obtain rfl : i = L.length := by omega
      have hil : ¬ (L.length : Int) < (L.length : Int) := by omega
      rw [List.take_length] at HN
      go_wp2
      go_ret
      exact ⟨⟨_, rfl, ⟨fun h => by omega, fun h => by have := HN.out; simp at this; exact absurd h this⟩⟩, by first | rfl | trivial⟩
theorem contains_str (g o c : Nat) (L : List (List UInt8)) (x : List UInt8) (w : World) (hL : RowAt w g o L) (hl : L.length ≤ 100000) :
    Calls Tryz.prog 71 #[.slice (some ⟨g, o, none⟩) L.length c, .string ⟨x.toArray⟩] w fun e w' => e = .returned (.bool (L.contains x)) ∧ w = w' := by
  have HI := Lib.hid (index_str g o c L x w hL hl)
  clear hL
  go_enter Tryz.func71, Tryz.ntmps71
  go_wp2_with first
    | (go_at_call 113; (refine HI.out.mono ?_); rintro e w' ⟨⟨z, rfl, hz⟩, rfl⟩; have HZ := Lib.hid hz; clear hz)
  go_ret
  have hd : decide (0 ≤ z) = L.contains x := by
    by_cases hm : x ∈ L
    · rw [decide_eq_true (HZ.out.2 hm)]; simp [hm]
    · rw [decide_eq_false (fun h => hm (HZ.out.1 h))]; simp [hm]
  rw [← hd]
  exact ⟨rfl, by first | rfl | trivial⟩
/-- the utilities that have no options -/
def bareU : List (List UInt8) := [[99, 97, 116], [109, 107, 100, 105, 114], [114, 109, 100, 105, 114], [116, 111, 117, 99, 104], [109, 118], [99, 112], [108, 115], [101, 99, 104, 111], [112, 114, 105, 110, 116, 102], [116, 114, 117, 101], [102, 97, 108, 115, 101]]
theorem options_bare (x : List UInt8) (hx : x ∈ [[99, 97, 116], [99, 112], [109, 118]]) (w : World) :
    Calls Tryz.prog 40 #[.string ⟨x.toArray⟩] w fun e w' => e = .returned (.tuple #[.string ⟨#[]⟩, .bool true]) ∧ Below w.heap.size w w' := by
  have hw1 := (Below.refl w.heap.size w).alloc (Nat.le_refl _) (.cells (bareU.map fun y => Value.string ⟨y.toArray⟩).toArray 9)
  have hrow : RowAt (w.alloc (.cells (bareU.map fun y => Value.string ⟨y.toArray⟩).toArray 9)) w.heap.size 0 bareU := fun i y hi => by
    have : (w.alloc (.cells (bareU.map fun y => Value.string ⟨y.toArray⟩).toArray 9)).heap[w.heap.size]? = _ := alloc_at _ _
    unfold World.cell?
    dsimp only
    rw [this]
    simp [hi]
  have HC := Lib.hid (contains_str w.heap.size 0 11 bareU x _ hrow (by decide))
  have HW := Lib.hid hw1
  clear hw1 hrow
  have hb : bareU.contains x = true := by
    simp only [List.mem_cons, List.not_mem_nil, or_false] at hx
    rcases hx with rfl | rfl | rfl <;> rfl
  rw [hb] at HC
  have hl : bareU.length = 11 := rfl
  rw [hl] at HC
  simp only [bareU, List.map_cons, List.map_nil] at HC HW
  simp only [List.mem_cons, List.not_mem_nil, or_false] at hx
  rcases hx with rfl | rfl | rfl
  all_goals
    go_enter Tryz.func40, Tryz.ntmps40
    go_wp2_with first
      | (go_at_call 71; (refine HC.out.mono ?_); rintro e w' ⟨rfl, rfl⟩)
    go_ret2
    exact ⟨rfl, HW.out⟩
theorem known_bare (x : List UInt8) (hx : x ∈ [[99, 97, 116], [99, 112], [109, 118]]) (w : World) :
    Calls Tryz.prog 20 #[.string ⟨x.toArray⟩] w fun e w' => e = .returned (.bool true) ∧ Below w.heap.size w w' := by
  have HO := Lib.hid (options_bare x hx w)
  clear hx
  go_enter Tryz.func20, Tryz.ntmps20
  go_wp2_with first
    | (go_at_call 40; (refine HO.out.mono ?_); rintro e w' ⟨rfl, hb⟩)
  go_ret
  exact ⟨rfl, hb⟩
/-- no option: the first operand has not just two bytes -/
theorem option_none (D g o c : Nat) (all x : List UInt8) (L : List (List UInt8)) (w : World) (hL : RowAt w g o (x :: L)) (hx : x.length ≠ 2) (hx2 : x.length ≤ 9223372036854775807) :
    Calls Tryz.prog 42 #[.pointer (some ⟨D, 0, none⟩), .string ⟨all.toArray⟩, .slice (some ⟨g, o, none⟩) (x :: L).length c] w fun e w' => e = .returned (.int .i64 0) ∧ w = w' := by
  have d0 := hL 0 x rfl
  simp only [Nat.add_zero] at d0
  have hn : ((x.length : Int) != 2) = true := by rw [bne_iff_ne]; omega
  obtain ⟨n, hn1⟩ : ∃ n, (x :: L).length = n + 1 := ⟨_, rfl⟩
  rw [hn1]
  have h0 : (((n + 1 : Nat) : Int) == 0) = false := by rw [beq_eq_false_iff_ne]; omega
  have hp : (0 : Int) < ((n + 1 : Nat) : Int) := by omega
  clear hL hn1
  go_enter Tryz.func42, Tryz.ntmps42
  go_wp2
  go_ret
  exact ⟨rfl, by first | rfl | trivial⟩
end Go.Proofs.YtbecmcjibpamoaaGreatDoor
/- utils: the plan of words. -/
namespace Go.Proofs.YtbecmcjibpamoaaGreatDoor
open Go.RowKit IntWalk
set_option linter.unusedVariables false
set_option linter.unusedSimpArgs false

theorem row_open {W : World} {base n : Nat} {v : Value} {zs : List ByteArray} (h : W.ownsRow base 9 1 v n (zs.map Value.string)) (hn : 0 < n) :
    ∃ g c, v = .slice (some ⟨g, 0, none⟩) n c ∧ n ≤ c ∧ base ≤ g ∧ g < W.heap.size ∧ ∀ (i : Nat) (z : ByteArray), zs[i]? = some z → W.cell? ⟨g, 0 + i, none⟩ = some (.string z) := by
  have h1 := h.1
  rcases h.2 with ⟨rfl, h0⟩ | ⟨g, cap, cur, rfl, hbg, hg, hnc, hcm, hcs, htk⟩
  · omega
  · refine ⟨g, cap, rfl, hnc, hbg, ?_, fun i z hz => ?_⟩
    · rcases Nat.lt_or_ge g W.heap.size with q | q
      · exact q
      · rw [Array.getElem?_eq_none q] at hg; cases hg
    · have hil := (List.getElem?_eq_some_iff.1 hz).1
      have h2 : (cur.toList.take (n * 1))[i]? = some (Value.string z) := by rw [htk, List.getElem?_map, hz]; rfl
      rw [List.getElem?_take_of_lt (by simp at h1; omega), Array.getElem?_toList] at h2
      unfold World.cell?
      dsimp only
      rw [hg]
      simpa using h2
/-- a plan without options, at a block -/
structure PlanAt (w : World) (D : Nat) (x : List UInt8) (v : Value) : Prop where
  c0 : w.cell? ⟨D, 0, none⟩ = some (.string ⟨x.toArray⟩)
  c1 : w.cell? ⟨D, 1, none⟩ = some (.string ⟨#[]⟩)
  c3 : w.cell? ⟨D, 3, none⟩ = some v
theorem right_bare (x : List UInt8) (hx : x ∈ [[99, 97, 116], [99, 112], [109, 118]]) (D n c : Nat) (a : Option Addr) (w : World) (h : PlanAt w D x (.slice a n c)) (hn : x ≠ [99, 97, 116] → n = 2) :
    Calls Tryz.prog 44 #[.pointer (some ⟨D, 0, none⟩)] w fun e w' => e = .returned (.bool true) ∧ w = w' := by
  obtain ⟨c0, c1, c3⟩ := h
  simp only [List.mem_cons, List.not_mem_nil, or_false] at hx
  rcases hx with rfl | rfl | rfl
  · clear hn
    go_enter Tryz.func44, Tryz.ntmps44
    go_wp2
    go_ret
    exact ⟨rfl, by first | rfl | trivial⟩
  all_goals
    obtain rfl := hn (by decide)
    go_enter Tryz.func44, Tryz.ntmps44
    go_wp2
    go_ret
    exact ⟨rfl, by first | rfl | trivial⟩
theorem RowAt.set {w : World} {g o b k : Nat} {v : Value} {L : List (List UInt8)} (h : RowAt w g o L) (hb : b ≠ g) : RowAt (w.setCell ⟨b, k, none⟩ v) g o L := fun i z hz => by
  have hh : (w.setCell ⟨b, k, none⟩ v).heap[g]? = w.heap[g]? := by simp [World.setCell, Array.getElem?_modify, hb]
  exact (World.cell?_of_block (a := ⟨g, o + i, none⟩) hh).trans (h i z hz)
theorem clone_str (g o c : Nat) (L : List (List UInt8)) (w : World) (hL : RowAt w g o L) (h0 : 0 < L.length) (hl : L.length ≤ 100000) :
    Calls Tryz.prog 43 #[.slice (some ⟨g, o, none⟩) L.length c] w fun e w' => (∃ g2 c2, e = .returned (.slice (some ⟨g2, 0, none⟩) L.length c2) ∧ L.length ≤ c2 ∧ w.heap.size ≤ g2 ∧ g2 < w'.heap.size ∧ RowAt w' g2 0 L) ∧ Below w.heap.size w w' := by
  refine (Tryz.slices_Clone_string g o L.length c (L.map fun y => ⟨y.toArray⟩) w (by simp) (by omega) (fun j hj => ?_)).mono ?_
  · rw [List.length_map] at hj
    have := hL j L[j] (List.getElem?_eq_getElem hj)
    rw [this]
    simp [List.getD_eq_getElem?_getD, hj]
  · rintro e w' ⟨v, rfl, hrow, _, hb⟩
    rw [show ((L.map fun y => (⟨y.toArray⟩ : ByteArray)).take L.length) = L.map fun y => ⟨y.toArray⟩ by rw [List.take_of_length_le (by simp)]] at hrow
    obtain ⟨g2, c2, rfl, h0c, h1, h2, h3⟩ := row_open hrow h0
    exact ⟨⟨g2, c2, rfl, h0c, h1, h2, fun i y hy => h3 i ⟨y.toArray⟩ (by rw [List.getElem?_map, hy]; rfl)⟩, hb⟩
/-- a plan's block, whole -/
def planO (x : List UInt8) (v : Value) : Obj := .cells #[.string ⟨x.toArray⟩, .string ⟨#[]⟩, .int .i64 10, v] 55
theorem PlanAt.of {w : World} {D : Nat} {x : List UInt8} {v : Value} (h : w.heap[D]? = some (planO x v)) : PlanAt w D x v := by
  unfold planO at h
  refine ⟨?_, ?_, ?_⟩ <;> (unfold World.cell?; dsimp only; rw [h]; rfl)
theorem plan_four {w : World} {b : Nat} {v0 v1 v2 v3 : Value} {ty : TypeId} (h : w.heap[b]? = some (.cells #[v0, v1, v2, v3] ty (0, 0))) (u0 u1 u2 u3 : Value) :
    ((((w.setCell ⟨b, 0, none⟩ u0).setCell ⟨b, 1, none⟩ u1).setCell ⟨b, 2, none⟩ u2).setCell ⟨b, 3, none⟩ u3).heap[b]? = some (.cells #[u0, u1, u2, u3] ty (0, 0)) := by
  have h0 := set_rowN (k := 0) (v := u0) h
  have h1 := set_rowN (k := 1) (v := u1) h0
  have h2 := set_rowN (k := 2) (v := u2) h1
  exact set_rowN (k := 3) (v := u3) h2
theorem plan_ret (w : World) (g : Nat) (a b c d e : Value) (hg : w.heap[g]? = some (.cells #[a, b, c, d] 55 (0, 0))) {fn : Func} {p u : Tmp} (h : fn.results = #[.cell p 55, .tmp u]) (tmps : Array Value) (hp : tmps.getD p undef = .pointer (some ⟨g, 0, none⟩)) (hu : tmps.getD u undef = e) :
    (results fn tmps).run Tryz.prog w = .ok (.tuple #[.agg #[a, b, c, d], e]) w := by
  have hl : (loadVar 55 ⟨g, 0, none⟩).run Tryz.prog w = .ok (.agg #[a, b, c, d]) w := run_loadVar_row w g _ _ #[a, b, c, d] _ _ hg Tryz.underlying55 rfl (by kernel_rfl)
  rw [Array.getD_eq_getD_getElem?] at hp hu
  simp only [results, h]
  simp [Sem.run_bind, Result.andThen, hp, hu, asAddr, hl]
set_option maxRecDepth 100000 in
set_option maxHeartbeats 4000000 in
theorem parse_bare (x y : List UInt8) (L : List (List UInt8)) (hx : x ∈ [[99, 97, 116], [99, 112], [109, 118]]) (g o c : Nat) (w : World) (hR : RowAt w g o (x :: y :: L)) (hg : g < w.heap.size) (hc : L.length + 2 ≤ c) (hy : y.length ≠ 2) (hyl : y.length ≤ 100000) (hn : x ≠ [99, 97, 116] → L.length = 1) (hl : L.length ≤ 1000) :
    Calls Tryz.prog 22 #[.slice (some ⟨g, o, none⟩) (L.length + 2) c] w fun e w' => (∃ g2 c2, e = .returned (.tuple #[.agg #[.string ⟨x.toArray⟩, .string ⟨#[]⟩, .int .i64 10, .slice (some ⟨g2, 0, none⟩) (L.length + 1) c2], .bool true]) ∧ L.length + 1 ≤ c2 ∧ w.heap.size ≤ g2 ∧ g2 < w'.heap.size ∧ RowAt w' g2 0 (y :: L)) ∧ Below w.heap.size w w' := by
  have hxl : x.length ≤ 3 := by
    simp only [List.mem_cons, List.not_mem_nil, or_false] at hx
    rcases hx with rfl | rfl | rfl <;> decide
  have d0 := hR 0 x rfl
  simp only [Nat.add_zero] at d0
  have hR1 : RowAt w g (o + 1) (y :: L) := fun i z hz => by have := hR (i + 1) z (by simpa using hz); rw [show o + 1 + i = o + (i + 1) by omega]; exact this
  obtain ⟨w0, hw0⟩ : ∃ w0, (w.alloc (.cells #[.string ⟨#[]⟩, .string ⟨#[]⟩, .int .i64 0, .slice none 0 0] 55)).alloc (planO x (.slice none 0 0)) = w0 := ⟨_, rfl⟩
  have hB0 : Below w.heap.size w w0 := by rw [← hw0]; exact ((Below.refl _ w).alloc (Nat.le_refl _) _).alloc (by simp) _
  have hP0 : w0.heap[w.heap.size + 1]? = some (planO x (.slice none 0 0)) := by
    rw [← hw0]
    have := alloc_at (w.alloc (.cells #[.string ⟨#[]⟩, .string ⟨#[]⟩, .int .i64 0, .slice none 0 0] 55)) (planO x (.slice none 0 0))
    simpa using this
  have hQ0 : w0.heap[w.heap.size]? = some (.cells #[.string ⟨#[]⟩, .string ⟨#[]⟩, .int .i64 0, .slice none 0 0] 55 (0, 0)) := by
    rw [← hw0]
    exact ((Below.heap_alloc _ _ _ (by simp))).trans (alloc_at _ _)
  have HB0 := Lib.hid hB0
  have HP0 := Lib.hid hP0
  have HQ0 := Lib.hid hQ0
  have HO := Lib.hid (fun V => options_bare x hx V)
  have HON := Lib.hid (fun (D : Nat) (V : World) (hb : Below w.heap.size w V) => option_none D g (o + 1) (c - 1) [] y L V (hR1.below hg (hb.mono (Nat.le_refl _))) hy (by omega))
  have HRt := Lib.hid (fun (D n c : Nat) (a : Option Addr) (V : World) (h : PlanAt V D x (.slice a n c)) => right_bare x hx D n c a V h)
  have HCL := Lib.hid (fun (V : World) (hb : Below w.heap.size w V) => clone_str g (o + 1) (c - 1) (y :: L) V (hR1.below hg (hb.mono (Nat.le_refl _))) (by simp) (by simp; omega))
  rw [List.length_cons] at HON HCL
  clear hR hR1 hx hB0 hP0 hQ0
  unfold planO at hw0
  have HW0 := Lib.hid hw0
  clear hw0
  go_enter Tryz.func22, Tryz.ntmps22
  go_wp2_with first
    | (go_at_call 40; (refine (HO.out _).mono ?_); rintro e w1 ⟨rfl, hb1⟩; rw [HW0.out] at hb1; have HB1 := Lib.hid (HB0.out.trans (hb1.mono HB0.out.size)); have HP1 := Lib.hid ((hb1.block _ (Array.getElem?_eq_some_iff.1 HP0.out).1).trans HP0.out); have HQ1 := Lib.hid ((hb1.block _ (Array.getElem?_eq_some_iff.1 HQ0.out).1).trans HQ0.out); clear hb1)
  go_loopw [7] (fun lv wr => lv = .slice (some ⟨g, o + 1, none⟩) (L.length + 1) (c - 1) ∧ wr = w1) (fun _ _ => 0)
  case atStart => exact ⟨rfl, by first | rfl | trivial⟩
  case round =>
    obtain ⟨rfl, rfl⟩ := hrel
    go_wp2_with first
      | (go_at_call 43; (refine (HCL.out _ HB1.out).mono ?_); rintro e w2 ⟨⟨g2, c2, rfl, hc2, hg2, hg2', hr2⟩, hb2⟩; have HP2 := Lib.hid ((hb2.block _ (Array.getElem?_eq_some_iff.1 HP1.out).1).trans HP1.out); have HQ2 := Lib.hid ((hb2.block _ (Array.getElem?_eq_some_iff.1 HQ1.out).1).trans HQ1.out); have HB2 := Lib.hid (HB1.out.trans (hb2.mono HB1.out.size)); have HR2 := Lib.hid hr2; have z3 : w2.frozen? ⟨w.heap.size + 1, 3, none⟩ = false := (by have := HP2.out; unfold planO at this; simp [World.frozen?, this]); have y3 := (PlanAt.of HP2.out).c3; clear hb2 hr2)
      | (go_at_call 42; (refine (HON.out (w.heap.size + 1) _ HB1.out).mono ?_); rintro e w' ⟨rfl, rfl⟩)
    have hP3 : (w2.setCell ⟨w.heap.size + 1, 3, none⟩ (.slice (some ⟨g2, 0, none⟩) (L.length + 1) c2)).heap[w.heap.size + 1]? = some (planO x (.slice (some ⟨g2, 0, none⟩) (L.length + 1) c2)) := set_rowN (k := 3) HP2.out
    have hb3 := (Below.refl (w.heap.size + 1) w2).setCell (p := ⟨w.heap.size + 1, 3, none⟩) (Nat.le_refl _) (.slice (some ⟨g2, 0, none⟩) (L.length + 1) c2)
    have HQ3 := Lib.hid ((hb3.block w.heap.size (by omega)).trans HQ2.out)
    have HB3 := Lib.hid (HB2.out.trans (hb3.mono (by omega)))
    have hg1 := HB1.out.size
    have hgl := (Array.getElem?_eq_some_iff.1 HP1.out).1
    have hne : g2 ≠ w.heap.size + 1 := by omega
    have HR3 := Lib.hid (show RowAt (w2.setCell ⟨w.heap.size + 1, 3, none⟩ (.slice (some ⟨g2, 0, none⟩) (L.length + 1) c2)) g2 0 (y :: L) from HR2.out.set hne.symm)
    have hs3 := hb3.size
    generalize w2.setCell ⟨w.heap.size + 1, 3, none⟩ (.slice (some ⟨g2, 0, none⟩) (L.length + 1) c2) = w3 at *
    have hpa := PlanAt.of hP3
    have HRR := Lib.hid (HRt.out (w.heap.size + 1) (L.length + 1) c2 (some ⟨g2, 0, none⟩) w3.drew ⟨hpa.c0, hpa.c1, hpa.c3⟩ (fun h => by have := hn h; omega))
    obtain ⟨k0, k1, k3⟩ := hpa
    have k2 : w3.cell? ⟨w.heap.size + 1, 2, none⟩ = some (.int .i64 10) := by unfold planO at hP3; unfold World.cell?; dsimp only; rw [hP3]; rfl
    have hq := HQ3.out
    have r0 : w3.cell? ⟨w.heap.size, 0, none⟩ = some (.string ⟨#[]⟩) := by unfold World.cell?; dsimp only; rw [hq]; rfl
    have r1 : w3.cell? ⟨w.heap.size, 1, none⟩ = some (.string ⟨#[]⟩) := by unfold World.cell?; dsimp only; rw [hq]; rfl
    have r2 : w3.cell? ⟨w.heap.size, 2, none⟩ = some (.int .i64 0) := by unfold World.cell?; dsimp only; rw [hq]; rfl
    have r3 : w3.cell? ⟨w.heap.size, 3, none⟩ = some (.slice none 0 0) := by unfold World.cell?; dsimp only; rw [hq]; rfl
    have z0 : w3.frozen? ⟨w.heap.size, 0, none⟩ = false := by simp [World.frozen?, hq]
    have z1 : w3.frozen? ⟨w.heap.size, 1, none⟩ = false := by simp [World.frozen?, hq]
    have z2 : w3.frozen? ⟨w.heap.size, 2, none⟩ = false := by simp [World.frozen?, hq]
    have z4 : w3.frozen? ⟨w.heap.size, 3, none⟩ = false := by simp [World.frozen?, hq]
    clear hq hP3 z3 y3 hb3
    go_region_with (go_at_call 44; (refine HRR.out.mono ?_); rintro e w' ⟨rfl, rfl⟩)
    all_goals
      go_wp2_with fail
      (try simp only [Exit.inBlock, Exit.then])
      refine bodyPost_ret (plan_ret _ _ _ _ _ _ _ (plan_four (w := w3.drew) HQ3.out _ _ _ _) rfl _ rfl rfl) rfl ?_
      have hne2 : w.heap.size ≠ g2 := by omega
      have hb4 := ((((Below.refl w.heap.size w3).setCell (p := ⟨w.heap.size, 0, none⟩) (Nat.le_refl _) (.string ⟨x.toArray⟩)).setCell (p := ⟨w.heap.size, 1, none⟩) (Nat.le_refl _) (.string ⟨#[]⟩)).setCell (p := ⟨w.heap.size, 2, none⟩) (Nat.le_refl _) (.int .i64 10)).setCell (p := ⟨w.heap.size, 3, none⟩) (Nat.le_refl _) (.slice (some ⟨g2, 0, none⟩) (L.length + 1) c2)
      refine ⟨⟨g2, c2, rfl, hc2, by omega, Nat.lt_of_lt_of_le (Nat.lt_of_lt_of_le hg2' hs3) hb4.size, ?_⟩, (have h := HB3.out.trans hb4; ⟨h.os, h.tape, h.output, h.size, h.block⟩)⟩
      have hr : RowAt w3 g2 0 (y :: L) := HR3.out
      have hr2 := (((hr.set (k := 0) (v := .string ⟨x.toArray⟩) hne2).set (k := 1) (v := .string ⟨#[]⟩) hne2).set (k := 2) (v := .int .i64 10) hne2).set (k := 3) (v := .slice (some ⟨g2, 0, none⟩) (L.length + 1) c2) hne2
      exact fun i z hz => hr2 i z hz
end Go.Proofs.YtbecmcjibpamoaaGreatDoor
