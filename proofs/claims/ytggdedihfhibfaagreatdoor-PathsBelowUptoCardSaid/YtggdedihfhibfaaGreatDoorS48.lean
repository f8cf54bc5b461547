/- Texts of one proof, packed: NaB, PtQ, BeB, BeD -/
import Derived.Test.YtggdedihfhibfaaGreatDoorR45
import Derived.Test.YtggdedihfhibfaaGreatDoorS47
import Derived.Test.YtggdedihfhibfaaGreatDoorOpen
import Derived.Deep.AppendLies
set_option linter.unusedVariables false
set_option linter.unusedSimpArgs false
set_option linter.deprecated false
set_option linter.unnecessarySimpa false
/- conchlaw21.small, conchref08.Texts; a field as a law's argument. -/
namespace Go.Proofs.YtggdedihfhibfaaGreatDoor
open Go.RowKit IntWalk
set_option linter.unusedVariables false
set_option linter.unusedSimpArgs false

def SmallP (x : List UInt8) (e : Ending) : Prop := ∃ b : Bool, e = .returned (.bool b) ∧ (b = true → x.length ≤ 60)
set_option maxRecDepth 100000 in
set_option maxHeartbeats 2000000 in
theorem small_any (x : List UInt8) (a0 : Option Addr) (n0 c0 : Nat) (W : World) (hx : x.length ≤ 9223372036854775807) : Calls Tryz.prog 12 #[.agg #[.string ⟨x.toArray⟩, .slice a0 n0 c0]] W fun e w' => SmallP x e ∧ Below W.heap.size W w' := by
  have hB := (Below.refl W.heap.size W).alloc (Nat.le_refl _) (.cells #[.string ⟨x.toArray⟩, .slice a0 n0 c0] 31)
  have HB := Lib.hid hB
  have hc : (W.alloc (.cells #[.string ⟨x.toArray⟩, .slice a0 n0 c0] 31)).cell? ⟨W.heap.size, 0, none⟩ = some (.string ⟨x.toArray⟩) := (cell01 (r_alloc_at _ _)).1
  obtain ⟨w1, hw1⟩ : ∃ w1, W.alloc (.cells #[.string ⟨x.toArray⟩, .slice a0 n0 c0] 31) = w1 := ⟨_, rfl⟩
  rw [hw1] at hc HB
  clear hB
  go_enter Tryz.func12, Tryz.ntmps12
  go_wp2
  clear hw1
  go_loopw [3, 4] (fun nv iv wr => ∃ n i : Nat, nv = .int .i64 n ∧ iv = .int .i64 i ∧ n ≤ i ∧ i ≤ x.length ∧ i ≤ 61 ∧ wr = w1) (fun _ iv _ => 61 - (intOf iv).toNat)
  case atStart => exact ⟨0, 0, rfl, rfl, Nat.le_refl _, Nat.zero_le _, by omega, rfl⟩
  case round =>
    obtain ⟨n, i, rfl, rfl, hn, hi, hi61, rfl⟩ := hrel
    by_cases hlt : i < x.length
    · have hl1 : (i : Int) < (x.length : Int) := by omega
      by_cases h60 : i ≤ 60
      · have h6 : (i : Int) ≤ 60 := by omega
        obtain ⟨c, _, hcc, hcs⟩ := str_at x i hlt
        cases h47 : ((c.toNat : Int) == 47)
        · go_wp2
          go_roundw
          case rel => exact ⟨n, i + 1, rfl, by go_num, by omega, by omega, by omega, by first | rfl | trivial⟩
          case measure => simp [intOf]; omega
        · go_wp2
          go_roundw
          case rel => exact ⟨n + 1, i + 1, by go_num, by go_num, by omega, by omega, by omega, by first | rfl | trivial⟩
          case measure => simp [intOf]; omega
      · have h6 : ¬ (i : Int) ≤ 60 := by omega
        have hx6 : ¬ (x.length : Int) ≤ 60 := by omega
        go_wp2
        go_ret
        exact ⟨⟨_, rfl, fun h => by cases h⟩, HB.out⟩
    · have hl1 : ¬ (i : Int) < (x.length : Int) := by omega
      by_cases hx6 : x.length ≤ 60
      · have hx6' : (x.length : Int) ≤ 60 := by omega
        go_wp2
        go_ret
        exact ⟨⟨_, rfl, fun _ => hx6⟩, HB.out⟩
      · have hx6' : ¬ (x.length : Int) ≤ 60 := by omega
        go_wp2
        go_ret
        exact ⟨⟨_, rfl, fun h => by cases h⟩, HB.out⟩
theorem row_in {W : World} {base : Nat} {v : Value} {L : List (List UInt8)} (h : W.ownsRow base 9 1 v L.length (L.map encB)) : ∃ a c, v = .slice a L.length c ∧ (0 < L.length → ∃ g, a = some ⟨g, 0, none⟩ ∧ base ≤ g ∧ g < W.heap.size ∧ ∀ (t : Nat) (y : List UInt8), L[t]? = some y → W.cell? ⟨g, t, none⟩ = some (.string ⟨y.toArray⟩)) := by
  rcases h.2 with ⟨rfl, hn⟩ | ⟨g, cap, cur, rfl, hbg, hg, _⟩
  · exact ⟨none, 0, by rw [hn], fun q => by omega⟩
  · obtain ⟨cu, hR, hb, _, _, hc⟩ := row_cur h
    exact ⟨_, cap, rfl, fun _ => ⟨g, rfl, hb, blk_lt hR.at_, fun t y ht => hR.cell (hc t y ht)⟩⟩
set_option maxRecDepth 100000 in
set_option maxHeartbeats 2000000 in
theorem texts_same (W : World) (b1 b2 : Nat) (v1 v2 : Value) (L : List (List UInt8)) (h1 : W.ownsRow b1 9 1 v1 L.length (L.map encB)) (h2 : W.ownsRow b2 9 1 v2 L.length (L.map encB)) (hl : L.length ≤ 100000) :
    Calls Tryz.prog 19 #[v1, v2] W fun e w' => e = .returned (.bool true) ∧ Below W.heap.size W w' := by
  obtain ⟨a1, c1, rfl, hs1⟩ := row_in h1
  obtain ⟨a2, c2, rfl, hs2⟩ := row_in h2
  have HS1 := Lib.hid hs1
  have HS2 := Lib.hid hs2
  clear h1 h2 hs1 hs2
  go_enter Tryz.func19, Tryz.ntmps19
  go_wp2
  go_loopw [5] (fun iv wr => ∃ k : Nat, iv = .int .i64 k ∧ k ≤ L.length ∧ Below W.heap.size W wr) (fun iv _ => L.length - (intOf iv).toNat)
  case atStart => exact ⟨0, rfl, Nat.zero_le _, Below.refl _ _⟩
  case round =>
    obtain ⟨k, rfl, hk, hb⟩ := hrel
    by_cases hlt : k < L.length
    · obtain ⟨g1, rfl, _, hg1, hc1⟩ := HS1.out (by omega)
      obtain ⟨g2, rfl, _, hg2, hc2⟩ := HS2.out (by omega)
      have hlk : L[k]? = some L[k] := List.getElem?_eq_getElem hlt
      have d1 := (hb.cell (p := ⟨g1, k, none⟩) hg1).trans (hc1 k _ hlk)
      have d2 := (hb.cell (p := ⟨g2, k, none⟩) hg2).trans (hc2 k _ hlk)
      generalize L[k] = y at d1 d2
      have hkl : (k : Int) < (L.length : Int) := by omega
      clear hlk hc1 hc2
      go_wp2
      go_quiet (fail)
      go_wp2_with fail
      go_roundw
      case rel => exact ⟨k + 1, by go_num, by omega, ⟨hb.os, hb.tape, hb.output, hb.size, hb.block⟩⟩
      case measure => simp [intOf]; omega
    · obtain rfl : k = L.length := by omega
      have hkl : ¬ (L.length : Int) < (L.length : Int) := by omega
      go_wp2
      go_ret
      exact ⟨rfl, hb⟩
/-- a field as an argument -/
def FieldArg (W : World) (v : Value) (a : List UInt8 × List Bool) : Prop := ∃ qv, v = fieldV a.1 qv ∧ BoolsC W qv a.2 ∧ a.1.length ≤ maxLen ∧ a.2.length ≤ maxLen
end Go.Proofs.YtggdedihfhibfaaGreatDoor
/- The laws' arguments: a row of what is made; the one variable of the library's that the walk reads. -/
namespace Go.Proofs.YtggdedihfhibfaaGreatDoor
open Go.RowKit Go.WideShapes Go.ChangeShapes Go.ChangeAt IntWalk
set_option linter.unusedVariables false
set_option linter.unusedSimpArgs false

theorem open_made {H : Type} {enc : TypeId × Value → H} {P : Program} {W : World} {base : Nat} {t e : TypeId} {f0 f1 f2 : Field} {v : Value} {d : DataW H} {ps : List MemPlace} {r : Reach}
    (ht : P.underlying t = some (.slice e)) (he : P.underlying e = some (.struct #[f0, f1, f2])) (hs0 : P.underlying f0.type = some .string) (hb1 : P.underlying f1.type = some .bool) (hs2 : P.underlying f2.type = some .string)
    (ho0 : f0.offset = 0) (ho1 : f1.offset = 1) (ho2 : f2.offset = 2) (hc0 : P.cellsOf f0.type = 1) (hc1 : P.cellsOf f1.type = 1) (hc2 : P.cellsOf f2.type = 1) (hc : P.cellsOf e = 3)
    (hval : Value.okWide P W r base t v) (h : DataW.Trod enc P W 0 (fun _ => true) true t v d ps) : ∃ L, Mades W v L := by
  obtain ⟨a0, len, cap, rfl⟩ := okWide_slice ht hval
  obtain ⟨fuel, hf⟩ := h
  rcases Go.Deep.open_slice ht hf with ⟨hcs, _⟩ | ⟨a, l, c, m, k, D, Pl, hcs, _, hl, hm, hmm, _, hx⟩
  · simp [Value.cells] at hcs
    obtain ⟨rfl, rfl, rfl⟩ := hcs
    exact ⟨[], by simp, ⟨none, 0, rfl, fun h => by simp at h⟩, fun i o h => by simp at h⟩
  · simp [Value.cells] at hcs
    obtain ⟨rfl, rfl, rfl⟩ := hcs
    simp only [if_true] at hmm
    have each : ∀ i, i < len → ∃ o : MadeR, (o.path.length ≤ maxLen ∧ o.to.length ≤ maxLen) ∧ W.cell? (a.add (i * 3)) = some (.string ⟨o.path.toArray⟩) ∧ W.cell? ((a.add (i * 3)).add 1) = some (.bool o.dir) ∧ W.cell? ((a.add (i * 3)).add 2) = some (.string ⟨o.to.toArray⟩) := by
      intro i hi
      obtain ⟨cs, h1, h2⟩ := hx i (by omega)
      rw [hc] at h1
      obtain ⟨_, hlen, hcell⟩ := World.cells?_some h1
      obtain ⟨y0, y1, y2, n, _, _, g0, g1, g2⟩ := Go.Deep.trod_struct3 he h2
      rw [ho0, hc0] at g0; rw [ho1, hc1] at g1; rw [ho2, hc2] at g2
      match cs, hlen with
      | [c0, c1, c2], _ =>
        obtain ⟨z0, e0, _, w0⟩ := DataW.trod_string hs0 g0
        obtain ⟨z1, e1, _⟩ := DataW.trod_bool hb1 g1
        obtain ⟨z2, e2, _, w2⟩ := DataW.trod_string hs2 g2
        simp at e0 e1 e2
        subst e0 e1 e2
        obtain ⟨l0, rfl, hl0⟩ := str_list z0 w0
        obtain ⟨l2, rfl, hl2⟩ := str_list z2 w2
        refine ⟨⟨l0, z1, l2⟩, ⟨hl0, hl2⟩, ?_, hcell 1 (by omega), hcell 2 (by omega)⟩
        have := hcell 0 (by omega)
        simpa [Addr.add] using this
    haveI : Inhabited MadeR := ⟨⟨[], false, []⟩⟩
    obtain ⟨f, hf⟩ := Go.Deep.choose_lt (α := MadeR) (p := fun i o => (o.path.length ≤ maxLen ∧ o.to.length ≤ maxLen) ∧ W.cell? (a.add (i * 3)) = some (.string ⟨o.path.toArray⟩) ∧ W.cell? ((a.add (i * 3)).add 1) = some (.bool o.dir) ∧ W.cell? ((a.add (i * 3)).add 2) = some (.string ⟨o.to.toArray⟩)) each
    have hget : ∀ i o, ((List.range len).map f)[i]? = some o → i < len ∧ f i = o := by
      intro i o h
      rw [List.getElem?_map] at h
      rcases Nat.lt_or_ge i len with h' | h'
      · simp [h'] at h; exact ⟨h', h⟩
      · rw [List.getElem?_eq_none (by simpa using h')] at h; simp at h
    refine ⟨(List.range len).map f, by simp; omega, ⟨some a, cap, by simp, fun hpos => ?_⟩, fun i o h => ?_⟩
    · have hpos' : 0 < len := by simpa using hpos
      have h0 := (hf 0 hpos').2.1
      have ha : a = ⟨a.block, a.off, none⟩ := cell_plain (by simpa [Addr.add] using h0)
      refine ⟨a.block, a.off, by rw [← ha], World.block_lt_of_cell? W a (by simpa [Addr.add] using h0), fun i o h => ?_⟩
      obtain ⟨hi, rfl⟩ := hget i o h
      obtain ⟨_, h1, h2, h3⟩ := hf i hi
      rw [ha, add_mk] at h1 h2 h3
      rw [add_mk] at h2 h3
      exact ⟨h1, h2, h3⟩
    · obtain ⟨hi, rfl⟩ := hget i o h
      exact (hf i hi).1
theorem envG_of {W : World} (hsh : W.ShapedOpen Tryz.prog) : EnvG W :=
  ⟨Go.Proofs.cell_of_shapedOpen_int (zero := #[.int .i64 0]) (t := 3) hsh (of_decide_eq_true (by kernel_rfl)) (by kernel_rfl) rfl (by kernel_rfl) (by kernel_rfl) Tryz.underlying3⟩
end Go.Proofs.YtggdedihfhibfaaGreatDoor
/- conchlaw21.small with its count of strokes; 'd/' and two bools more ahead of a field. -/
namespace Go.Proofs.YtggdedihfhibfaaGreatDoor
open Go.RowKit IntWalk
set_option linter.unusedVariables false
set_option linter.unusedSimpArgs false

def SmallQ (x : List UInt8) (e : Ending) : Prop := ∃ b : Bool, e = .returned (.bool b) ∧ (b = true → x.length ≤ 60 ∧ x.count 47 ≤ 4)
theorem count_take (x : List UInt8) (i : Nat) (c : UInt8) (h : x[i]? = some c) : (x.take (i + 1)).count 47 = (x.take i).count 47 + if c = 47 then 1 else 0 := by
  have hlt : i < x.length := (List.getElem?_eq_some_iff.1 h).1
  rw [List.take_add_one, h]
  simp [List.count_append, List.count_cons]
set_option maxRecDepth 100000 in
set_option maxHeartbeats 2000000 in
theorem small_cnt (x : List UInt8) (a0 : Option Addr) (n0 c0 : Nat) (W : World) (hx : x.length ≤ 9223372036854775807) : Calls Tryz.prog 12 #[.agg #[.string ⟨x.toArray⟩, .slice a0 n0 c0]] W fun e w' => SmallQ x e ∧ Below W.heap.size W w' := by
  have hB := (Below.refl W.heap.size W).alloc (Nat.le_refl _) (.cells #[.string ⟨x.toArray⟩, .slice a0 n0 c0] 31)
  have HB := Lib.hid hB
  have hc : (W.alloc (.cells #[.string ⟨x.toArray⟩, .slice a0 n0 c0] 31)).cell? ⟨W.heap.size, 0, none⟩ = some (.string ⟨x.toArray⟩) := (cell01 (r_alloc_at _ _)).1
  obtain ⟨w1, hw1⟩ : ∃ w1, W.alloc (.cells #[.string ⟨x.toArray⟩, .slice a0 n0 c0] 31) = w1 := ⟨_, rfl⟩
  rw [hw1] at hc HB
  clear hB
  go_enter Tryz.func12, Tryz.ntmps12
  go_wp2
  clear hw1
  go_loopw [3, 4] (fun nv iv wr => ∃ n i : Nat, nv = .int .i64 n ∧ iv = .int .i64 i ∧ n ≤ i ∧ i ≤ x.length ∧ i ≤ 61 ∧ RowKit.Hid (n = (x.take i).count 47) ∧ wr = w1) (fun _ iv _ => 61 - (intOf iv).toNat)
  case atStart => exact ⟨0, 0, rfl, rfl, Nat.le_refl _, Nat.zero_le _, by omega, Lib.hid rfl, rfl⟩
  case round =>
    obtain ⟨n, i, rfl, rfl, hn, hi, hi61, HC, rfl⟩ := hrel
    by_cases hlt : i < x.length
    · have hl1 : (i : Int) < (x.length : Int) := by omega
      by_cases h60 : i ≤ 60
      · have h6 : (i : Int) ≤ 60 := by omega
        obtain ⟨c, _, hcc, hcs⟩ := str_at x i hlt
        have HT := Lib.hid (count_take x i c hcs)
        clear hcs
        cases h47 : ((c.toNat : Int) == 47)
        · have hne : c ≠ 47 := by rintro rfl; cases h47
          have HC2 : RowKit.Hid (n = (x.take (i + 1)).count 47) := Lib.hid (by rw [HT.out, if_neg hne, Nat.add_zero]; exact HC.out)
          go_wp2
          go_roundw
          case rel => exact ⟨n, i + 1, rfl, by go_num, by omega, by omega, by omega, HC2, by first | rfl | trivial⟩
          case measure => simp [intOf]; omega
        · have he : c = 47 := UInt8.toNat_inj.1 (by have := eq_of_beq h47; simpa using (by omega : c.toNat = 47))
          have HC2 : RowKit.Hid (n + 1 = (x.take (i + 1)).count 47) := Lib.hid (by rw [HT.out, if_pos he]; exact congrArg (· + 1) HC.out)
          clear he
          go_wp2
          go_roundw
          case rel => exact ⟨n + 1, i + 1, by go_num, by go_num, by omega, by omega, by omega, HC2, by first | rfl | trivial⟩
          case measure => simp [intOf]; omega
      · have h6 : ¬ (i : Int) ≤ 60 := by omega
        have hx6 : ¬ (x.length : Int) ≤ 60 := by omega
        go_wp2
        go_ret
        exact ⟨⟨_, rfl, fun h => by cases h⟩, HB.out⟩
    · have hl1 : ¬ (i : Int) < (x.length : Int) := by omega
      by_cases hx6 : x.length ≤ 60
      · have hx6' : (x.length : Int) ≤ 60 := by omega
        have HC3 : RowKit.Hid (n = x.count 47) := Lib.hid (by rw [HC.out, List.take_of_length_le (by omega)])
        by_cases hn4 : n ≤ 4
        · have hn4' : (n : Int) ≤ 4 := by omega
          go_wp2
          go_ret
          exact ⟨⟨_, rfl, fun _ => ⟨hx6, by rw [← HC3.out]; exact hn4⟩⟩, HB.out⟩
        · have hn4' : ¬ (n : Int) ≤ 4 := by omega
          go_wp2
          go_ret
          exact ⟨⟨_, rfl, fun h => by cases h⟩, HB.out⟩
      · have hx6' : ¬ (x.length : Int) ≤ 60 := by omega
        go_wp2
        go_ret
        exact ⟨⟨_, rfl, fun h => by cases h⟩, HB.out⟩
/-- the cells that a row of bools begins with -/
theorem info_bool : (Tryz.prog.info? 4).map (fun i => (i.zero, i.size, i.bytes)) = some (some (.bool false), 1, 1) := by kernel_rfl
theorem BoolsC.own {w : World} {base : Nat} {q : List Bool} {v : Value} (h : w.ownsRow base 4 1 v q.length (q.map Value.bool)) : BoolsC w v q := by
  rcases h.2 with ⟨rfl, hn⟩ | ⟨g, cap, cur, rfl, hbg, hg, hnc, hcm, hcs, htk⟩
  · have : q = [] := by simpa using hn
    subst this
    exact no_bools w
  · refine ⟨⟨_, cap, rfl, fun _ => ⟨g, 0, rfl, blk_lt hg, fun i t ht => ?_⟩⟩, fun a n c e => by cases e; exact hnc⟩
    have hil : i < q.length := (List.getElem?_eq_some_iff.1 ht).1
    have h1 : (cur.toList.take (q.length * 1))[i]? = some (Value.bool t) := by rw [htk, List.getElem?_map, ht]; rfl
    rw [List.getElem?_take_of_lt (by omega), Array.getElem?_toList] at h1
    rw [Nat.zero_add, cell_of_row w g i cur _ _ hg]
    exact h1
/-- 'append([]bool{false, false}, x.Quoted...)': what it answers -/
theorem run_app_b {W : World} {n : Nat} (hn : W.heap[n]? = some (.cells #[.bool false, .bool false] 4 (0, 0)))
    {q : List Bool} {ad : Option Addr} {c : Nat} (hq : BoolsC W (.slice ad q.length c) q) (hql : q.length ≤ 1048576) (ty : TypeId) :
    ∃ g cap w6, (Builtin.append_ #[29, 29] ty #[.slice (some ⟨n, 0, none⟩) 2 2, .slice ad q.length c]).run Tryz.prog W = .ok (.slice (some ⟨g, 0, none⟩) (q.length + 2) cap) w6 ∧ W.grownBy w6 (some n) ∧ BoolsC w6 (.slice (some ⟨g, 0, none⟩) (q.length + 2) cap) (false :: false :: q) := by
  obtain ⟨i0, hi, hz0, hz1, hz2⟩ := info_parts info_bool
  have hown : W.ownsRow n 4 1 (.slice (some ⟨n, 0, none⟩) 2 2) 2 [.bool false, .bool false] :=
    ⟨by simp [maxLen], .inr ⟨n, 2, _, rfl, Nat.le_refl _, hn, Nat.le_refl _, by simp [maxLen], rfl, rfl⟩⟩
  have ht : Tryz.prog.underlying 29 = some (.slice 4) := by kernel_rfl
  by_cases hq0 : 0 < q.length
  · obtain ⟨⟨ad', c', e, hs⟩, hcc⟩ := hq
    cases e
    obtain ⟨b, off, rfl, hb, hcell⟩ := hs hq0
    obtain ⟨g, cap, w6, hr, h2, h3, h4, h5⟩ := run_append_lies (P := Tryz.prog) W 29 ty n 4 i0 _ 1 1 ht hi hz0 hz1 hz2 rfl (by omega) _ 2 _ hown ⟨b, off, none⟩ q.length c (q.map Value.bool) (by simp) (by
        intro j u hu
        rw [List.getElem?_map] at hu
        cases ht : q[j]? with
        | none => rw [ht] at hu; cases hu
        | some t =>
          rw [ht] at hu
          cases hu
          rw [show (⟨b, off, none⟩ : Addr).add j = ⟨b, off + j, none⟩ by unfold Addr.add; split <;> simp_all]
          exact hcell j t ht) (by
        intro u hu
        obtain ⟨t, _, rfl⟩ := List.mem_map.1 hu
        rfl) hq0 (by simp only [maxLen]; omega) (by omega) (Nat.le_of_lt (blk_lt hn)) _ rfl
    rw [Nat.add_comm 2 q.length] at hr h2
    refine ⟨g, cap, w6, hr, h3, ?_⟩
    exact BoolsC.own (q := false :: false :: q) (base := n) (by simpa using h2)
  · have hq1 : q = [] := List.eq_nil_of_length_eq_zero (by omega)
    subst hq1
    refine ⟨n, 2, W, ?_, ⟨rfl, rfl, rfl, Nat.le_refl _, fun _ _ _ => rfl⟩, BoolsC.own (q := [false, false]) (base := n) (by simpa using hown)⟩
    cases ad <;> simp [Builtin.append_, run_underlying ht, sizeOf, typeInfo, hi, Builtin.lenOf, Builtin.firstCells, loadCells, loadCellsFrom, hz1, storeCells]
theorem Below.al {W w : World} (h : Below W.heap.size W w) (o : Obj) : Below W.heap.size W (w.alloc o) := h.alloc h.size o
theorem Below.dr {n : Nat} {W w : World} (h : Below n W w) : Below n W w.drew := h.drew
theorem al_at {w : World} {k : Nat} {x : Obj} (h : w.heap[k]? = some x) (o : Obj) : (w.alloc o).heap[k]? = some x := by
  exact (heap_alloc_old w o (blk_lt h)).trans h
theorem new_at {w : World} {o : Obj} {k : Nat} (hk : w.heap.size = k) : (w.alloc o).heap[k]? = some o := by
  subst hk
  exact r_alloc_at w o
/-- the second field's block, as it is made -/
def YNew (m : Nat) (w : World) : Prop := w.heap[m]? = some (.cells #[.string ByteArray.empty, .slice none 0 0] 31 (0, 0))
theorem YNew.frozen {m : Nat} {w : World} (h : YNew m w) : w.frozen? ⟨m, 0, none⟩ = false ∧ w.frozen? ⟨m, 1, none⟩ = false := ⟨by simp [World.frozen?, show w.heap[m]? = _ from h], by simp [World.frozen?, show w.heap[m]? = _ from h]⟩
theorem YNew.cells {m : Nat} {w : World} (h : YNew m w) : w.cell? ⟨m, 0, none⟩ = some (.string ByteArray.empty) ∧ w.cell? ⟨m, 1, none⟩ = some (.slice none 0 0) := cell01 h
theorem dr_at {w : World} {k : Nat} {x : Obj} (h : w.heap[k]? = some x) : w.drew.heap[k]? = some x := h
theorem st_at {w : World} {k : Nat} {x : Obj} (h : w.heap[k]? = some x) (p : Addr) (v : Value) (hp : p.block ≠ k) : (w.setCell p v).heap[k]? = some x :=
  (Below.heap_setCell w p v k (fun e => hp e.symm)).trans h
/-- .. one step of a region that draws -/
theorem step_app_b {ops : Array Oper} {o : Oper} {a : Act} {K : Act → World → Prop} {Q : Exit → Act → World → Prop} {E : Prop}
    (hgd : o.guard = none) (x y : Operand) (ho : o.op = Op.call { callee := Callee.builtin Builtin.append, args := #[x, y], argTypes := #[29, 29] })
    {W : World} {n : Nat} (hx : a.eval x = .slice (some ⟨n, 0, none⟩) 2 2) (hn : W.heap[n]? = some (.cells #[.bool false, .bool false] 4 (0, 0)))
    {q : List Bool} {ad : Option Addr} {c : Nat} (hq : BoolsC W (.slice ad q.length c) q) (hql : q.length ≤ 1048576) (hy : a.eval y = .slice ad q.length c)
    (p : Nat) (hp : p < n) {c0 c1 : Value} {tt : TypeId} (hp0 : W.heap[p]? = some (.cells #[c0, c1] tt (0, 0)))
    (hK : ∀ g cap w6, w6.heap[p]? = some (.cells #[c0, c1] tt (0, 0)) → W.grownBy w6 (some n) → BoolsC w6 (.slice (some ⟨g, 0, none⟩) (q.length + 2) cap) (false :: false :: q) → K (a.put o.dst (.slice (some ⟨g, 0, none⟩) (q.length + 2) cap)) w6) :
    if Region.wanted o (yielded ops a.tmps) = true then Oper.wp Tryz.prog o a W K Q else E := by
  have hw : Region.wanted o (yielded ops a.tmps) = true := by simp [Region.wanted, hgd]
  rw [if_pos hw]
  obtain ⟨g, cap, w6, hr, h3, h4⟩ := run_app_b hn hq hql o.type
  unfold Oper.wp execOp
  simp only [ho, resolve, invoke, builtin, Sem.run_bind, Sem.run_pure, Result.andThen_ok, List.map_toArray, List.map_cons, List.map_nil, hx, hy, hr]
  have hlt : p < W.heap.size := Nat.lt_trans hp (blk_lt hn)
  have hk := h3.block p hlt (fun e => by have := Option.some.inj e; omega)
  exact hK g cap w6 (hk.trans hp0) h3 h4
theorem BoolsC.set {w : World} {g m n c o : Nat} {x : Value} {q : List Bool} (h : BoolsC w (.slice (some ⟨g, 0, none⟩) n c) q) (hm : g ≠ m) : BoolsC (w.setCell ⟨m, o, none⟩ x) (.slice (some ⟨g, 0, none⟩) n c) q := by
  obtain ⟨⟨a, cap, e, hs⟩, hc⟩ := h
  cases e
  refine ⟨⟨_, _, rfl, fun h0 => ?_⟩, hc⟩
  obtain ⟨b, off, e, hb, hcell⟩ := hs h0
  cases e
  refine ⟨g, 0, rfl, by simpa [World.setCell] using hb, fun i t ht => ?_⟩
  have hk : (w.setCell ⟨m, o, none⟩ x).heap[g]? = w.heap[g]? := Below.heap_setCell _ _ _ _ (fun e => hm e)
  exact (World.cell?_of_block (a := ⟨g, 0 + i, none⟩) hk).trans (hcell i t ht)
theorem BoolsC.far {w : World} {g m n c : Nat} {q : List Bool} {b : Bool} (h : BoolsC w (.slice (some ⟨g, 0, none⟩) n c) (b :: q)) (hy : YNew m w) : g ≠ m := by
  rintro rfl
  obtain ⟨⟨a, cap, e, hs⟩, hc⟩ := h
  cases e
  obtain ⟨b', off, e, hb, hcell⟩ := hs (by simp)
  cases e
  have h1 := hcell 0 b rfl
  have h2 := hy.cells.1
  rw [h1] at h2
  cases h2
/-- the second field, as it lies -/
def YAt (w : World) (y : List UInt8) (q : List Bool) (p : Nat) (wx : World) : Prop := Below w.heap.size w wx ∧ ∃ g cap, wx.cell? ⟨p, 0, none⟩ = some (.string ⟨y.toArray⟩) ∧ wx.cell? ⟨p, 1, none⟩ = some (.slice g (q.length + 2) cap) ∧ BoolsC wx (.slice g (q.length + 2) cap) (false :: false :: q)
section
variable {w W2 w6 : World} {y : List UInt8} {q : List Bool} {n m g cap : Nat}
theorem yat_new (hB : Below w.heap.size w W2) (hg : W2.grownBy w6 (some n)) (hn : w.heap.size ≤ n) (hq : BoolsC w6 (.slice (some ⟨g, 0, none⟩) (q.length + 2) cap) (false :: false :: q)) :
    YAt w y q w6.heap.size (w6.alloc (.cells #[.string ⟨y.toArray⟩, .slice (some ⟨g, 0, none⟩) (q.length + 2) cap] 31)) := by
  have h6 : Below w.heap.size w w6 := hB.grown hg hB.size (fun k e => by cases e; exact hn)
  obtain ⟨c0, c1⟩ := cell01 (r_alloc_at w6 (.cells #[.string ⟨y.toArray⟩, .slice (some ⟨g, 0, none⟩) (q.length + 2) cap] 31))
  exact ⟨h6.alloc h6.size _, _, _, c0, c1, hq.1.alloc _, hq.2⟩
theorem yat_set (hB : Below w.heap.size w W2) (hg : W2.grownBy w6 (some n)) (hn : w.heap.size ≤ n) (hq : BoolsC w6 (.slice (some ⟨g, 0, none⟩) (q.length + 2) cap) (false :: false :: q)) (hy : YNew m w6) (hm : w.heap.size ≤ m) :
    YAt w y q m ((w6.setCell ⟨m, 0, none⟩ (.string ⟨y.toArray⟩)).setCell ⟨m, 1, none⟩ (.slice (some ⟨g, 0, none⟩) (q.length + 2) cap)) := by
  have h6 : Below w.heap.size w w6 := hB.grown hg hB.size (fun k e => by cases e; exact hn)
  have hf := hq.far hy
  refine ⟨(h6.setCell hm _).setCell hm _, _, _, ?_, ?_, (hq.set hf).set hf⟩
  · simp [World.cell?, World.setCell, Array.getElem?_modify, show w6.heap[m]? = _ from hy]
  · simp [World.cell?, World.setCell, Array.getElem?_modify, show w6.heap[m]? = _ from hy]
end
end Go.Proofs.YtggdedihfhibfaaGreatDoor
/- A field as a law's argument: opened, and what its bulk says of its bools. -/
namespace Go.Proofs.YtggdedihfhibfaaGreatDoor
open Go.RowKit Go.WideShapes Go.ChangeShapes Go.ChangeAt IntWalk
set_option linter.unusedVariables false
set_option linter.unusedSimpArgs false

/-- the datum's second part has as many elements as there are bools -/
def BulkAt {H : Type} (d : DataW H) (n : Nat) : Prop := ∃ e1 e2, d = .agg [e1, e2] ∧ (n = 0 ∨ ∃ es sp, e2 = .slice es sp ∧ es.length = n)
theorem open_field_b {H : Type} {enc : TypeId × Value → H} {P : Program} {W : World} {base : Nat} {t e : TypeId} {f0 f1 : Field} {v : Value} {d : DataW H} {ps : List MemPlace} {r : Reach}
    (ht : P.underlying t = some (.struct #[f0, f1])) (h0 : P.underlying f0.type = some .string) (h1 : P.underlying f1.type = some (.slice e)) (he : P.underlying e = some .bool) (hce : P.cellsOf e = 1)
    (ho : (f0.offset, f1.offset) = (0, 1)) (hc : (P.cellsOf f0.type, P.cellsOf f1.type, P.cellsOf t) = (1, 1, 2))
    (hval : Value.okWide P W r base t v) (h : DataW.Trod enc P W 0 (fun _ => true) true t v d ps) : ∃ a, FieldArg W v a ∧ BulkAt d a.2.length := by
  obtain ⟨cs, rfl, hsz⟩ := okWide_struct ht hval
  obtain ⟨fuel, hf⟩ := h
  obtain ⟨xs, n, _, hdx, hl, hlen, hx⟩ := DataW.trod_struct ht hf
  simp only [Prod.mk.injEq] at ho hc
  obtain ⟨o0, o1⟩ := ho
  obtain ⟨c0, c1, ct⟩ := hc
  simp only [Value.cells] at hl hx
  rw [ct] at hsz
  match xs, hlen with
  | [y0, y1], _ =>
    match cs, hsz with
    | ⟨[z0, z1]⟩, _ =>
      have g0 := hx 0 f0 rfl
      have g1 := hx 1 f1 rfl
      rw [o0, c0] at g0; rw [o1, c1] at g1
      simp only [List.getElem?_cons_zero, List.getElem?_cons_succ] at g0 g1
      obtain ⟨u0, e0, _, w0⟩ := DataW.trod_string h0 g0
      simp at e0
      subst e0
      obtain ⟨l0, rfl, hl0⟩ := str_list u0 w0
      have hd : d = .agg [y0.1, y1.1] := congrArg Prod.fst hdx
      rcases Go.Deep.open_slice1 h1 hce g1 with ⟨hcs, _⟩ | ⟨a, len, cap, m, k, V, D, Pl, hcs, _, hlc, hm, hmm, hyx, hxx⟩
      · simp at hcs
        subst hcs
        exact ⟨(l0, []), ⟨_, rfl, no_bools W, hl0, by simp⟩, _, _, hd, .inl rfl⟩
      · simp at hcs
        subst hcs
        simp only [if_true] at hmm
        have each : ∀ i, i < len → ∃ o : Bool, W.cell? (a.add i) = some (.bool o) := by
          intro i hi
          obtain ⟨q1, q2⟩ := hxx i (by omega)
          obtain ⟨z, e1, _⟩ := DataW.trod_bool he q2
          simp at e1
          exact ⟨z, by rw [q1, e1]⟩
        obtain ⟨f, hf2⟩ := Go.Deep.choose_lt (α := Bool) (p := fun i o => W.cell? (a.add i) = some (.bool o)) each
        have hget : ∀ i o, ((List.range len).map f)[i]? = some o → i < len ∧ f i = o := by
          intro i o h
          rw [List.getElem?_map] at h
          rcases Nat.lt_or_ge i len with h' | h'
          · simp [h'] at h; exact ⟨h', h⟩
          · rw [List.getElem?_eq_none (by simpa using h')] at h; simp at h
        refine ⟨(l0, (List.range len).map f), ⟨.slice (some a) len cap, rfl, ⟨⟨some a, cap, by simp, fun hpos => ?_⟩, fun a' n' c' e' => by cases e'; exact hlc⟩, hl0, by simp; omega⟩, _, _, hd, .inr ⟨_, _, by rw [hyx], by simp⟩⟩
        have hpos' : 0 < len := by simpa using hpos
        have hh0 := hf2 0 hpos'
        have ha : a = ⟨a.block, a.off, none⟩ := cell_plain (by simpa [Addr.add] using hh0)
        refine ⟨a.block, a.off, by rw [← ha], World.block_lt_of_cell? W a (by simpa [Addr.add] using hh0), fun i o h => ?_⟩
        obtain ⟨hi, rfl⟩ := hget i o h
        have q1 := hf2 i hi
        rw [ha, add_mk] at q1
        exact q1
end Go.Proofs.YtggdedihfhibfaaGreatDoor
