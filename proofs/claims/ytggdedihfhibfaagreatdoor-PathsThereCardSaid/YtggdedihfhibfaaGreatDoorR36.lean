/- Texts of one proof, packed: OwnS, PtA, PtB -/
import Derived.Test.YtggdedihfhibfaaGreatDoorOwn
import Derived.Test.YtggdedihfhibfaaGreatDoorR35
set_option linter.unusedVariables false
set_option linter.unusedSimpArgs false
set_option linter.deprecated false
set_option linter.unnecessarySimpa false
/- Slices of strings that a call makes itself and appends to. -/
namespace Go.Proofs.YtggdedihfhibfaaGreatDoor
open Go.RowKit

/-- v is a slice of the strings L, in a block of the call's own (from base on) -/
def OwnS (w : World) (base : Nat) (v : Value) (L : List (List UInt8)) : Prop := w.ownsRow base 9 1 v L.length (L.map fun x => Value.string ⟨x.toArray⟩)
theorem info_str : (Tryz.prog.info? 9).map (fun i => (i.zero, i.size, i.bytes)) = some (some (.string ByteArray.empty), 1, 16) := by kernel_rfl
theorem OwnS.nil (w : World) (base : Nat) : OwnS w base (.slice none 0 0) [] := World.ownsRow_nil w base _ _
theorem OwnS.drew {w : World} {base v L} (h : OwnS w base v L) : OwnS w.drew base v L := h
theorem OwnS.alloc {w : World} {base v L} (h : OwnS w base v L) (o : Obj) : OwnS (w.alloc o) base v L := World.ownsRow.alloc h o
theorem OwnS.below {w w' : World} {base v L} (h : OwnS w base v L) (hb : Below w.heap.size w w') : OwnS w' base v L :=
  World.ownsRow.kept h (w' := w') (row := none) ⟨hb.os, hb.tape, hb.output, hb.size, fun k hk _ => hb.block k hk⟩ (by cases v.ownBlock <;> simp)
theorem below_ownS {w w1 w2 : World} {v : Value} {L : List (List UInt8)} {base : Nat} (hb : Below base w w1) (hown : OwnS w1 base v L) (hg : w1.grownBy w2 v.ownBlock) (hs : base ≤ w1.heap.size) : Below base w w2 :=
  hb.grown hg hs (fun k e => (World.ownsRow.lt hown k e).1)
theorem OwnS.lt {w : World} {base v L} (h : OwnS w base v L) : ∀ k, v.ownBlock = some k → base ≤ k ∧ k < w.heap.size := World.ownsRow.lt h
/-- 'append(out, s)': one string, that the statement has just laid in a new block -/
theorem append_s {ops : Array Oper} {rest : List Oper} {o : Oper} {a : Act} {Q : Exit → Act → World → Prop} {w : World} (hgd : o.guard = none) (s x : Operand)
    (ho : o.op = .call { callee := .builtin .append, args := #[s, x], argTypes := #[32, 32] }) (base : Nat) (v : Value) (L : List (List UInt8)) (hs : a.eval s = v) (hown : OwnS w base v L)
    (b : List UInt8) (hx : a.eval x = .slice (some ⟨w.heap.size, 0, none⟩) 1 1)
    (hlen : L.length + 1 ≤ 1000000000000) (hbase : base ≤ w.heap.size)
    (h : ∀ v' w', OwnS w' base v' (L ++ [b]) → w.grownBy w' v.ownBlock → wpList Tryz.prog ops Q rest (a.put o.dst v') w') :
    wpList Tryz.prog ops Q (o :: rest) a (w.alloc (.cells #[.string ⟨b.toArray⟩] 9)) := by
  obtain ⟨i0, hi, hz0, hz1, hz2⟩ := info_parts info_str
  refine wpList_append_own _ hgd s x 32 ho base 9 i0 (.string ByteArray.empty) 1 16 (by kernel_rfl) hi hz0 hz1 hz2 rfl (by omega) v L.length _ hs (hown.alloc _) ⟨w.heap.size, 0, none⟩ 1 1 [.string ⟨b.toArray⟩] hx rfl ?_ ?_ (by simp only [maxLen]; omega) (by omega) (by simp; omega) ?_
  · intro j u hj
    match j, hj with
    | 0, hj => simp at hj; subst hj; simp [Addr.add]
  · intro u hu; simp at hu; subst hu; rfl
  · intro v' w' h1 h2 _
    refine h v' w' (by simpa [OwnS] using h1) ?_
    exact ⟨h2.os, h2.tape, h2.output, by have := h2.size; simp at this; omega, fun k hk hne => by
      rw [h2.block k (by simp; omega) hne, Below.heap_alloc _ _ _ hk]⟩
/-- what an owned slice of strings looks like -/
theorem OwnS.strs {w : World} {base v L} (h : OwnS w base v L) (h5 : ∀ x, x ∈ L → x.length ≤ maxLen) : Strs w v L := by
  obtain ⟨hxs, hr⟩ := h
  rcases hr with ⟨rfl, hn⟩ | ⟨g, cap, cur, rfl, hb, hg, hnc, hcm, hcs, htk⟩
  · have : L = [] := List.eq_nil_of_length_eq_zero hn
    subst this
    exact ⟨by simp, ⟨none, 0, rfl, by simp, fun h => by simp at h⟩, fun i x h => by simp at h⟩
  · refine ⟨by omega, ⟨some ⟨g, 0, none⟩, cap, rfl, hnc, fun _ => ⟨g, 0, rfl, ?_, fun j x hj => ?_⟩⟩, fun i x hx => h5 x (List.mem_of_getElem? hx)⟩
    · rcases Nat.lt_or_ge g w.heap.size with h' | h'
      · exact h'
      · rw [Array.getElem?_eq_none h'] at hg; cases hg
    · rw [Nat.zero_add]
      have hjl : j < L.length := (List.getElem?_eq_some_iff.1 hj).1
      have h1 : (cur.toList.take (L.length * 1))[j]? = some (.string ⟨x.toArray⟩) := by rw [htk, List.getElem?_map, hj]; rfl
      rw [List.getElem?_take_of_lt (by omega), Array.getElem?_toList] at h1
      simp [World.cell?, hg, h1]
theorem OwnS.len {w : World} {base v L} (h : OwnS w base v L) : ∃ a cap, v = .slice a L.length cap := by
  obtain ⟨hxs, hr⟩ := h
  rcases hr with ⟨rfl, hn⟩ | ⟨g, cap, cur, rfl, _⟩
  · exact ⟨none, 0, by rw [hn]⟩
  · exact ⟨_, cap, rfl⟩
end Go.Proofs.YtggdedihfhibfaaGreatDoor
/- paths.parts: a field cut at each stroke, each piece a pattern. -/
namespace Go.Proofs.YtggdedihfhibfaaGreatDoor
open Go.RowKit IntWalk
set_option linter.unusedVariables false
set_option linter.unusedSimpArgs false

theorem info_part : (Tryz.prog.info? 65).map (fun i => (i.zero, i.size, i.bytes)) = some (some (.agg #[.string ByteArray.empty, .slice none 0 0]), 2, 40) := by kernel_rfl
/-- a part, and the slice of its tokens -/
structure PartX where
  p : PartS
  tv : Value
def cellsP (x : PartX) : List Value := [.string ⟨x.p.text.toArray⟩, x.tv]
theorem cell_two_new (w : World) (a b : Value) (t : TypeId) : ∀ j u, [a, b][j]? = some u → (w.alloc (.cells #[a, b] t)).cell? ((⟨w.heap.size, 0, none⟩ : Addr).add j) = some u := by
  intro j u hj
  match j, hj with
  | 0, hj => simp at hj; subst hj; simp [Addr.add]
  | 1, hj => simp at hj; subst hj; simp [Addr.add]
/-- tokens lie as they lay behind an append to a row of parts -/
theorem TokAt.grown {W w1 : World} {v rv : Value} {L : List GTok} {xs : List Value} {base n : Nat} {tmp : Obj} (h : TokAt W v L) (hr : W.ownsRow base 65 2 rv n xs)
    (hn : n = 0 → rv.ownBlock = none) (hx : ∀ y, xs[0]? = some y → ∃ z, y = .string z) (hg : (W.alloc tmp).grownBy w1 rv.ownBlock) : TokAt w1 v L := by
  obtain ⟨a, cap, rfl, hs⟩ := h
  refine ⟨a, cap, rfl, fun h0 => ?_⟩
  obtain ⟨b, rfl, hl, hc⟩ := hs h0
  have hsz : W.heap.size ≤ w1.heap.size := by have := hg.size; simp at this; omega
  have hbk : w1.heap[b]? = W.heap[b]? := by
    rw [hg.block b (by simp; omega) (fun e => ?_)]
    · exact Below.heap_alloc _ _ _ hl
    · by_cases hn0 : n = 0
      · rw [hn hn0] at e; cases e
      · obtain ⟨h3, hr'⟩ := hr
        rcases hr' with ⟨rfl, _⟩ | ⟨g, cap', cur, rfl, hbg, hgb, hnc, hcm, hcs, htk⟩
        · cases e
        · cases e
          obtain ⟨t, ht⟩ : ∃ t, L[0]? = some t := ⟨L[0], List.getElem?_eq_getElem h0⟩
          obtain ⟨_, c0, _⟩ := hc 0 t ht
          have hx0 : xs[0]? = cur[0]? := by rw [← htk, List.getElem?_take_of_lt (by omega), Array.getElem?_toList]
          have hc0 : cur[0]? = some (.int .i64 t.k) := by simpa [World.cell?, hgb] using c0
          rw [hc0] at hx0
          obtain ⟨z, hz⟩ := hx _ hx0
          cases hz
  refine ⟨b, rfl, by omega, fun i t ht => ?_⟩
  obtain ⟨tv, c0, c1, c2, c3, c4⟩ := hc i t ht
  refine ⟨tv, (World.cell?_of_block hbk).trans c0, (World.cell?_of_block hbk).trans c1, (World.cell?_of_block hbk).trans c2, (World.cell?_of_block hbk).trans c3, c4.kept fun k hk => ?_⟩
  obtain ⟨cu, hcu⟩ := OwnR.type c4 k hk
  rw [hg.block k (by have := blk_lt hcu; simp; omega) (fun e => ?_)]
  · exact Below.heap_alloc _ _ _ (blk_lt hcu)
  · obtain ⟨c, hc⟩ := row_type hr k e.symm
    rw [hcu] at hc
    cases hc
/-- a slice of bools that has its room -/
def BoolsC (W : World) (v : Value) (q : List Bool) : Prop := BoolsAt W v q ∧ ∀ a n c, v = .slice a n c → n ≤ c
theorem BoolsC.drop {W : World} {a : Option Addr} {q : List Bool} {cap : Nat} (h : BoolsC W (.slice a q.length cap) q) (l : Nat) :
    BoolsC W (.slice (if cap = l then a else a.map (·.add (l * 1))) (q.length - l) (cap - l)) (q.drop l) := by
  obtain ⟨⟨a', cap', e, hs⟩, hc⟩ := h
  have hle := hc _ _ _ rfl
  cases e
  refine ⟨⟨_, cap - l, by rw [List.length_drop], fun h0 => ?_⟩, fun a n c e => by cases e; omega⟩
  rw [List.length_drop] at h0
  obtain ⟨b, off, rfl, hb, hcell⟩ := hs (by omega)
  rw [if_neg (by omega)]
  refine ⟨b, off + l * 1, by simp [Addr.add], hb, fun i t ht => ?_⟩
  rw [List.getElem?_drop] at ht
  have := hcell (l + i) t ht
  rw [show off + l * 1 + i = off + (l + i) by omega]
  exact this
/-- what lies between two rounds -/
structure PtI (w w2 : World) (sb : Nat) (x : List UInt8) (q : List Bool) (k : Nat) (v qv : Value) (W : World) : Prop where
  ex : ∃ (L : List PartX) (qk : List Bool), W.ownsRow w2.heap.size 65 2 v L.length (L.flatMap cellsP) ∧ (L.length = 0 → v.ownBlock = none) ∧ (∀ p ∈ L, TokAt W p.tv p.p.toks) ∧ L.length = k ∧
    piecesS (cutP x) q = L.map PartX.p ++ piecesS ((cutP x).drop k) qk ∧ BoolsC w qv qk ∧ qk.length ≤ q.length
  below : Below w2.heap.size w2 W
/-- parts in a row -/
def PartsAt (base : Nat) (W : World) (v : Value) (ps : List PartS) : Prop := ∃ L : List PartX, L.map PartX.p = ps ∧ W.ownsRow base 65 2 v L.length (L.flatMap cellsP) ∧ ∀ p ∈ L, TokAt W p.tv p.p.toks
theorem cellsP_first {L : List PartX} : ∀ y, (L.flatMap cellsP)[0]? = some y → ∃ z, y = .string z := by
  intro y hy
  cases L with
  | nil => simp at hy
  | cons x L => simp [cellsP] at hy; exact ⟨_, hy.symm⟩
theorem row_mono {w : World} {base base' n size : Nat} {e : TypeId} {v : Value} {xs : List Value} (h : w.ownsRow base e size v n xs) (hb : base' ≤ base) : w.ownsRow base' e size v n xs := by
  obtain ⟨h3, hr⟩ := h
  refine ⟨h3, hr.imp id ?_⟩
  rintro ⟨g, cap, cur, e1, h1, r⟩
  exact ⟨g, cap, cur, e1, Nat.le_trans hb h1, r⟩
theorem row_form {w : World} {base n size : Nat} {e : TypeId} {v : Value} {xs : List Value} (h : w.ownsRow base e size v n xs) : ∃ a c, v = .slice a n c := by
  rcases h.2 with ⟨rfl, hn⟩ | ⟨g, cap, cur, rfl, _⟩
  · exact ⟨none, 0, by rw [hn]⟩
  · exact ⟨_, cap, rfl⟩
theorem pt_step {w w2 W w3 w4 : World} {sb k : Nat} {x s : List UInt8} {q qk : List Bool} {L : List PartX} {v v' qv' tv : Value} {tmp : Obj}
    (hrow : W.ownsRow w2.heap.size 65 2 v L.length (L.flatMap cellsP)) (hnil : L.length = 0 → v.ownBlock = none) (htok : ∀ p ∈ L, TokAt W p.tv p.p.toks) (hLk : L.length = k)
    (hsp : piecesS (cutP x) q = L.map PartX.p ++ piecesS ((cutP x).drop k) qk) (hdrop : (cutP x).drop k = s :: (cutP x).drop (k + 1)) (hqk : qk.length ≤ q.length) (hbel : Below w2.heap.size w2 W) (hb3 : Below W.heap.size W w3)
    (htk : TokAt w3 tv (parseS s qk)) (hrow4 : w4.ownsRow w2.heap.size 65 2 v' (L.length + 1) (L.flatMap cellsP ++ [.string ⟨s.toArray⟩, tv])) (hg : (w3.alloc tmp).grownBy w4 v.ownBlock) (hq' : BoolsC w qv' (qk.drop (s.length + 1))) :
    PtI w w2 sb x q (k + 1) v' qv' w4 := by
  have hrow3 : w3.ownsRow w2.heap.size 65 2 v L.length (L.flatMap cellsP) := World.ownsRow.kept hrow (w' := w3) (row := none) (grown_none hb3) (by cases v.ownBlock <;> simp)
  refine ⟨⟨L ++ [⟨⟨s, parseS s qk⟩, tv⟩], qk.drop (s.length + 1), by simpa [cellsP] using hrow4, by simp, fun p hp => ?_, by simp [hLk], by rw [hsp, hdrop]; simp [piecesS], hq', by simp; omega⟩, ?_⟩
  · rcases List.mem_append.1 hp with hp | hp
    · exact ((htok p hp).below hb3).grown hrow3 hnil cellsP_first hg
    · simp at hp
      subst hp
      exact htk.grown hrow3 hnil cellsP_first hg
  · have h3 := hbel.trans (hb3.mono hbel.size)
    exact (h3.alloc h3.size tmp).grown hg (by have := h3.size; simp; omega) (fun k e => (World.ownsRow.lt hrow k e).1)
set_option maxRecDepth 100000 in
set_option maxHeartbeats 2000000 in
theorem parts_any (x : List UInt8) (q : List Bool) (qv : Value) (w : World) (hq : BoolsC w qv q) (hx : x.length ≤ 100000) (hql : q.length ≤ 9223372036854775807) (m : Int) (hm : w.cell? ⟨0, 0, none⟩ = some (.int .i64 m)) :
    Calls Tryz.prog 29 #[.agg #[.string ⟨x.toArray⟩, qv]] w fun e w' => (∃ v, e = .returned v ∧ PartsAt w.heap.size w' v (piecesS (cutP x) q)) ∧ Below w.heap.size w w' := by
  obtain ⟨a0, cap0, rfl, _⟩ := id hq.1
  have HQ := Lib.hid hq
  clear hq
  have hml : ∀ o, (w.alloc o).cell? ⟨0, 0, none⟩ = some (.int .i64 m) := fun o => by
    rw [World.cell?_of_block (Below.heap_alloc _ _ _ (World.block_lt_of_cell? w ⟨0, 0, none⟩ hm))]; exact hm
  have HSp := Lib.hid (fun o => split_any x hx (w.alloc o) m (hml o))
  have HCM := Lib.hid (fun (y : List UInt8) (h : y ∈ cutP x) => cutP_mem h)
  have hcl : (cutP x).length ≤ x.length + 1 := by rw [cutP_len]; have := List.count_le_length (a := (47 : UInt8)) (l := x); omega
  obtain ⟨i0, hi, hz0, hz1, hz2⟩ := info_parts info_part
  go_enter Tryz.func29, Tryz.ntmps29
  go_wp2_with (go_at_call 59; (with_reducible refine (HSp.out _).mono ?_); rintro e w2 ⟨rfl, hst, hb2⟩)
  simp only [World.size_alloc] at hst
  have HST := Lib.hid hst
  have HB2 := Lib.hid (((Below.refl _ w).alloc (Nat.le_refl _) _).trans (hb2.mono (by simp)))
  have hs2 := hb2.size
  simp only [World.size_alloc] at hs2
  clear hst hb2 hml
  go_loopw [3, 4, 13] (fun ov bv iv W => ∃ k : Nat, iv = .int .i64 k ∧ k ≤ (cutP x).length ∧ PtI w w2 (w.heap.size + 1) x q k ov bv W) (fun _ _ iv _ => (cutP x).length - (intOf iv).toNat)
  case atStart => exact ⟨0, rfl, by omega, ⟨[], q, World.ownsRow_nil _ _ _ _, fun _ => rfl, fun p hp => by simp at hp, rfl, rfl, HQ.out, Nat.le_refl _⟩, Below.refl _ _⟩
  case round =>
    obtain ⟨k, rfl, hk, hI⟩ := hrel
    obtain ⟨⟨L, qk, hrow, hnil, htok, hLk, hsp, hbc, hqk⟩, hbel⟩ := hI
    obtain ⟨a1, c1, rfl⟩ := row_form hrow
    obtain ⟨a2, c2, rfl, _⟩ := id hbc.1
    by_cases hlt : k < (cutP x).length
    · obtain ⟨s, hs⟩ : ∃ s, (cutP x)[k]? = some s := ⟨_, List.getElem?_eq_getElem hlt⟩
      have hsl := HCM.out s (List.mem_of_getElem? hs)
      have hcs : wr.cell? ⟨w.heap.size + 1, k, none⟩ = some (.string ⟨s.toArray⟩) := (hbel.cell (p := ⟨w.heap.size + 1, k, none⟩) (World.block_lt_of_cell? w2 ⟨w.heap.size + 1, k, none⟩ (HST.out k s hs))).trans (HST.out k s hs)
      have hkl : (k : Int) < ((cutP x).length : Int) := by omega
      have hdrop : (cutP x).drop k = s :: (cutP x).drop (k + 1) := by rw [List.drop_eq_getElem_cons hlt]; rw [List.getElem?_eq_getElem hlt] at hs; cases hs; rfl
      have hbw := HB2.out.trans (hbel.mono (by omega))
      have HP := Lib.hid (parse_any s qk _ wr (hbc.1.below (hbw.mono (Nat.le_refl _))) (by omega) (by omega))
      have hwr : IntKind.i64.wrap ((s.length : Int) + 1) = (s.length : Int) + 1 := i64_in _ (by omega)
      have hkq : piecesS (s :: (cutP x).drop (k + 1)) qk = ⟨s, parseS s qk⟩ :: piecesS ((cutP x).drop (k + 1)) (qk.drop (s.length + 1)) := rfl
      have HST2 := Lib.hid (fun (w3 w4 : World) (tv v' qv' : Value) (tmp : Obj) (hb3 : Below wr.heap.size wr w3) (htk : TokAt w3 tv (parseS s qk)) (hrow4 : w4.ownsRow w2.heap.size 65 2 v' (L.length + 1) (L.flatMap cellsP ++ [.string ⟨s.toArray⟩, tv]))
          (hg : (w3.alloc tmp).grownBy w4 (Value.slice a1 L.length c1).ownBlock) (hq' : BoolsC w qv' (qk.drop (s.length + 1))) => pt_step (sb := w.heap.size + 1) hrow hnil htok hLk hsp hdrop hqk hbel hb3 htk hrow4 hg hq')
      have HBD := Lib.hid (fun l => hbc.drop l)
      have HRW := Lib.hid (fun (w3 : World) (hb3 : Below wr.heap.size wr w3) => World.ownsRow.kept hrow (w' := w3) (row := none) (grown_none hb3) (by cases (Value.slice a1 L.length c1).ownBlock <;> simp))
      have hLle : L.length ≤ 100001 := by omega
      clear hrow hnil htok hsp hbc hLk
      go_wp2_with first
        | (at_builtin; refine wpList_append_own _ rfl _ _ 61 rfl w2.heap.size 65 i0 (.agg #[.string ByteArray.empty, .slice none 0 0]) 2 40 (by kernel_rfl) hi hz0 hz1 hz2 rfl (by decide) _ _ _ rfl ((HRW.out w3 hb3).alloc _) ⟨w3.heap.size, 0, none⟩ 1 1 [.string ⟨s.toArray⟩, .slice a3 (parseS s qk).length c3] rfl rfl (cell_two_new _ _ _ _) (by simp [Value.oneCell']) (by simp only [maxLen]; omega) (by omega) (by have := hb3.size; have := hbel.size; simp; omega) ?_; intro v' w4 hown' hgrow _)
        | (go_at_call 15; (with_reducible refine HP.out.mono ?_); rintro e w3 ⟨⟨tv, rfl, htk⟩, hb3⟩; obtain ⟨a3, c3, rfl, _⟩ := id htk)

      go_roundw
      case rel =>
        refine ⟨k + 1, by go_num, by omega, HST2.out _ _ _ _ _ _ hb3 htk hown' hgrow ?_⟩
        have hmin : (min ((s.length : Int) + 1) (qk.length : Int)).toNat = min (s.length + 1) qk.length := by omega
        have hd : qk.drop (min (s.length + 1) qk.length) = qk.drop (s.length + 1) := by
          rcases Nat.le_total (s.length + 1) qk.length with h | h
          · rw [Nat.min_eq_left h]
          · rw [Nat.min_eq_right h, List.drop_length, List.drop_of_length_le h]
        have hb := HBD.out (min (s.length + 1) qk.length)
        rw [hd] at hb
        simpa [hmin] using hb
      case measure => simp [intOf]; omega
    · obtain rfl : k = (cutP x).length := by omega
      go_wp2
      go_ret
      refine ⟨⟨_, rfl, L, ?_, row_mono hrow (by omega), htok⟩, HB2.out.trans (hbel.mono (by omega))⟩
      rw [hsp, List.drop_length]
      simp [piecesS]
end Go.Proofs.YtggdedihfhibfaaGreatDoor
/- slices.ContainsFunc over parts: is any of them special. -/
namespace Go.Proofs.YtggdedihfhibfaaGreatDoor
open Go.RowKit IntWalk
set_option linter.unusedVariables false
set_option linter.unusedSimpArgs false

/-- parts as they lie -/
def PartsIn (W : World) (v : Value) (ps : List PartS) : Prop := ∃ a cap, v = .slice a ps.length cap ∧ (0 < ps.length → ∃ g, a = some ⟨g, 0, none⟩ ∧ g < W.heap.size ∧ ∀ (j : Nat) (p : PartS), ps[j]? = some p →
  ∃ tv, W.cell? ⟨g, j * 2, none⟩ = some (.string ⟨p.text.toArray⟩) ∧ W.cell? ⟨g, j * 2 + 1, none⟩ = some tv ∧ TokAt W tv p.toks)
theorem PartsIn.below {W W' : World} {v : Value} {ps : List PartS} (h : PartsIn W v ps) (hb : Below W.heap.size W W') : PartsIn W' v ps := by
  obtain ⟨a, cap, rfl, hs⟩ := h
  refine ⟨a, cap, rfl, fun h0 => ?_⟩
  obtain ⟨g, rfl, hl, hc⟩ := hs h0
  refine ⟨g, rfl, Nat.lt_of_lt_of_le hl hb.size, fun j p hp => ?_⟩
  obtain ⟨tv, c0, c1, ht⟩ := hc j p hp
  exact ⟨tv, (hb.cell (p := ⟨g, _, none⟩) hl).trans c0, (hb.cell (p := ⟨g, _, none⟩) hl).trans c1, ht.below hb⟩
theorem part_at : ∀ (L : List PartX) (k j : Nat) (x : PartX), L[k]? = some x → j < 2 → (L.flatMap cellsP)[k * 2 + j]? = (cellsP x)[j]?
  | [], k, j, x, hk, _ => by simp at hk
  | y :: L, 0, j, x, hk, hj => by
    simp at hk
    subst hk
    rw [List.flatMap_cons, List.getElem?_append_left (by simp [cellsP]; omega)]
    simp
  | y :: L, k + 1, j, x, hk, hj => by
    rw [List.flatMap_cons, List.getElem?_append_right (by simp [cellsP]; omega)]
    have e : (k + 1) * 2 + j - (cellsP y).length = k * 2 + j := by simp [cellsP]; omega
    rw [e]
    exact part_at L k j x (by simpa using hk) hj
theorem PartsAt.inn {base : Nat} {W : World} {v : Value} {ps : List PartS} (h : PartsAt base W v ps) : PartsIn W v ps := by
  obtain ⟨L, rfl, ⟨h3, hr⟩, hx⟩ := h
  rcases hr with ⟨rfl, hn⟩ | ⟨g, cap, cur, rfl, hbg, hg, hnc, hcm, hcs, htk⟩
  · have : L = [] := List.eq_nil_of_length_eq_zero hn
    subst this
    exact ⟨none, 0, rfl, fun h => by simp at h⟩
  · refine ⟨_, cap, by simp, fun _ => ⟨g, rfl, blk_lt hg, fun i t ht => ?_⟩⟩
    rw [List.getElem?_map] at ht
    cases hL : L[i]? with
    | none => rw [hL] at ht; cases ht
    | some x =>
      rw [hL] at ht
      cases ht
      have hc : ∀ j, j < 2 → cur[i * 2 + j]? = (cellsP x)[j]? := fun j hj => by
        have hi : i < L.length := (List.getElem?_eq_some_iff.1 hL).1
        have h4 := part_at L i j x hL hj
        rw [← htk, List.getElem?_take_of_lt (by omega), Array.getElem?_toList] at h4
        exact h4
      refine ⟨x.tv, ?_, ?_, hx x (List.mem_of_getElem? hL)⟩
      · have := hc 0 (by omega); simp [World.cell?, hg, cellsP] at this ⊢; exact this
      · have := hc 1 (by omega); simp [World.cell?, hg, cellsP] at this ⊢; exact this
/-- what is asked of parts -/
def POk (ps : List PartS) : Prop := ∀ p ∈ ps, p.toks.length ≤ 100000 ∧ TOk p.toks ∧ p.text.length ≤ 100000
def partV (p : PartS) (tv : Value) : Value := .agg #[.string ⟨p.text.toArray⟩, tv]
set_option maxRecDepth 100000 in
theorem exp1_any (p : PartS) (tv : Value) (w : World) (h : TokAt w tv p.toks) (hL : p.toks.length ≤ 100000) (hk : KOk p.toks) :
    Calls Tryz.prog 31 #[partV p tv] w fun e w' => e = .returned (.bool (specialS p.toks)) ∧ Below w.heap.size w w' := by
  have hB := (Below.refl w.heap.size w).alloc (Nat.le_refl _) (.cells #[.string ⟨p.text.toArray⟩, tv] 65)
  have HS := Lib.hid (special_any p.toks tv (w.alloc (.cells #[.string ⟨p.text.toArray⟩, tv] 65)) (h.below hB) hL hk)
  obtain ⟨a, c, rfl, _⟩ := h
  unfold partV
  go_enter Tryz.func31, Tryz.ntmps31
  go_wp2_with (go_at_call 17; (with_reducible refine HS.out.mono ?_); rintro e w2 ⟨rfl, hb⟩)
  go_ret
  exact ⟨rfl, hB.trans (hb.mono (by simp))⟩
set_option maxRecDepth 100000 in
set_option maxHeartbeats 1000000 in
theorem partidx_any (L : List PartS) (v : Value) (w : World) (h : PartsIn w v L) (hL : L.length ≤ 100000) (hk : POk L) :
    Calls Tryz.prog 60 #[v, .func (.func 31) #[] #[]] w fun e w' => (∃ z : Int, e = .returned (.int .i64 z) ∧ (decide (0 ≤ z) = anyS L)) ∧ Below w.heap.size w w' := by
  obtain ⟨a, cap, rfl, hs⟩ := h
  by_cases hL0 : L = []
  · subst hL0
    go_enter Tryz.func60, Tryz.ntmps60
    go_wp2
    go_loopw [8] (fun iv W => iv = .int .i64 0 ∧ W = w) (fun _ _ => 0)
    case atStart => exact ⟨rfl, rfl⟩
    case round =>
      obtain ⟨rfl, rfl⟩ := hrel
      go_wp2
      go_ret
      exact ⟨⟨_, rfl, rfl⟩, Below.refl _ _⟩
  · obtain ⟨b, rfl, hl, hc⟩ := hs (by rw [List.length_pos_iff]; exact hL0)
    have HC := Lib.hid hc
    clear hc hs
    go_enter Tryz.func60, Tryz.ntmps60
    go_wp2
    go_loopw [8, 5] (fun iv jv W => ∃ j : Nat, iv = .int .i64 j ∧ j ≤ L.length ∧ RowKit.Hid (anyS (L.take j) = false) ∧ RowKit.Hid (Below w.heap.size w W)) (fun iv _ _ => L.length - (intOf iv).toNat)
    case atStart => exact ⟨0, rfl, by omega, Lib.hid rfl, Lib.hid (Below.refl _ _)⟩
    case round =>
      obtain ⟨j, rfl, hj, HT, HB⟩ := hrel
      by_cases hlt : j < L.length
      · obtain ⟨t, ht⟩ : ∃ t, L[j]? = some t := ⟨L[j], List.getElem?_eq_getElem hlt⟩
        obtain ⟨tv, c0, c1, c2⟩ := HC.out j t ht
        have hb := HB.out
        have d0 := (hb.cell (p := ⟨b, _, none⟩) hl).trans c0
        have d1 := (hb.cell (p := ⟨b, _, none⟩) hl).trans c1
        have HS := Lib.hid (exp1_any t tv wr (c2.below hb) (hk t (List.mem_of_getElem? ht)).1 (hk t (List.mem_of_getElem? ht)).2.1.k)
        have hsp : anyS (L.take (j + 1)) = specialS t.toks := by
          rw [List.take_add_one, ht]
          have := HT.out
          unfold anyS at this ⊢
          rw [List.any_append, this]; simp
        obtain ⟨av, cv, e, _⟩ := id c2
        subst e
        have HSP := Lib.hid hsp
        clear c0 c1 c2 hb hsp
        unfold partV at HS
        have hlt2 : (j : Int) < L.length := by omega
        cases hk1 : specialS t.toks
        · rw [hk1] at HS
          go_wp2_with (go_at_call 31; (with_reducible refine HS.out.mono ?_); rintro e w2 ⟨rfl, hb2⟩)
          go_roundw
          case rel => exact ⟨j + 1, by go_num, by omega, Lib.hid (HSP.out.trans hk1), Lib.hid (HB.out.trans (hb2.mono HB.out.size))⟩
          case measure => simp [intOf]; omega
        · rw [hk1] at HS
          go_wp2_with (go_at_call 31; (with_reducible refine HS.out.mono ?_); rintro e w2 ⟨rfl, hb2⟩)
          go_ret
          refine ⟨⟨_, rfl, ?_⟩, HB.out.trans (hb2.mono HB.out.size)⟩
          have h1 : anyS L = true := by
            unfold anyS
            rw [List.any_eq_true]
            exact ⟨t, List.mem_of_getElem? ht, hk1⟩
          rw [h1]; simp
      · have hjL : j = L.length := by omega
        subst hjL
        go_wp2
        go_ret
        refine ⟨⟨_, rfl, ?_⟩, HB.out⟩
        have := HT.out
        rw [List.take_length] at this
        rw [this]; rfl
set_option maxRecDepth 100000 in
theorem parthas_any (L : List PartS) (v : Value) (w : World) (h : PartsIn w v L) (hL : L.length ≤ 100000) (hk : POk L) :
    Calls Tryz.prog 30 #[v, .func (.func 31) #[] #[]] w fun e w' => e = .returned (.bool (anyS L)) ∧ Below w.heap.size w w' := by
  have H1 := Lib.hid (partidx_any L v w h hL hk)
  obtain ⟨a, cap, rfl, _⟩ := h
  go_enter Tryz.func30, Tryz.ntmps30
  go_wp2_with (go_at_call 60; (with_reducible refine H1.out.mono ?_); rintro e w2 ⟨⟨z, rfl, hz⟩, hb⟩)
  go_ret
  exact ⟨by rw [← hz]; rfl, hb⟩
end Go.Proofs.YtggdedihfhibfaaGreatDoor
