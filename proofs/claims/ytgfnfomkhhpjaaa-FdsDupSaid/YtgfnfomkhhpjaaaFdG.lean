/- Fds: what is dupped is the same. -/
import Derived.Test.YtgfnfomkhhpjaaaFdF
import Derived.Test.YtgfnfomkhhpjaaaOpen
import Derived.Deep.RegionHeld3
namespace Go.Proofs.Ytgfnfomkhhpjaaa
open Go.ChangeShapes Go.WideShapes Go.ChangeAt Go.RowKit

/-- a slice of bools -/
structure Bools (W : World) (v : Value) (L : List Bool) : Prop where
  len : L.length ≤ maxLen
  shape : ∃ a cap, v = .slice a L.length cap ∧ (0 < L.length → ∃ b off, a = some ⟨b, off, none⟩ ∧ b < W.heap.size ∧
    ∀ (i : Nat) (x : Bool), L[i]? = some x → W.cell? ⟨b, off + i, none⟩ = some (.bool x))
theorem open_bools {H : Type} {enc : TypeId × Value → H} {P : Program} {W : World} {base : Nat} {t e : TypeId} {v : Value} {d : DataW H} {ps : List MemPlace} {r : Reach}
    (ht : P.underlying t = some (.slice e)) (he : P.underlying e = some .bool) (hc : P.cellsOf e = 1)
    (hval : Value.okWide P W r base t v) (h : DataW.Trod enc P W 0 (fun _ => true) true t v d ps) : ∃ L, Bools W v L := by
  obtain ⟨a0, len, cap, rfl⟩ := okWide_slice ht hval
  obtain ⟨fuel, hf⟩ := h
  rcases Go.Deep.open_slice ht hf with ⟨hcs, _⟩ | ⟨a, l, c, m, k, D, Pl, hcs, _, hl, hm, hmm, _, hx⟩
  · simp [Value.cells] at hcs
    obtain ⟨rfl, rfl, rfl⟩ := hcs
    exact ⟨[], by simp, ⟨none, 0, rfl, fun h => by simp at h⟩⟩
  · simp [Value.cells] at hcs
    obtain ⟨rfl, rfl, rfl⟩ := hcs
    simp only [if_true] at hmm
    have each : ∀ i, i < len → ∃ o : Bool, W.cell? (a.add i) = some (.bool o) := by
      intro i hi
      obtain ⟨cs, h1, h2⟩ := hx i (by omega)
      rw [hc] at h1
      obtain ⟨_, hlen, hcell⟩ := World.cells?_some h1
      match cs, hlen with
      | [c0], _ =>
        obtain ⟨z0, e0, _⟩ := DataW.trod_bool he h2
        simp at e0
        subst e0
        refine ⟨z0, ?_⟩
        have := hcell 0 (by omega)
        simpa [Addr.add] using this
    obtain ⟨f, hf⟩ := Go.Deep.choose_lt (α := Bool) (p := fun i o => W.cell? (a.add i) = some (.bool o)) each
    have hget : ∀ i o, ((List.range len).map f)[i]? = some o → i < len ∧ f i = o := by
      intro i o h
      rw [List.getElem?_map] at h
      rcases Nat.lt_or_ge i len with h' | h'
      · simp [h'] at h; exact ⟨h', h⟩
      · rw [List.getElem?_eq_none (by simpa using h')] at h; simp at h
    refine ⟨(List.range len).map f, by simp; omega, ⟨some a, cap, by simp, fun hpos => ?_⟩⟩
    have hpos' : 0 < len := by simpa using hpos
    have h0 := hf 0 hpos'
    have ha : a = ⟨a.block, a.off, none⟩ := cell_plain (by simpa [Addr.add] using h0)
    refine ⟨a.block, a.off, by rw [← ha], World.block_lt_of_cell? W a (by simpa [Addr.add] using h0), fun i o h => ?_⟩
    obtain ⟨hi, rfl⟩ := hget i o h
    have h1 := hf i hi
    rw [ha, add_mk] at h1
    exact h1
/-- two numbers in an array -/
def Two (v : Value) (a : Int × Int) : Prop := v = .agg #[.int .i64 a.1, .int .i64 a.2] ∧ (-9223372036854775808 ≤ a.1 ∧ a.1 ≤ 9223372036854775807) ∧ (-9223372036854775808 ≤ a.2 ∧ a.2 ≤ 9223372036854775807)
theorem open_two {H : Type} {enc : TypeId × Value → H} {P : Program} {W : World} {base : Nat} {t e : TypeId} {v : Value} {d : DataW H} {ps : List MemPlace} {r : Reach}
    (ht : P.underlying t = some (.array 2 e)) (he : P.underlying e = some (.int .i64)) (hc : P.cellsOf e = 1) (hct : P.cellsOf t = 2)
    (hval : Value.okWide P W r base t v) (h : DataW.Trod enc P W 0 (fun _ => true) true t v d ps) : ∃ a, Two v a := by
  simp only [Value.okWide, ht] at hval
  obtain ⟨cs, rfl, hsz, _⟩ := hval
  obtain ⟨fuel, hf⟩ := h
  obtain ⟨xs, m, _, _, hl, hx, hi⟩ := DataW.trod_array ht hf
  simp only [Value.cells] at hl hi
  rw [hct] at hsz
  match cs, hsz with
  | ⟨[c0, c1]⟩, _ =>
    have h0 := hi 0 (by omega)
    have h1 := hi 1 (by omega)
    rw [hc, List.getElem?_eq_getElem (by omega)] at h0 h1
    obtain ⟨z0, e0, _, w0⟩ := DataW.trod_int he h0
    obtain ⟨z1, e1, _, w1⟩ := DataW.trod_int he h1
    simp at e0 e1
    subst e0 e1
    exact ⟨(z0, z1), rfl, wf_i64 w0, wf_i64 w1⟩
/-- what has been written when the first i texts were -/
def catL (L : List (List UInt8)) : List UInt8 := L.flatten
/-- what holds between two texts: the numbers a and b are open for the sink K that has the bytes s -/
structure DupSt (w W : World) (base F S O K G c : Nat) (p : Option Addr) (n k : Nat) (tab : Nat → Option Addr) (a b : Int) (s : List UInt8) : Prop where
  set : SetIs W S F tab
  files : FilesIs W F p n (.slice (some ⟨G, 0, none⟩) 1 c)
  ref : W.cell? ⟨G, 0, none⟩ = some (.pointer (some ⟨K, 0, none⟩))
  thing : 0 < k → OpenIs W O (.iface 51 (.pointer (some ⟨K, 0, none⟩))) k
  sink : ∃ v, W.cell? ⟨K, 0, none⟩ = some v ∧ W.frozen? ⟨K, 0, none⟩ = false ∧ OwnB W base v s
  two0 : W.cell? ⟨w.heap.size, 0, none⟩ = some (.int .i64 a)
  two1 : W.cell? ⟨w.heap.size, 1, none⟩ = some (.int .i64 b)
  old : Below w.heap.size w W
  size : base ≤ W.heap.size
/-- the blocks of that -/
structure DupAt (w : World) (base F S O K G : Nat) : Prop where
  f : w.heap.size < F ∧ F < base
  s : w.heap.size < S ∧ S < base
  o : w.heap.size < O ∧ O < base
  k : w.heap.size < K ∧ K < base
  g : w.heap.size < G ∧ G < base
  ne : S ≠ F ∧ S ≠ O ∧ F ≠ O ∧ K ≠ F ∧ K ≠ S ∧ K ≠ O ∧ K ≠ G ∧ G ≠ S ∧ G ≠ O ∧ G ≠ F
theorem own_kept {w w' : World} {base v l} (h : OwnB w base v l) (hb : ∀ j, base ≤ j → j < w.heap.size → w'.heap[j]? = w.heap[j]?) : OwnB w' base v l := by
  obtain ⟨hxs, hr⟩ := h
  refine ⟨hxs, ?_⟩
  rcases hr with h | ⟨g, cap, cur, rfl, h1, hg, h3⟩
  · exact .inl h
  · refine .inr ⟨g, cap, cur, rfl, h1, ?_, h3⟩
    have hl : g < w.heap.size := by
      rcases Nat.lt_or_ge g w.heap.size with h' | h'
      · exact h'
      · rw [Array.getElem?_eq_none h'] at hg; cases hg
    rw [hb g h1 hl]; exact hg
set_option maxRecDepth 100000 in
theorem dup_write {w W : World} {base F S O K G c p n k tab} {a b : Int} {s : List UInt8} (hD : DupSt w W base F S O K G c p n k tab a b s) (hk0 : 0 < k) (hA : DupAt w base F S O K G) (fd : Nat) (hf : fd < 16) (ht : tab fd = some ⟨O, 0, none⟩) (x : List UInt8) (hx : x.length ≤ 100) (hs : s.length ≤ 100000) :
    Calls Try.prog 8 #[.pointer (some ⟨S, 0, none⟩), .int .i64 fd, .string ⟨x.toArray⟩] W fun e w' => e = .returned (.tuple #[.int .i64 x.length, .int .i64 0]) ∧ DupSt w w' base F S O K G c p n k tab a b (s ++ x) := by
  obtain ⟨v, h1, h2, h3⟩ := hD.sink
  refine (write_any fd x W hD.set hf ht (hD.thing hk0) h1 h2 h3 hD.size hA.k.2 (by omega) (by omega)).mono ?_
  rintro e w' ⟨rfl, v', q1, q2, q3, q4, q5, q6, q7, q8⟩
  have hf := hA.f; have hs := hA.s; have ho := hA.o; have hk := hA.k; have hg := hA.g; have hn := hA.ne
  refine ⟨rfl, hD.set.keep (q8 S hs.2 (by omega)), hD.files.keep (q8 F hf.2 (by omega)), (cell_blk (q8 G hg.2 (by omega))).trans hD.ref, fun h => (hD.thing h).keep (q8 O ho.2 (by omega)), ⟨v', q1, q2, q3⟩,
    (cell_blk (q8 _ (by omega) (by omega))).trans hD.two0, (cell_blk (q8 _ (by omega) (by omega))).trans hD.two1,
    ⟨q4.trans hD.old.os, q5.trans hD.old.tape, q6.trans hD.old.output, Nat.le_trans hD.old.size q7, fun j hj => (q8 j (by omega) (by omega)).trans (hD.old.block j hj)⟩, Nat.le_trans hD.size q7⟩
theorem DupSt.drew {w W : World} {base F S O K G c p n k tab} {a b : Int} {s : List UInt8} (h : DupSt w W base F S O K G c p n k tab a b s) : DupSt w W.drew base F S O K G c p n k tab a b s :=
  ⟨h.set.keep rfl, h.files.keep rfl, h.ref, fun e => (h.thing e).keep rfl, h.sink, h.two0, h.two1, ⟨h.old.os, h.old.tape, h.old.output, h.old.size, h.old.block⟩, h.size⟩
theorem DupSt.kept {w W w' : World} {base F S O K G c p n k n' k' tab tab'} {a b : Int} {s : List UInt8} (h : DupSt w W base F S O K G c p n k tab a b s) (hA : DupAt w base F S O K G) (hk : Kept [S, O, F] W w') (h1 : SetIs w' S F tab') (h2 : FilesIs w' F p n' (.slice (some ⟨G, 0, none⟩) 1 c)) (h3 : 0 < k' → OpenIs w' O (.iface 51 (.pointer (some ⟨K, 0, none⟩))) k') :
    DupSt w w' base F S O K G c p n' k' tab' a b s := by
  have hf := hA.f; have hs := hA.s; have ho := hA.o; have hK := hA.k; have hg := hA.g; have hn := hA.ne
  have hz := h.size
  obtain ⟨v, e1, e2, e3⟩ := h.sink
  have hb : ∀ j, j < base → j ≠ S → j ≠ O → j ≠ F → w'.heap[j]? = W.heap[j]? := fun j hj e1 e2 e3 => hk.block j (by omega) (by simp; omega)
  refine ⟨h1, h2, (cell_blk (hb G hg.2 (by omega) (by omega) (by omega))).trans h.ref, h3, ⟨v, (cell_blk (hb K hK.2 (by omega) (by omega) (by omega))).trans e1, (fz_blk (hb K hK.2 (by omega) (by omega) (by omega))).trans e2, ?_⟩,
    (cell_blk (hb _ (by omega) (by omega) (by omega) (by omega))).trans h.two0, (cell_blk (hb _ (by omega) (by omega) (by omega) (by omega))).trans h.two1, Kept.below h.old hk (by simp; omega), Nat.le_trans hz hk.size⟩
  exact own_kept e3 (fun j hj1 hj2 => hk.block j hj2 (by simp; omega))
set_option maxRecDepth 100000 in
theorem dup_close_last {w W : World} {base F S O K G c p tab} {a b : Int} {s : List UInt8} (fd : Nat) (hD : DupSt w W base F S O K G c p 1 1 tab a b s) (hA : DupAt w base F S O K G) (hf : fd < 16) (ht : tab fd = some ⟨O, 0, none⟩) :
    Calls Try.prog 9 #[.pointer (some ⟨S, 0, none⟩), .int .i64 fd] W fun e w' => e = .returned (.int .i64 0) ∧ DupSt w w' base F S O K G c p 0 0 (updT tab fd none) a b s := by
  have hn := hA.ne
  refine (close_last fd W hD.set hD.files (hD.thing (by omega)) hn.2.1 hn.1 hn.2.2.1 hf ht (by omega)).mono ?_
  rintro e w' ⟨rfl, h1, h2, h3⟩
  exact ⟨rfl, hD.kept hA h3 h1 h2 (fun h => absurd h (by omega))⟩
set_option maxRecDepth 100000 in
theorem dup_close_many {w W : World} {base F S O K G c p tab} {a b : Int} {s : List UInt8} (fd : Nat) (hD : DupSt w W base F S O K G c p 1 2 tab a b s) (hA : DupAt w base F S O K G) (hf : fd < 16) (ht : tab fd = some ⟨O, 0, none⟩) :
    Calls Try.prog 9 #[.pointer (some ⟨S, 0, none⟩), .int .i64 fd] W fun e w' => e = .returned (.int .i64 0) ∧ DupSt w w' base F S O K G c p 1 1 (updT tab fd none) a b s := by
  have hn := hA.ne
  refine (close_many fd W hD.set (hD.thing (by omega)) hn.2.1 hf ht (by omega) (by omega)).mono ?_
  rintro e w' ⟨rfl, h1, h2, h3⟩
  exact ⟨rfl, hD.kept hA (h3.more (fun x hx => .inl (by simp at hx ⊢; omega))) h1 (hD.files.kept h3 (by simp; omega)) (fun _ => h2)⟩
set_option maxRecDepth 100000 in
set_option maxHeartbeats 3200000 in
theorem cat_take (L : List (List UInt8)) (i : Nat) (x : List UInt8) (h : L[i]? = some x) : (L.take (i + 1)).flatten = (L.take i).flatten ++ x := by
  rw [List.take_add_one, h, List.flatten_append]; simp
theorem cat_len (L : List (List UInt8)) (i : Nat) (h : ∀ j x, j < i → L[j]? = some x → x.length ≤ 100) : (L.take i).flatten.length ≤ 100 * i := by
  induction i with
  | zero => simp
  | succ i ih =>
    have h1 := ih (fun j x hj => h j x (by omega))
    cases hx : L[i]? with
    | none => rw [List.take_add_one, hx]; simp; simp at h1; omega
    | some x => rw [cat_take L i x hx, List.length_append]; have := h i x (by omega) hx; omega
set_option maxRecDepth 100000 in
set_option maxHeartbeats 3200000 in
theorem law_same {w : World} {v0 v2 : Value} {L : List (List UInt8)} {B : List Bool} (hL : Strs w v0 L) (hB : Bools w v2 B) (na nb : Nat) (ha : 2 ≤ na ∧ na ≤ 15) (hb : 2 ≤ nb ∧ nb ≤ 15) (hl : L.length ≤ 20) (hab : na = nb) :
    Calls Try.prog 3 #[v0, .agg #[.int .i64 na, .int .i64 nb], v2] w fun e w' => e = .returned (.bool true) ∧ Below w.heap.size w w' := by
  obtain ⟨va, vc, rfl, hvc⟩ := hL.shape
  obtain ⟨ba, bc, rfl, hbc⟩ := hB.shape
  have hok := Lib.hid hL.ok
  have hlen := hL.len
  have hbl := hB.len
  have HV := Lib.hid hvc
  have HW := Lib.hid hbc
  clear hvc hbc hL hB
  have q1 : ¬ (20 : Int) < L.length := by omega
  have q2 : ¬ (na : Int) < 2 := by omega
  have q3 : ¬ (15 : Int) < na := by omega
  have q4 : ¬ (nb : Int) < 2 := by omega
  have q5 : ¬ (15 : Int) < nb := by omega
  subst hab
  go_enter Try.func3, Try.ntmps3
  go_wp2_with fail
  obtain ⟨w0, hw0⟩ : ∃ w0, w0 = w.alloc (.cells #[.int .i64 na, .int .i64 na] 23) := ⟨_, rfl⟩
  rw [← hw0]
  have s0 : w0.heap.size = w.heap.size + 1 := by rw [hw0]; simp
  have t00 : w0.cell? ⟨w.heap.size, 0, none⟩ = some (.int .i64 na) := by rw [hw0, cell_new rfl]; rfl
  have t01 : w0.cell? ⟨w.heap.size, 1, none⟩ = some (.int .i64 na) := by rw [hw0, cell_new rfl]; rfl
  have b0 : Below w.heap.size w w0 := by rw [hw0]; exact (Below.refl _ _).alloc (Nat.le_refl _) _
  clear hw0
  refine (begun_any w0).mono ?_
  rintro e w1 ⟨p, F, S, rfl, hB1, hF0, hS0, hSF, hS, hF⟩
  have t10 := keep_cell t00 hB1
  have t11 := keep_cell t01 hB1
  have s1 := hB1.size
  have b1 : Below w.heap.size w w1 := b0.trans (hB1.mono b0.size)
  have S0 := Lib.hid s0
  have sl := hS.lt
  have fl := hF.lt
  clear t00 t01 hB1 b0 s0
  go_wp2_with fail
  refine (sink_any na w1 hS hF hSF (by omega)).mono ?_
  rintro e w2 ⟨K, O, G, c, rfl, hS2, hF2, hG2, hO2, hK2, hz2, k1, k2, k3, k4, k5, k6, k7⟩
  have hs0 := S0.out
  have t20 := (cell_blk (k7.block _ (by omega) (by simp; omega))).trans t10
  have t21 := (cell_blk (k7.block _ (by omega) (by simp; omega))).trans t11
  have b2 : Below w.heap.size w w2 := Kept.below b1 k7 (by simp; omega)
  have s2 := k7.size
  have ol := hO2.lt
  have gl := World.block_lt_of_cell? w2 ⟨G, 0, none⟩ hG2
  have kl := World.block_lt_of_cell? w2 ⟨K, 0, none⟩ hK2
  clear hs0 t10 t11 b1 hS hF
  go_wp2_with fail
  refine (dup_same (O := O) na w2 hS2 (by omega) (by simp [updT])).mono ?_
  rintro e w3 ⟨rfl, rfl⟩
  have HD := Lib.hid (show DupSt w w2 w2.heap.size F S O K G c (some ⟨p, 0, none⟩) 1 1 (updT (fun _ => none) na (some ⟨O, 0, none⟩)) na na [] from ⟨hS2, hF2, hG2, fun _ => hO2, ⟨_, hK2, hz2, OwnB.nil _ _⟩, t20, t21, b2, Nat.le_refl _⟩)
  have HA : DupAt w w2.heap.size F S O K G := by
    have hs0 := S0.out
    have gl' : G < w2.heap.size := gl
    have kl' : K < w2.heap.size := kl
    exact ⟨⟨by omega, by omega⟩, ⟨by omega, by omega⟩, ⟨by omega, by omega⟩, ⟨by omega, by omega⟩, ⟨by omega, by omega⟩, by omega⟩
  clear hS2 hF2 hG2 hO2 hK2 hz2 k1 k2 k3 k4 k5 k6 k7 t20 t21 b2
  go_wp2_with fail
  go_loopw [12, 13] (fun all i W => ∃ k : Nat, k ≤ L.length ∧ i = .int .i64 k ∧ all = .string ⟨(L.take k).flatten.toArray⟩ ∧ (∀ j x, j < k → L[j]? = some x → x.length ≤ 100) ∧ DupSt w W w2.heap.size F S O K G c (some ⟨p, 0, none⟩) 1 1 (updT (fun _ => none) na (some ⟨O, 0, none⟩)) na na (L.take k).flatten) (fun _ i _ => 20 - (intOf i).toNat)
  case atStart => exact ⟨0, by omega, rfl, rfl, fun j x h => absurd h (by omega), HD.out⟩
  case round =>
    obtain ⟨k, hk, rfl, rfl, hxs, hD⟩ := hrel
    have u0 := hD.two0
    have u1 := hD.two1
    have hcl : (L.take k).flatten.length ≤ 2000 := by have := cat_len L k hxs; omega
    by_cases hkl : k < L.length
    · obtain ⟨x, hx⟩ : ∃ x, L[k]? = some x := ⟨L[k], List.getElem?_eq_getElem hkl⟩
      obtain ⟨vb, vo, rfl, hvb, hcell⟩ := HV.out.2 (by omega)
      have hc := keep_cell (hcell k x hx) hD.old
      have HC0 := Lib.hid (hcell k x hx)
      have hct := Lib.hid (cat_take L k x hx)
      have hxl := hok.out k x hx
      unfold maxLen at hxl
      clear hcell
      obtain ⟨s, hse⟩ : ∃ s, (L.take k).flatten = s := ⟨_, rfl⟩
      rw [hse] at hD hcl hct ⊢
      clear hse
      have hvc := HV.out.1
      by_cases h100 : 100 < x.length
      · have r1 : (100 : Int) < x.length := by omega
        clear hct
        go_wp2_with fail
        refine (awake_any _).mono ?_
        rintro e w5 ⟨rfl, hB5⟩
        go_wp2_with fail
        go_ret
        exact ⟨rfl, hD.old.trans (hB5.mono hD.old.size)⟩
      · have r1 : ¬ (100 : Int) < x.length := by omega
        have hHx := Lib.hid hx
        have r2 : ((x.length : Int) != x.length) = false := by simp
        by_cases hwho : B[k]? = some true
        · have hkb : k < B.length := (List.getElem?_eq_some_iff.1 hwho).1
          obtain ⟨bb, bo, rfl, hbb, hbcell⟩ := HW.out (by omega)
          have hbc := keep_cell (hbcell k true hwho) hD.old
          have HWr := Lib.hid (dup_write hD (by omega) HA na (by omega) (by simp [updT]) x (by omega) (by omega))
          clear hx hwho hbcell
          go_wp2_with fail
          refine HWr.out.mono ?_
          rintro e w5 ⟨rfl, hD5⟩
          have hc5 := keep_cell HC0.out hD5.old
          go_wp2_with fail
          go_roundw
          case rel => exact ⟨k + 1, by omega, by go_num, by rw [hct.out], fun j y hj hy => by
            rcases Nat.lt_or_ge j k with h' | h'
            · exact hxs j y h' hy
            · obtain rfl : j = k := by omega
              rw [hHx.out] at hy; cases hy; omega, by rw [hct.out]; exact hD5⟩
          case measure => simp [intOf]; omega
        · have hw : k < B.length → B[k]? = some false := fun h => by
            have h1 := List.getElem?_eq_getElem h
            rw [h1] at hwho ⊢
            cases hb2 : B[k] with
            | true => rw [hb2] at hwho; exact absurd rfl hwho
            | false => rfl
          have HWr := Lib.hid (dup_write hD (by omega) HA na (by omega) (by simp [updT]) x (by omega) (by omega))
          rcases Nat.lt_or_ge k B.length with hkb | hkb
          · obtain ⟨bb, bo, rfl, hbb, hbcell⟩ := HW.out (by omega)
            have hbc := keep_cell (hbcell k false (hw hkb)) hD.old
            clear hx hwho hbcell hw
            go_wp2_with fail
            refine HWr.out.mono ?_
            rintro e w5 ⟨rfl, hD5⟩
            have hc5 := keep_cell HC0.out hD5.old
            go_wp2_with fail
            go_roundw
            case rel => exact ⟨k + 1, by omega, by go_num, by rw [hct.out], fun j y hj hy => by
              rcases Nat.lt_or_ge j k with h' | h'
              · exact hxs j y h' hy
              · obtain rfl : j = k := by omega
                rw [hHx.out] at hy; cases hy; omega, by rw [hct.out]; exact hD5⟩
            case measure => simp [intOf]; omega
          · have r3 : ¬ (k : Int) < B.length := by omega
            clear hx hwho hw
            go_wp2_with fail
            refine HWr.out.mono ?_
            rintro e w5 ⟨rfl, hD5⟩
            have hc5 := keep_cell HC0.out hD5.old
            go_wp2_with fail
            go_roundw
            case rel => exact ⟨k + 1, by omega, by go_num, by rw [hct.out], fun j y hj hy => by
              rcases Nat.lt_or_ge j k with h' | h'
              · exact hxs j y h' hy
              · obtain rfl : j = k := by omega
                rw [hHx.out] at hy; cases hy; omega, by rw [hct.out]; exact hD5⟩
            case measure => simp [intOf]; omega
    · obtain rfl : k = L.length := by omega
      rw [List.take_length] at hD hcl ⊢
      clear hxs hkl
      obtain ⟨s, hse⟩ : ∃ s, L.flatten = s := ⟨_, rfl⟩
      rw [hse] at hD hcl ⊢
      clear hse HV HW hok HD
      go_wp2_with fail
      have HC : Hid (∀ W, DupSt w W w2.heap.size F S O K G c (some ⟨p, 0, none⟩) 1 1 (updT (fun _ => none) na (some ⟨O, 0, none⟩)) na na s → Calls Try.prog 9 #[.pointer (some ⟨S, 0, none⟩), .int .i64 na] W fun e w' => e = .returned (.int .i64 0) ∧ DupSt w w' w2.heap.size F S O K G c (some ⟨p, 0, none⟩) 0 0 (updT (updT (fun _ => none) na (some ⟨O, 0, none⟩)) na none) na na s) :=
        Lib.hid (fun W h => dup_close_last na h HA (by omega) (by simp [updT]))
      have hnn : ((na : Int) == na) = true := by simp
      go_region_held3 (fun W => W.cell? ⟨w.heap.size, 0, none⟩ = some (.int .i64 na) ∧ W.cell? ⟨w.heap.size, 1, none⟩ = some (.int .i64 na)) (first | go_keep | exact ⟨u0, u1⟩ | exact ⟨u0', u1'⟩)
        (first
          | (go_at_call 9
             go_must (refine (HC.out _ (by exact hD.drew)).mono ?_)
             rintro e w4 ⟨rfl, hD4⟩
             have u0' := hD4.two0
             have u1' := hD4.two1)
          | (go_at_call 10
             go_must (refine (fopen_any _ hD4.files).mono ?_)
             rintro e w5 ⟨rfl, rfl⟩))
      go_wp2_with fail
      refine (close_none na w4 hD4.set (by omega) (by simp [updT])).mono ?_
      rintro e w5 ⟨rfl, rfl⟩
      have z1 := hD4.two0
      have z2 := hD4.two1
      have z3 := hD4.old
      have z4 := hD4.ref
      have z5 := hD4.files
      have z6 := hD4.set
      obtain ⟨v, z7, z8, z9⟩ := hD4.sink
      have HS := Lib.hid (sunk_one w4 z5 z4 z7 z9)
      have HO := Lib.hid (fopen_any w4 z5)
      have HLs := Lib.hid (list_empty w4 z6 (fun i hi => by unfold updT; by_cases e1 : i = na <;> by_cases e2 : i = na <;> simp [e1, e2]))
      have HAw := Lib.hid (awake_any w4)
      clear z1 z2 z4 z5 z6 z7 z8 z9 hD hD4 HC
      go_wp2_with (first | (go_at_call 11; refine HS.out.mono ?_; rintro e w5 ⟨rfl, rfl⟩) | (go_at_call 10; refine HO.out.mono ?_; rintro e w5 ⟨rfl, rfl⟩) | (go_at_call 12; refine HLs.out.mono ?_; rintro e w5 ⟨rfl, rfl⟩) | (go_at_call 5; refine HAw.out.mono ?_; rintro e w5 ⟨rfl, hB5⟩))
      go_ret
      exact ⟨rfl, z3.trans (hB5.mono z3.size)⟩
set_option maxRecDepth 100000 in
set_option maxHeartbeats 3200000 in
theorem law_new {w : World} {v0 v2 : Value} {L : List (List UInt8)} {B : List Bool} (hL : Strs w v0 L) (hB : Bools w v2 B) (na nb : Nat) (ha : 2 ≤ na ∧ na ≤ 15) (hb : 2 ≤ nb ∧ nb ≤ 15) (hl : L.length ≤ 20) (hab : na ≠ nb) :
    Calls Try.prog 3 #[v0, .agg #[.int .i64 na, .int .i64 nb], v2] w fun e w' => e = .returned (.bool true) ∧ Below w.heap.size w w' := by
  obtain ⟨va, vc, rfl, hvc⟩ := hL.shape
  obtain ⟨ba, bc, rfl, hbc⟩ := hB.shape
  have hok := Lib.hid hL.ok
  have hlen := hL.len
  have hbl := hB.len
  have HV := Lib.hid hvc
  have HW := Lib.hid hbc
  clear hvc hbc hL hB
  have q1 : ¬ (20 : Int) < L.length := by omega
  have q2 : ¬ (na : Int) < 2 := by omega
  have q3 : ¬ (15 : Int) < na := by omega
  have q4 : ¬ (nb : Int) < 2 := by omega
  have q5 : ¬ (15 : Int) < nb := by omega

  go_enter Try.func3, Try.ntmps3
  go_wp2_with fail
  obtain ⟨w0, hw0⟩ : ∃ w0, w0 = w.alloc (.cells #[.int .i64 na, .int .i64 nb] 23) := ⟨_, rfl⟩
  rw [← hw0]
  have s0 : w0.heap.size = w.heap.size + 1 := by rw [hw0]; simp
  have t00 : w0.cell? ⟨w.heap.size, 0, none⟩ = some (.int .i64 na) := by rw [hw0, cell_new rfl]; rfl
  have t01 : w0.cell? ⟨w.heap.size, 1, none⟩ = some (.int .i64 nb) := by rw [hw0, cell_new rfl]; rfl
  have b0 : Below w.heap.size w w0 := by rw [hw0]; exact (Below.refl _ _).alloc (Nat.le_refl _) _
  clear hw0
  refine (begun_any w0).mono ?_
  rintro e w1 ⟨p, F, S, rfl, hB1, hF0, hS0, hSF, hS, hF⟩
  have t10 := keep_cell t00 hB1
  have t11 := keep_cell t01 hB1
  have s1 := hB1.size
  have b1 : Below w.heap.size w w1 := b0.trans (hB1.mono b0.size)
  have S0 := Lib.hid s0
  have sl := hS.lt
  have fl := hF.lt
  clear t00 t01 hB1 b0 s0
  go_wp2_with fail
  refine (sink_any na w1 hS hF hSF (by omega)).mono ?_
  rintro e w2 ⟨K, O, G, c, rfl, hS2, hF2, hG2, hO2, hK2, hz2, k1, k2, k3, k4, k5, k6, k7⟩
  have hs0 := S0.out
  have t20 := (cell_blk (k7.block _ (by omega) (by simp; omega))).trans t10
  have t21 := (cell_blk (k7.block _ (by omega) (by simp; omega))).trans t11
  have b2 : Below w.heap.size w w2 := Kept.below b1 k7 (by simp; omega)
  have s2 := k7.size
  have ol := hO2.lt
  have gl := World.block_lt_of_cell? w2 ⟨G, 0, none⟩ hG2
  have kl := World.block_lt_of_cell? w2 ⟨K, 0, none⟩ hK2
  clear hs0 t10 t11 b1 hS hF
  go_wp2_with fail
  refine (dup_new na nb w2 hS2 hF2 hO2 hSF (by omega) (by omega) (by omega) (by simp [updT]) (by omega) (by unfold updT; rw [if_neg (by omega)]) (by omega) (by omega) (by omega) (by omega)).mono ?_
  rintro e w3 ⟨rfl, d1, d2, d3, d4⟩
  have s3 := d4.size
  have gl' : G < w2.heap.size := gl
  have kl' : K < w2.heap.size := kl
  have hs0 := S0.out
  have HD := Lib.hid (show DupSt w w3 w3.heap.size F S O K G c (some ⟨p, 0, none⟩) 1 2 (updT (updT (fun _ => none) na (some ⟨O, 0, none⟩)) nb (some ⟨O, 0, none⟩)) na nb [] from
    ⟨d1, d2, (cell_blk (d4.block _ gl' (by simp; omega))).trans hG2, fun _ => d3, ⟨_, (cell_blk (d4.block _ kl' (by simp; omega))).trans hK2, (fz_blk (d4.block _ kl' (by simp; omega))).trans hz2, OwnB.nil _ _⟩,
     (cell_blk (d4.block _ (by omega) (by simp; omega))).trans t20, (cell_blk (d4.block _ (by omega) (by simp; omega))).trans t21, Kept.below b2 d4 (by simp; omega), Nat.le_refl _⟩)
  clear hs0 d1 d2 d3 d4
  have HA : DupAt w w3.heap.size F S O K G := by
    have hs0 := S0.out
    have gl' : G < w2.heap.size := gl
    have kl' : K < w2.heap.size := kl
    exact ⟨⟨by omega, by omega⟩, ⟨by omega, by omega⟩, ⟨by omega, by omega⟩, ⟨by omega, by omega⟩, ⟨by omega, by omega⟩, by omega⟩
  clear hS2 hF2 hG2 hO2 hK2 hz2 k1 k2 k3 k4 k5 k6 k7 t20 t21 b2
  go_wp2_with fail
  go_loopw [12, 13] (fun all i W => ∃ k : Nat, k ≤ L.length ∧ i = .int .i64 k ∧ all = .string ⟨(L.take k).flatten.toArray⟩ ∧ (∀ j x, j < k → L[j]? = some x → x.length ≤ 100) ∧ DupSt w W w3.heap.size F S O K G c (some ⟨p, 0, none⟩) 1 2 (updT (updT (fun _ => none) na (some ⟨O, 0, none⟩)) nb (some ⟨O, 0, none⟩)) na nb (L.take k).flatten) (fun _ i _ => 20 - (intOf i).toNat)
  case atStart => exact ⟨0, by omega, rfl, rfl, fun j x h => absurd h (by omega), HD.out⟩
  case round =>
    obtain ⟨k, hk, rfl, rfl, hxs, hD⟩ := hrel
    have u0 := hD.two0
    have u1 := hD.two1
    have hcl : (L.take k).flatten.length ≤ 2000 := by have := cat_len L k hxs; omega
    by_cases hkl : k < L.length
    · obtain ⟨x, hx⟩ : ∃ x, L[k]? = some x := ⟨L[k], List.getElem?_eq_getElem hkl⟩
      obtain ⟨vb, vo, rfl, hvb, hcell⟩ := HV.out.2 (by omega)
      have hc := keep_cell (hcell k x hx) hD.old
      have HC0 := Lib.hid (hcell k x hx)
      have hct := Lib.hid (cat_take L k x hx)
      have hxl := hok.out k x hx
      unfold maxLen at hxl
      clear hcell
      obtain ⟨s, hse⟩ : ∃ s, (L.take k).flatten = s := ⟨_, rfl⟩
      rw [hse] at hD hcl hct ⊢
      clear hse
      have hvc := HV.out.1
      by_cases h100 : 100 < x.length
      · have r1 : (100 : Int) < x.length := by omega
        clear hct
        go_wp2_with fail
        refine (awake_any _).mono ?_
        rintro e w5 ⟨rfl, hB5⟩
        go_wp2_with fail
        go_ret
        exact ⟨rfl, hD.old.trans (hB5.mono hD.old.size)⟩
      · have r1 : ¬ (100 : Int) < x.length := by omega
        have hHx := Lib.hid hx
        have r2 : ((x.length : Int) != x.length) = false := by simp
        by_cases hwho : B[k]? = some true
        · have hkb : k < B.length := (List.getElem?_eq_some_iff.1 hwho).1
          obtain ⟨bb, bo, rfl, hbb, hbcell⟩ := HW.out (by omega)
          have hbc := keep_cell (hbcell k true hwho) hD.old
          have HWr := Lib.hid (dup_write hD (by omega) HA nb (by omega) (by simp [updT]) x (by omega) (by omega))
          clear hx hwho hbcell
          go_wp2_with fail
          refine HWr.out.mono ?_
          rintro e w5 ⟨rfl, hD5⟩
          have hc5 := keep_cell HC0.out hD5.old
          go_wp2_with fail
          go_roundw
          case rel => exact ⟨k + 1, by omega, by go_num, by rw [hct.out], fun j y hj hy => by
            rcases Nat.lt_or_ge j k with h' | h'
            · exact hxs j y h' hy
            · obtain rfl : j = k := by omega
              rw [hHx.out] at hy; cases hy; omega, by rw [hct.out]; exact hD5⟩
          case measure => simp [intOf]; omega
        · have hw : k < B.length → B[k]? = some false := fun h => by
            have h1 := List.getElem?_eq_getElem h
            rw [h1] at hwho ⊢
            cases hb2 : B[k] with
            | true => rw [hb2] at hwho; exact absurd rfl hwho
            | false => rfl
          have HWr := Lib.hid (dup_write hD (by omega) HA na (by omega) (by unfold updT; rw [if_neg (by omega), if_pos rfl]) x (by omega) (by omega))
          rcases Nat.lt_or_ge k B.length with hkb | hkb
          · obtain ⟨bb, bo, rfl, hbb, hbcell⟩ := HW.out (by omega)
            have hbc := keep_cell (hbcell k false (hw hkb)) hD.old
            clear hx hwho hbcell hw
            go_wp2_with fail
            refine HWr.out.mono ?_
            rintro e w5 ⟨rfl, hD5⟩
            have hc5 := keep_cell HC0.out hD5.old
            go_wp2_with fail
            go_roundw
            case rel => exact ⟨k + 1, by omega, by go_num, by rw [hct.out], fun j y hj hy => by
              rcases Nat.lt_or_ge j k with h' | h'
              · exact hxs j y h' hy
              · obtain rfl : j = k := by omega
                rw [hHx.out] at hy; cases hy; omega, by rw [hct.out]; exact hD5⟩
            case measure => simp [intOf]; omega
          · have r3 : ¬ (k : Int) < B.length := by omega
            clear hx hwho hw
            go_wp2_with fail
            refine HWr.out.mono ?_
            rintro e w5 ⟨rfl, hD5⟩
            have hc5 := keep_cell HC0.out hD5.old
            go_wp2_with fail
            go_roundw
            case rel => exact ⟨k + 1, by omega, by go_num, by rw [hct.out], fun j y hj hy => by
              rcases Nat.lt_or_ge j k with h' | h'
              · exact hxs j y h' hy
              · obtain rfl : j = k := by omega
                rw [hHx.out] at hy; cases hy; omega, by rw [hct.out]; exact hD5⟩
            case measure => simp [intOf]; omega
    · obtain rfl : k = L.length := by omega
      rw [List.take_length] at hD hcl ⊢
      clear hxs hkl
      obtain ⟨s, hse⟩ : ∃ s, L.flatten = s := ⟨_, rfl⟩
      rw [hse] at hD hcl ⊢
      clear hse HV HW hok HD
      go_wp2_with fail
      have HC : Hid (∀ W, DupSt w W w3.heap.size F S O K G c (some ⟨p, 0, none⟩) 1 2 (updT (updT (fun _ => none) na (some ⟨O, 0, none⟩)) nb (some ⟨O, 0, none⟩)) na nb s → Calls Try.prog 9 #[.pointer (some ⟨S, 0, none⟩), .int .i64 na] W fun e w' => e = .returned (.int .i64 0) ∧ DupSt w w' w3.heap.size F S O K G c (some ⟨p, 0, none⟩) 1 1 (updT (updT (updT (fun _ => none) na (some ⟨O, 0, none⟩)) nb (some ⟨O, 0, none⟩)) na none) na nb s) :=
        Lib.hid (fun W h => dup_close_many na h HA (by omega) (by simp [updT]))
      have hnn : ((na : Int) == nb) = false := by rw [beq_eq_false_iff_ne]; omega
      go_region_held3 (fun W => W.cell? ⟨w.heap.size, 0, none⟩ = some (.int .i64 na) ∧ W.cell? ⟨w.heap.size, 1, none⟩ = some (.int .i64 nb)) (first | go_keep | exact ⟨u0, u1⟩ | exact ⟨u0', u1'⟩)
        (first
          | (go_at_call 9
             go_must (refine (HC.out _ (by exact hD.drew)).mono ?_)
             rintro e w4' ⟨rfl, hD4'⟩
             have u0' := hD4'.two0
             have u1' := hD4'.two1)
          | (go_at_call 10
             go_must (refine (fopen_any _ hD4'.files).mono ?_)
             rintro e w5 ⟨rfl, rfl⟩))
      go_wp2_with fail
      refine (dup_close_last nb hD4' HA (by omega) (by unfold updT; rw [if_neg (by omega), if_pos rfl])).mono ?_
      rintro e w4 ⟨rfl, hD4⟩
      have z1 := hD4.two0
      have z2 := hD4.two1
      have z3 := hD4.old
      have z4 := hD4.ref
      have z5 := hD4.files
      have z6 := hD4.set
      obtain ⟨v, z7, z8, z9⟩ := hD4.sink
      have HS := Lib.hid (sunk_one w4 z5 z4 z7 z9)
      have HO := Lib.hid (fopen_any w4 z5)
      have HLs := Lib.hid (list_empty w4 z6 (fun i hi => by unfold updT; by_cases e1 : i = nb <;> by_cases e2 : i = na <;> simp [e1, e2]))
      have HAw := Lib.hid (awake_any w4)
      clear z1 z2 z4 z5 z6 z7 z8 z9 hD hD4 HC
      go_wp2_with (first | (go_at_call 11; refine HS.out.mono ?_; rintro e w5 ⟨rfl, rfl⟩) | (go_at_call 10; refine HO.out.mono ?_; rintro e w5 ⟨rfl, rfl⟩) | (go_at_call 12; refine HLs.out.mono ?_; rintro e w5 ⟨rfl, rfl⟩) | (go_at_call 5; refine HAw.out.mono ?_; rintro e w5 ⟨rfl, hB5⟩))
      go_ret
      exact ⟨rfl, z3.trans (hB5.mono z3.size)⟩
set_option maxRecDepth 100000 in
set_option maxHeartbeats 3200000 in
theorem dup_any (w : World) (v0 : Value) (L : List (List UInt8)) (hL : Strs w v0 L) (v1 : Value) (a : Int × Int) (h1 : Two v1 a) (v2 : Value) (B : List Bool) (hB : Bools w v2 B) :
    Calls Try.prog 3 #[v0, v1, v2] w fun e w' => e = .returned (.bool true) ∧ Below w.heap.size w w' := by
  obtain ⟨rfl, ha, hb⟩ := h1
  obtain ⟨a, b⟩ := a
  simp only at ha hb ⊢
  by_cases hg : L.length ≤ 20 ∧ (2 ≤ a ∧ a ≤ 15) ∧ (2 ≤ b ∧ b ≤ 15)
  · obtain ⟨hl, ga, gb⟩ := hg
    obtain ⟨na, rfl⟩ := Int.eq_ofNat_of_zero_le (show 0 ≤ a by omega)
    obtain ⟨nb, rfl⟩ := Int.eq_ofNat_of_zero_le (show 0 ≤ b by omega)
    by_cases hab : na = nb
    · exact law_same hL hB na nb (by omega) (by omega) hl hab
    · exact law_new hL hB na nb (by omega) (by omega) hl hab
  · obtain ⟨va, vc, rfl, hvc⟩ := hL.shape
    obtain ⟨ba, bc, rfl, hbc⟩ := hB.shape
    have hlen := hL.len
    unfold maxLen at hlen
    clear hvc hbc hL hB
    have hE : 20 < L.length ∨ (L.length ≤ 20 ∧ a < 2) ∨ (L.length ≤ 20 ∧ 2 ≤ a ∧ 15 < a) ∨ (L.length ≤ 20 ∧ 2 ≤ a ∧ a ≤ 15 ∧ b < 2) ∨ (L.length ≤ 20 ∧ 2 ≤ a ∧ a ≤ 15 ∧ 2 ≤ b ∧ 15 < b) := by omega
    clear hg
    rcases hE with h1 | ⟨h1, h2⟩ | ⟨h1, h2, h3⟩ | ⟨h1, h2, h3, h4⟩ | ⟨h1, h2, h3, h4, h5⟩
    all_goals
      go_enter Try.func3, Try.ntmps3
      go_wp2_with fail
      obtain ⟨w0, hw0⟩ : ∃ w0, w0 = w.alloc (.cells #[.int .i64 a, .int .i64 b] 23) := ⟨_, rfl⟩
      rw [← hw0]
      have s0 : w0.heap.size = w.heap.size + 1 := by rw [hw0]; simp
      have t00 : w0.cell? ⟨w.heap.size, 0, none⟩ = some (.int .i64 a) := by rw [hw0, cell_new rfl]; rfl
      have t01 : w0.cell? ⟨w.heap.size, 1, none⟩ = some (.int .i64 b) := by rw [hw0, cell_new rfl]; rfl
      have b0 : Below w.heap.size w w0 := by rw [hw0]; exact (Below.refl _ _).alloc (Nat.le_refl _) _
      clear hw0
      refine (begun_any w0).mono ?_
      rintro e w1 ⟨p, F, S, rfl, hB1, hF0, hS0, hSF, hS, hF⟩
      have t10 := keep_cell t00 hB1
      have t11 := keep_cell t01 hB1
      have b1 : Below w.heap.size w w1 := b0.trans (hB1.mono b0.size)
      clear t00 t01 hB1 b0 s0
      go_wp2_with fail
      refine (awake_any _).mono ?_
      rintro e w5 ⟨rfl, hB5⟩
      go_wp2_with fail
      go_ret
      exact ⟨rfl, b1.trans (hB5.mono b1.size)⟩
end Go.Proofs.Ytgfnfomkhhpjaaa
