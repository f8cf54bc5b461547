/- Texts of one proof, packed: OwnS, Open, WyN, WyD, WyL, WyG, WyH, WyK, WyI, WyE, WyF -/
import Derived.Test.YtelohloaoocoaaaGreatDoorM02
import Derived.Test.YtelohloaoocoaaaGreatDoorM01
import Derived.ProofKit
import Derived.OpenShut
import Derived.Deep.Strs
import Derived.Deep.Slices
import Derived.SliceStrings
import Derived.Test.YtelohloaoocoaaaGreatDoorM11
set_option linter.unusedVariables false
set_option linter.unusedSimpArgs false
set_option linter.deprecated false
set_option linter.unnecessarySimpa false
/- Slices of strings that a call makes itself and appends to. -/
namespace Go.Proofs.YtelohloaoocoaaaGreatDoor
open Go.RowKit

/-- v is a slice of the strings L, in a block of the call's own (from base on) -/
def OwnS (w : World) (base : Nat) (v : Value) (L : List (List UInt8)) : Prop := w.ownsRow base 9 1 v L.length (L.map fun x => Value.string ⟨x.toArray⟩)
theorem info_str : (Tryz.prog.info? 9).map (fun i => (i.zero, i.size, i.bytes)) = some (some (.string ByteArray.empty), 1, 16) := by kernel_rfl
theorem OwnS.nil (w : World) (base : Nat) : OwnS w base (.slice none 0 0) [] := World.ownsRow_nil w base _ _
theorem OwnS.drew {w : World} {base v L} (h : OwnS w base v L) : OwnS w.drew base v L := h
theorem OwnS.alloc {w : World} {base v L} (h : OwnS w base v L) (o : Obj) : OwnS (w.alloc o) base v L := World.ownsRow.alloc h o
theorem OwnS.below {w w' : World} {base v L} (h : OwnS w base v L) (hb : Below w.heap.size w w') : OwnS w' base v L :=
  World.ownsRow.kept h (w' := w') (row := none) ⟨hb.os, hb.tape, hb.output, hb.size, fun k hk _ => hb.block k hk⟩ (by cases v.ownBlock <;> simp)
theorem below_ownS {w w1 w2 : World} {v : Value} {L : List (List UInt8)} {base : Nat} (hb : Below base w w1) (hown : OwnS w1 base v L) (hg : w1.grownBy w2 v.ownBlock) (hs : base ≤ w1.heap.size) : Below base w w2 :=
  hb.grown hg hs (fun k e => (World.ownsRow.lt hown k e).1)
theorem OwnS.lt {w : World} {base v L} (h : OwnS w base v L) : ∀ k, v.ownBlock = some k → base ≤ k ∧ k < w.heap.size := World.ownsRow.lt h
/-- 'append(out, s)': one string, that the statement has just laid in a new block -/
theorem append_s {ops : Array Oper} {rest : List Oper} {o : Oper} {a : Act} {Q : Exit → Act → World → Prop} {w : World} (hgd : o.guard = none) (s x : Operand)
    (ho : o.op = .call { callee := .builtin .append, args := #[s, x], argTypes := #[33, 33] }) (base : Nat) (v : Value) (L : List (List UInt8)) (hs : a.eval s = v) (hown : OwnS w base v L)
    (b : List UInt8) (hx : a.eval x = .slice (some ⟨w.heap.size, 0, none⟩) 1 1)
    (hlen : L.length + 1 ≤ 1000000000000) (hbase : base ≤ w.heap.size)
    (h : ∀ v' w', OwnS w' base v' (L ++ [b]) → w.grownBy w' v.ownBlock → wpList Tryz.prog ops Q rest (a.put o.dst v') w') :
    wpList Tryz.prog ops Q (o :: rest) a (w.alloc (.cells #[.string ⟨b.toArray⟩] 9)) := by
  obtain ⟨i0, hi, hz0, hz1, hz2⟩ := info_parts info_str
  refine wpList_append_own _ hgd s x 33 ho base 9 i0 (.string ByteArray.empty) 1 16 (by kernel_rfl) hi hz0 hz1 hz2 rfl (by omega) v L.length _ hs (hown.alloc _) ⟨w.heap.size, 0, none⟩ 1 1 [.string ⟨b.toArray⟩] hx rfl ?_ ?_ (by simp only [maxLen]; omega) (by omega) (by simp; omega) ?_
  · intro j u hj
    match j, hj with
    | 0, hj => simp at hj; subst hj; simp [Addr.add]
  · intro u hu; simp at hu; subst hu; rfl
  · intro v' w' h1 h2 _
    refine h v' w' (by simpa [OwnS] using h1) ?_
    exact ⟨h2.os, h2.tape, h2.output, by have := h2.size; simp at this; omega, fun k hk hne => by
      rw [h2.block k (by simp; omega) hne, Below.heap_alloc _ _ _ hk]⟩
/-- what an owned slice of strings looks like -/
theorem OwnS.strs {w : World} {base v L} (h : OwnS w base v L) (h5 : ∀ x, x ∈ L → x.length ≤ maxLen) : Strs w v L := by
  obtain ⟨hxs, hr⟩ := h
  rcases hr with ⟨rfl, hn⟩ | ⟨g, cap, cur, rfl, hb, hg, hnc, hcm, hcs, htk⟩
  · have : L = [] := List.eq_nil_of_length_eq_zero hn
    subst this
    exact ⟨by simp, ⟨none, 0, rfl, by simp, fun h => by simp at h⟩, fun i x h => by simp at h⟩
  · refine ⟨by omega, ⟨some ⟨g, 0, none⟩, cap, rfl, hnc, fun _ => ⟨g, 0, rfl, ?_, fun j x hj => ?_⟩⟩, fun i x hx => h5 x (List.mem_of_getElem? hx)⟩
    · rcases Nat.lt_or_ge g w.heap.size with h' | h'
      · exact h'
      · rw [Array.getElem?_eq_none h'] at hg; cases hg
    · rw [Nat.zero_add]
      have hjl : j < L.length := (List.getElem?_eq_some_iff.1 hj).1
      have h1 : (cur.toList.take (L.length * 1))[j]? = some (.string ⟨x.toArray⟩) := by rw [htk, List.getElem?_map, hj]; rfl
      rw [List.getElem?_take_of_lt (by omega), Array.getElem?_toList] at h1
      simp [World.cell?, hg, h1]
theorem OwnS.len {w : World} {base v L} (h : OwnS w base v L) : ∃ a cap, v = .slice a L.length cap := by
  obtain ⟨hxs, hr⟩ := h
  rcases hr with ⟨rfl, hn⟩ | ⟨g, cap, cur, rfl, _⟩
  · exact ⟨none, 0, by rw [hn]⟩
  · exact ⟨_, cap, rfl⟩
end Go.Proofs.YtelohloaoocoaaaGreatDoor
/- How the arguments of a law are opened: strings as lists of bytes, integers by their bounds. -/
namespace Go.Proofs.YtelohloaoocoaaaGreatDoor
open Go.ChangeShapes Go.WideShapes Go.ChangeAt Go.RowKit

theorem str_list (s : ByteArray) (h : s.size ≤ maxLen) : ∃ l : List UInt8, s = ⟨l.toArray⟩ ∧ l.length ≤ maxLen :=
  ⟨s.data.toList, by rw [Array.toArray_toList], by rw [Array.length_toList]; exact h⟩
theorem wf_i64 {n : Int} (h : (Lit.int .i64 n).wf = true) : -9223372036854775808 ≤ n ∧ n ≤ 9223372036854775807 := by
  simpa [Lit.wf, IntKind.min, IntKind.max, IntKind.signed, IntKind.bits] using h
theorem wf_u8 {n : Int} (h : (Lit.int .u8 n).wf = true) : 0 ≤ n ∧ n ≤ 255 := by
  simpa [Lit.wf, IntKind.min, IntKind.max, IntKind.signed, IntKind.bits] using h
theorem cell_plain {w : World} {a : Addr} {v : Value} (h : w.cell? a = some v) : a = ⟨a.block, a.off, none⟩ := by
  cases a with
  | mk b o s =>
    cases s with
    | none => rfl
    | some x => simp [World.cell?] at h; split at h <;> simp_all
theorem add_mk (b o k : Nat) : (⟨b, o, none⟩ : Addr).add k = ⟨b, o + k, none⟩ := by unfold Addr.add; split <;> simp_all
theorem add_spot (a : Addr) (k : Nat) (h : (a.add k).spot = none) (hk : k = 0) : a.spot = none := by subst hk; simpa [Addr.add] using h

/-- an element of three fields: two integers and a string -/
structure OpR where
  ask : Int
  n : Int
  data : List UInt8
structure OpR.ok (o : OpR) : Prop where
  ask : -9223372036854775808 ≤ o.ask ∧ o.ask ≤ 9223372036854775807
  n : -9223372036854775808 ≤ o.n ∧ o.n ≤ 9223372036854775807
  data : o.data.length ≤ maxLen
/-- a slice of such elements -/
structure Ops (W : World) (v : Value) (L : List OpR) : Prop where
  len : L.length ≤ maxLen
  shape : ∃ a cap, v = .slice a L.length cap ∧ (0 < L.length → ∃ b off, a = some ⟨b, off, none⟩ ∧ b < W.heap.size ∧
    ∀ (i : Nat) (o : OpR), L[i]? = some o → W.cell? ⟨b, off + i * 3, none⟩ = some (.int .i64 o.ask) ∧ W.cell? ⟨b, off + i * 3 + 1, none⟩ = some (.int .i64 o.n) ∧ W.cell? ⟨b, off + i * 3 + 2, none⟩ = some (.string ⟨o.data.toArray⟩))
  ok : ∀ (i : Nat) (o : OpR), L[i]? = some o → o.ok

theorem open_ops {H : Type} {enc : TypeId × Value → H} {P : Program} {W : World} {base : Nat} {t e : TypeId} {f0 f1 f2 : Field} {v : Value} {d : DataW H} {ps : List MemPlace} {r : Reach}
    (ht : P.underlying t = some (.slice e)) (he : P.underlying e = some (.struct #[f0, f1, f2])) (hi0 : P.underlying f0.type = some (.int .i64)) (hi1 : P.underlying f1.type = some (.int .i64)) (hs2 : P.underlying f2.type = some .string)
    (ho0 : f0.offset = 0) (ho1 : f1.offset = 1) (ho2 : f2.offset = 2) (hc0 : P.cellsOf f0.type = 1) (hc1 : P.cellsOf f1.type = 1) (hc2 : P.cellsOf f2.type = 1) (hc : P.cellsOf e = 3)
    (hval : Value.okWide P W r base t v) (h : DataW.Trod enc P W 0 (fun _ => true) true t v d ps) : ∃ L, Ops W v L := by
  obtain ⟨a0, len, cap, rfl⟩ := okWide_slice ht hval
  obtain ⟨fuel, hf⟩ := h
  rcases Go.Deep.open_slice ht hf with ⟨hcs, _⟩ | ⟨a, l, c, m, k, D, Pl, hcs, _, hl, hm, hmm, _, hx⟩
  · simp [Value.cells] at hcs
    obtain ⟨rfl, rfl, rfl⟩ := hcs
    exact ⟨[], by simp, ⟨none, 0, rfl, fun h => by simp at h⟩, fun i o h => by simp at h⟩
  · simp [Value.cells] at hcs
    obtain ⟨rfl, rfl, rfl⟩ := hcs
    simp only [if_true] at hmm
    have each : ∀ i, i < len → ∃ o : OpR, o.ok ∧ W.cell? (a.add (i * 3)) = some (.int .i64 o.ask) ∧ W.cell? ((a.add (i * 3)).add 1) = some (.int .i64 o.n) ∧ W.cell? ((a.add (i * 3)).add 2) = some (.string ⟨o.data.toArray⟩) := by
      intro i hi
      obtain ⟨cs, h1, h2⟩ := hx i (by omega)
      rw [hc] at h1
      obtain ⟨_, hlen, hcell⟩ := World.cells?_some h1
      obtain ⟨y0, y1, y2, n, _, _, g0, g1, g2⟩ := Go.Deep.trod_struct3 he h2
      rw [ho0, hc0] at g0; rw [ho1, hc1] at g1; rw [ho2, hc2] at g2
      match cs, hlen with
      | [c0, c1, c2], _ =>
        obtain ⟨z0, e0, _, w0⟩ := DataW.trod_int hi0 g0
        obtain ⟨z1, e1, _, w1⟩ := DataW.trod_int hi1 g1
        obtain ⟨z2, e2, _, w2⟩ := DataW.trod_string hs2 g2
        simp at e0 e1 e2
        subst e0 e1 e2
        obtain ⟨l2, rfl, hl2⟩ := str_list z2 w2
        refine ⟨⟨z0, z1, l2⟩, ⟨wf_i64 w0, wf_i64 w1, hl2⟩, ?_, hcell 1 (by omega), hcell 2 (by omega)⟩
        have := hcell 0 (by omega)
        simpa [Addr.add] using this
    haveI : Inhabited OpR := ⟨⟨0, 0, []⟩⟩
    obtain ⟨f, hf⟩ := Go.Deep.choose_lt (α := OpR) (p := fun i o => o.ok ∧ W.cell? (a.add (i * 3)) = some (.int .i64 o.ask) ∧ W.cell? ((a.add (i * 3)).add 1) = some (.int .i64 o.n) ∧ W.cell? ((a.add (i * 3)).add 2) = some (.string ⟨o.data.toArray⟩)) each
    have hget : ∀ i o, ((List.range len).map f)[i]? = some o → i < len ∧ f i = o := by
      intro i o h
      rw [List.getElem?_map] at h
      rcases Nat.lt_or_ge i len with h' | h'
      · simp [h'] at h; exact ⟨h', h⟩
      · rw [List.getElem?_eq_none (by simpa using h')] at h; simp at h
    refine ⟨(List.range len).map f, by simp; omega, ⟨some a, cap, by simp, fun hpos => ?_⟩, fun i o h => ?_⟩
    · have hpos' : 0 < len := by simpa using hpos
      have h0 := (hf 0 hpos').2.1
      have ha : a = ⟨a.block, a.off, none⟩ := cell_plain (by simpa [Addr.add] using h0)
      refine ⟨a.block, a.off, by rw [← ha], World.block_lt_of_cell? W a (by simpa [Addr.add] using h0), fun i o h => ?_⟩
      obtain ⟨hi, rfl⟩ := hget i o h
      obtain ⟨_, h1, h2, h3⟩ := hf i hi
      rw [ha, add_mk] at h1 h2 h3
      rw [add_mk] at h2 h3
      exact ⟨h1, h2, h3⟩
    · obtain ⟨hi, rfl⟩ := hget i o h
      exact (hf i hi).1
theorem open_strs {H : Type} {enc : TypeId × Value → H} {P : Program} {W : World} {base : Nat} {t e : TypeId} {v : Value} {d : DataW H} {ps : List MemPlace} {r : Reach}
    (ht : P.underlying t = some (.slice e)) (he : P.underlying e = some .string) (hc : P.cellsOf e = 1)
    (hval : Value.okWide P W r base t v) (h : DataW.Trod enc P W 0 (fun _ => true) true t v d ps) : ∃ L, Strs W v L := by
  obtain ⟨a0, len, cap, rfl⟩ := okWide_slice ht hval
  obtain ⟨fuel, hf⟩ := h
  rcases open_strings ht he hc hf with ⟨hcs, _⟩ | ⟨a, l, c, ss, hcs, _, hl, hm, hss, _, hcell, hsz⟩
  · simp [Value.cells] at hcs
    obtain ⟨rfl, rfl, rfl⟩ := hcs
    exact ⟨[], by simp, ⟨none, 0, rfl, by simp, fun h => by simp at h⟩, fun i x h => by simp at h⟩
  · simp [Value.cells] at hcs
    obtain ⟨rfl, rfl, rfl⟩ := hcs
    simp only [if_true] at hss
    have hget : ∀ (i : Nat) (x : List UInt8), ((ss.take len).map fun s => s.data.toList)[i]? = some x → i < len ∧ ∃ s, ss[i]? = some s ∧ x = s.data.toList := by
      intro i x hx
      rw [List.getElem?_map] at hx
      rcases Nat.lt_or_ge i len with h' | h'
      · rw [List.getElem?_take_of_lt h'] at hx
        cases hs : ss[i]? with
        | none => rw [hs] at hx; cases hx
        | some s => rw [hs] at hx; cases hx; exact ⟨h', s, rfl, rfl⟩
      · rw [List.getElem?_eq_none (by simp; omega)] at hx; cases hx
    have hlen : ((ss.take len).map fun s => s.data.toList).length = len := by simp; omega
    refine ⟨(ss.take len).map fun s => s.data.toList, by rw [hlen]; omega, ⟨some a, cap, by rw [hlen], by rw [hlen]; exact hl, fun hp => ?_⟩, fun i x hx => ?_⟩
    · rw [hlen] at hp
      have h0 := hcell 0 (by omega)
      have ha : a = ⟨a.block, a.off, none⟩ := cell_plain (by simpa [Addr.add] using h0)
      refine ⟨a.block, a.off, by rw [← ha], World.block_lt_of_cell? W a (by simpa [Addr.add] using h0), fun i x hx => ?_⟩
      obtain ⟨hi, s, hs, rfl⟩ := hget i x hx
      have h1 := hcell i (by omega)
      rw [ha, add_mk] at h1
      rw [h1]
      have : ss.getD i ByteArray.empty = s := by simp [List.getD, hs]
      rw [this]
    · obtain ⟨hi, s, hs, rfl⟩ := hget i x hx
      have := hsz s (List.mem_of_getElem? hs)
      rw [Array.length_toList]; exact this
end Go.Proofs.YtelohloaoocoaaaGreatDoor
/- Lists of numbers of the caller's. -/
namespace Go.Proofs.YtelohloaoocoaaaGreatDoor
open Go.RowKit Go.WideShapes IntWalk
set_option linter.unusedVariables false
set_option linter.unusedSimpArgs false

/-- a list of n numbers of the caller's -/
def Nums (W : World) (v : Value) (n : Nat) (zs : Nat → Int) : Prop :=
  ∃ p c, v = .slice p n c ∧ ∃ b off, (0 < n → p = some ⟨b, off, none⟩ ∧ b < W.heap.size) ∧ ∀ j, j < n → W.cell? ⟨b, off + j, none⟩ = some (.int .i64 (zs j)) ∧ -9223372036854775808 ≤ zs j ∧ zs j ≤ 9223372036854775807
theorem open_nums {H : Type} {enc : TypeId × Value → H} {P : Program} {W : World} {base : Nat} {t e : TypeId} {v : Value} {d : DataW H} {ps : List MemPlace} {r : Reach}
    (ht : P.underlying t = some (.slice e)) (he : P.underlying e = some (.int .i64)) (hc : P.cellsOf e = 1)
    (hval : Value.okWide P W r base t v) (h : DataW.Trod enc P W 0 (fun _ => true) true t v d ps) : ∃ n zs, Nums W v n zs := by
  obtain ⟨a0, len, cap, rfl⟩ := okWide_slice ht hval
  obtain ⟨fuel, hf⟩ := h
  rcases Go.Deep.open_slice ht hf with ⟨hcs, _⟩ | ⟨a, l, c, m, k, D, Pl, hcs, _, hl, hm, hmm, _, hx⟩
  · simp [Value.cells] at hcs
    obtain ⟨rfl, rfl, rfl⟩ := hcs
    exact ⟨0, fun _ => 0, none, 0, rfl, 0, 0, fun h => absurd h (by omega), fun j hj => absurd hj (by omega)⟩
  · simp [Value.cells] at hcs
    obtain ⟨rfl, rfl, rfl⟩ := hcs
    simp only [if_true] at hmm
    have each : ∀ i, i < len → ∃ o : Int, W.cell? (a.add i) = some (.int .i64 o) ∧ -9223372036854775808 ≤ o ∧ o ≤ 9223372036854775807 := by
      intro i hi
      obtain ⟨cs, h1, h2⟩ := hx i (by omega)
      rw [hc] at h1
      obtain ⟨_, hlen, hcell⟩ := World.cells?_some h1
      match cs, hlen with
      | [c0], _ =>
        obtain ⟨z0, e0, _, w0⟩ := DataW.trod_int he h2
        simp at e0
        subst e0
        refine ⟨z0, ?_, (wf_i64 w0).1, (wf_i64 w0).2⟩
        have := hcell 0 (by omega)
        simpa [Addr.add] using this
    obtain ⟨f, hf⟩ := Go.Deep.choose_lt (α := Int) (p := fun i o => W.cell? (a.add i) = some (.int .i64 o) ∧ -9223372036854775808 ≤ o ∧ o ≤ 9223372036854775807) each
    by_cases h0 : 0 < len
    · have h1 := (hf 0 h0).1
      have ha : a = ⟨a.block, a.off, none⟩ := cell_plain (by simpa [Addr.add] using h1)
      refine ⟨len, f, some a, cap, rfl, a.block, a.off, fun _ => ⟨by rw [← ha], World.block_lt_of_cell? W a (by simpa [Addr.add] using h1)⟩, fun j hj => ?_⟩
      have h2 := hf j hj
      rw [ha, add_mk] at h2
      exact h2
    · exact ⟨len, f, some a, cap, rfl, 0, 0, fun h => absurd h h0, fun j hj => absurd hj (by omega)⟩

end Go.Proofs.YtelohloaoocoaaaGreatDoor
/- A family's world as the law sees it; picks. -/
namespace Go.Proofs.YtelohloaoocoaaaGreatDoor
open Go.RowKit IntWalk
set_option linter.unusedVariables false
set_option linter.unusedSimpArgs false

theorem below_alloc (w : World) (o : Obj) : Below w.heap.size w (w.alloc o) := (Below.refl _ _).alloc (Nat.le_refl _) _
/-- all that a world of a family has -/
abbrev allC (s : Ks) (l : Ly) (x : Wx) (lw : WId → Nat) := Sum.elim (s.obj l) (x.obj lw)
abbrev allL (l : Ly) (lw : WId → Nat) := Sum.elim l.all lw
/-- a family's world, made since the world W -/
structure Seen (W : World) (p : Par) (f : Fam) (s : Ks) (l : Ly) (x : Wx) (lw : WId → Nat) (w : World) : Prop where
  al : Al s l x lw w
  iv : Inv p f s x
  own : ∀ k, Owns (allC s l x lw) (allL l lw) k → W.heap.size ≤ k
  old : Below W.heap.size W w
  sink2 : w.heap[p.b2]? = some (.cells #[.slice none 0 0] 143 (0, 0))
  out2 : ¬ Owns (allC s l x lw) (allL l lw) p.b2
  row : p.gs.cells[p.gs.off + 1]? = some (ptrOf p.b2)
section
variable {W w w' : World} {p : Par} {f f' : Fam} {s s' : Ks} {l l' : Ly} {x x' : Wx} {lw lw' : WId → Nat}
theorem heap_lt {w : World} {b : Nat} {o : Obj} (h : w.heap[b]? = some o) : b < w.heap.size := by
  rcases Nat.lt_or_ge b w.heap.size with q | q
  · exact q
  · rw [Array.getElem?_eq_none q] at h; cases h
theorem AStep.kept (A : AStep s l x lw w s' l' x' lw' w') {b : Nat} {o : Obj} (h : w.heap[b]? = some o) (ho : ¬ Owns (allC s l x lw) (allL l lw) b) : w'.heap[b]? = some o ∧ ¬ Owns (allC s' l' x' lw') (allL l' lw') b := by
  have hb := heap_lt h
  refine ⟨(A.g.turned.block b hb ho).trans h, fun q => ?_⟩
  rcases A.g.own b q with q | q
  · exact ho q
  · omega
theorem Seen.step (h : Seen W p f s l x lw w) (A : AStep s l x lw w s' l' x' lw' w') (hI : Inv p f' s' x') : Seen W p f' s' l' x' lw' w' := by
  have hk := A.kept h.sink2 h.out2
  refine ⟨A.is, hI, fun k hk => ?_, A.g.below_all h.old h.own (Nat.le_refl _), hk.1, hk.2, h.row⟩
  rcases A.g.own k hk with q | q
  · exact h.own k q
  · have := h.old.size; omega
theorem Seen.below (h : Seen W p f s l x lw w) (hb : Below w.heap.size w w') : Seen W p f s l x lw w' := h.step ((AStep.refl h.al).below hb) h.iv
/-- numbers that no world of a family touches -/
def PicksAt (c : Nat → Prop) (w : World) (v : Value) (n : Nat) (zs : Nat → Int) : Prop :=
  ∃ b off cap, v = .slice (some ⟨b, off, none⟩) n cap ∧ b < w.heap.size ∧ ¬ c b ∧ ∀ j, j < n → w.cell? ⟨b, off + j, none⟩ = some (.int .i64 (zs j)) ∧ -9223372036854775808 ≤ zs j ∧ zs j ≤ 9223372036854775807
theorem PicksAt.step {v : Value} {n : Nat} {zs : Nat → Int} (h : PicksAt (Owns (allC s l x lw) (allL l lw)) w v n zs) (A : AStep s l x lw w s' l' x' lw' w') : PicksAt (Owns (allC s' l' x' lw') (allL l' lw')) w' v n zs := by
  obtain ⟨b, off, cap, rfl, hb, ho, hz⟩ := h
  refine ⟨b, off, cap, rfl, Nat.lt_of_lt_of_le hb A.g.turned.size, fun q => ?_, fun j hj => ?_⟩
  · rcases A.g.own b q with q | q
    · exact ho q
    · omega
  · rw [World.cell?_of_block (A.g.turned.block b hb ho)]; exact hz j hj
theorem PicksAt.of_nums {v : Value} {n : Nat} {zs : Nat → Int} (h : Nums W v n zs) (hn : 0 < n) (hS : Seen W p f s l x lw w) : PicksAt (Owns (allC s l x lw) (allL l lw)) w v n zs := by
  obtain ⟨q, c, rfl, b, off, hq, hz⟩ := h
  obtain ⟨rfl, hb⟩ := hq hn
  refine ⟨b, off, c, rfl, Nat.lt_of_lt_of_le hb hS.old.size, fun q => ?_, fun j hj => ?_⟩
  · have := hS.own b q; omega
  · rw [World.cell?_of_block (hS.old.block b hb)]; exact hz j hj
/-- what a step leaves, or none is -/
theorem Seen.ready_of (h : Seen W p f s l x lw w) (hp : p.Ok) : s.t.m.es.length ≤ 1000000 := by
  have := (h.iv.es hp h.al.ok.t).1; omega
end
end Go.Proofs.YtelohloaoocoaaaGreatDoor
/- conchlaw23.letters: texts of so many bytes. -/
namespace Go.Proofs.YtelohloaoocoaaaGreatDoor
open Go.RowKit IntWalk
set_option linter.unusedVariables false
set_option linter.unusedSimpArgs false

set_option maxRecDepth 100000 in
theorem run_make_u8 (w : World) (k : Nat) (hk : k ≤ 1000000) :
    (Instr.makeSlice 87 (.int .i64 k) (.int .i64 k)).run Tryz.prog w = .ok (.slice (some ⟨w.heap.size, 0, none⟩) k k) (w.alloc (.cells (List.replicate k (.int .u8 0)).toArray 5)) := by
  obtain ⟨i, hi, h1, h2, h3⟩ := info_parts info_u8
  have := run_make (P := Tryz.prog) w 87 5 i _ Tryz.underlying87 hi h1 .i64 .i64 k k (by omega) (by omega) (by rw [h3]; omega) (by omega)
  rw [this, h2]
  congr 3
  simp only [Int.toNat_natCast, Nat.mul_one]
  apply Array.ext'
  apply List.ext_getElem?
  intro j
  by_cases q : j < k
  · simp [madeCells, Value.cells, q, Nat.mod_one]
  · simp [madeCells, Value.cells, q]
/-- the text of the place i -/
def letT (zs : Nat → Int) (i : Nat) : List UInt8 := List.replicate (zs i).toNat (UInt8.ofNat (97 + i))
def lets (zs : Nat → Int) (n : Nat) : List (List UInt8) := (List.range n).map (letT zs)
theorem lets_succ (zs : Nat → Int) (n : Nat) : lets zs (n + 1) = lets zs n ++ [letT zs n] := by simp [lets, List.range_succ]
def Small8 (n : Nat) (zs : Nat → Int) : Prop := n ≤ 8 ∧ ∀ j, j < n → 0 ≤ zs j ∧ zs j ≤ 100
/-- one block of bytes is written, and nothing else is touched -/
structure Inks (w : World) (g m k : Nat) (c : Int) (W : World) : Prop where
  os : W.os = w.os
  tape : W.tape = w.tape
  output : W.output = w.output
  size : W.heap.size = w.heap.size
  block : ∀ b, b ≠ g → W.heap[b]? = w.heap[b]?
  at_ : W.heap[g]? = some (.cells (List.replicate k (Value.int .u8 c) ++ List.replicate (m - k) (Value.int .u8 0)).toArray 5 (0, 0))
theorem inks_row {w : World} {b k : Nat} {cs : Array Value} {ty : TypeId} {fz : Nat × Nat} {v : Value} (h : w.heap[b]? = some (.cells cs ty fz)) : (w.setCell ⟨b, k, none⟩ v).heap[b]? = some (.cells (cs.setIfInBounds k v) ty fz) := by
  simp [World.setCell, Array.getElem?_modify, h]
theorem OwnS.other {w w' : World} {base v l} (h : OwnS w base v l) {r : Option Nat} (hg : w.grownBy w' r) (hne : v.ownBlock = none ∨ v.ownBlock ≠ r) : OwnS w' base v l := World.ownsRow.kept h hg hne
theorem Inks.step {w W : World} {g m k : Nat} {c : Int} (h : Inks w g m k c W) (hk : k < m) : Inks w g m (k + 1) c (W.setCell ⟨g, k, none⟩ (.int .u8 c)) := by
  refine ⟨h.os, h.tape, h.output, by simpa [World.setCell] using h.size, fun b hb => ?_, ?_⟩
  · rw [Below.heap_setCell _ _ _ _ hb]; exact h.block b hb
  · have e := h.at_
    have := inks_row (k := k) (v := .int .u8 c) e
    rw [this]
    congr 2
    apply Array.ext'
    rw [Array.toList_setIfInBounds]
    apply List.ext_getElem?
    intro j
    rw [List.getElem?_set]
    simp only [List.getElem?_append, List.length_replicate, List.getElem?_replicate, List.length_append]
    repeat' split
    all_goals first
      | rfl
      | (exfalso; omega)
theorem Inks.below {w W : World} {g m k : Nat} {c : Int} (h : Inks w g m k c W) : Below g w W := ⟨h.os, h.tape, h.output, Nat.le_of_eq h.size.symm, fun b hb => h.block b (by omega)⟩
theorem letT_of {zs : Nat → Int} {i m : Nat} (h : zs i = (m : Int)) : letT zs i = List.replicate m (UInt8.ofNat (97 + i)) := by unfold letT; rw [h]; rfl
set_option maxHeartbeats 1000000 in
set_option maxRecDepth 100000 in
theorem letters_any (w : World) (v : Value) (n : Nat) (zs : Nat → Int) (hN : Nums w v n zs) :
    Calls Tryz.prog 17 #[v] w fun e w' => Below w.heap.size w w' ∧
      ((¬ Small8 n zs ∧ e = .returned (.tuple #[.slice none 0 0, .bool false])) ∨
       (Small8 n zs ∧ ∃ v', e = .returned (.tuple #[v', .bool true]) ∧ OwnS w' w.heap.size v' (lets zs n))) := by
  obtain ⟨q, c, rfl, b, off, hq, hz⟩ := hN
  have HZ := Lib.hid hz
  have HQ := Lib.hid hq
  clear hz hq
  go_enter Tryz.func17, Tryz.ntmps17
  go_wp2_with fail
  go_loopw [4, 5] (fun lv iv V => ∃ i : Nat, iv = .int .i64 i ∧ i ≤ n ∧ Small8 i zs ∧ Below w.heap.size w V ∧ OwnS V w.heap.size lv (lets zs i)) (fun _ iv _ => n - (intOf iv).toNat)
  case atStart => exact ⟨0, rfl, Nat.zero_le _, ⟨by omega, fun j hj => by omega⟩, Below.refl _ _, OwnS.nil _ _⟩
  case round =>
    obtain ⟨i, rfl, hin, ⟨hi8, hsm⟩, hB, hO⟩ := hrel
    have HO := Lib.hid hO
    have HB := Lib.hid hB
    have HSM := Lib.hid hsm
    clear hO hB hsm
    by_cases hlt : i < n
    · obtain ⟨rfl, hbl⟩ := HQ.out (by omega)
      obtain ⟨hc, hz1, hz2⟩ := HZ.out i hlt
      generalize hzi : zs i = z at hc hz1 hz2
      have hc2 : wr.cell? ⟨b, off + i, none⟩ = some (.int .i64 z) := by rw [World.cell?_of_block (HB.out.block b hbl)]; exact hc
      have hlt2 : (i : Int) < n := by omega
      have HZI := Lib.hid hzi
      clear hzi
      by_cases hbad : 8 ≤ i ∨ z < 0 ∨ 100 < z
      · have hno : ¬ Small8 n zs := fun h => by
          have := h.2 i hlt
          rw [HZI.out] at this
          have := h.1
          omega
        go_wp2_with fail
        all_goals go_ret2
        all_goals exact ⟨HB.out, rfl⟩
      · have h8 : i < 8 := by omega
        obtain ⟨m, rfl, hm⟩ : ∃ m : Nat, z = (m : Int) ∧ m ≤ 100 := ⟨z.toNat, by omega, by omega⟩
        have hmk := run_make_u8 wr m (by omega)
        go_wp2_with fail
        clear hmk
        have hgw : w.heap.size ≤ wr.heap.size := HB.out.size
        have hmk2 : (wr.alloc (.cells (Array.replicate m (Value.int .u8 0)) 5)).heap[wr.heap.size]? = some (.cells (Array.replicate m (Value.int .u8 0)) 5) := heap_alloc_new _ _
        have HB1 := Lib.hid (HB.out.alloc hgw (.cells (Array.replicate m (Value.int .u8 0)) 5))
        have HO1 := Lib.hid (HO.out.alloc (.cells (Array.replicate m (Value.int .u8 0)) 5))
        have hsz1 : (wr.alloc (.cells (Array.replicate m (Value.int .u8 0)) 5)).heap.size = wr.heap.size + 1 := by simp
        generalize hw1 : wr.alloc (.cells (Array.replicate m (Value.int .u8 0)) 5) = w1 at *
        clear hw1
        generalize hgg : wr.heap.size = g at *
        have HGG := Lib.hid hgg
        clear hgg
        have hinks : Inks w1 g m 0 ((97 + i : Nat) : Int) w1 := ⟨rfl, rfl, rfl, rfl, fun _ _ => rfl, by rw [hmk2]; simp⟩
        clear hmk2
        go_loopw [7] (fun kv V => ∃ k : Nat, kv = .int .i64 k ∧ k ≤ m ∧ Inks w1 g m k ((97 + i : Nat) : Int) V) (fun kv _ => m - (intOf kv).toNat)
        case atStart => exact ⟨0, rfl, Nat.zero_le _, hinks⟩
        case round =>
          obtain ⟨k, rfl, hkm, hK⟩ := hrel
          clear hinks
          by_cases hlk : k < m
          · have hlk2 : (k : Int) < m := by omega
            have hcell : wr.cell? ⟨g, k, none⟩ = some (.int .u8 0) := by
              have e := hK.at_
              have hk2 : (List.replicate k (Value.int .u8 ((97 + i : Nat) : Int)) ++ List.replicate (m - k) (Value.int .u8 0)).toArray[k]? = some (.int .u8 0) := by
                rw [List.getElem?_toArray, List.getElem?_append_right (by simp), List.getElem?_replicate]; simp; omega
              simp [World.cell?, e]
              rw [← List.getElem?_toArray]; exact hk2
            have hfz : wr.frozen? ⟨g, k, none⟩ = false := by
              have e := hK.at_
              simp [World.frozen?, e]
            have HK := Lib.hid hK
            clear hK
            go_wp2_with fail
            have hc97 : ((97 + i : Nat) : Int) = 97 + (i : Int) := by omega
            refine ⟨⟨k + 1, by go_num, by omega, ?_⟩, by simp [intOf]; omega⟩
            rw [← hc97]
            exact HK.out.step hlk
          · have hlk2 : ¬ (k : Int) < m := by omega
            have e : k = m := by omega
            subst e
            have hat := hK.at_
            have hcv : (convert 87 9 (.slice (some ⟨g, 0, none⟩) k k)).run Tryz.prog wr = .ok (.string ⟨(List.replicate k (UInt8.ofNat (97 + i))).toArray⟩) wr := by
              have := run_convert_bytes_back (P := Tryz.prog) wr 87 9 5 ⟨g, 0, none⟩ k (List.replicate k (UInt8.ofNat (97 + i))) (by kernel_rfl) (by kernel_rfl) (by kernel_rfl) ?_
              · simpa using this
              · intro j hj
                have hj : j < k := by simpa using hj
                have e : (⟨g, 0, none⟩ : Addr).add j = ⟨g, j, none⟩ := by unfold Addr.add; split <;> simp_all
                rw [e]
                simp [World.cell?, hat, hj]
                omega
            have HK := Lib.hid hK
            clear hK hat
            have HB2 := Lib.hid (HB1.out.trans (HK.out.below.mono hgw))
            have HO2 := Lib.hid (OwnS.other HO1.out (r := some g) ⟨HK.out.os, HK.out.tape, HK.out.output, Nat.le_of_eq HK.out.size.symm, fun b _ hb => HK.out.block b (fun e => hb (by rw [e]))⟩ (by
              cases hv : u4.ownBlock with
              | none => exact .inl rfl
              | some b0 => right; intro e; cases e; have := (OwnS.lt HO.out g hv).2; have := HGG.out; omega))
            go_wp2_with (at_builtin; refine append_s rfl _ _ rfl w.heap.size _ (lets zs i) rfl HO2.out _ rfl ?_ HB2.out.size ?_)
            · simp [lets]; omega
            · intro v2 w2 hO3 hg2
              have HO3 := Lib.hid hO3
              have HB3 := Lib.hid (below_ownS HB2.out HO2.out hg2 HB2.out.size)
              clear hO3 hg2
              go_wp2_with fail
              have hc97 : ((97 + i : Nat) : Int) = 97 + (i : Int) := by omega
              have e8 : UInt8.ofNat (97 + i) = 97 + UInt8.ofNat i := by simp
              refine ⟨⟨i + 1, by go_num, by omega, ⟨by omega, fun j hj => ?_⟩, HB3.out, ?_⟩, by simp [intOf]; omega⟩
              · by_cases q : j = i
                · subst q; rw [HZI.out]; omega
                · exact HSM.out j (by omega)
              · rw [lets_succ, letT_of HZI.out, e8]; exact HO3.out
    · have hlt2 : ¬ (i : Int) < n := by omega
      go_wp2_with fail
      go_ret2
      have e : i = n := by omega
      subst e
      exact ⟨HB.out, .inr ⟨⟨hi8, HSM.out⟩, _, rfl, HO.out⟩⟩
end Go.Proofs.YtelohloaoocoaaaGreatDoor
/- world.New over a kernel and a family. -/
namespace Go.Proofs.YtelohloaoocoaaaGreatDoor
open Go.RowKit IntWalk
set_option linter.unusedVariables false
set_option linter.unusedSimpArgs false

set_option maxHeartbeats 1000000 in
set_option maxRecDepth 100000 in
theorem kstate_one {s l} (w : World) (h : KsIs s l w) (hs : s.t.stateOf 1 = 1) :
    Calls Tryz.prog 40 #[ptrOf (l.k .K), .int .i64 1] w fun e w' => e = .returned (.int .i64 1) ∧ Below w.heap.size w w' := by
  have k2 := h.k2
  have HT := Lib.hid (h.state 1)
  rw [hs] at HT
  unfold ptrOf at *
  clear h
  go_enter Tryz.func40, Tryz.ntmps40
  go_wp2_with (go_at_call 58; refine HT.out.mono ?_; rintro e w' ⟨rfl, hB⟩; have HB := Lib.hid hB; clear hB)
  go_ret
  exact ⟨rfl, HB.out⟩
/-- a map of one process, and what lies beside it -/
theorem three_made (w : World) (o : Obj) (kb : Value) : ∃ w2,
    { ((w.alloc (.map #[] 0)).alloc o) with heap := ((w.alloc (.map #[] 0)).alloc o).heap.setIfInBounds w.heap.size ((⟨[], 0⟩ : GMap).put (.int 1) (ptrOf (w.heap.size + 1))).obj } = w2 ∧
    Below w.heap.size w w2 ∧ w2.heap.size = w.heap.size + 2 ∧ w2.heap[w.heap.size]? = some ((⟨[(1, 0)], 1⟩ : PMap).gm fun _ => w.heap.size + 1).obj ∧ w2.heap[w.heap.size + 1]? = some o := by
  refine ⟨_, rfl, ⟨rfl, rfl, rfl, by simp; omega, fun k hk => ?_⟩, by simp, ?_, ?_⟩
  · show (Array.setIfInBounds _ _ _)[k]? = _
    rw [Array.getElem?_setIfInBounds, if_neg (by omega), Below.heap_alloc _ _ _ (by simp; omega), Below.heap_alloc _ _ _ hk]
  · show (Array.setIfInBounds _ _ _)[w.heap.size]? = _
    rw [Array.getElem?_setIfInBounds, if_pos rfl, if_pos (by simp; omega)]
    rfl
  · show (Array.setIfInBounds _ _ _)[w.heap.size + 1]? = _
    rw [Array.getElem?_setIfInBounds, if_neg (by omega)]
    have := heap_alloc_new (w.alloc (.map #[] 0)) o
    simpa using this
set_option maxHeartbeats 1000000 in
set_option maxRecDepth 100000 in
theorem worldnew_any {s l} (w : World) (h : KsIs s l w) (hs : s.t.stateOf 1 = 1) (fb : Nat) :
    Calls Tryz.prog 20 #[ptrOf (l.k .K), .iface 64 (ptrOf fb)] w fun e w' => ∃ wb mb qb, e = .returned (.tuple #[ptrOf wb, .int .i64 0]) ∧ Below w.heap.size w w' ∧
      w.heap.size ≤ wb ∧ w.heap.size ≤ mb ∧ w.heap.size ≤ qb ∧ wb ≠ mb ∧ wb ≠ qb ∧ mb ≠ qb ∧
      w'.heap[wb]? = some (.cells #[ptrOf (l.k .K), .map (some mb)] 74 (0, 0)) ∧
      w'.heap[mb]? = some ((⟨[(1, 0)], 1⟩ : PMap).gm fun _ => qb).obj ∧
      w'.heap[qb]? = some (.cells #[.iface 64 (ptrOf fb), .int .i64 0, .int .i64 0, .int .i64 0, .string ByteArray.empty, .slice none 0 0, .int .i64 0, .int .i64 0, .int .i64 0,
  .int .i64 0, .int .i64 0, .int .i64 0, .string ByteArray.empty, .string ByteArray.empty, .bool false] 82 (0, 0)) := by
  have H := Lib.hid h
  have HS := Lib.hid (fun w' (hb : Below w.heap.size w w') => kstate_one w' (h.below hb) hs)
  unfold ptrOf at *
  clear h
  have hmk := fun W => run_makeMap (P := Tryz.prog) 72 W
  go_enter Tryz.func20, Tryz.ntmps20
  go_wp2_with first
    | (go_at_call 40; refine (HS.out _ (Below.refl _ _)).mono ?_; rintro e w1 ⟨rfl, hB1⟩; have HB1 := Lib.hid hB1; clear hB1)
  have hst := fun (W : World) (b : Nat) (v : Value) (hb : W.heap[b]? = some (⟨[], 0⟩ : GMap).obj) => GMap.store (m := ⟨[], 0⟩) (P := Tryz.prog) (k := .int 1) (v := v) Tryz.underlying72 Tryz.underlying3 (fun e he => by cases he) hb
  simp only [Key.val] at hst
  rw [hst _ _ _ (by rw [Below.heap_alloc _ _ _ (by simp), heap_alloc_new]; rfl)]
  obtain ⟨w2, hw2, hB2, hz2, hm2, hq2⟩ := three_made w1 (.cells #[.iface 64 (.pointer (some ⟨fb, 0, none⟩)), .int .i64 0, .int .i64 0, .int .i64 0, .string ⟨#[]⟩, .slice none 0 0, .int .i64 0, .int .i64 0, .int .i64 0,
    .int .i64 0, .int .i64 0, .int .i64 0, .string ⟨#[]⟩, .string ⟨#[]⟩, .bool false] 82) (.int .i64 0)
  unfold ptrOf at hw2
  rw [hw2]
  have hz1 := HB1.out.size
  have HB2 := Lib.hid hB2
  have HM2 := Lib.hid hm2
  have HQ2 := Lib.hid hq2
  clear hw2 hst hmk hB2 hm2 hq2
  generalize hm : w1.heap.size = mb at *
  go_wp2_with fail
  go_ret2
  have hw3 : w.heap.size ≤ w2.heap.size := by omega
  refine ⟨mb + 2, mb, mb + 1, rfl, ?_, by omega, by omega, by omega, by omega, by omega, by omega, by rw [← hz2]; exact heap_alloc_new _ _, ?_, ?_⟩
  · exact (HB1.out.trans (HB2.out.mono hz1)).alloc hw3 _
  · rw [Below.heap_alloc _ _ _ (by omega)]; exact HM2.out
  · rw [Below.heap_alloc _ _ _ (by omega)]; exact HQ2.out
end Go.Proofs.YtelohloaoocoaaaGreatDoor
/- conchlaw23.begun: a world of a family. -/
namespace Go.Proofs.YtelohloaoocoaaaGreatDoor
open Go.RowKit IntWalk
set_option linter.unusedVariables false
set_option linter.unusedSimpArgs false

/-- how a family begins -/
def Fam.start (tl : List (List UInt8)) : Fam := ⟨0, 0, false, false, false, fun _ => .unborn, fun c => tl.getD c []⟩
/-- the texts' row -/
def rowOf (w : World) : Value → Option (Nat × Array Value)
  | .slice (some a) _ cap => match w.heap[a.block]? with
    | some (.cells cs _ _) => some (cap, cs)
    | _ => none
  | _ => none
def blkOf : Value → Nat
  | .slice (some a) _ _ => a.block
  | _ => 0
theorem sumN_lets (zs : Nat → Int) (n : Nat) (h : Small8 n zs) : sumN n (fun c => ((lets zs n).getD c []).length) ≤ 800 := by
  have := sumN_le (K := 100) (n := n) (g := fun c => ((lets zs n).getD c []).length) (fun a ha => by
    have := h.2 a ha
    simp [lets, ha, letT]; omega)
  have := h.1
  omega
/-- the world of a family that begins -/
def wx0 (kb : Nat) (ol : List (List UInt8)) (xc : Option (Nat × Array Value)) (pc : Int) : Wx := ⟨kb, ⟨[(1, 0)], 1⟩, fun _ => zeroQ ⟨ol, none, pc, 0, false, 0, 0⟩, ol, xc⟩
def lw0 (wb mb qb fb xb : Nat) : WId → Nat
  | .W => wb
  | .M => mb
  | .X => xb
  | .Q _ => qb
  | .F _ => fb
  | .A _ => 0
theorem Seen.start {W w : World} {s : Ks} {l : Ly} {b0 b1 b2 : Nat} {zs : Nat → Int} {n : Nat} {pc : Int} {v : Value} {wb mb qb fb : Nat} (hn : Small8 n zs) (hp0 : 1 ≤ pc) (hp1 : pc ≤ 100)
    (hK : WyBegun W w s l b0 b1 b2) (hO : OwnS w W.heap.size v (lets zs n)) (hno : ∀ b, v.ownBlock = some b → ¬ Owns (s.obj l) l.all b ∧ b ≠ b2)
    (hw : w.heap[wb]? = some (.cells #[ptrOf (l.k .K), .map (some mb)] 74 (0, 0)))
    (hm : w.heap[mb]? = some ((⟨[(1, 0)], 1⟩ : PMap).gm fun _ => qb).obj)
    (hq : w.heap[qb]? = some (.cells (qsV fb (zeroQ ⟨lets zs n, none, pc, 0, false, 0, 0⟩)) 82 (0, 0)))
    (hf : w.heap[fb]? = some (.cells (fpV v ⟨lets zs n, none, pc, 0, false, 0, 0⟩) 66 (0, 0)))
    (hd : [wb, mb, qb, fb].Nodup) (hb : ∀ b ∈ [wb, mb, qb, fb], W.heap.size ≤ b ∧ ¬ Owns (s.obj l) l.all b ∧ b ≠ b2 ∧ v.ownBlock ≠ some b) :
    ∃ p s l x lw, Seen W p (Fam.start p.tl) s l x lw w ∧ p.Ok ∧ p.tl = lets zs n ∧ p.pieces = pc ∧ lw .W = wb := by
  have hlen : (lets zs n).length = n := by simp [lets]
  obtain ⟨xc, xb, hov, hrow, hxc⟩ : ∃ (xc : Option (Nat × Array Value)) (xb : Nat), rowV xb (lets zs n).length xc = v ∧ RowOk (lets zs n) xc ∧ ∀ cap cs, xc = some (cap, cs) → w.heap[xb]? = some (.cells cs 9 (0, 0)) ∧ W.heap.size ≤ xb ∧ v.ownBlock = some xb := by
    obtain ⟨h1, h2⟩ := hO
    rcases h2 with ⟨rfl, hn⟩ | ⟨g, cap, cur, rfl, hbg, hg, hnc, hcm, hcs, htk⟩
    · refine ⟨none, 0, rfl, List.eq_nil_of_length_eq_zero hn, fun _ _ e => by cases e⟩
    · refine ⟨some (cap, cur), g, rfl, ⟨hnc, hcm, by simpa using hcs, by simp only [Nat.mul_one] at htk; exact htk⟩, fun cap' cs' e => ?_⟩
      cases e
      exact ⟨hg, hbg, rfl⟩
  let p : Par := ⟨lets zs n, pc, 1, b0, b1, b2, s.h.gs⟩
  let x := wx0 (l.k .K) (lets zs n) xc pc
  let lw := lw0 wb mb qb fb xb
  have hkey : ∀ i, i ∈ x.m.keys ↔ i = 1 := by intro i; simp [x, wx0, PMap.keys]
  have htv : x.tv lw 1 = v := hov
  have hob : ∀ i, x.obj lw i ≠ none → i = .W ∨ i = .M ∨ i = .Q 1 ∨ i = .F 1 ∨ (i = .X ∧ ∃ cap cs, xc = some (cap, cs)) := by
    intro i hi
    cases i with
    | W => exact .inl rfl
    | M => exact .inr (.inl rfl)
    | X =>
      refine .inr (.inr (.inr (.inr ⟨rfl, ?_⟩)))
      cases hx : xc with
      | none => exact absurd (by simp [Wx.obj, x, wx0, hx]) hi
      | some q => exact ⟨q.1, q.2, rfl⟩
    | Q k =>
      by_cases e : k = 1
      · subst e; exact .inr (.inr (.inl rfl))
      · exact absurd (by simp only [Wx.obj, hkey, if_neg e]) hi
    | F k =>
      by_cases e : k = 1
      · subst e; exact .inr (.inr (.inr (.inl rfl)))
      · exact absurd (by simp only [Wx.obj, hkey, if_neg e]) hi
    | A k => exact absurd (by simp [Wx.obj, x, wx0, zeroQ]) hi
  have hown : ∀ b, Owns (x.obj lw) lw b → b ∈ [wb, mb, qb, fb] ∨ (v.ownBlock = some b ∧ W.heap.size ≤ b) := by
    rintro b ⟨i, hi, rfl⟩
    rcases hob i hi with rfl | rfl | rfl | rfl | ⟨rfl, cap, cs, hx⟩
    · left; simp [lw, lw0]
    · left; simp [lw, lw0]
    · left; simp [lw, lw0]
    · left; simp [lw, lw0]
    · right; exact ⟨(hxc cap cs hx).2.2, (hxc cap cs hx).2.1⟩
  have hlies : Lies (x.obj lw) lw w := by
    refine ⟨fun i o ho => ?_, fun i j hi hj e => ?_⟩
    · rcases hob i (by rw [ho]; simp) with rfl | rfl | rfl | rfl | ⟨rfl, cap, cs, hx⟩
      · exact hw.trans ho
      · exact hm.trans ho
      · rw [Wx.obj_q ((hkey 1).2 rfl)] at ho; exact hq.trans ho
      · rw [Wx.obj_f ((hkey 1).2 rfl), htv] at ho; exact hf.trans ho
      · have : x.obj lw .X = some (.cells cs 9 (0, 0)) := by simp only [Wx.obj, x, wx0, hx]
        rw [this] at ho
        exact (hxc cap cs hx).1.trans ho
    · simp only [List.nodup_cons, List.mem_cons, List.not_mem_nil, or_false, not_or] at hd
      have hX : ∀ cap cs, xc = some (cap, cs) → xb ≠ wb ∧ xb ≠ mb ∧ xb ≠ qb ∧ xb ≠ fb := fun cap cs hx => by
        have := (hxc cap cs hx).2.2
        exact ⟨fun e => (hb wb (by simp)).2.2.2 (by rw [← e]; exact this), fun e => (hb mb (by simp)).2.2.2 (by rw [← e]; exact this), fun e => (hb qb (by simp)).2.2.2 (by rw [← e]; exact this), fun e => (hb fb (by simp)).2.2.2 (by rw [← e]; exact this)⟩
      rcases hob i hi with rfl | rfl | rfl | rfl | ⟨rfl, cap, cs, hx⟩ <;> rcases hob j hj with rfl | rfl | rfl | rfl | ⟨rfl, cap', cs', hx'⟩ <;> first
        | rfl
        | (exfalso
           simp only [lw, lw0] at e
           first
             | (have := hX _ _ hx; omega)
             | (have := hX _ _ hx'; omega)
             | omega)
  have hb2 := heap_lt hK.sink2
  refine ⟨p, s, l, x, lw, ⟨⟨hK.is.lies.both hlies fun b hb1 hb2 => ?_, hK.is.ok, ?_, rfl⟩, ?_, fun b hb => ?_, hK.old, hK.sink2, fun hb => ?_, hK.row⟩, ?_, rfl, rfl, rfl⟩
  · rcases hown b hb2 with q | q
    · exact (hb b q).2.1 hb1
    · exact (hno b q.1).1 hb1
  · refine ⟨one_ok, hrow, fun i hi => ⟨rfl, fun _ => rfl, fun q => absurd rfl q⟩⟩
  · have hT : takenN p.n (fun _ => Kid.unborn) = 0 := by
      unfold takenN
      rw [sumN_congr (g := fun _ => 0) (fun _ _ => by simp)]
      have := sumN_le (n := p.n) (K := 0) (g := fun _ => 0) (fun _ _ => Nat.le_refl _)
      omega
    have hTS : takenS p.n (fun _ => Kid.unborn) = 0 := by
      unfold takenS
      rw [sumN_congr (g := fun _ => 0) (fun _ _ => by simp)]
      have := sumN_le (n := p.n) (K := 0) (g := fun _ => 0) (fun _ _ => Nat.le_refl _)
      omega
    have hp : p.n = n := hlen
    have h8 := hn.1
    exact {
      F := hK.F p.n
      tn := Nat.zero_le _
      born := fun c => ⟨fun _ => Nat.zero_le _, fun _ => rfl⟩
      kn := hT.symm
      late := fun h => by
        rcases h with h | h | h
        · exact absurd rfl h
        · cases h
        · cases h
      stand := fun h => by cases h
      awake := fun _ => rfl
      done := fun h => by cases h
      xk := fun i => by
        rw [hkey]
        unfold alivePid
        constructor
        · exact fun h => .inl ⟨h, rfl⟩
        · rintro (⟨h, _⟩ | ⟨c, _, h⟩)
          · exact h
          · cases h
      ol := rfl
      par := fun _ => { re := rfl, rm0 := Int.le_refl _, rn := fun _ h => absurd h (by show ¬ 1 ≤ 0; omega), child := rfl, own := rfl, tl := rfl, pieces := rfl, step := rfl, s0 := Int.le_refl _,
                        sum := fun _ => by show (0 : Int) + 0 = ((takenS p.n (fun _ => Kid.unborn) : Nat) : Int); rw [hTS]; rfl, sumS := fun h => (by cases h), st := rfl, call := fun h => (by cases h) }
      kid := fun c h => by cases h
      unb := fun c _ hc => by
        show p.tl[c]? = some (p.tl.getD c [])
        rw [List.getD_eq_getElem?_getD]
        cases hx : p.tl[c]? with
        | none => rw [List.getElem?_eq_none_iff] at hx; exact absurd hc (Nat.not_lt.2 hx)
        | some t => rfl
      dead := fun c h => by rcases h with h | h <;> cases h
      out := fun b => by
        show s.h.out.count b + _ = _
        rw [hK.h0]; simp; rfl
      outl := by
        show s.h.out.length + _ ≤ 800
        rw [hK.h0]
        have := sumN_lets zs n hn
        rw [hp]
        simpa [Fam.start] using this
      gs := rfl }
  · rcases hb with ⟨i, hi, rfl⟩
    cases i with
    | inl i => exact hK.own _ ⟨i, hi, rfl⟩
    | inr i =>
      rcases hown _ ⟨i, hi, rfl⟩ with q | q
      · exact (hb _ q).1
      · exact q.2
  · rcases hb with ⟨i, hi, e⟩
    cases i with
    | inl i => exact hK.out2 ⟨i, hi, e⟩
    | inr i =>
      rcases hown _ ⟨i, hi, e⟩ with q | q
      · exact (hb _ q).2.2.1 rfl
      · exact (hno _ q.1).2 rfl
  · exact ⟨by show (lets zs n).length ≤ 8; rw [hlen]; exact hn.1, fun c t ht => by
      have hc : c < n := by rw [← hlen]; exact (List.getElem?_eq_some_iff.1 ht).1
      have := hn.2 c hc
      simp [p, lets, hc, letT] at ht
      rw [← ht]; simp; omega, hp0, hp1, (by show (1 : Int) ≤ 1; decide), (by show (1 : Int) ≤ 1000; decide)⟩
end Go.Proofs.YtelohloaoocoaaaGreatDoor
/- conchlaw23.awake, by the executor. -/
namespace Go.Proofs.YtelohloaoocoaaaGreatDoor
open Go.RowKit IntWalk
set_option linter.unusedVariables false
set_option linter.unusedSimpArgs false

theorem wy_awake_run : Zz.saysTrue ((Zz.exec Tryz.prog ⟨Zz.hookOf [(252, Zz.hCount), (228, Zz.hIndexByte)], Zz.noOra⟩ 400).call 7 [] Zz.st0) = true := by kernel_rfl
theorem awake_c (W : World) : Calls Tryz.prog 7 #[] W fun e w' => e = .returned (.bool true) ∧ Below W.heap.size W w' :=
  Zz.exec_top (ρ := wyRho) follows_mixed wy_opq W (wy_hk _ W _) 400 .nil wy_awake_run
end Go.Proofs.YtelohloaoocoaaaGreatDoor
/- conchlaw23.begun: a world of a family. -/
namespace Go.Proofs.YtelohloaoocoaaaGreatDoor
open Go.RowKit IntWalk
set_option linter.unusedVariables false
set_option linter.unusedSimpArgs false

set_option maxHeartbeats 1000000 in
set_option maxRecDepth 100000 in
theorem begun_any (W : World) (v : Value) (n : Nat) (zs : Nat → Int) (hN : Nums W v n zs) (pc : Int) (hpc0 : -9223372036854775808 ≤ pc) (hpc1 : pc ≤ 9223372036854775807) :
    Calls Tryz.prog 6 #[v, .int .i64 pc] W fun e w' => Below W.heap.size W w' ∧
      ((¬ (Small8 n zs ∧ 1 ≤ pc ∧ pc ≤ 100) ∧ e = .returned (.tuple #[.pointer none, .bool false])) ∨
       ((Small8 n zs ∧ 1 ≤ pc ∧ pc ≤ 100) ∧ ∃ p s l x lw, Seen W p (Fam.start p.tl) s l x lw w' ∧ p.Ok ∧ p.tl = lets zs n ∧ p.pieces = pc ∧ e = .returned (.tuple #[ptrOf (lw .W), .bool true]))) := by
  have HL := Lib.hid (letters_any W v n zs hN)
  have hWW := Lib.hid (Below.refl W.heap.size W)
  clear hN
  by_cases hs : Small8 n zs
  · by_cases hp : 1 ≤ pc ∧ pc ≤ 100
    · obtain ⟨hp0, hp1⟩ := hp
      have HSM := Lib.hid hs
      go_enter Tryz.func6, Tryz.ntmps6
      go_wp2_with (go_at_call 17; refine HL.out.mono ?_; rintro e w1 ⟨hB1, ⟨hno, rfl⟩ | ⟨_, v1, rfl, hO1⟩⟩; · exact absurd hs hno)
      clear HL
      have HB1 := Lib.hid hB1
      obtain ⟨ad, cap, hv1⟩ := hO1.len
      subst hv1
      have HO1 := Lib.hid hO1
      clear hB1 hO1 hs
      go_wp2_with (go_at_call 18; refine (newfs_c w1).mono ?_; rintro e w2 ⟨m, rfl, hS1, hm1⟩; have HS1 := Lib.hid hS1; have HM1 := Lib.hid hm1; clear hS1 hm1; unfold ptrOf)
      go_wp2_with (go_at_call 19; refine (newsys_c HS1.out HM1.out).mono ?_; rintro e w3 ⟨m', rfl, hS2⟩; have HS2 := Lib.hid hS2; clear hS2; unfold ptrOf)
      obtain ⟨s, l, b0, b1, b2, hbeg, hK⟩ := wy_begun HS2.out
      rw [← hK]
      have HBEG := Lib.hid (hbeg.lift HB1.out (below_alloc w3 (.cells #[.slice ad (lets zs n).length cap, .int .i64 pc, .int .i64 0, .bool false, .int .i64 0, .int .i64 0] 66)))
      have HOWN := Lib.hid hbeg.own
      have HN2 := Lib.hid hbeg.new2
      have HNW := Lib.hid (worldnew_any _ HBEG.out.is (by rw [Tab.stateOf, if_pos ((hbeg.F n).tk 1 |>.2 (.inl (.inl ⟨rfl, rfl⟩))), ((hbeg.F n).one rfl).2]; rfl) w3.heap.size)
      have HOLD := Lib.hid hbeg.old
      have HFB := Lib.hid (show ¬ Owns (s.obj l) l.all w3.heap.size ∧ w3.heap.size ≠ b2 from ⟨fun ho => by have := hbeg.is.lies.owns_lt ho; omega, fun e => by have := heap_lt hbeg.sink2; omega⟩)
      clear hbeg hK
      unfold ptrOf at HNW
      go_wp2_with (go_at_call 20; refine HNW.out.mono ?_; rintro e w5 ⟨wb, mb, qb, rfl, hB5, h1, h2, h3, h4, h5, h6, g1, g2, g3⟩; have HB5 := Lib.hid hB5; have HG1 := Lib.hid g1; have HG2 := Lib.hid g2; have HG3 := Lib.hid g3; clear hB5 g1 g2 g3)
      go_ret2
      have hsz0 := HB1.out.size
      have hsz1 := HOLD.out.size
      have hsz3 : (w3.alloc (.cells #[.slice ad (lets zs n).length cap, .int .i64 pc, .int .i64 0, .bool false, .int .i64 0, .int .i64 0] 66)).heap.size = w3.heap.size + 1 := by simp
      have hF3 : (w3.alloc (.cells #[.slice ad (lets zs n).length cap, .int .i64 pc, .int .i64 0, .bool false, .int .i64 0, .int .i64 0] 66)).heap[w3.heap.size]? = some (.cells #[.slice ad (lets zs n).length cap, .int .i64 pc, .int .i64 0, .bool false, .int .i64 0, .int .i64 0] 66) := heap_alloc_new _ _
      have hO3 : OwnS (w3.alloc (.cells #[.slice ad (lets zs n).length cap, .int .i64 pc, .int .i64 0, .bool false, .int .i64 0, .int .i64 0] 66)) W.heap.size (.slice ad (lets zs n).length cap) (lets zs n) := (HO1.out.below HOLD.out).alloc _
      generalize w3.alloc (.cells #[.slice ad (lets zs n).length cap, .int .i64 pc, .int .i64 0, .bool false, .int .i64 0, .int .i64 0] 66) = w4 at *
      have hbeg := HBEG.out.lift (Below.refl _ _) HB5.out
      have hO5 := hO3.below HB5.out
      have hF5 := (HB5.out.block _ (by omega)).trans hF3
      have hlt := fun b hb => OwnS.lt HO1.out b hb
      have hks : ∀ k, Owns (s.obj l) l.all k → k < w3.heap.size + 1 := fun k hk => by have := HBEG.out.is.lies.owns_lt hk; omega
      have hb2 := heap_lt HBEG.out.sink2
      have hfb : ¬ Owns (s.obj l) l.all w3.heap.size ∧ w3.heap.size ≠ b2 := ⟨HFB.out.1, HFB.out.2⟩
      obtain ⟨p, s', l', x, lw, hS, hok, e1, e2, e3⟩ := Seen.start (pc := pc) HSM.out hp0 hp1 hbeg hO5 (fun b hb => ⟨fun ho => by have := HOWN.out b ho; have := (hlt b hb).2; omega, fun e => by have := HN2.out; have := (hlt b hb).2; omega⟩) HG1.out HG2.out HG3.out hF5 (by simp; omega)
        (fun b hb => by
          simp only [List.mem_cons, List.not_mem_nil, or_false] at hb
          rcases hb with rfl | rfl | rfl | rfl
          · exact ⟨by omega, fun ho => by have := hks _ ho; omega, by omega, fun e => by have := (hlt _ e).2; omega⟩
          · exact ⟨by omega, fun ho => by have := hks _ ho; omega, by omega, fun e => by have := (hlt _ e).2; omega⟩
          · exact ⟨by omega, fun ho => by have := hks _ ho; omega, by omega, fun e => by have := (hlt _ e).2; omega⟩
          · exact ⟨by omega, hfb.1, hfb.2, fun e => by have := (hlt _ e).2; omega⟩)
      refine ⟨hbeg.old, Or.inr ⟨⟨HSM.out, hp0, hp1⟩, p, s', l', x, lw, hS, hok, e1, e2, ?_⟩⟩
      rw [e3]
      rfl
    · have hp2 : (decide (pc < 1) || decide (100 < pc)) = true := by
        simp; omega
      go_enter Tryz.func6, Tryz.ntmps6
      go_wp2_with (go_at_call 17; refine HL.out.mono ?_; rintro e w1 ⟨hB1, ⟨hno, rfl⟩ | ⟨_, v1, rfl, hO1⟩⟩; · exact absurd hs hno)
      all_goals go_ret2
      all_goals first
        | exact ⟨hB1, rfl⟩
        | exact ⟨hB1, .inl ⟨fun h => hp h.2, rfl⟩⟩
  · go_enter Tryz.func6, Tryz.ntmps6
    go_wp2_with (go_at_call 17; refine HL.out.mono ?_; rintro e w1 ⟨hB1, ⟨_, rfl⟩ | ⟨hno, v1, rfl, hO1⟩⟩; rotate_left; · exact absurd hno hs)
    all_goals go_ret2
    all_goals exact ⟨hB1, .inl ⟨fun h => hs h.1, rfl⟩⟩
end Go.Proofs.YtelohloaoocoaaaGreatDoor
/- world.Run over a family. -/
namespace Go.Proofs.YtelohloaoocoaaaGreatDoor
open Go.RowKit IntWalk
set_option linter.unusedVariables false
set_option linter.unusedSimpArgs false

section
variable {W w w' : World} {p : Par} {f f' : Fam} {s s' : Ks} {l l' : Ly} {x x' : Wx} {lw lw' : WId → Nat}
/-- what a step of the process i leaves, as the law sees it -/
def WentS (W : World) (p : Par) (f : Fam) (s : Ks) (l : Ly) (x : Wx) (lw : WId → Nat) (w : World) (i : Int) (e : Ending) (w' : World) : Prop :=
  ∃ (k fd : Int) (d : List UInt8) (er n m : Int), e = .returned (.tuple #[.agg (dnV i k fd d er n m), .bool true]) ∧
    ∃ (f' : Fam) (s' : Ks) (l' : Ly) (x' : Wx) (lw' : WId → Nat), Seen W p f' s' l' x' lw' w' ∧ AStep s l x lw w s' l' x' lw' w' ∧ f'.mu p.n < f.mu p.n ∧ (d.length ≤ 100 ∧ 0 ≤ fd ∧ fd ≤ 1000) ∧
      ∀ c, c < p.n → f.fut p c = (if i = pidC c then [dnV i k fd d er n m] else []) ++ f'.fut p c
theorem seen_some (hp : p.Ok) (hS : Seen W p f s l x lw w) (pick : Int) {j : Nat} {r0 i : Int} (hpk : PickAt pick s.t.ready.length j r0) (hj : s.t.ready[j]? = some i) :
    Calls Tryz.prog 11 #[ptrOf (lw .W), .int .i64 pick] w (WentS W p f s l x lw w i) := by
  refine (step_any hp hS.al hS.iv pick hpk hj).mono ?_
  rintro e w' ⟨k, fd, d, er, n, m, rfl, f', s', l', x', lw', hI, hA, hmu, hb, hf⟩
  exact ⟨k, fd, d, er, n, m, rfl, f', s', l', x', lw', hS.step hA hI, hA, hmu, hb, hf⟩
theorem seen_none (hp : p.Ok) (hS : Seen W p f s l x lw w) (pick : Int) (hr : s.t.ready = []) :
    Calls Tryz.prog 11 #[ptrOf (lw .W), .int .i64 pick] w fun e w' => e = .returned (.tuple #[.agg Z14, .bool false]) ∧ Seen W p f s l x lw w' ∧ AStep s l x lw w s l x lw w' := by
  refine (step_none pick w hS.al (hS.ready_of hp) hr).mono ?_
  rintro e w' ⟨rfl, hA⟩
  exact ⟨rfl, hS.step hA hS.iv, hA⟩
theorem ready_pick (hS : Seen W p f s l x lw w) (pick : Int) (hr : s.t.ready ≠ []) : ∃ j r0 i, PickAt pick s.t.ready.length j r0 ∧ s.t.ready[j]? = some i := by
  obtain ⟨j, r0, h⟩ := pick_at pick s.t.ready.length (List.length_pos_iff.2 hr)
  exact ⟨j, r0, s.t.ready[j]'h.lt, h, List.getElem?_eq_getElem h.lt⟩
theorem mod_of (k n : Nat) (hn : 0 < n) : ∃ j : Nat, (k : Int).tmod (n : Int) = (j : Int) ∧ j < n := ⟨k % n, by rw [Int.ofNat_tmod], Nat.mod_lt _ hn⟩
/-- a world has been run -/
def Ran (W : World) (p : Par) (s : Ks) (l : Ly) (x : Wx) (lw : WId → Nat) (w : World) (e : Ending) (w' : World) : Prop :=
  ∃ (k : Nat) (f' : Fam) (s' : Ks) (l' : Ly) (x' : Wx) (lw' : WId → Nat), e = .returned (.int .i64 k) ∧ k ≤ 900 ∧ Seen W p f' s' l' x' lw' w' ∧ AStep s l x lw w s' l' x' lw' w' ∧ s'.t.ready = []
set_option maxHeartbeats 1000000 in
set_option maxRecDepth 100000 in
theorem run_some (hp : p.Ok) (hS : Seen W p f s l x lw w) (v : Value) (n : Nat) (zs : Nat → Int) (hn : 0 < n) (hn2 : n ≤ 200) (hP : PicksAt (Owns (allC s l x lw) (allL l lw)) w v n zs) :
    Calls Tryz.prog 13 #[ptrOf (lw .W), .int .i64 5000, v] w (Ran W p s l x lw w) := by
  have hmu := hS.iv.mu_le hp
  obtain ⟨b, off, cap, rfl, hP⟩ := hP
  have HS := Lib.hid hS
  have HP := Lib.hid hP
  have hnb : ((n : Int) == 0) = false := by simp; omega
  clear hS hP
  go_enter Tryz.func13, Tryz.ntmps13
  unfold ptrOf
  go_wp2_with fail
  go_loopw [7] (fun nv V => ∃ (k : Nat) (f' : Fam) (s' : Ks) (l' : Ly) (x' : Wx) (lw' : WId → Nat), nv = .int .i64 k ∧ k + f'.mu p.n ≤ f.mu p.n ∧ Seen W p f' s' l' x' lw' V ∧ AStep s l x lw w s' l' x' lw' V ∧ PicksAt (Owns (allC s' l' x' lw') (allL l' lw')) V (.slice (some ⟨b, off, none⟩) n cap) n zs) (fun nv _ => 5000 - (intOf nv).toNat)
  case atStart => exact ⟨0, f, s, l, x, lw, rfl, by omega, HS.out, AStep.refl HS.out.al, ⟨b, off, cap, rfl, HP.out⟩⟩
  case round =>
    obtain ⟨k, f1, s1, l1, x1, lw1, rfl, hk, hS1, hA1, hP1⟩ := hrel
    have hk5 : k ≤ 900 := by omega
    have htop := hA1.topW
    have hP2 := hP1
    obtain ⟨_, _, _, hsl, hb, ho, hz⟩ := hP2
    cases hsl
    obtain ⟨j, hj, hjn⟩ := mod_of k n hn
    obtain ⟨hz1, hz2, hz3⟩ := hz j hjn
    generalize hzz : zs j = z at hz1 hz2 hz3
    by_cases hr : s1.t.ready = []
    · have HN := Lib.hid (seen_none hp hS1 z hr)
      rw [htop] at HN
      have HR := Lib.hid hr
      have HA1 := Lib.hid hA1
      unfold ptrOf at HN
      clear hr hS1 hA1 hP1 hz ho hzz
      go_wp2_with (go_at_call 11; refine HN.out.mono ?_; rintro e w2 ⟨rfl, hS2, hA2⟩; have HS2 := Lib.hid hS2; have HA2 := Lib.hid hA2; clear hS2 hA2; unfold Z14)
      go_ret
      exact ⟨k, f1, s1, l1, x1, lw1, rfl, hk5, HS2.out.below ((Below.refl _ _).alloc (Nat.le_refl _) _), (HA1.out.trans HA2.out).below ((Below.refl _ _).alloc (Nat.le_refl _) _), HR.out⟩
    · obtain ⟨j2, r0, i, hpk, hji⟩ := ready_pick hS1 z hr
      have HN := Lib.hid (seen_some hp hS1 z hpk hji)
      rw [htop] at HN
      have HP1 := Lib.hid hP1
      have HA1 := Lib.hid hA1
      unfold ptrOf at HN
      clear hr hS1 hA1 hP1 hz ho hzz hpk hji
      go_wp2_with (go_at_call 11; refine HN.out.mono ?_; rintro e w2 ⟨kk, fd, d, er, nn, mm, rfl, f2, s2, l2, x2, lw2, hS2, hA2, hm2, _, _⟩; have HS2 := Lib.hid hS2; have HA2 := Lib.hid hA2; clear hS2 hA2; unfold dnV)
      go_roundw
      case rel =>
        exact ⟨k + 1, f2, s2, l2, x2, lw2, by go_num, by omega, HS2.out.below (below_alloc _ _), (HA1.out.trans HA2.out).below (below_alloc _ _), HP1.out.step (HA2.out.below (below_alloc _ _))⟩
      case measure => simp [intOf]; omega
/-- without picks the first one is picked -/
theorem run_zero_prep (hS : Seen W p f s l x lw w) (o : Obj) (h0 : o = .cells #[.int .i64 0] 3 (0, 0)) : PicksAt (Owns (allC s l x lw) (allL l lw)) (w.alloc o) (.slice (some ⟨w.heap.size, 0, none⟩) 1 1) 1 (fun _ => 0) := by
  subst h0
  refine ⟨_, 0, 1, rfl, by simp, hS.al.fresh (Nat.le_refl _), fun j hj => ⟨?_, by show (-9223372036854775808 : Int) ≤ 0; decide, by show (0 : Int) ≤ 9223372036854775807; decide⟩⟩
  obtain rfl : j = 0 := by omega
  simp only [World.cell?, heap_alloc_new]
  rfl
set_option maxHeartbeats 1000000 in
set_option maxRecDepth 100000 in
theorem run_zero (hp : p.Ok) (hS : Seen W p f s l x lw w) (q : Option Addr) (c : Nat) :
    Calls Tryz.prog 13 #[ptrOf (lw .W), .int .i64 5000, .slice q 0 c] w (Ran W p s l x lw w) := by
  have hmu := hS.iv.mu_le hp
  have HP0 := Lib.hid (run_zero_prep hS _ rfl)
  have HS0 := Lib.hid (hS.below ((Below.refl _ _).alloc (Nat.le_refl _) (.cells #[.int .i64 0] 3 (0, 0))))
  have HA0 := Lib.hid ((AStep.refl hS.al).below ((Below.refl _ _).alloc (Nat.le_refl _) (.cells #[.int .i64 0] 3 (0, 0))))
  clear hS
  go_enter Tryz.func13, Tryz.ntmps13
  unfold ptrOf
  go_wp2_with fail
  generalize w.heap.size = b at *
  generalize w.alloc (.cells #[.int .i64 0] 3 (0, 0)) = w0 at *
  have hn : 0 < 1 := Nat.one_pos
  go_loopw [7] (fun nv V => ∃ (k : Nat) (f' : Fam) (s' : Ks) (l' : Ly) (x' : Wx) (lw' : WId → Nat), nv = .int .i64 k ∧ k + f'.mu p.n ≤ f.mu p.n ∧ Seen W p f' s' l' x' lw' V ∧ AStep s l x lw w s' l' x' lw' V ∧ PicksAt (Owns (allC s' l' x' lw') (allL l' lw')) V (.slice (some ⟨b, 0, none⟩) 1 1) 1 (fun _ => 0)) (fun nv _ => 5000 - (intOf nv).toNat)
  case atStart => exact ⟨0, f, s, l, x, lw, rfl, by omega, HS0.out, HA0.out, HP0.out⟩
  case round =>
    obtain ⟨k, f1, s1, l1, x1, lw1, rfl, hk, hS1, hA1, hP1⟩ := hrel
    have hk5 : k ≤ 900 := by omega
    have htop := hA1.topW
    have hP2 := hP1
    obtain ⟨_, _, _, hsl, hb, ho, hz⟩ := hP2
    cases hsl
    have hj : (k : Int).tmod 1 = 0 := Int.tmod_one _
    have hz1 : wr.cell? ⟨b, 0, none⟩ = some (.int .i64 0) := (hz 0 hn).1
    by_cases hr : s1.t.ready = []
    · have HN := Lib.hid (seen_none hp hS1 0 hr)
      rw [htop] at HN
      have HR := Lib.hid hr
      have HA1 := Lib.hid hA1
      unfold ptrOf at HN
      clear hr hS1 hA1 hP1 hz ho
      go_wp2_with (go_at_call 11; refine HN.out.mono ?_; rintro e w2 ⟨rfl, hS2, hA2⟩; have HS2 := Lib.hid hS2; have HA2 := Lib.hid hA2; clear hS2 hA2; unfold Z14)
      go_ret
      exact ⟨k, f1, s1, l1, x1, lw1, rfl, hk5, HS2.out.below ((Below.refl _ _).alloc (Nat.le_refl _) _), (HA1.out.trans HA2.out).below ((Below.refl _ _).alloc (Nat.le_refl _) _), HR.out⟩
    · obtain ⟨j2, r0, i, hpk, hji⟩ := ready_pick hS1 0 hr
      have HN := Lib.hid (seen_some hp hS1 0 hpk hji)
      rw [htop] at HN
      have HP1 := Lib.hid hP1
      have HA1 := Lib.hid hA1
      unfold ptrOf at HN
      clear hr hS1 hA1 hP1 hz ho hpk hji
      go_wp2_with (go_at_call 11; refine HN.out.mono ?_; rintro e w2 ⟨kk, fd, d, er, nn, mm, rfl, f2, s2, l2, x2, lw2, hS2, hA2, hm2, _, _⟩; have HS2 := Lib.hid hS2; have HA2 := Lib.hid hA2; clear hS2 hA2; unfold dnV)
      go_roundw
      case rel =>
        exact ⟨k + 1, f2, s2, l2, x2, lw2, by go_num, by omega, HS2.out.below (below_alloc _ _), (HA1.out.trans HA2.out).below (below_alloc _ _), HP1.out.step (HA2.out.below (below_alloc _ _))⟩
      case measure => simp [intOf]; omega
end
end Go.Proofs.YtelohloaoocoaaaGreatDoor
/- conchlaw23.WorldFamily: it returns true at every row of numbers, every number, every row of picks, in every world that holds them, and changes nothing that was there. No other condition. -/
namespace Go.Proofs.YtelohloaoocoaaaGreatDoor
open Go.RowKit IntWalk
set_option linter.unusedVariables false
set_option linter.unusedSimpArgs false

theorem Nums.below {W w : World} {v : Value} {n : Nat} {zs : Nat → Int} (h : Nums W v n zs) (hb : Below W.heap.size W w) : Nums w v n zs := by
  obtain ⟨q, c, rfl, b, off, hq, hz⟩ := h
  refine ⟨q, c, rfl, b, off, fun hn => ⟨(hq hn).1, Nat.lt_of_lt_of_le (hq hn).2 hb.size⟩, fun j hj => ?_⟩
  rw [World.cell?_of_block (hb.block b (hq (by omega)).2)]; exact hz j hj
theorem Nums.len {W : World} {v : Value} {n : Nat} {zs : Nat → Int} (h : Nums W v n zs) : ∃ q c, v = .slice q n c := by
  obtain ⟨q, c, rfl, _⟩ := h; exact ⟨q, c, rfl⟩
theorem run_any {W w : World} {p : Par} {f : Fam} {s : Ks} {l : Ly} {x : Wx} {lw : WId → Nat} (hp : p.Ok) (hS : Seen W p f s l x lw w) (v : Value) (n : Nat) (zs : Nat → Int) (hn2 : n ≤ 200) (hN : Nums W v n zs) :
    Calls Tryz.prog 13 #[ptrOf (lw .W), .int .i64 5000, v] w (Ran W p s l x lw w) := by
  by_cases h0 : 0 < n
  · exact run_some hp hS v n zs h0 hn2 (PicksAt.of_nums hN h0 hS)
  · obtain ⟨q, c, rfl⟩ := hN.len
    obtain rfl : n = 0 := by omega
    exact run_zero hp hS q c
/-- what has been written in the end -/
structure Done8 (zs : Nat → Int) (n : Nat) (out : List UInt8) : Prop where
  len : out.length ≤ 800
  byte : ∀ b ∈ out, ∃ c, c < n ∧ b = UInt8.ofNat (97 + c)
  count : ∀ j, j < 8 → (out.count (UInt8.ofNat (97 + j)) : Int) = if j < n then zs j else 0
theorem sumN_one {n j : Nat} {g : Nat → Nat} (h : ∀ a, a ≠ j → g a = 0) : sumN n g = if j < n then g j else 0 := by
  induction n with
  | zero => rfl
  | succ n ih =>
    rw [sumN, ih]
    by_cases q : j = n
    · subst q; simp
    · rw [h n (Ne.symm q)]
      by_cases r : j < n
      · rw [if_pos r, if_pos (by omega)]; rfl
      · rw [if_neg r, if_neg (by omega)]
theorem let_ne {a b : Nat} (ha : a < 8) (hb : b < 8) (h : UInt8.ofNat (97 + a) = UInt8.ofNat (97 + b)) : a = b := by
  have := congrArg UInt8.toNat h
  simp at this
  omega
theorem Seen.done8 {W w : World} {p : Par} {f : Fam} {s : Ks} {l : Ly} {x : Wx} {lw : WId → Nat} {zs : Nat → Int} {n : Nat} (hS : Seen W p f s l x lw w) (ht : p.tl = lets zs n) (hn : Small8 n zs) (hr : s.t.ready = []) : Done8 zs n s.h.out := by
  obtain ⟨hg, hk⟩ := hS.iv.rest hr
  have hlen : p.n = n := by rw [Par.n, ht]; simp [lets]
  have hall := sumN_full (n := p.n) (cs := f.cs) (by rw [hS.iv.kn] at hk; unfold takenN at hk; omega)
  have hrem : ∀ c, c < p.n → f.rem c = [] := fun c hc => hS.iv.dead c (.inr (hall c hc))
  have hout : ∀ b, s.h.out.count b = sumN n (fun c => (letT zs c).count b) := fun b => by
    have h1 := hS.iv.out b
    have h2 : sumN p.n (fun c => (f.rem c).count b) = 0 := by
      rw [sumN_congr (g := fun _ => 0) (fun a ha => by rw [hrem a ha]; rfl)]
      have := sumN_le (n := p.n) (K := 0) (g := fun _ => 0) (fun _ _ => Nat.le_refl _)
      omega
    rw [h2, Nat.add_zero] at h1
    rw [h1, hlen]
    refine sumN_congr fun a ha => ?_
    rw [ht]
    simp [lets, ha]
  have h8 := hn.1
  refine ⟨by have := hS.iv.outl; omega, fun b hb => ?_, fun j hj => ?_⟩
  · have h1 := List.count_pos_iff.2 hb
    rw [hout b] at h1
    apply Classical.byContradiction
    intro hno
    have : sumN n (fun c => (letT zs c).count b) = 0 := by
      rw [sumN_congr (g := fun _ => 0) (fun a ha => by
        unfold letT
        rw [List.count_replicate, if_neg]
        simp only [beq_iff_eq]
        exact fun e => hno ⟨a, ha, e.symm⟩)]
      have := sumN_le (n := n) (K := 0) (g := fun _ => 0) (fun _ _ => Nat.le_refl _)
      omega
    omega
  · rw [hout]
    rw [sumN_congr (g := fun c => if c = j then (zs j).toNat else 0) (fun a ha => by
      unfold letT
      rw [List.count_replicate]
      by_cases q : a = j
      · subst q; simp
      · rw [if_neg q, if_neg]
        simp only [beq_iff_eq]
        exact fun e => q (let_ne (by omega) hj e))]
    rw [sumN_one (j := j) (fun a q => if_neg q)]
    split
    · rename_i q
      rw [if_pos rfl]
      have := (hn.2 j q).1
      omega
    · rfl
/-- the sum of the statuses -/
def tri : Nat → Nat
  | 0 => 0
  | n + 1 => tri n + (n + 1)
theorem Seen.status {W w : World} {p : Par} {f : Fam} {s : Ks} {l : Ly} {x : Wx} {lw : WId → Nat} (hS : Seen W p f s l x lw w) (hr : s.t.ready = []) : s.k.status = (tri p.n : Int) ∧ s.k.ended = true ∧ s.x.many = 0 := by
  obtain ⟨hg, hk⟩ := hS.iv.rest hr
  obtain ⟨_, _, h3, h4, h5⟩ := hS.iv.done hg
  have hall := sumN_full (n := p.n) (cs := f.cs) (by rw [hS.iv.kn] at hk; unfold takenN at hk; omega)
  refine ⟨?_, h4, h5⟩
  rw [h3]
  congr 1
  unfold takenS
  rw [sumN_congr (g := fun c => c + 1) (fun a ha => if_pos (hall a ha))]
  generalize p.n = n
  induction n with
  | zero => rfl
  | succ n ih => rw [sumN, ih]; rfl
/-- one block is written, and nothing else is touched -/
structure Pens (w : World) (g : Nat) (W : World) : Prop where
  os : W.os = w.os
  tape : W.tape = w.tape
  output : W.output = w.output
  size : W.heap.size = w.heap.size
  block : ∀ b, b ≠ g → W.heap[b]? = w.heap[b]?
theorem Pens.refl (w : World) (g : Nat) : Pens w g w := ⟨rfl, rfl, rfl, rfl, fun _ _ => rfl⟩
theorem Pens.set {w W : World} {g : Nat} (h : Pens w g W) (k : Nat) (v : Value) : Pens w g (W.setCell ⟨g, k, none⟩ v) :=
  ⟨h.os, h.tape, h.output, by simpa [World.setCell] using h.size, fun b hb => by rw [Below.heap_setCell _ _ _ _ hb]; exact h.block b hb⟩
theorem Pens.below {w W : World} {g : Nat} (h : Pens w g W) {n : Nat} (hn : n ≤ g) : Below n w W := ⟨h.os, h.tape, h.output, Nat.le_of_eq h.size.symm, fun b hb => h.block b (by omega)⟩
/-- how often each letter is there -/
def cntV (l : List UInt8) : Array Value := ((List.range 8).map fun j => Value.int .i64 (l.count (UInt8.ofNat (97 + j)))).toArray
theorem cntV_at (l : List UInt8) {c : Nat} (hc : c < 8) : (cntV l)[c]? = some (.int .i64 (l.count (UInt8.ofNat (97 + c)))) := by
  simp [cntV, hc]
theorem cntV_step (l : List UInt8) {c : Nat} (hc : c < 8) : (cntV l).setIfInBounds c (.int .i64 ((l.count (UInt8.ofNat (97 + c)) : Int) + 1)) = cntV (l ++ [UInt8.ofNat (97 + c)]) := by
  apply Array.ext'
  apply List.ext_getElem?
  intro j
  rw [Array.toList_setIfInBounds, List.getElem?_set]
  unfold cntV
  simp only [List.getElem?_map, List.length_map, List.length_range, List.count_append, List.count_singleton]
  by_cases q : c = j
  · subst q; simp [hc]
  · rw [if_neg q]
    by_cases r : j < 8
    · simp only [List.getElem?_range r, Option.map_some]
      have : ¬ (UInt8.ofNat c = UInt8.ofNat j) := fun e => q (by have := congrArg UInt8.toNat e; simp at this; omega)
      simp [this]
    · simp [r]
theorem take_succ_of {l : List UInt8} {i : Nat} {b : UInt8} (h : l[i]? = some b) : l.take (i + 1) = l.take i ++ [b] := by rw [List.take_add_one, h]; rfl
theorem tri_le (n : Nat) (h : n ≤ 8) : tri n ≤ 100 := by
  have : ∀ n : Fin 9, tri n ≤ 100 := by decide
  exact this ⟨n, by omega⟩
theorem Seen.pens {W w w' : World} {p : Par} {f : Fam} {s : Ks} {l : Ly} {x : Wx} {lw : WId → Nat} {g : Nat} (hS : Seen W p f s l x lw w) (hP : Pens w g w') (hF : ¬ Owns (allC s l x lw) (allL l lw) g) (h2 : g ≠ p.b2) (hW : W.heap.size ≤ g) : Seen W p f s l x lw w' :=
  ⟨⟨hS.al.lies.kept fun i hi => hP.block _ (fun e => hF ⟨i, hi, e⟩), hS.al.ok, hS.al.xok, hS.al.kb⟩, hS.iv, hS.own, hS.old.trans (hP.below hW), (hP.block _ (Ne.symm h2)).trans hS.sink2, hS.out2, hS.row⟩
set_option maxHeartbeats 1000000 in
set_option maxRecDepth 100000 in
theorem family_any (W : World) (v1 : Value) (n : Nat) (zs : Nat → Int) (hN : Nums W v1 n zs) (pc : Int) (hpc : -9223372036854775808 ≤ pc ∧ pc ≤ 9223372036854775807) (v3 : Value) (n3 : Nat) (zs3 : Nat → Int) (hN3 : Nums W v3 n3 zs3) :
    Calls Tryz.prog 5 #[v1, .int .i64 pc, v3] W fun e w' => e = .returned (.bool true) ∧ Below W.heap.size W w' := by
  have HBG := Lib.hid (begun_any W v1 n zs hN pc hpc.1 hpc.2)
  have HN := Lib.hid hN
  have HN3 := Lib.hid hN3
  obtain ⟨q3, c3, rfl⟩ := hN3.len
  obtain ⟨q1, c1, rfl⟩ := hN.len
  clear hN hN3 hpc
  by_cases hgo : (Small8 n zs ∧ 1 ≤ pc ∧ pc ≤ 100) ∧ n3 ≤ 200
  · obtain ⟨hsm, hn200⟩ := hgo
    have hn3b : ((n3 : Int) > 200) = False := by simp; omega
    go_enter Tryz.func5, Tryz.ntmps5
    go_wp2_with (go_at_call 6; refine HBG.out.mono ?_; rintro e w1 ⟨hB1, ⟨hno, rfl⟩ | ⟨_, p, s, l, x, lw, hS, hok, htl, hpp, rfl⟩⟩; · exact absurd hsm hno)
    have HS := Lib.hid hS
    have HWK := Lib.hid (wkernel w1 hS.al)
    clear hS
    unfold ptrOf at *
    go_wp2_with (go_at_call 9; refine HWK.out.mono ?_; rintro e w2 ⟨rfl, hB2⟩; have HS2 := Lib.hid (HS.out.below hB2); have HRUN := Lib.hid (run_any hok HS2.out _ n3 zs3 hn200 HN3.out); clear hB2; unfold ptrOf at HRUN)
    go_wp2_with (go_at_call 13; refine HRUN.out.mono ?_; rintro e w3 ⟨k, f3, s3, l3, x3, lw3, rfl, hk9, hS3, hA3, hr3⟩; have HS3 := Lib.hid hS3; have hl3 := hA3.topK; have HR3 := Lib.hid hr3; clear hS3 hA3 hr3)
    have HOUT := Lib.hid (kout p.b2 w3 HS3.out.al.ks (by rw [HS3.out.iv.gs]; exact HS3.out.row) HS3.out.sink2)
    rw [hl3] at HOUT
    unfold ptrOf at HOUT
    have HD := HS3.out.done8 htl hsm.1 HR3.out
    generalize hout : s3.h.out = out at HOUT HD
    clear hout
    go_wp2_with (go_at_call 14; refine HOUT.out.mono ?_; rintro e w4 ⟨rfl, hB4⟩; have HS4 := Lib.hid (HS3.out.below hB4); clear hB4)
    have hc0 : (w4.alloc (.cells #[.int .i64 0, .int .i64 0, .int .i64 0, .int .i64 0, .int .i64 0, .int .i64 0, .int .i64 0, .int .i64 0] 51)).heap[w4.heap.size]? = some (.cells (cntV []) 51 (0, 0)) := heap_alloc_new _ _
    have HS5 := Lib.hid (HS4.out.below (below_alloc w4 (.cells #[.int .i64 0, .int .i64 0, .int .i64 0, .int .i64 0, .int .i64 0, .int .i64 0, .int .i64 0, .int .i64 0] 51)))
    have HFR := Lib.hid (HS4.out.al.fresh (Nat.le_refl w4.heap.size))
    have HG2 := Lib.hid (show w4.heap.size ≠ p.b2 from fun e => by have := heap_lt HS4.out.sink2; omega)
    have hW4 := HS4.out.old.size
    have hg5 : w4.heap.size < (w4.alloc (.cells #[.int .i64 0, .int .i64 0, .int .i64 0, .int .i64 0, .int .i64 0, .int .i64 0, .int .i64 0, .int .i64 0] 51)).heap.size := by simp
    generalize w4.alloc (.cells #[.int .i64 0, .int .i64 0, .int .i64 0, .int .i64 0, .int .i64 0, .int .i64 0, .int .i64 0, .int .i64 0] 51) = w5 at *
    generalize w4.heap.size = g at *
    have hsz : (⟨out.toArray⟩ : ByteArray).size = out.length := rfl
    have hol := HD.len
    go_loopw [15] (fun iv V => ∃ i : Nat, iv = .int .i64 i ∧ i ≤ out.length ∧ Pens w5 g V ∧ V.heap[g]? = some (.cells (cntV (out.take i)) 51 (0, 0))) (fun iv _ => out.length - (intOf iv).toNat)
    case atStart => exact ⟨0, rfl, Nat.zero_le _, Pens.refl _ _, by simpa using hc0⟩
    case round =>
      obtain ⟨i, rfl, hi, hP, hc⟩ := hrel
      clear hc0
      by_cases hlt : i < out.length
      · have hlt2 : (i : Int) < out.length := by omega
        obtain ⟨b, hb⟩ : ∃ b, out[i]? = some b := ⟨out[i], List.getElem?_eq_getElem hlt⟩
        obtain ⟨c, hcn, hbc⟩ := HD.byte b (List.mem_of_getElem? hb)
        have hc8 : c < 8 := by have := hsm.1.1; omega
        have hbt : ∀ h, ((⟨out.toArray⟩ : ByteArray)[i]'h).toNat = c + 97 := fun h => by
          have e : ((⟨out.toArray⟩ : ByteArray)[i]'h) = b := by
            have : out[i]'hlt = b := by rw [List.getElem?_eq_getElem hlt] at hb; exact Option.some.inj hb
            rw [← this]; rfl
          rw [e, hbc]; simp; omega
        have hcell : wr.cell? ⟨g, c, none⟩ = some (.int .i64 ((out.take i).count (UInt8.ofNat (97 + c)))) := by simp [World.cell?, hc, cntV_at _ hc8]
        have hfz : wr.frozen? ⟨g, c, none⟩ = false := by simp [World.frozen?, hc]
        have hcnt : (out.take i).count (UInt8.ofNat (97 + c)) ≤ i := Nat.le_trans List.count_le_length (by rw [List.length_take]; omega)
        have HP := Lib.hid hP
        have HC := Lib.hid hc
        have HB := Lib.hid hb
        have HBC := Lib.hid hbc
        clear hP hc hb hbc
        generalize hcv : (out.take i).count (UInt8.ofNat (97 + c)) = cv at *
        have HCV := Lib.hid hcv
        clear hcv
        go_wp2_with fail
        refine ⟨⟨i + 1, by go_num, by omega, HP.out.set _ _, ?_⟩, by simp [intOf]; omega⟩
        rw [take_succ_of HB.out, HBC.out, ← cntV_step _ hc8, HCV.out]
        exact inks_row HC.out
      · have hlt2 : (out.length : Int) ≤ i := by omega
        have e : out.take i = out := List.take_of_length_le (by omega)
        rw [e] at hc
        have HP := Lib.hid hP
        have HC := Lib.hid hc
        have HCL := Lib.hid (fun j (hj : j < 8) => show wr.cell? ⟨g, j, none⟩ = some (.int .i64 (if j < n then zs j else 0)) by rw [← HD.count j hj]; simp [World.cell?, hc, cntV_at _ hj])
        have HS6 := Lib.hid (HS5.out.pens hP HFR.out HG2.out hW4)
        have HNW := Lib.hid (HN.out.below HS6.out.old)
        clear hP hc e
        go_wp2_with fail
        go_loopw [13, 16] (fun sv iv V => ∃ i : Nat, iv = .int .i64 i ∧ sv = .int .i64 (tri (min i n)) ∧ i ≤ 8 ∧ V = wr) (fun _ iv _ => 8 - (intOf iv).toNat)
        case atStart => exact ⟨0, rfl, by simp [tri], Nat.zero_le _, rfl⟩
        case round =>
          obtain ⟨i2, rfl, rfl, hi2, rfl⟩ := hrel
          by_cases hlt8 : i2 < 8
          · have h8i : (i2 : Int) < 8 := by omega
            have hcell := HCL.out i2 hlt8
            have htri := tri_le (min i2 n) (by omega)
            by_cases hin : i2 < n
            · have hin2 : (i2 : Int) < n := by omega
              obtain ⟨q, c, hsl, b, off, hq, hz⟩ := HNW.out
              cases hsl
              obtain ⟨rfl, _⟩ := hq (by omega)
              obtain ⟨hzc, hz1, hz2⟩ := hz i2 hin
              rw [if_pos hin] at hcell
              generalize hzz : zs i2 = z at *
              have e1 : min i2 n = i2 := by omega
              have e2 : min (i2 + 1) n = i2 + 1 := by omega
              rw [e1] at htri ⊢
              generalize htt : tri i2 = tr at *
              have HTT := Lib.hid htt
              clear hz hzz htt
              go_wp2_with fail
              have e3 : ((tri (min (i2 + 1) n) : Nat) : Int) = (tr : Int) + i2 + 1 := by rw [e2, tri, HTT.out]; omega
              exact ⟨⟨i2 + 1, by go_num, by rw [e3], by omega, by first | rfl | trivial⟩, by simp [intOf]; omega⟩
            · have hin2 : (n : Int) ≤ i2 := by omega
              rw [if_neg hin] at hcell
              have e1 : min i2 n = min (i2 + 1) n := by omega
              generalize htt : tri (min i2 n) = tr at *
              have HTT := Lib.hid htt
              clear htt
              go_wp2_with fail
              exact ⟨⟨i2 + 1, by go_num, by rw [← e1, HTT.out], by omega, by first | rfl | trivial⟩, by simp [intOf]; omega⟩
          · have e8 : i2 = 8 := by omega
            subst e8
            have e8 : min 8 n = n := by have := hsm.1.1; omega
            rw [e8]
            have hst := HS6.out.status HR3.out
            have hlen : p.n = n := by rw [Par.n, htl]; simp [lets]
            rw [hlen] at hst
            obtain ⟨hs1, hs2, hs3⟩ := hst
            have HST := Lib.hid (kstatus wr HS6.out.al.ks)
            rw [hl3, hs1, hs2] at HST
            have htr := tri_le n (by have := hsm.1.1; omega)
            unfold ptrOf at HST
            generalize tri n = tr at *
            clear hs1 hs2
            have HS3 := Lib.hid hs3
            clear hs3
            go_wp2_with first
              | (go_at_call 15; refine HST.out.mono ?_; rintro e w7 ⟨rfl, hB7⟩; have HS7 := Lib.hid (HS6.out.below hB7); have HOP := Lib.hid (kopen w7 HS7.out.al.ks); clear hB7; rw [hl3, HS3.out] at HOP; unfold ptrOf at HOP)
              | (go_at_call 16; refine HOP.out.mono ?_; rintro e w8 ⟨rfl, hB8⟩; have HS8 := Lib.hid (HS7.out.below hB8); have HRD := Lib.hid (kready_any w8 HS8.out.al.ks (HS8.out.ready_of hok)); clear hB8; rw [hl3] at HRD; unfold ptrOf at HRD)
              | (go_at_call 10; refine HRD.out.mono ?_; rintro e w9 ⟨v9, rfl, hB9, _, hv9⟩; have hv9' := hv9 HR3.out; subst hv9'; have HS9 := Lib.hid (HS8.out.below hB9); clear hB9)
              | (go_at_call 7; refine (awake_c _).mono ?_; rintro e w10 ⟨rfl, hB10⟩)
            go_ret
            exact ⟨rfl, HS9.out.old.trans (hB10.mono HS9.out.old.size)⟩
  · by_cases hsm : Small8 n zs ∧ 1 ≤ pc ∧ pc ≤ 100
    · have hn3b : ¬ n3 ≤ 200 := fun h => hgo ⟨hsm, h⟩
      go_enter Tryz.func5, Tryz.ntmps5
      go_wp2_with first
        | (go_at_call 6; refine HBG.out.mono ?_; rintro e w1 ⟨hB1, hor⟩; obtain ⟨p, s, l, x, lw, hS, hok, htl, hpp, rfl⟩ := (hor.resolve_left (fun q => q.1 hsm)).2; unfold ptrOf)
        | (go_at_call 7; refine (awake_c _).mono ?_; rintro e w10 ⟨rfl, hB10⟩)
      all_goals go_ret
      all_goals exact ⟨rfl, hB1.trans (hB10.mono hB1.size)⟩
    · go_enter Tryz.func5, Tryz.ntmps5
      go_wp2_with first
        | (go_at_call 6; refine HBG.out.mono ?_; rintro e w1 ⟨hB1, ⟨_, rfl⟩ | ⟨hno, p, s, l, x, lw, hS, hok, htl, hpp, rfl⟩⟩; rotate_left; · exact absurd hno hsm)
        | (go_at_call 7; refine (awake_c _).mono ?_; rintro e w10 ⟨rfl, hB10⟩)
      all_goals go_ret
      all_goals exact ⟨rfl, hB1.trans (hB10.mono hB1.size)⟩
end Go.Proofs.YtelohloaoocoaaaGreatDoor
