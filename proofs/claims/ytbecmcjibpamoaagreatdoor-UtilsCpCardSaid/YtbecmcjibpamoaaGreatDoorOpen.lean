/- How the arguments of a law are opened: strings as lists of bytes, integers by their bounds. -/
import Derived.Test.YtbecmcjibpamoaaGreatDoorBase
import Derived.ProofKit
import Derived.OpenShut
import Derived.Deep.Strs
import Derived.Deep.Slices
import Derived.SliceStrings
namespace Go.Proofs.YtbecmcjibpamoaaGreatDoor
open Go.ChangeShapes Go.WideShapes Go.ChangeAt Go.RowKit

theorem str_list (s : ByteArray) (h : s.size ≤ maxLen) : ∃ l : List UInt8, s = ⟨l.toArray⟩ ∧ l.length ≤ maxLen :=
  ⟨s.data.toList, by rw [Array.toArray_toList], by rw [Array.length_toList]; exact h⟩
theorem wf_i64 {n : Int} (h : (Lit.int .i64 n).wf = true) : -9223372036854775808 ≤ n ∧ n ≤ 9223372036854775807 := by
  simpa [Lit.wf, IntKind.min, IntKind.max, IntKind.signed, IntKind.bits] using h
theorem wf_u8 {n : Int} (h : (Lit.int .u8 n).wf = true) : 0 ≤ n ∧ n ≤ 255 := by
  simpa [Lit.wf, IntKind.min, IntKind.max, IntKind.signed, IntKind.bits] using h
theorem cell_plain {w : World} {a : Addr} {v : Value} (h : w.cell? a = some v) : a = ⟨a.block, a.off, none⟩ := by
  cases a with
  | mk b o s =>
    cases s with
    | none => rfl
    | some x => simp [World.cell?] at h; split at h <;> simp_all
theorem add_mk (b o k : Nat) : (⟨b, o, none⟩ : Addr).add k = ⟨b, o + k, none⟩ := by unfold Addr.add; split <;> simp_all
theorem add_spot (a : Addr) (k : Nat) (h : (a.add k).spot = none) (hk : k = 0) : a.spot = none := by subst hk; simpa [Addr.add] using h

/-- an element of three fields: two integers and a string -/
structure OpR where
  ask : Int
  n : Int
  data : List UInt8
structure OpR.ok (o : OpR) : Prop where
  ask : -9223372036854775808 ≤ o.ask ∧ o.ask ≤ 9223372036854775807
  n : -9223372036854775808 ≤ o.n ∧ o.n ≤ 9223372036854775807
  data : o.data.length ≤ maxLen
/-- a slice of such elements -/
structure Ops (W : World) (v : Value) (L : List OpR) : Prop where
  len : L.length ≤ maxLen
  shape : ∃ a cap, v = .slice a L.length cap ∧ (0 < L.length → ∃ b off, a = some ⟨b, off, none⟩ ∧ b < W.heap.size ∧
    ∀ (i : Nat) (o : OpR), L[i]? = some o → W.cell? ⟨b, off + i * 3, none⟩ = some (.int .i64 o.ask) ∧ W.cell? ⟨b, off + i * 3 + 1, none⟩ = some (.int .i64 o.n) ∧ W.cell? ⟨b, off + i * 3 + 2, none⟩ = some (.string ⟨o.data.toArray⟩))
  ok : ∀ (i : Nat) (o : OpR), L[i]? = some o → o.ok

theorem open_ops {H : Type} {enc : TypeId × Value → H} {P : Program} {W : World} {base : Nat} {t e : TypeId} {f0 f1 f2 : Field} {v : Value} {d : DataW H} {ps : List MemPlace} {r : Reach}
    (ht : P.underlying t = some (.slice e)) (he : P.underlying e = some (.struct #[f0, f1, f2])) (hi0 : P.underlying f0.type = some (.int .i64)) (hi1 : P.underlying f1.type = some (.int .i64)) (hs2 : P.underlying f2.type = some .string)
    (ho0 : f0.offset = 0) (ho1 : f1.offset = 1) (ho2 : f2.offset = 2) (hc0 : P.cellsOf f0.type = 1) (hc1 : P.cellsOf f1.type = 1) (hc2 : P.cellsOf f2.type = 1) (hc : P.cellsOf e = 3)
    (hval : Value.okWide P W r base t v) (h : DataW.Trod enc P W 0 (fun _ => true) true t v d ps) : ∃ L, Ops W v L := by
  obtain ⟨a0, len, cap, rfl⟩ := okWide_slice ht hval
  obtain ⟨fuel, hf⟩ := h
  rcases Go.Deep.open_slice ht hf with ⟨hcs, _⟩ | ⟨a, l, c, m, k, D, Pl, hcs, _, hl, hm, hmm, _, hx⟩
  · simp [Value.cells] at hcs
    obtain ⟨rfl, rfl, rfl⟩ := hcs
    exact ⟨[], by simp, ⟨none, 0, rfl, fun h => by simp at h⟩, fun i o h => by simp at h⟩
  · simp [Value.cells] at hcs
    obtain ⟨rfl, rfl, rfl⟩ := hcs
    simp only [if_true] at hmm
    have each : ∀ i, i < len → ∃ o : OpR, o.ok ∧ W.cell? (a.add (i * 3)) = some (.int .i64 o.ask) ∧ W.cell? ((a.add (i * 3)).add 1) = some (.int .i64 o.n) ∧ W.cell? ((a.add (i * 3)).add 2) = some (.string ⟨o.data.toArray⟩) := by
      intro i hi
      obtain ⟨cs, h1, h2⟩ := hx i (by omega)
      rw [hc] at h1
      obtain ⟨_, hlen, hcell⟩ := World.cells?_some h1
      obtain ⟨y0, y1, y2, n, _, _, g0, g1, g2⟩ := Go.Deep.trod_struct3 he h2
      rw [ho0, hc0] at g0; rw [ho1, hc1] at g1; rw [ho2, hc2] at g2
      match cs, hlen with
      | [c0, c1, c2], _ =>
        obtain ⟨z0, e0, _, w0⟩ := DataW.trod_int hi0 g0
        obtain ⟨z1, e1, _, w1⟩ := DataW.trod_int hi1 g1
        obtain ⟨z2, e2, _, w2⟩ := DataW.trod_string hs2 g2
        simp at e0 e1 e2
        subst e0 e1 e2
        obtain ⟨l2, rfl, hl2⟩ := str_list z2 w2
        refine ⟨⟨z0, z1, l2⟩, ⟨wf_i64 w0, wf_i64 w1, hl2⟩, ?_, hcell 1 (by omega), hcell 2 (by omega)⟩
        have := hcell 0 (by omega)
        simpa [Addr.add] using this
    haveI : Inhabited OpR := ⟨⟨0, 0, []⟩⟩
    obtain ⟨f, hf⟩ := Go.Deep.choose_lt (α := OpR) (p := fun i o => o.ok ∧ W.cell? (a.add (i * 3)) = some (.int .i64 o.ask) ∧ W.cell? ((a.add (i * 3)).add 1) = some (.int .i64 o.n) ∧ W.cell? ((a.add (i * 3)).add 2) = some (.string ⟨o.data.toArray⟩)) each
    have hget : ∀ i o, ((List.range len).map f)[i]? = some o → i < len ∧ f i = o := by
      intro i o h
      rw [List.getElem?_map] at h
      rcases Nat.lt_or_ge i len with h' | h'
      · simp [h'] at h; exact ⟨h', h⟩
      · rw [List.getElem?_eq_none (by simpa using h')] at h; simp at h
    refine ⟨(List.range len).map f, by simp; omega, ⟨some a, cap, by simp, fun hpos => ?_⟩, fun i o h => ?_⟩
    · have hpos' : 0 < len := by simpa using hpos
      have h0 := (hf 0 hpos').2.1
      have ha : a = ⟨a.block, a.off, none⟩ := cell_plain (by simpa [Addr.add] using h0)
      refine ⟨a.block, a.off, by rw [← ha], World.block_lt_of_cell? W a (by simpa [Addr.add] using h0), fun i o h => ?_⟩
      obtain ⟨hi, rfl⟩ := hget i o h
      obtain ⟨_, h1, h2, h3⟩ := hf i hi
      rw [ha, add_mk] at h1 h2 h3
      rw [add_mk] at h2 h3
      exact ⟨h1, h2, h3⟩
    · obtain ⟨hi, rfl⟩ := hget i o h
      exact (hf i hi).1
theorem open_strs {H : Type} {enc : TypeId × Value → H} {P : Program} {W : World} {base : Nat} {t e : TypeId} {v : Value} {d : DataW H} {ps : List MemPlace} {r : Reach}
    (ht : P.underlying t = some (.slice e)) (he : P.underlying e = some .string) (hc : P.cellsOf e = 1)
    (hval : Value.okWide P W r base t v) (h : DataW.Trod enc P W 0 (fun _ => true) true t v d ps) : ∃ L, Strs W v L := by
  obtain ⟨a0, len, cap, rfl⟩ := okWide_slice ht hval
  obtain ⟨fuel, hf⟩ := h
  rcases open_strings ht he hc hf with ⟨hcs, _⟩ | ⟨a, l, c, ss, hcs, _, hl, hm, hss, _, hcell, hsz⟩
  · simp [Value.cells] at hcs
    obtain ⟨rfl, rfl, rfl⟩ := hcs
    exact ⟨[], by simp, ⟨none, 0, rfl, by simp, fun h => by simp at h⟩, fun i x h => by simp at h⟩
  · simp [Value.cells] at hcs
    obtain ⟨rfl, rfl, rfl⟩ := hcs
    simp only [if_true] at hss
    have hget : ∀ (i : Nat) (x : List UInt8), ((ss.take len).map fun s => s.data.toList)[i]? = some x → i < len ∧ ∃ s, ss[i]? = some s ∧ x = s.data.toList := by
      intro i x hx
      rw [List.getElem?_map] at hx
      rcases Nat.lt_or_ge i len with h' | h'
      · rw [List.getElem?_take_of_lt h'] at hx
        cases hs : ss[i]? with
        | none => rw [hs] at hx; cases hx
        | some s => rw [hs] at hx; cases hx; exact ⟨h', s, rfl, rfl⟩
      · rw [List.getElem?_eq_none (by simp; omega)] at hx; cases hx
    have hlen : ((ss.take len).map fun s => s.data.toList).length = len := by simp; omega
    refine ⟨(ss.take len).map fun s => s.data.toList, by rw [hlen]; omega, ⟨some a, cap, by rw [hlen], by rw [hlen]; exact hl, fun hp => ?_⟩, fun i x hx => ?_⟩
    · rw [hlen] at hp
      have h0 := hcell 0 (by omega)
      have ha : a = ⟨a.block, a.off, none⟩ := cell_plain (by simpa [Addr.add] using h0)
      refine ⟨a.block, a.off, by rw [← ha], World.block_lt_of_cell? W a (by simpa [Addr.add] using h0), fun i x hx => ?_⟩
      obtain ⟨hi, s, hs, rfl⟩ := hget i x hx
      have h1 := hcell i (by omega)
      rw [ha, add_mk] at h1
      rw [h1]
      have : ss.getD i ByteArray.empty = s := by simp [List.getD, hs]
      rw [this]
    · obtain ⟨hi, s, hs, rfl⟩ := hget i x hx
      have := hsz s (List.mem_of_getElem? hs)
      rw [Array.length_toList]; exact this
end Go.Proofs.YtbecmcjibpamoaaGreatDoor
