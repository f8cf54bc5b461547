/- The executor: from its states to a world's objects. -/
import Derived.Test.YtckmcajnhobkpaaGreatDoorExX
set_option linter.unusedVariables false
set_option linter.unusedSimpArgs false
set_option linter.deprecated false
namespace Go.Proofs.YtckmcajnhobkpaaGreatDoor.Zz
open Go Go.RowKit

/-- the block of the world in which an executor's block lies -/
def bm (m : BMap) (A : Nat) : Nat := match m A with
  | some p => p.1
  | none => 0
/-- a value, its places known -/
def conc (ρ : Nat → Value) (b : Nat → Nat) : AV → Value
  | .int k n => .int k n
  | .bool x => .bool x
  | .str s => .string ⟨s.toArray⟩
  | .ptr0 => .pointer none
  | .ptr A i => .pointer (some ⟨b A, i, none⟩)
  | .sl0 => .slice none 0 0
  | .sl A i len cap _ _ => .slice (some ⟨b A, i, none⟩) len cap
  | .map0 => .map none
  | .map A => .map (some (b A))
  | .ifc t (.ptr A i) => .iface t (.pointer (some ⟨b A, i, none⟩))
  | .ifc0 => .nilIface
  | .opq k => ρ k
  | _ => .nilFunc
/-- which values have such a one; E: the blocks that lie as they are -/
def plainA (E : Nat → Bool) : AV → Bool
  | .int _ _ | .bool _ | .str _ | .ptr0 | .sl0 | .map0 | .ifc0 | .opq _ => true
  | .ptr A _ => E A
  | .sl A _ _ cap _ ex => E A && ex && Nat.blt 0 cap
  | .map _ => true
  | .ifc _ (.ptr A _) => E A
  | _ => false
def exactB : Option ABlk → Bool
  | some (.cells _ _ _ 0 false) => true
  | _ => false
section
variable {P : Program} {ρ : Nat → Value} {w0 : World} {base : Nat} {m : BMap} {g : Nat → Option ABlk} {w : World}
theorem Rel.exact (h : Rel ρ w0 base m g w) {A : Nat} (hE : exactB (g A) = true) : ∃ z, m A = some (bm m A, 0, z) := by
  unfold exactB at hE
  split at hE
  · rename_i c n e hg
    obtain ⟨p, e1, _, arr, lo, hi, _, _, _, _, _, h6⟩ := h.blk A _ hg
    obtain ⟨b, d, z⟩ := p
    have := (h6 rfl rfl).2.1
    have hd : d = 0 := this
    subst hd
    refine ⟨z, ?_⟩
    unfold bm
    rw [e1]
  · cases hE
theorem conc_of (h : Rel ρ w0 base m g w) {a : AV} {v : Value} (hv : VR ρ m a v) (hp : plainA (fun A => exactB (g A)) a = true) : v = conc ρ (bm m) a := by
  cases hv with
  | ptr A i b d z hm =>
    obtain ⟨z', e⟩ := h.exact (A := A) hp
    rw [hm] at e; cases e
    simp [conc]
  | sl A i len cap sz ex b d z off cap' hm hc hex ho hz hl hd =>
    simp only [plainA, Bool.and_eq_true] at hp
    obtain ⟨z', e⟩ := h.exact (A := A) hp.1.1
    rw [hm] at e; cases e
    have h0 : 0 < cap := by simpa using hp.2
    rw [hex hp.1.2, ho h0]
    simp [conc]
  | map A b d z hm => simp [conc, bm, hm]
  | ifc t x v h' =>
    cases h' with
    | ptr A i b d z hm =>
      obtain ⟨z', e⟩ := h.exact (A := A) hp
      rw [hm] at e; cases e
      simp [conc]
    | _ => cases hp
  | fn f x y u v h1 h2 => cases hp
  | fn0 => cases hp
  | agg l u h => cases hp
  | tup l u h => cases hp
  | _ => rfl
/-- a block's cells -/
def rowA (st : ASt) (A : Nat) : Option (List AV × TypeId) := match st.heap.get A with
  | some (.cells c n e 0 false) => (getN c 0 n).bind fun l => bif l.all (plainA fun B => exactB (st.heap.get B)) then some (l, e) else none
  | _ => none
def mapA (st : ASt) (A : Nat) : Option (List (AV × AV × Nat) × Nat) := match st.heap.get A with
  | some (.map es clk) => bif es.all (fun e => plainA (fun B => exactB (st.heap.get B)) e.1 && plainA (fun B => exactB (st.heap.get B)) e.2.1) then some (es, clk) else none
  | _ => none
def liveA (st : ASt) (A : Nat) : Bool := match st.heap.get A with
  | some b => !isDead b
  | none => false
theorem rowA_at {st : ASt} (h : Rel ρ w0 base m st.heap.get w) {A : Nat} {l : List AV} {e : TypeId} (hA : rowA st A = some (l, e)) :
    w.heap[bm m A]? = some (.cells (l.map (conc ρ (bm m))).toArray e (0, 0)) ∧ base ≤ bm m A ∧ liveA st A = true := by
  unfold rowA at hA
  split at hA
  · rename_i c n e' hg
    cases hl : getN c 0 n with
    | none => rw [hl] at hA; cases hA
    | some l' =>
      rw [hl] at hA
      simp only [Option.bind_some] at hA
      cases hp : l'.all (plainA fun B => exactB (st.heap.get B)) with
      | false => rw [hp] at hA; cases hA
      | true =>
        rw [hp] at hA
        cases hA
        obtain ⟨⟨b, d, z⟩, e1, hb, arr, lo, hi, h1, h2, h3, h4, _, h6⟩ := h.blk A _ hg
        obtain ⟨⟨rfl, rfl⟩, hd, hz⟩ := h6 rfl rfl
        simp only at hd hz h1 h2 hb
        subst hd hz
        obtain ⟨g1, g2⟩ := getN_get hl
        have hbm : bm m A = b := by unfold bm; rw [e1]
        refine ⟨?_, by rw [hbm]; exact hb, by unfold liveA; rw [hg]; rfl⟩
        rw [hbm, h1]
        congr 2
        apply Array.ext'
        apply List.ext_getElem?
        intro j
        rw [Array.getElem?_toList, List.getElem?_map]
        cases hj : l[j]? with
        | none =>
          rw [List.getElem?_eq_none_iff] at hj
          simp only [Option.map_none]
          rw [Array.getElem?_eq_none_iff]; omega
        | some a =>
          have := g2 j a hj
          obtain ⟨_, _, v, q3, q4⟩ := h4 (0 + j) a this
          simp only [Nat.zero_add] at q3
          rw [q3]
          have hpa := List.all_eq_true.1 hp a (List.mem_of_getElem? hj)
          rw [conc_of h q4 hpa]; rfl
  · cases hA
theorem mapA_at {st : ASt} (h : Rel ρ w0 base m st.heap.get w) {A : Nat} {l : List (AV × AV × Nat)} {clk : Nat} (hA : mapA st A = some (l, clk)) :
    w.heap[bm m A]? = some (.map (l.map fun e => { key := conc ρ (bm m) e.1, val := conc ρ (bm m) e.2.1, born := e.2.2 }).toArray clk) ∧ base ≤ bm m A ∧ liveA st A = true := by
  unfold mapA at hA
  split at hA
  · rename_i es clk' hg
    cases hp : es.all (fun e => plainA (fun B => exactB (st.heap.get B)) e.1 && plainA (fun B => exactB (st.heap.get B)) e.2.1) with
    | false => rw [hp] at hA; cases hA
    | true =>
      rw [hp] at hA
      cases hA
      obtain ⟨⟨b, d, z⟩, e1, hb, es', h1, h2, h3⟩ := h.blk A _ hg
      have hbm : bm m A = b := by unfold bm; rw [e1]
      refine ⟨?_, by rw [hbm]; exact hb, by unfold liveA; rw [hg]; rfl⟩
      simp only at h1
      rw [hbm, h1]
      congr 2
      apply Array.ext'
      apply List.ext_getElem?
      intro j
      rw [Array.getElem?_toList, List.getElem?_map]
      cases hj : l[j]? with
      | none =>
        rw [List.getElem?_eq_none_iff] at hj
        simp only [Option.map_none]
        rw [Array.getElem?_eq_none_iff]; omega
      | some a =>
        obtain ⟨en, q1, q2, q3, q4⟩ := h3 j a.1 a.2.1 a.2.2 hj
        rw [q1]
        have hpa := List.all_eq_true.1 hp a (List.mem_of_getElem? hj)
        simp only [Bool.and_eq_true] at hpa
        have e1 := conc_of h q3 hpa.1
        have e2 := conc_of h q4 hpa.2
        show some en = some { key := conc ρ (bm m) a.1, val := conc ρ (bm m) a.2.1, born := a.2.2 }
        rw [← e1, ← e2, ← q2]
  · cases hA
theorem bm_inj {st : ASt} (h : Rel ρ w0 base m st.heap.get w) {A B : Nat} (hA : liveA st A = true) (hB : liveA st B = true) (he : bm m A = bm m B) : A = B := by
  unfold liveA at hA hB
  cases ha : st.heap.get A with
  | none => rw [ha] at hA; cases hA
  | some a =>
    cases hb : st.heap.get B with
    | none => rw [hb] at hB; cases hB
    | some b =>
      rw [ha] at hA
      rw [hb] at hB
      obtain ⟨p, p1, _, _⟩ := h.blk A a ha
      obtain ⟨q, q1, _, _⟩ := h.blk B b hb
      refine Classical.byContradiction fun hne => ?_
      refine h.sep A B a b p q ha hb (by simpa using hA) (by simpa using hB) hne p1 q1 ?_
      unfold bm at he
      rw [p1, q1] at he
      exact he
/-- one call behind others: the blocks go on -/
structure Stands (ρ : Nat → Value) (w0 : World) (base : Nat) (st : ASt) (m : BMap) (w : World) : Prop where
  rel : Rel ρ w0 base m st.heap.get w
  new : ∀ A, st.next ≤ A → m A = none
end
end Go.Proofs.YtckmcajnhobkpaaGreatDoor.Zz
