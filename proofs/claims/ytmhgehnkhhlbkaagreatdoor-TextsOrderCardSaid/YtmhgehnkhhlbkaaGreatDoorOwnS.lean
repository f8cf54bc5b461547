/- Slices of strings that a call makes itself and appends to. -/
import Derived.Test.YtmhgehnkhhlbkaaGreatDoorOwn
namespace Go.Proofs.YtmhgehnkhhlbkaaGreatDoor
open Go.RowKit

/-- v is a slice of the strings L, in a block of the call's own (from base on) -/
def OwnS (w : World) (base : Nat) (v : Value) (L : List (List UInt8)) : Prop := w.ownsRow base 9 1 v L.length (L.map fun x => Value.string ⟨x.toArray⟩)
theorem info_str : (Tryz.prog.info? 9).map (fun i => (i.zero, i.size, i.bytes)) = some (some (.string ByteArray.empty), 1, 16) := by kernel_rfl
theorem OwnS.nil (w : World) (base : Nat) : OwnS w base (.slice none 0 0) [] := World.ownsRow_nil w base _ _
theorem OwnS.drew {w : World} {base v L} (h : OwnS w base v L) : OwnS w.drew base v L := h
theorem OwnS.alloc {w : World} {base v L} (h : OwnS w base v L) (o : Obj) : OwnS (w.alloc o) base v L := World.ownsRow.alloc h o
theorem OwnS.below {w w' : World} {base v L} (h : OwnS w base v L) (hb : Below w.heap.size w w') : OwnS w' base v L :=
  World.ownsRow.kept h (w' := w') (row := none) ⟨hb.os, hb.tape, hb.output, hb.size, fun k hk _ => hb.block k hk⟩ (by cases v.ownBlock <;> simp)
theorem below_ownS {w w1 w2 : World} {v : Value} {L : List (List UInt8)} {base : Nat} (hb : Below base w w1) (hown : OwnS w1 base v L) (hg : w1.grownBy w2 v.ownBlock) (hs : base ≤ w1.heap.size) : Below base w w2 :=
  hb.grown hg hs (fun k e => (World.ownsRow.lt hown k e).1)
theorem OwnS.lt {w : World} {base v L} (h : OwnS w base v L) : ∀ k, v.ownBlock = some k → base ≤ k ∧ k < w.heap.size := World.ownsRow.lt h
/-- 'append(out, s)': one string, that the statement has just laid in a new block -/
theorem append_s {ops : Array Oper} {rest : List Oper} {o : Oper} {a : Act} {Q : Exit → Act → World → Prop} {w : World} (hgd : o.guard = none) (s x : Operand)
    (ho : o.op = .call { callee := .builtin .append, args := #[s, x], argTypes := #[27, 27] }) (base : Nat) (v : Value) (L : List (List UInt8)) (hs : a.eval s = v) (hown : OwnS w base v L)
    (b : List UInt8) (hx : a.eval x = .slice (some ⟨w.heap.size, 0, none⟩) 1 1)
    (hlen : L.length + 1 ≤ 1000000000000) (hbase : base ≤ w.heap.size)
    (h : ∀ v' w', OwnS w' base v' (L ++ [b]) → w.grownBy w' v.ownBlock → wpList Tryz.prog ops Q rest (a.put o.dst v') w') :
    wpList Tryz.prog ops Q (o :: rest) a (w.alloc (.cells #[.string ⟨b.toArray⟩] 9)) := by
  obtain ⟨i0, hi, hz0, hz1, hz2⟩ := info_parts info_str
  refine wpList_append_own _ hgd s x 27 ho base 9 i0 (.string ByteArray.empty) 1 16 (by kernel_rfl) hi hz0 hz1 hz2 rfl (by omega) v L.length _ hs (hown.alloc _) ⟨w.heap.size, 0, none⟩ 1 1 [.string ⟨b.toArray⟩] hx rfl ?_ ?_ (by simp only [maxLen]; omega) (by omega) (by simp; omega) ?_
  · intro j u hj
    match j, hj with
    | 0, hj => simp at hj; subst hj; simp [Addr.add]
  · intro u hu; simp at hu; subst hu; rfl
  · intro v' w' h1 h2 _
    refine h v' w' (by simpa [OwnS] using h1) ?_
    exact ⟨h2.os, h2.tape, h2.output, by have := h2.size; simp at this; omega, fun k hk hne => by
      rw [h2.block k (by simp; omega) hne, Below.heap_alloc _ _ _ hk]⟩
/-- what an owned slice of strings looks like -/
theorem OwnS.strs {w : World} {base v L} (h : OwnS w base v L) (h5 : ∀ x, x ∈ L → x.length ≤ maxLen) : Strs w v L := by
  obtain ⟨hxs, hr⟩ := h
  rcases hr with ⟨rfl, hn⟩ | ⟨g, cap, cur, rfl, hb, hg, hnc, hcm, hcs, htk⟩
  · have : L = [] := List.eq_nil_of_length_eq_zero hn
    subst this
    exact ⟨by simp, ⟨none, 0, rfl, by simp, fun h => by simp at h⟩, fun i x h => by simp at h⟩
  · refine ⟨by omega, ⟨some ⟨g, 0, none⟩, cap, rfl, hnc, fun _ => ⟨g, 0, rfl, ?_, fun j x hj => ?_⟩⟩, fun i x hx => h5 x (List.mem_of_getElem? hx)⟩
    · rcases Nat.lt_or_ge g w.heap.size with h' | h'
      · exact h'
      · rw [Array.getElem?_eq_none h'] at hg; cases hg
    · rw [Nat.zero_add]
      have hjl : j < L.length := (List.getElem?_eq_some_iff.1 hj).1
      have h1 : (cur.toList.take (L.length * 1))[j]? = some (.string ⟨x.toArray⟩) := by rw [htk, List.getElem?_map, hj]; rfl
      rw [List.getElem?_take_of_lt (by omega), Array.getElem?_toList] at h1
      simp [World.cell?, hg, h1]
theorem OwnS.len {w : World} {base v L} (h : OwnS w base v L) : ∃ a cap, v = .slice a L.length cap := by
  obtain ⟨hxs, hr⟩ := h
  rcases hr with ⟨rfl, hn⟩ | ⟨g, cap, cur, rfl, _⟩
  · exact ⟨none, 0, by rw [hn]⟩
  · exact ⟨_, cap, rfl⟩
end Go.Proofs.YtmhgehnkhhlbkaaGreatDoor
