/- Slices of bytes and of strings that a call makes itself and appends to. -/
import Derived.Test.YtggdedihfhibfaaGreatDoorBase
namespace Go.Proofs.YtggdedihfhibfaaGreatDoor
open Go.RowKit

/-- v is a slice of the bytes l, in a block of the call's own (from base on) -/
def OwnB (w : World) (base : Nat) (v : Value) (l : List UInt8) : Prop := w.ownsRow base 5 1 v l.length (l.map fun c => Value.int .u8 c.toNat)
theorem info_u8 : (Tryz.prog.info? 5).map (fun i => (i.zero, i.size, i.bytes)) = some (some (.int .u8 0), 1, 1) := by kernel_rfl
theorem OwnB.nil (w : World) (base : Nat) : OwnB w base (.slice none 0 0) [] := World.ownsRow_nil w base _ _
theorem OwnB.drew {w : World} {base v l} (h : OwnB w base v l) : OwnB w.drew base v l := h
theorem OwnB.alloc {w : World} {base v l} (h : OwnB w base v l) (o : Obj) : OwnB (w.alloc o) base v l := World.ownsRow.alloc h o
theorem OwnB.below {w w' : World} {base v l} (h : OwnB w base v l) (hb : Below w.heap.size w w') : OwnB w' base v l :=
  World.ownsRow.kept h (w' := w') (row := none) ⟨hb.os, hb.tape, hb.output, hb.size, fun k hk _ => hb.block k hk⟩ (by cases v.ownBlock <;> simp)
theorem below_own {w w1 w2 : World} {v : Value} {l : List UInt8} {base : Nat} (hb : Below base w w1) (hown : OwnB w1 base v l) (hg : w1.grownBy w2 v.ownBlock) (hs : base ≤ w1.heap.size) : Below base w w2 :=
  hb.grown hg hs (fun k e => (World.ownsRow.lt hown k e).1)
theorem append_bytes {ops : Array Oper} {rest : List Oper} {o : Oper} {a : Act} {Q : Exit → Act → World → Prop} {w : World} (hgd : o.guard = none) (s x : Operand)
    (ho : o.op = .call { callee := .builtin .append, args := #[s, x], argTypes := #[76, 76] }) (base : Nat) (v : Value) (l : List UInt8) (hs : a.eval s = v) (hown : OwnB w base v l)
    (g c : Nat) (m : List UInt8) (hx : a.eval x = .slice (some ⟨g, 0, none⟩) m.length c) (hm : ∀ (j : Nat) (b : UInt8), m[j]? = some b → w.cell? ⟨g, j, none⟩ = some (.int .u8 b.toNat))
    (hlen : l.length + m.length ≤ 100000000000) (hbase : base ≤ w.heap.size)
    (h : ∀ v' w', OwnB w' base v' (l ++ m) → w.grownBy w' v.ownBlock → wpList Tryz.prog ops Q rest (a.put o.dst v') w') : wpList Tryz.prog ops Q (o :: rest) a w := by
  obtain ⟨i0, hi, hz0, hz1, hz2⟩ := info_parts info_u8
  refine wpList_append_own w hgd s x 76 ho base 5 i0 (.int .u8 0) 1 1 (by kernel_rfl) hi hz0 hz1 hz2 rfl (by omega) v l.length _ hs hown ⟨g, 0, none⟩ m.length c (m.map fun c => Value.int .u8 c.toNat) hx (by simp) ?_ ?_ (by simp only [maxLen]; omega) (by omega) hbase ?_
  · intro j u hj
    rw [List.getElem?_map] at hj
    cases hb : m[j]? with
    | none => rw [hb] at hj; cases hj
    | some b =>
      rw [hb] at hj; cases hj
      have := hm j b hb
      unfold Addr.add; split <;> simp_all
  · intro u hu
    simp at hu
    obtain ⟨b, _, rfl⟩ := hu
    rfl
  · intro v' w' h1 h2 _
    exact h v' w' (by simpa [OwnB] using h1) h2
/-- 'append(out, b)': one byte, that the statement has just laid in a new block -/
theorem append_byte {ops : Array Oper} {rest : List Oper} {o : Oper} {a : Act} {Q : Exit → Act → World → Prop} {w : World} (hgd : o.guard = none) (s x : Operand)
    (ho : o.op = .call { callee := .builtin .append, args := #[s, x], argTypes := #[76, 76] }) (base : Nat) (v : Value) (l : List UInt8) (hs : a.eval s = v) (hown : OwnB w base v l)
    (b : UInt8) (z : Int) (hz : z = b.toNat) (hx : a.eval x = .slice (some ⟨w.heap.size, 0, none⟩) 1 1)
    (hlen : l.length + 1 ≤ 100000000000) (hbase : base ≤ w.heap.size)
    (h : ∀ v' w', OwnB w' base v' (l ++ [b]) → w.grownBy w' v.ownBlock → wpList Tryz.prog ops Q rest (a.put o.dst v') w') :
    wpList Tryz.prog ops Q (o :: rest) a (w.alloc (.cells #[.int .u8 z] 5)) := by
  subst hz
  refine append_bytes hgd s x ho base v l hs (hown.alloc _) w.heap.size 1 [b] hx ?_ hlen (by simp; omega) ?_
  · intro j b' hj
    cases j with
    | zero => cases hj; rw [World.cell?_alloc_new]; rfl
    | succ j => simp at hj
  · intro v' w' h1 h2
    refine h v' w' h1 ?_
    exact ⟨h2.os, h2.tape, h2.output, by have := h2.size; simp at this; omega, fun k hk hne => by
      rw [h2.block k (by simp; omega) hne, Below.heap_alloc _ _ _ hk]⟩
/-- 'append(out, b, c, d)': bytes that the statement has just laid in a new block -/
theorem append_lit {ops : Array Oper} {rest : List Oper} {o : Oper} {a : Act} {Q : Exit → Act → World → Prop} {w : World} (hgd : o.guard = none) (s x : Operand)
    (ho : o.op = .call { callee := .builtin .append, args := #[s, x], argTypes := #[76, 76] }) (base : Nat) (v : Value) (l : List UInt8) (hs : a.eval s = v) (hown : OwnB w base v l)
    (m : List UInt8) (cs : Array Value) (hcs : cs.toList = m.map fun c => Value.int .u8 c.toNat) (n : Nat) (hn : n = m.length) (hx : a.eval x = .slice (some ⟨w.heap.size, 0, none⟩) n n)
    (hlen : l.length + m.length ≤ 100000000000) (hbase : base ≤ w.heap.size)
    (h : ∀ v' w', OwnB w' base v' (l ++ m) → w.grownBy w' v.ownBlock → wpList Tryz.prog ops Q rest (a.put o.dst v') w') :
    wpList Tryz.prog ops Q (o :: rest) a (w.alloc (.cells cs 5)) := by
  subst hn
  refine append_bytes hgd s x ho base v l hs (hown.alloc _) w.heap.size m.length m hx ?_ hlen (by simp; omega) ?_
  · intro j b' hj
    have h1 : cs.toList[j]? = some (.int .u8 b'.toNat) := by rw [hcs, List.getElem?_map, hj]; rfl
    rw [Array.getElem?_toList] at h1
    rw [World.cell?_alloc_new]; exact h1
  · intro v' w' h1 h2
    refine h v' w' h1 ?_
    exact ⟨h2.os, h2.tape, h2.output, by have := h2.size; simp at this; omega, fun k hk hne => by
      rw [h2.block k (by simp; omega) hne, Below.heap_alloc _ _ _ hk]⟩
theorem OwnB.lit (w : World) (base : Nat) (hb : base ≤ w.heap.size) (l : List UInt8) (n : Nat) (hn : n = l.length) (hm : l.length ≤ 100000000000) (cs : Array Value) (hc : cs.toList = l.map fun c => Value.int .u8 c.toNat) :
    OwnB (w.alloc (.cells cs 5)) base (.slice (some ⟨w.heap.size, 0, none⟩) n n) l := by
  subst hn
  have := World.ownsRow_lit (base := base) (e := 5) (size := 1) w cs l.length hb (by simp only [maxLen]; omega) (by rw [← Array.length_toList, hc]; simp)
  rw [hc] at this
  exact this
theorem OwnB.conv {w : World} {base v l} (h : OwnB w base v l) : (convert 76 9 v).run Tryz.prog w = .ok (.string ⟨l.toArray⟩) w := by
  obtain ⟨hxs, hr⟩ := h
  rcases hr with ⟨rfl, hn⟩ | ⟨g, cap, cur, rfl, _, hg, hnc, _, _, htk⟩
  · have : l = [] := List.eq_nil_of_length_eq_zero hn
    subst this
    exact run_convert_bytes_nil w 76 5 (by kernel_rfl) (by kernel_rfl) 0 0 9 (by kernel_rfl)
  · refine run_convert_bytes_back w 76 9 5 ⟨g, 0, none⟩ cap l (by kernel_rfl) (by kernel_rfl) (by kernel_rfl) ?_
    intro j hj
    have e : (⟨g, 0, none⟩ : Addr).add j = ⟨g, j, none⟩ := by unfold Addr.add; split <;> simp_all
    rw [e]
    have h1 : (cur.toList.take (l.length * 1))[j]? = some (.int .u8 l[j].toNat) := by rw [htk]; simp [hj]
    rw [List.getElem?_take_of_lt (by omega), Array.getElem?_toList] at h1
    simp [World.cell?, hg, h1]
/-- what an owned slice that is not empty looks like -/
theorem OwnB.at {w : World} {base v l} (h : OwnB w base v l) (hl : l ≠ []) : ∃ g cap, v = .slice (some ⟨g, 0, none⟩) l.length cap ∧ base ≤ g ∧ g < w.heap.size ∧ (∀ (j : Nat) (b : UInt8), l[j]? = some b → w.cell? ⟨g, j, none⟩ = some (.int .u8 b.toNat)) ∧ ∀ j, w.frozen? ⟨g, j, none⟩ = false := by
  obtain ⟨hxs, hr⟩ := h
  rcases hr with ⟨rfl, hn⟩ | ⟨g, cap, cur, rfl, hb, hg, hnc, _, _, htk⟩
  · exact absurd (List.eq_nil_of_length_eq_zero hn) hl
  · refine ⟨g, cap, rfl, hb, ?_, fun j b hj => ?_, fun j => by simp [World.frozen?, hg]⟩
    · rcases Nat.lt_or_ge g w.heap.size with h' | h'
      · exact h'
      · rw [Array.getElem?_eq_none h'] at hg; cases hg
    · have hjl : j < l.length := (List.getElem?_eq_some_iff.1 hj).1
      have h1 : (cur.toList.take (l.length * 1))[j]? = some (.int .u8 b.toNat) := by rw [htk, List.getElem?_map, hj]; rfl
      rw [List.getElem?_take_of_lt (by omega), Array.getElem?_toList] at h1
      simp [World.cell?, hg, h1]
theorem OwnB.len {w : World} {base v l} (h : OwnB w base v l) : ∃ a cap, v = .slice a l.length cap := by
  obtain ⟨hxs, hr⟩ := h
  rcases hr with ⟨rfl, hn⟩ | ⟨g, cap, cur, rfl, _⟩
  · exact ⟨none, 0, by rw [hn]⟩
  · exact ⟨_, cap, rfl⟩
/-- owned while another row of the call's own is written -/
theorem OwnB.other {w w' : World} {base v l} (h : OwnB w base v l) {r : Option Nat} (hg : w.grownBy w' r) (hne : v.ownBlock = none ∨ v.ownBlock ≠ r) : OwnB w' base v l := World.ownsRow.kept h hg hne
theorem OwnB.lt {w : World} {base v l} (h : OwnB w base v l) : ∀ k, v.ownBlock = some k → base ≤ k ∧ k < w.heap.size := World.ownsRow.lt h
theorem OwnB.conv2 {w : World} {base v l} (h : OwnB w base v l) : (convert 76 9 v).run Tryz.prog w = .ok (.string ⟨l.toArray⟩) w := h.conv
end Go.Proofs.YtggdedihfhibfaaGreatDoor
