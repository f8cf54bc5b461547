/- The executor: how its states lie in a world. -/
import Derived.Test.YtckmcajnhobkpaaGreatDoorExF
import Derived.Test.YtckmcajnhobkpaaGreatDoorExAbs
import Derived.Below
import Derived.WalkKit
set_option linter.unusedVariables false
set_option linter.unusedSimpArgs false
set_option linter.deprecated false
namespace Go.Proofs.YtckmcajnhobkpaaGreatDoor.Zz
open Go Go.RowKit

abbrev BMap := Nat → Option (Nat × Nat × Nat)
mutual
inductive VR (ρ : Nat → Value) (m : BMap) : AV → Value → Prop where
  | int (k : IntKind) (n : Int) : VR ρ m (.int k n) (.int k n)
  | bool (b : Bool) : VR ρ m (.bool b) (.bool b)
  | str (s : List UInt8) : VR ρ m (.str s) (.string ⟨s.toArray⟩)
  | ptr0 : VR ρ m .ptr0 (.pointer none)
  | ptr (A i b d z : Nat) (h : m A = some (b, d, z)) : VR ρ m (.ptr A i) (.pointer (some ⟨b, d + i, none⟩))
  | sl0 : VR ρ m .sl0 (.slice none 0 0)
  | sl (A i len cap sz : Nat) (ex : Bool) (b d z off cap' : Nat) (h : m A = some (b, d, z)) (hc : cap ≤ cap') (hex : ex = true → cap' = cap) (ho : 0 < cap → off = d + i) (hz : off + cap' * sz ≤ z) (hl : len ≤ cap) (hd : d ≤ off) :
      VR ρ m (.sl A i len cap sz ex) (.slice (some ⟨b, off, none⟩) len cap')
  | map0 : VR ρ m .map0 (.map none)
  | map (A b d z : Nat) (h : m A = some (b, d, z)) : VR ρ m (.map A) (.map (some b))
  | fn (f : Fn) (x y : List AV) (u v : Array Value) (h1 : LR ρ m x u.toList) (h2 : LR ρ m y v.toList) : VR ρ m (.fn f x y) (.func f u v)
  | fn0 : VR ρ m .fn0 .nilFunc
  | ifc (t : TypeId) (x : AV) (v : Value) (h : VR ρ m x v) : VR ρ m (.ifc t x) (.iface t v)
  | ifc0 : VR ρ m .ifc0 .nilIface
  | agg (l : List AV) (u : Array Value) (h : LR ρ m l u.toList) : VR ρ m (.agg l) (.agg u)
  | tup (l : List AV) (u : Array Value) (h : LR ρ m l u.toList) : VR ρ m (.tup l) (.tuple u)
  | opq (k : Nat) : VR ρ m (.opq k) (ρ k)
inductive LR (ρ : Nat → Value) (m : BMap) : List AV → List Value → Prop where
  | nil : LR ρ m [] []
  | cons (a : AV) (v : Value) (l : List AV) (r : List Value) (h : VR ρ m a v) (hr : LR ρ m l r) : LR ρ m (a :: l) (v :: r)
end
/-- an opaque value is one cell's value -/
def Opq (ρ : Nat → Value) : Prop := ∀ k, (∀ cs, ρ k ≠ .agg cs) ∧ ∀ cs, ρ k ≠ .tuple cs
def Ext (m m' : BMap) : Prop := ∀ A p, m A = some p → m' A = some p
theorem Ext.refl (m : BMap) : Ext m m := fun _ _ h => h
theorem Ext.trans {a b c : BMap} (h : Ext a b) (k : Ext b c) : Ext a c := fun A p e => k A p (h A p e)
mutual
theorem VR.ext {ρ : Nat → Value} {m m' : BMap} (he : Ext m m') : ∀ {a : AV} {v : Value}, VR ρ m a v → VR ρ m' a v
  | _, _, .int k n => .int k n
  | _, _, .bool b => .bool b
  | _, _, .str s => .str s
  | _, _, .ptr0 => .ptr0
  | _, _, .ptr A i b d z h => .ptr A i b d z (he _ _ h)
  | _, _, .sl0 => .sl0
  | _, _, .sl A i len cap sz ex b d z off cap' h hc hex ho hz hl hd => .sl A i len cap sz ex b d z off cap' (he _ _ h) hc hex ho hz hl hd
  | _, _, .map0 => .map0
  | _, _, .map A b d z h => .map A b d z (he _ _ h)
  | _, _, .fn f x y u v h1 h2 => .fn f x y u v (LR.ext he h1) (LR.ext he h2)
  | _, _, .fn0 => .fn0
  | _, _, .ifc t x v h => .ifc t x v (VR.ext he h)
  | _, _, .ifc0 => .ifc0
  | _, _, .agg l u h => .agg l u (LR.ext he h)
  | _, _, .tup l u h => .tup l u (LR.ext he h)
  | _, _, .opq k => .opq k
theorem LR.ext {ρ : Nat → Value} {m m' : BMap} (he : Ext m m') : ∀ {l : List AV} {r : List Value}, LR ρ m l r → LR ρ m' l r
  | _, _, .nil => .nil
  | _, _, .cons a v l r h hr => .cons a v l r (VR.ext he h) (LR.ext he hr)
end
section lists
variable {ρ : Nat → Value} {m : BMap}
theorem LR.length {l : List AV} {r : List Value} (h : LR ρ m l r) : l.length = r.length := by
  induction l generalizing r with
  | nil => cases h; rfl
  | cons a l ih => cases h with | cons _ v _ r _ hr => simp [ih hr]
theorem LR.get {l : List AV} {r : List Value} (h : LR ρ m l r) {i : Nat} {a : AV} (hi : l[i]? = some a) : ∃ v, r[i]? = some v ∧ VR ρ m a v := by
  induction l generalizing r i with
  | nil => cases hi
  | cons b l ih =>
    cases h with
    | cons _ v _ r hv hr =>
      cases i with
      | zero => cases hi; exact ⟨v, rfl, hv⟩
      | succ i => simpa using ih hr (by simpa using hi)
theorem LR.of_get {l : List AV} {r : List Value} (hl : l.length = r.length) (h : ∀ (i : Nat) (a : AV) (v : Value), l[i]? = some a → r[i]? = some v → VR ρ m a v) : LR ρ m l r := by
  induction l generalizing r with
  | nil => cases r with | nil => exact .nil | cons _ _ => cases hl
  | cons a l ih =>
    cases r with
    | nil => cases hl
    | cons v r => exact .cons _ _ _ _ (h 0 a v rfl rfl) (ih (by simpa using hl) fun i b u hb hu => h (i + 1) b u (by simpa using hb) (by simpa using hu))
theorem LR.append {l l' : List AV} {r r' : List Value} (h : LR ρ m l r) (h' : LR ρ m l' r') : LR ρ m (l ++ l') (r ++ r') := by
  induction l generalizing r with
  | nil => cases h; exact h'
  | cons a l ih => cases h with | cons _ v _ r hv hr => exact .cons _ _ _ _ hv (ih hr)
theorem LR.drop {l : List AV} {r : List Value} (h : LR ρ m l r) (n : Nat) : LR ρ m (l.drop n) (r.drop n) := by
  induction n generalizing l r with
  | zero => simpa using h
  | succ n ih =>
    cases h with
    | nil => simpa using LR.nil
    | cons a v l r hv hr => simpa using ih hr
theorem LR.take {l : List AV} {r : List Value} (h : LR ρ m l r) (n : Nat) : LR ρ m (l.take n) (r.take n) := by
  induction n generalizing l r with
  | zero => simpa using LR.nil
  | succ n ih =>
    cases h with
    | nil => simpa using LR.nil
    | cons a v l r hv hr => simpa using LR.cons _ _ _ _ hv (ih hr)
theorem VR.cells {a : AV} {v : Value} (hq : Opq ρ) (h : VR ρ m a v) : LR ρ m (cellsA a) v.cells.toList := by
  cases h <;> first
    | (unfold cellsA Value.cells; assumption)
    | (refine LR.cons _ _ _ _ ?_ .nil; constructor <;> assumption)
    | skip
  case opq k =>
    have h1 := (hq k).1
    have : (ρ k).cells = #[ρ k] := by
      cases e : ρ k <;> first | rfl | exact absurd e (h1 _)
    rw [this]
    exact .cons _ _ _ _ (.opq k) .nil
theorem VR.one {a : AV} {v : Value} (hq : Opq ρ) (h : VR ρ m a v) (h1 : oneA a = true) : (∀ cs, v ≠ .agg cs) ∧ ∀ cs, v ≠ .tuple cs := by
  cases h <;> first
    | (refine ⟨?_, ?_⟩ <;> intro cs hh <;> cases hh; done)
    | (cases h1; done)
    | exact hq _
end lists

/-- which map an iterator is over -/
def onMap (m : BMap) : Option Nat → Option Nat → Prop
  | none, r => r = none
  | some A, r => ∃ q, m A = some q ∧ r = some q.1
theorem onMap.ext {m m' : BMap} {a r : Option Nat} (h : onMap m a r) (he : Ext m m') : onMap m' a r := by
  cases a with
  | none => exact h
  | some A => obtain ⟨q, h1, h2⟩ := h; exact ⟨q, he _ _ h1, h2⟩
/-- how a block lies in a world -/
def BR (ρ : Nat → Value) (m : BMap) (w : World) : ABlk → Nat × Nat × Nat → Prop
  | .cells c n e frz odd, p => ∃ arr lo hi, w.heap[p.1]? = some (.cells arr e (lo, hi)) ∧ arr.size = p.2.2 ∧ p.2.1 + n ≤ p.2.2 ∧
      (∀ i a, c.get i = some a → i < n ∧ oneA a = true ∧ ∃ v, arr[p.2.1 + i]? = some v ∧ VR ρ m a v) ∧
      (∀ j, p.2.1 + frz ≤ j → j < p.2.2 → ¬ (lo ≤ j ∧ j < hi)) ∧ (odd = false → frz = 0 → (lo = 0 ∧ hi = 0) ∧ p.2.1 = 0 ∧ p.2.2 = n)
  | .map es clk, p => ∃ es' : Array MapEntry, w.heap[p.1]? = some (.map es' clk) ∧ es.length = es'.size ∧ ∀ (i : Nat) (k v : AV) (b : Nat), es[i]? = some (k, v, b) → ∃ en : MapEntry, es'[i]? = some en ∧ en.born = b ∧ VR ρ m k en.key ∧ VR ρ m v en.val
  | .siter s pos, p => p.2.1 = 0 ∧ w.heap[p.1]? = some (.stringIter ⟨s.toArray⟩ pos)
  | .miter a since seen last, p => p.2.1 = 0 ∧ ∃ r, onMap m a r ∧ w.heap[p.1]? = some (.mapIter r since seen.toArray last)
  | .mforce .., _ => False
  | .dead, _ => True
  | .abs k, p => p.2.1 = 0 ∧ ∃ o, w.heap[p.1]? = some o ∧ absR (ρ k) o
def isDead : ABlk → Bool
  | .dead => true
  | _ => false
theorem BR.ext {ρ : Nat → Value} {m m' : BMap} {w : World} {b : ABlk} {p : Nat × Nat × Nat} (h : BR ρ m w b p) (he : Ext m m') : BR ρ m' w b p := by
  cases b with
  | cells c n e frz odd =>
    obtain ⟨arr, lo, hi, h1, h2, h3, h4, h5⟩ := h
    exact ⟨arr, lo, hi, h1, h2, h3, fun i a hi => let ⟨q1, q2, v, q3, q4⟩ := h4 i a hi; ⟨q1, q2, v, q3, q4.ext he⟩, h5⟩
  | map es clk =>
    obtain ⟨es', h1, h2, h3⟩ := h
    exact ⟨es', h1, h2, fun i k v b hi => let ⟨en, q1, q2, q3, q4⟩ := h3 i k v b hi; ⟨en, q1, q2, q3.ext he, q4.ext he⟩⟩
  | siter s pos => exact h
  | miter a since seen last => obtain ⟨h1, r, h2, h3⟩ := h; exact ⟨h1, r, h2.ext he, h3⟩
  | mforce _ _ _ _ _ _ => cases h
  | dead => trivial
  | abs k => exact h
theorem BR.keep {ρ : Nat → Value} {m : BMap} {w w' : World} {b : ABlk} {p : Nat × Nat × Nat} (h : BR ρ m w b p) (he : isDead b = false → w'.heap[p.1]? = w.heap[p.1]?) : BR ρ m w' b p := by
  cases b with
  | cells c n e frz odd => have e1 := he rfl; simp only [BR] at h ⊢; rw [e1]; exact h
  | map es clk => have e1 := he rfl; simp only [BR] at h ⊢; rw [e1]; exact h
  | siter s pos => have e1 := he rfl; simp only [BR] at h ⊢; rw [e1]; exact h
  | miter a since seen last => have e1 := he rfl; simp only [BR] at h ⊢; rw [e1]; exact h
  | mforce _ _ _ _ _ _ => cases h
  | dead => trivial
  | abs k => have e1 := he rfl; simp only [BR] at h ⊢; rw [e1]; exact h
theorem BR.lt {ρ : Nat → Value} {m : BMap} {w : World} {b : ABlk} {p : Nat × Nat × Nat} (h : BR ρ m w b p) (hd : isDead b = false) : p.1 < w.heap.size := by
  have : w.heap[p.1]? ≠ none := by
    cases b with
    | cells c n e frz odd => obtain ⟨arr, lo, hi, h1, _⟩ := h; rw [h1]; simp
    | map es clk => obtain ⟨es', h1, _⟩ := h; rw [h1]; simp
    | siter s pos => rw [h.2]; simp
    | miter a since seen last => obtain ⟨h1, r, h2, h3⟩ := h; rw [h3]; simp
    | mforce _ _ _ _ _ _ => cases h
    | dead => cases hd
    | abs k => obtain ⟨_, o, h1, _⟩ := h; rw [h1]; simp
  rcases Nat.lt_or_ge p.1 w.heap.size with h' | h'
  · exact h'
  · exact absurd (Array.getElem?_eq_none h') this

def upd (g : Nat → Option ABlk) (A : Nat) (b : ABlk) : Nat → Option ABlk := fun B => if B = A then some b else g B
theorem upd_same (g : Nat → Option ABlk) (A : Nat) (b : ABlk) : upd g A b A = some b := if_pos rfl
theorem upd_other {g : Nat → Option ABlk} {A B : Nat} {b : ABlk} (h : B ≠ A) : upd g A b B = g B := if_neg h
theorem get_upd (h : Tr ABlk) (A : Nat) (b : ABlk) : (h.put A b).get = upd h.get A b := by
  funext B; rw [Tr.get_put]; rfl
/-- the executor's blocks g lie in the world w, above block base; below it w is as w0 was -/
structure Rel (ρ : Nat → Value) (w0 : World) (base : Nat) (m : BMap) (g : Nat → Option ABlk) (w : World) : Prop where
  blk : ∀ A b, g A = some b → ∃ p, m A = some p ∧ base ≤ p.1 ∧ BR ρ m w b p
  sep : ∀ A B a b p q, g A = some a → g B = some b → isDead a = false → isDead b = false → A ≠ B → m A = some p → m B = some q → p.1 ≠ q.1
  old : Below base w0 w
  le : base ≤ w.heap.size
section rel
variable {ρ : Nat → Value} {w0 : World} {base : Nat} {m : BMap} {g : Nat → Option ABlk} {w : World}
theorem Rel.same_heap {w' : World} (h : Rel ρ w0 base m g w) (hh : w'.heap = w.heap) (h1 : w'.os = w.os) (h2 : w'.tape = w.tape) (h3 : w'.output = w.output) : Rel ρ w0 base m g w' :=
  ⟨fun A b hb => let ⟨p, e1, e2, e3⟩ := h.blk A b hb; ⟨p, e1, e2, e3.keep (fun _ => by rw [hh])⟩, h.sep,
   ⟨h1.trans h.old.os, h2.trans h.old.tape, h3.trans h.old.output, by rw [hh]; exact h.old.size, fun k hk => by rw [hh]; exact h.old.block k hk⟩, by rw [hh]; exact h.le⟩
theorem Rel.drew (h : Rel ρ w0 base m g w) : Rel ρ w0 base m g w.drew := h.same_heap rfl rfl rfl rfl
/-- a block is written -/
theorem Rel.write {w' : World} {A : Nat} {old new : ABlk} {p : Nat × Nat × Nat} (h : Rel ρ w0 base m g w) (hA : g A = some old) (hp : m A = some p) (hd : isDead old = false)
    (hk : ∀ k, k ≠ p.1 → w'.heap[k]? = w.heap[k]?) (hs : w'.heap.size = w.heap.size) (h1 : w'.os = w.os) (h2 : w'.tape = w.tape) (h3 : w'.output = w.output) (hn : BR ρ m w' new p) : Rel ρ w0 base m (upd g A new) w' := by
  have hb : base ≤ p.1 := by
    obtain ⟨q, e1, e2, _⟩ := h.blk A old hA
    rw [hp] at e1; cases e1; exact e2
  refine ⟨fun B b hB => ?_, fun B C a b q r hB hC ha hb' hne hq hr => ?_, ⟨h1.trans h.old.os, h2.trans h.old.tape, h3.trans h.old.output, by rw [hs]; exact h.old.size, fun k hk' => by rw [hk k (by omega)]; exact h.old.block k hk'⟩, by rw [hs]; exact h.le⟩
  · by_cases e : B = A
    · subst e
      rw [upd_same] at hB; cases hB
      exact ⟨p, hp, hb, hn⟩
    · rw [upd_other e] at hB
      obtain ⟨q, e1, e2, e3⟩ := h.blk B b hB
      refine ⟨q, e1, e2, e3.keep (fun hd' => hk _ ?_)⟩
      exact h.sep B A b old q p hB hA hd' hd e e1 hp
  · have hal : ∀ X x, upd g A new X = some x → isDead x = false → ∃ y, g X = some y ∧ isDead y = false := fun X x hX hx => by
      by_cases e : X = A
      · subst e; exact ⟨old, hA, hd⟩
      · rw [upd_other e] at hX; exact ⟨x, hX, hx⟩
    obtain ⟨a', g1, g2⟩ := hal B a hB ha
    obtain ⟨b', g3, g4⟩ := hal C b hC hb'
    exact h.sep B C a' b' q r g1 g3 g2 g4 hne hq hr
/-- a block is forgotten -/
theorem Rel.kill {A : Nat} {old : ABlk} (h : Rel ρ w0 base m g w) (hA : g A = some old) : Rel ρ w0 base m (upd g A .dead) w := by
  refine ⟨fun B b hB => ?_, fun B C a b q r hB hC ha hb' hne hq hr => ?_, h.old, h.le⟩
  · by_cases e : B = A
    · subst e
      rw [upd_same] at hB; cases hB
      obtain ⟨p, e1, e2, _⟩ := h.blk B old hA
      exact ⟨p, e1, e2, trivial⟩
    · rw [upd_other e] at hB; exact h.blk B b hB
  · have hal : ∀ X x, upd g A .dead X = some x → isDead x = false → g X = some x := fun X x hX hx => by
      by_cases e : X = A
      · subst e; rw [upd_same] at hX; cases hX; cases hx
      · rwa [upd_other e] at hX
    exact h.sep B C a b q r (hal B a hB ha) (hal C b hC hb') ha hb' hne hq hr
def mset (m : BMap) (A : Nat) (p : Nat × Nat × Nat) : BMap := fun B => if B = A then some p else m B
theorem mset_ext {A : Nat} {p : Nat × Nat × Nat} (h : m A = none) : Ext m (mset m A p) := fun B q hB => by
  unfold mset; rw [if_neg (by rintro rfl; rw [h] at hB; cases hB)]; exact hB
theorem mset_same (m : BMap) (A : Nat) (p : Nat × Nat × Nat) : mset m A p A = some p := if_pos rfl
theorem mset_dom {A B : Nat} {p : Nat × Nat × Nat} (h : m B = none) (h' : mset m A p B ≠ none) : B = A := by
  unfold mset at h'
  by_cases e : B = A
  · exact e
  · rw [if_neg e] at h'; exact absurd h h'
theorem heap_alloc_old {o : Obj} {k : Nat} (h : k < w.heap.size) : (w.alloc o).heap[k]? = w.heap[k]? := Below.heap_alloc w o k h
/-- a block is new: it lies in a world's block that no other one lies in -/
theorem Rel.fresh {w' : World} {A : Nat} {new : ABlk} {p : Nat × Nat × Nat} (h : Rel ρ w0 base m g w') (hA : m A = none) (hb : base ≤ p.1) (hno : ∀ B b q, g B = some b → isDead b = false → m B = some q → q.1 ≠ p.1)
    (hn : BR ρ (mset m A p) w' new p) : Rel ρ w0 base (mset m A p) (upd g A new) w' := by
  have hgA : g A = none := by
    cases e : g A with
    | none => rfl
    | some b => obtain ⟨q, e1, _⟩ := h.blk A b e; rw [hA] at e1; cases e1
  have he := mset_ext (p := p) hA
  refine ⟨fun B b hB => ?_, fun B C a b q r hB hC ha hb' hne hq hr => ?_, h.old, h.le⟩
  · by_cases e : B = A
    · subst e
      rw [upd_same] at hB; cases hB
      exact ⟨p, mset_same _ _ _, hb, hn⟩
    · rw [upd_other e] at hB
      obtain ⟨q, e1, e2, e3⟩ := h.blk B b hB
      exact ⟨q, he _ _ e1, e2, e3.ext he⟩
  · have hm : ∀ X q, X ≠ A → mset m A p X = some q → m X = some q := fun X q hX h => by unfold mset at h; rwa [if_neg hX] at h
    by_cases e1 : B = A
    · have e2 : C ≠ A := fun e => hne (e1.trans e.symm)
      subst e1
      rw [mset_same] at hq; cases hq
      rw [upd_other e2] at hC
      exact (hno C b r hC hb' (hm C r e2 hr)).symm
    · rw [upd_other e1] at hB
      by_cases e2 : C = A
      · subst e2
        rw [mset_same] at hr; cases hr
        exact hno B a q hB ha (hm B q e1 hq)
      · rw [upd_other e2] at hC
        exact h.sep B C a b q r hB hC ha hb' hne (hm B q e1 hq) (hm C r e2 hr)
theorem Rel.alloc (h : Rel ρ w0 base m g w) (o : Obj) : Rel ρ w0 base m g (w.alloc o) :=
  ⟨fun A b hb => let ⟨p, e1, e2, e3⟩ := h.blk A b hb; ⟨p, e1, e2, e3.keep (fun hd => heap_alloc_old (e3.lt hd))⟩, h.sep, h.old.alloc h.le o, by simp; have := h.le; omega⟩
theorem Rel.new {A : Nat} {new : ABlk} {o : Obj} {d z : Nat} (h : Rel ρ w0 base m g w) (hA : m A = none) (hn : BR ρ (mset m A (w.heap.size, d, z)) (w.alloc o) new (w.heap.size, d, z)) :
    Rel ρ w0 base (mset m A (w.heap.size, d, z)) (upd g A new) (w.alloc o) := by
  refine (h.alloc o).fresh hA h.le (fun B b q hB hd hq => ?_) hn
  obtain ⟨p, e1, _, e3⟩ := h.blk B b hB
  rw [hq] at e1; cases e1
  exact Nat.ne_of_lt (e3.lt hd)
end rel
end Go.Proofs.YtckmcajnhobkpaaGreatDoor.Zz
