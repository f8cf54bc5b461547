/- ExAbs ExC ExD ExE -/
import Derived.Orders
import Derived.Test.YtbecmcjibpamoaaGreatDoorQ28
import Derived.Below
import Derived.WalkKit
set_option linter.unusedVariables false
set_option linter.unusedSimpArgs false
set_option linter.deprecated false
set_option linter.unnecessarySimpa false
namespace Go.Proofs.YtbecmcjibpamoaaGreatDoor.Zz
open Go
def absR (_ : Value) (_ : Obj) : Prop := False
end Go.Proofs.YtbecmcjibpamoaaGreatDoor.Zz
namespace Go.Proofs.YtbecmcjibpamoaaGreatDoor.Zz
open Go Go.RowKit
abbrev BMap := Nat → Option (Nat × Nat × Nat)
mutual
inductive VR (ρ : Nat → Value) (m : BMap) : AV → Value → Prop where
  | int (k : IntKind) (n : Int) : VR ρ m (.int k n) (.int k n)
  | bool (b : Bool) : VR ρ m (.bool b) (.bool b)
  | str (s : List UInt8) : VR ρ m (.str s) (.string ⟨s.toArray⟩)
  | ptr0 : VR ρ m .ptr0 (.pointer none)
  | ptr (A i b d z : Nat) (h : m A = some (b, d, z)) : VR ρ m (.ptr A i) (.pointer (some ⟨b, d + i, none⟩))
  | sl0 : VR ρ m .sl0 (.slice none 0 0)
  | sl (A i len cap sz : Nat) (ex : Bool) (b d z off cap' : Nat) (h : m A = some (b, d, z)) (hc : cap ≤ cap') (hex : ex = true → cap' = cap) (ho : 0 < cap → off = d + i) (hz : off + cap' * sz ≤ z) (hl : len ≤ cap) (hd : d ≤ off) :
      VR ρ m (.sl A i len cap sz ex) (.slice (some ⟨b, off, none⟩) len cap')
  | map0 : VR ρ m .map0 (.map none)
  | map (A b d z : Nat) (h : m A = some (b, d, z)) : VR ρ m (.map A) (.map (some b))
  | fn (f : Fn) (x y : List AV) (u v : Array Value) (h1 : LR ρ m x u.toList) (h2 : LR ρ m y v.toList) : VR ρ m (.fn f x y) (.func f u v)
  | fn0 : VR ρ m .fn0 .nilFunc
  | ifc (t : TypeId) (x : AV) (v : Value) (h : VR ρ m x v) : VR ρ m (.ifc t x) (.iface t v)
  | ifc0 : VR ρ m .ifc0 .nilIface
  | agg (l : List AV) (u : Array Value) (h : LR ρ m l u.toList) : VR ρ m (.agg l) (.agg u)
  | tup (l : List AV) (u : Array Value) (h : LR ρ m l u.toList) : VR ρ m (.tup l) (.tuple u)
  | opq (k : Nat) : VR ρ m (.opq k) (ρ k)
inductive LR (ρ : Nat → Value) (m : BMap) : List AV → List Value → Prop where
  | nil : LR ρ m [] []
  | cons (a : AV) (v : Value) (l : List AV) (r : List Value) (h : VR ρ m a v) (hr : LR ρ m l r) : LR ρ m (a :: l) (v :: r)
end
def Opq (ρ : Nat → Value) : Prop := ∀ k, (∀ cs, ρ k ≠ .agg cs) ∧ ∀ cs, ρ k ≠ .tuple cs
def Ext (m m' : BMap) : Prop := ∀ A p, m A = some p → m' A = some p
theorem Ext.refl (m : BMap) : Ext m m := fun _ _ h => h
theorem Ext.trans {a b c : BMap} (h : Ext a b) (k : Ext b c) : Ext a c := fun A p e => k A p (h A p e)
mutual
theorem VR.ext {ρ : Nat → Value} {m m' : BMap} (he : Ext m m') : ∀ {a : AV} {v : Value}, VR ρ m a v → VR ρ m' a v
  | _, _, .int k n => .int k n
  | _, _, .bool b => .bool b
  | _, _, .str s => .str s
  | _, _, .ptr0 => .ptr0
  | _, _, .ptr A i b d z h => .ptr A i b d z (he _ _ h)
  | _, _, .sl0 => .sl0
  | _, _, .sl A i len cap sz ex b d z off cap' h hc hex ho hz hl hd => .sl A i len cap sz ex b d z off cap' (he _ _ h) hc hex ho hz hl hd
  | _, _, .map0 => .map0
  | _, _, .map A b d z h => .map A b d z (he _ _ h)
  | _, _, .fn f x y u v h1 h2 => .fn f x y u v (LR.ext he h1) (LR.ext he h2)
  | _, _, .fn0 => .fn0
  | _, _, .ifc t x v h => .ifc t x v (VR.ext he h)
  | _, _, .ifc0 => .ifc0
  | _, _, .agg l u h => .agg l u (LR.ext he h)
  | _, _, .tup l u h => .tup l u (LR.ext he h)
  | _, _, .opq k => .opq k
theorem LR.ext {ρ : Nat → Value} {m m' : BMap} (he : Ext m m') : ∀ {l : List AV} {r : List Value}, LR ρ m l r → LR ρ m' l r
  | _, _, .nil => .nil
  | _, _, .cons a v l r h hr => .cons a v l r (VR.ext he h) (LR.ext he hr)
end
section lists
variable {ρ : Nat → Value} {m : BMap}
theorem LR.length {l : List AV} {r : List Value} (h : LR ρ m l r) : l.length = r.length := by
  induction l generalizing r with
  | nil => cases h; rfl
  | cons a l ih => cases h with | cons _ v _ r _ hr => simp [ih hr]
theorem LR.get {l : List AV} {r : List Value} (h : LR ρ m l r) {i : Nat} {a : AV} (hi : l[i]? = some a) : ∃ v, r[i]? = some v ∧ VR ρ m a v := by
  induction l generalizing r i with
  | nil => cases hi
  | cons b l ih =>
    cases h with
    | cons _ v _ r hv hr =>
      cases i with
      | zero => cases hi; exact ⟨v, rfl, hv⟩
      | succ i => simpa using ih hr (by simpa using hi)
theorem LR.of_get {l : List AV} {r : List Value} (hl : l.length = r.length) (h : ∀ (i : Nat) (a : AV) (v : Value), l[i]? = some a → r[i]? = some v → VR ρ m a v) : LR ρ m l r := by
  induction l generalizing r with
  | nil => cases r with | nil => exact .nil | cons _ _ => cases hl
  | cons a l ih =>
    cases r with
    | nil => cases hl
    | cons v r => exact .cons _ _ _ _ (h 0 a v rfl rfl) (ih (by simpa using hl) fun i b u hb hu => h (i + 1) b u (by simpa using hb) (by simpa using hu))
theorem LR.append {l l' : List AV} {r r' : List Value} (h : LR ρ m l r) (h' : LR ρ m l' r') : LR ρ m (l ++ l') (r ++ r') := by
  induction l generalizing r with
  | nil => cases h; exact h'
  | cons a l ih => cases h with | cons _ v _ r hv hr => exact .cons _ _ _ _ hv (ih hr)
theorem LR.drop {l : List AV} {r : List Value} (h : LR ρ m l r) (n : Nat) : LR ρ m (l.drop n) (r.drop n) := by
  induction n generalizing l r with
  | zero => simpa using h
  | succ n ih =>
    cases h with
    | nil => simpa using LR.nil
    | cons a v l r hv hr => simpa using ih hr
theorem LR.take {l : List AV} {r : List Value} (h : LR ρ m l r) (n : Nat) : LR ρ m (l.take n) (r.take n) := by
  induction n generalizing l r with
  | zero => simpa using LR.nil
  | succ n ih =>
    cases h with
    | nil => simpa using LR.nil
    | cons a v l r hv hr => simpa using LR.cons _ _ _ _ hv (ih hr)
theorem VR.cells {a : AV} {v : Value} (hq : Opq ρ) (h : VR ρ m a v) : LR ρ m (cellsA a) v.cells.toList := by
  cases h <;> first
    | (unfold cellsA Value.cells; assumption)
    | (refine LR.cons _ _ _ _ ?_ .nil; constructor <;> assumption)
    | skip
  case opq k =>
    have h1 := (hq k).1
    have : (ρ k).cells = #[ρ k] := by
      cases e : ρ k <;> first | rfl | exact absurd e (h1 _)
    rw [this]
    exact .cons _ _ _ _ (.opq k) .nil
theorem VR.one {a : AV} {v : Value} (hq : Opq ρ) (h : VR ρ m a v) (h1 : oneA a = true) : (∀ cs, v ≠ .agg cs) ∧ ∀ cs, v ≠ .tuple cs := by
  cases h <;> first
    | (refine ⟨?_, ?_⟩ <;> intro cs hh <;> cases hh; done)
    | (cases h1; done)
    | exact hq _
end lists
def onMap (m : BMap) : Option Nat → Option Nat → Prop
  | none, r => r = none
  | some A, r => ∃ q, m A = some q ∧ r = some q.1
theorem onMap.ext {m m' : BMap} {a r : Option Nat} (h : onMap m a r) (he : Ext m m') : onMap m' a r := by
  cases a with
  | none => exact h
  | some A => obtain ⟨q, h1, h2⟩ := h; exact ⟨q, he _ _ h1, h2⟩
def BR (ρ : Nat → Value) (m : BMap) (w : World) : ABlk → Nat × Nat × Nat → Prop
  | .cells c n e frz odd, p => ∃ arr lo hi, w.heap[p.1]? = some (.cells arr e (lo, hi)) ∧ arr.size = p.2.2 ∧ p.2.1 + n ≤ p.2.2 ∧
      (∀ i a, c.get i = some a → i < n ∧ oneA a = true ∧ ∃ v, arr[p.2.1 + i]? = some v ∧ VR ρ m a v) ∧
      (∀ j, p.2.1 + frz ≤ j → j < p.2.2 → ¬ (lo ≤ j ∧ j < hi)) ∧ (odd = false → frz = 0 → (lo = 0 ∧ hi = 0) ∧ p.2.1 = 0 ∧ p.2.2 = n)
  | .map es clk, p => ∃ es' : Array MapEntry, w.heap[p.1]? = some (.map es' clk) ∧ es.length = es'.size ∧ ∀ (i : Nat) (k v : AV) (b : Nat), es[i]? = some (k, v, b) → ∃ en : MapEntry, es'[i]? = some en ∧ en.born = b ∧ VR ρ m k en.key ∧ VR ρ m v en.val
  | .siter s pos, p => p.2.1 = 0 ∧ w.heap[p.1]? = some (.stringIter ⟨s.toArray⟩ pos)
  | .miter a since seen last, p => p.2.1 = 0 ∧ ∃ r, onMap m a r ∧ w.heap[p.1]? = some (.mapIter r since seen.toArray last)
  | .mforce .., _ => False
  | .dead, _ => True
  | .abs k, p => p.2.1 = 0 ∧ ∃ o, w.heap[p.1]? = some o ∧ absR (ρ k) o
def isDead : ABlk → Bool
  | .dead => true
  | _ => false
theorem BR.ext {ρ : Nat → Value} {m m' : BMap} {w : World} {b : ABlk} {p : Nat × Nat × Nat} (h : BR ρ m w b p) (he : Ext m m') : BR ρ m' w b p := by
  cases b with
  | cells c n e frz odd =>
    obtain ⟨arr, lo, hi, h1, h2, h3, h4, h5⟩ := h
    exact ⟨arr, lo, hi, h1, h2, h3, fun i a hi => let ⟨q1, q2, v, q3, q4⟩ := h4 i a hi; ⟨q1, q2, v, q3, q4.ext he⟩, h5⟩
  | map es clk =>
    obtain ⟨es', h1, h2, h3⟩ := h
    exact ⟨es', h1, h2, fun i k v b hi => let ⟨en, q1, q2, q3, q4⟩ := h3 i k v b hi; ⟨en, q1, q2, q3.ext he, q4.ext he⟩⟩
  | siter s pos => exact h
  | miter a since seen last => obtain ⟨h1, r, h2, h3⟩ := h; exact ⟨h1, r, h2.ext he, h3⟩
  | mforce _ _ _ _ _ _ => cases h
  | dead => trivial
  | abs k => exact h
theorem BR.keep {ρ : Nat → Value} {m : BMap} {w w' : World} {b : ABlk} {p : Nat × Nat × Nat} (h : BR ρ m w b p) (he : isDead b = false → w'.heap[p.1]? = w.heap[p.1]?) : BR ρ m w' b p := by
  cases b with
  | cells c n e frz odd => have e1 := he rfl; simp only [BR] at h ⊢; rw [e1]; exact h
  | map es clk => have e1 := he rfl; simp only [BR] at h ⊢; rw [e1]; exact h
  | siter s pos => have e1 := he rfl; simp only [BR] at h ⊢; rw [e1]; exact h
  | miter a since seen last => have e1 := he rfl; simp only [BR] at h ⊢; rw [e1]; exact h
  | mforce _ _ _ _ _ _ => cases h
  | dead => trivial
  | abs k => have e1 := he rfl; simp only [BR] at h ⊢; rw [e1]; exact h
theorem BR.lt {ρ : Nat → Value} {m : BMap} {w : World} {b : ABlk} {p : Nat × Nat × Nat} (h : BR ρ m w b p) (hd : isDead b = false) : p.1 < w.heap.size := by
  have : w.heap[p.1]? ≠ none := by
    cases b with
    | cells c n e frz odd => obtain ⟨arr, lo, hi, h1, _⟩ := h; rw [h1]; simp
    | map es clk => obtain ⟨es', h1, _⟩ := h; rw [h1]; simp
    | siter s pos => rw [h.2]; simp
    | miter a since seen last => obtain ⟨h1, r, h2, h3⟩ := h; rw [h3]; simp
    | mforce _ _ _ _ _ _ => cases h
    | dead => cases hd
    | abs k => obtain ⟨_, o, h1, _⟩ := h; rw [h1]; simp
  rcases Nat.lt_or_ge p.1 w.heap.size with h' | h'
  · exact h'
  · exact absurd (Array.getElem?_eq_none h') this
def upd (g : Nat → Option ABlk) (A : Nat) (b : ABlk) : Nat → Option ABlk := fun B => if B = A then some b else g B
theorem upd_same (g : Nat → Option ABlk) (A : Nat) (b : ABlk) : upd g A b A = some b := if_pos rfl
theorem upd_other {g : Nat → Option ABlk} {A B : Nat} {b : ABlk} (h : B ≠ A) : upd g A b B = g B := if_neg h
theorem get_upd (h : Hp ABlk) (A : Nat) (b : ABlk) : (h.put A b).get = upd h.get A b := by
  funext B; rw [Hp.get_put]; rfl
structure Rel (ρ : Nat → Value) (w0 : World) (base : Nat) (m : BMap) (g : Nat → Option ABlk) (w : World) : Prop where
  blk : ∀ A b, g A = some b → ∃ p, m A = some p ∧ base ≤ p.1 ∧ BR ρ m w b p
  sep : ∀ A B a b p q, g A = some a → g B = some b → isDead a = false → isDead b = false → A ≠ B → m A = some p → m B = some q → p.1 ≠ q.1
  old : Below base w0 w
  le : base ≤ w.heap.size
section rel
variable {ρ : Nat → Value} {w0 : World} {base : Nat} {m : BMap} {g : Nat → Option ABlk} {w : World}
theorem Rel.same_heap {w' : World} (h : Rel ρ w0 base m g w) (hh : w'.heap = w.heap) (h1 : w'.os = w.os) (h2 : w'.tape = w.tape) (h3 : w'.output = w.output) : Rel ρ w0 base m g w' :=
  ⟨fun A b hb => let ⟨p, e1, e2, e3⟩ := h.blk A b hb; ⟨p, e1, e2, e3.keep (fun _ => by rw [hh])⟩, h.sep,
   ⟨h1.trans h.old.os, h2.trans h.old.tape, h3.trans h.old.output, by rw [hh]; exact h.old.size, fun k hk => by rw [hh]; exact h.old.block k hk⟩, by rw [hh]; exact h.le⟩
theorem Rel.drew (h : Rel ρ w0 base m g w) : Rel ρ w0 base m g w.drew := h.same_heap rfl rfl rfl rfl
theorem Rel.write {w' : World} {A : Nat} {old new : ABlk} {p : Nat × Nat × Nat} (h : Rel ρ w0 base m g w) (hA : g A = some old) (hp : m A = some p) (hd : isDead old = false)
    (hk : ∀ k, k ≠ p.1 → w'.heap[k]? = w.heap[k]?) (hs : w'.heap.size = w.heap.size) (h1 : w'.os = w.os) (h2 : w'.tape = w.tape) (h3 : w'.output = w.output) (hn : BR ρ m w' new p) : Rel ρ w0 base m (upd g A new) w' := by
  have hb : base ≤ p.1 := by
    obtain ⟨q, e1, e2, _⟩ := h.blk A old hA
    rw [hp] at e1; cases e1; exact e2
  refine ⟨fun B b hB => ?_, fun B C a b q r hB hC ha hb' hne hq hr => ?_, ⟨h1.trans h.old.os, h2.trans h.old.tape, h3.trans h.old.output, by rw [hs]; exact h.old.size, fun k hk' => by rw [hk k (by omega)]; exact h.old.block k hk'⟩, by rw [hs]; exact h.le⟩
  · by_cases e : B = A
    · subst e
      rw [upd_same] at hB; cases hB
      exact ⟨p, hp, hb, hn⟩
    · rw [upd_other e] at hB
      obtain ⟨q, e1, e2, e3⟩ := h.blk B b hB
      refine ⟨q, e1, e2, e3.keep (fun hd' => hk _ ?_)⟩
      exact h.sep B A b old q p hB hA hd' hd e e1 hp
  · have hal : ∀ X x, upd g A new X = some x → isDead x = false → ∃ y, g X = some y ∧ isDead y = false := fun X x hX hx => by
      by_cases e : X = A
      · subst e; exact ⟨old, hA, hd⟩
      · rw [upd_other e] at hX; exact ⟨x, hX, hx⟩
    obtain ⟨a', g1, g2⟩ := hal B a hB ha
    obtain ⟨b', g3, g4⟩ := hal C b hC hb'
    exact h.sep B C a' b' q r g1 g3 g2 g4 hne hq hr
theorem Rel.kill {A : Nat} {old : ABlk} (h : Rel ρ w0 base m g w) (hA : g A = some old) : Rel ρ w0 base m (upd g A .dead) w := by
  refine ⟨fun B b hB => ?_, fun B C a b q r hB hC ha hb' hne hq hr => ?_, h.old, h.le⟩
  · by_cases e : B = A
    · subst e
      rw [upd_same] at hB; cases hB
      obtain ⟨p, e1, e2, _⟩ := h.blk B old hA
      exact ⟨p, e1, e2, trivial⟩
    · rw [upd_other e] at hB; exact h.blk B b hB
  · have hal : ∀ X x, upd g A .dead X = some x → isDead x = false → g X = some x := fun X x hX hx => by
      by_cases e : X = A
      · subst e; rw [upd_same] at hX; cases hX; cases hx
      · rwa [upd_other e] at hX
    exact h.sep B C a b q r (hal B a hB ha) (hal C b hC hb') ha hb' hne hq hr
def mset (m : BMap) (A : Nat) (p : Nat × Nat × Nat) : BMap := fun B => if B = A then some p else m B
theorem mset_ext {A : Nat} {p : Nat × Nat × Nat} (h : m A = none) : Ext m (mset m A p) := fun B q hB => by
  unfold mset; rw [if_neg (by rintro rfl; rw [h] at hB; cases hB)]; exact hB
theorem mset_same (m : BMap) (A : Nat) (p : Nat × Nat × Nat) : mset m A p A = some p := if_pos rfl
theorem mset_dom {A B : Nat} {p : Nat × Nat × Nat} (h : m B = none) (h' : mset m A p B ≠ none) : B = A := by
  unfold mset at h'
  by_cases e : B = A
  · exact e
  · rw [if_neg e] at h'; exact absurd h h'
theorem heap_alloc_old {o : Obj} {k : Nat} (h : k < w.heap.size) : (w.alloc o).heap[k]? = w.heap[k]? := Below.heap_alloc w o k h
theorem Rel.fresh {w' : World} {A : Nat} {new : ABlk} {p : Nat × Nat × Nat} (h : Rel ρ w0 base m g w') (hA : m A = none) (hb : base ≤ p.1) (hno : ∀ B b q, g B = some b → isDead b = false → m B = some q → q.1 ≠ p.1)
    (hn : BR ρ (mset m A p) w' new p) : Rel ρ w0 base (mset m A p) (upd g A new) w' := by
  have hgA : g A = none := by
    cases e : g A with
    | none => rfl
    | some b => obtain ⟨q, e1, _⟩ := h.blk A b e; rw [hA] at e1; cases e1
  have he := mset_ext (p := p) hA
  refine ⟨fun B b hB => ?_, fun B C a b q r hB hC ha hb' hne hq hr => ?_, h.old, h.le⟩
  · by_cases e : B = A
    · subst e
      rw [upd_same] at hB; cases hB
      exact ⟨p, mset_same _ _ _, hb, hn⟩
    · rw [upd_other e] at hB
      obtain ⟨q, e1, e2, e3⟩ := h.blk B b hB
      exact ⟨q, he _ _ e1, e2, e3.ext he⟩
  · have hm : ∀ X q, X ≠ A → mset m A p X = some q → m X = some q := fun X q hX h => by unfold mset at h; rwa [if_neg hX] at h
    by_cases e1 : B = A
    · have e2 : C ≠ A := fun e => hne (e1.trans e.symm)
      subst e1
      rw [mset_same] at hq; cases hq
      rw [upd_other e2] at hC
      exact (hno C b r hC hb' (hm C r e2 hr)).symm
    · rw [upd_other e1] at hB
      by_cases e2 : C = A
      · subst e2
        rw [mset_same] at hr; cases hr
        exact hno B a q hB ha (hm B q e1 hq)
      · rw [upd_other e2] at hC
        exact h.sep B C a b q r hB hC ha hb' hne (hm B q e1 hq) (hm C r e2 hr)
theorem Rel.alloc (h : Rel ρ w0 base m g w) (o : Obj) : Rel ρ w0 base m g (w.alloc o) :=
  ⟨fun A b hb => let ⟨p, e1, e2, e3⟩ := h.blk A b hb; ⟨p, e1, e2, e3.keep (fun hd => heap_alloc_old (e3.lt hd))⟩, h.sep, h.old.alloc h.le o, by simp; have := h.le; omega⟩
theorem Rel.new {A : Nat} {new : ABlk} {o : Obj} {d z : Nat} (h : Rel ρ w0 base m g w) (hA : m A = none) (hn : BR ρ (mset m A (w.heap.size, d, z)) (w.alloc o) new (w.heap.size, d, z)) :
    Rel ρ w0 base (mset m A (w.heap.size, d, z)) (upd g A new) (w.alloc o) := by
  refine (h.alloc o).fresh hA h.le (fun B b q hB hd hq => ?_) hn
  obtain ⟨p, e1, _, e3⟩ := h.blk B b hB
  rw [hq] at e1; cases e1
  exact Nat.ne_of_lt (e3.lt hd)
end rel
end Go.Proofs.YtbecmcjibpamoaaGreatDoor.Zz
namespace Go.Proofs.YtbecmcjibpamoaaGreatDoor.Zz
open Go Go.RowKit
section
variable {P : Program} {ρ : Nat → Value} {w0 : World} {base : Nat}
def Ok (P : Program) (ρ : Nat → Value) (w0 : World) (base : Nat) {α β : Type} (R : BMap → α → β → Prop) (m : BMap) (x : M α) (s : Sem β) : Prop :=
  ∀ st w a st', x st = some (a, st') → Rel ρ w0 base m st.heap.get w → (∀ A, st.next ≤ A → A < st'.next → m A = none) →
    ∃ b w' m', s.run P w = .ok b w' ∧ Ext m m' ∧ (∀ A, m A = none → m' A ≠ none → st.next ≤ A ∧ A < st'.next) ∧ Rel ρ w0 base m' st'.heap.get w' ∧ R m' a b
theorem Ok.fail {α β : Type} {R : BMap → α → β → Prop} {m : BMap} {s : Sem β} : Ok P ρ w0 base R m fail s := fun st w a st' h => by cases h
theorem Ok.ret {α β : Type} {R : BMap → α → β → Prop} {m : BMap} {a : α} {b : β} {s : Sem β} (hs : ∀ w, s.run P w = .ok b w) (h : R m a b) : Ok P ρ w0 base R m (ret a) s := fun st w a' st' h' hr _ => by
  cases h'
  exact ⟨b, w, m, hs w, Ext.refl m, fun A h1 h2 => absurd h1 h2, hr, h⟩
theorem Ok.mono {α β : Type} {R R' : BMap → α → β → Prop} {m : BMap} {x : M α} {s : Sem β} (h : Ok P ρ w0 base R m x s) (hr : ∀ m' a b, Ext m m' → R m' a b → R' m' a b) : Ok P ρ w0 base R' m x s := fun st w a st' h' hr' hf => by
  obtain ⟨b, w', m', h1, h2, h3, h4, h5⟩ := h st w a st' h' hr' hf
  exact ⟨b, w', m', h1, h2, h3, h4, hr _ _ _ h2 h5⟩
theorem Ok.bnd {α β γ δ : Type} {R : BMap → α → β → Prop} {R' : BMap → γ → δ → Prop} {m : BMap} {x : M α} {f : α → M γ} {s : Sem β} {g : β → Sem δ} (hx : Fr x) (hf : ∀ a, Fr (f a))
    (h : Ok P ρ w0 base R m x s) (hk : ∀ a b m', Ext m m' → R m' a b → Ok P ρ w0 base R' m' (f a) (g b)) : Ok P ρ w0 base R' m (bnd x f) (s >>= g) := fun st w c st' h' hr hfr => by
  unfold Zz.bnd at h'
  cases h1 : x st with
  | none => rw [h1] at h'; cases h'
  | some p =>
    obtain ⟨a, st1⟩ := p
    rw [h1] at h'
    simp only at h'
    obtain ⟨L1, q1⟩ := hx st a st1 h1
    obtain ⟨L2, q2⟩ := hf a st1 c st' h'
    have n1 := q1.next
    have n2 := q2.next
    obtain ⟨b, w1, m1, e1, e2, e3, e4, e5⟩ := h st w a st1 h1 hr (fun A h1 h2 => hfr A h1 (by omega))
    obtain ⟨d, w2, m2, g1, g2, g3, g4, g5⟩ := hk a b m1 e2 e5 st1 w1 c st' h' e4 (fun A h1 h2 => by
      have := hfr A (by omega) h2
      cases hm : m1 A with
      | none => rfl
      | some p => have := e3 A this (by rw [hm]; simp); omega)
    refine ⟨d, w2, m2, ?_, e2.trans g2, fun A h1 h2 => ?_, g4, g5⟩
    · rw [Sem.run_bind, e1]; exact g1
    · cases hm : m1 A with
      | none => have := g3 A hm h2; omega
      | some p => have := e3 A h1 (by rw [hm]; simp); omega
theorem Ok.opt {α γ δ : Type} {R : BMap → γ → δ → Prop} {m : BMap} {o : Option α} {f : α → M γ} {s : Sem δ} (h : ∀ a, o = some a → Ok P ρ w0 base R m (f a) s) : Ok P ρ w0 base R m (Zz.bnd (Zz.opt o) f) s := by
  cases o with
  | none => exact fun st w a st' h => by cases h
  | some a => exact h a rfl
theorem Ok.optr {α β : Type} {R : BMap → α → β → Prop} {m : BMap} {o : Option α} {s : Sem β} (h : ∀ a, o = some a → Ok P ρ w0 base R m (Zz.ret a) s) : Ok P ρ w0 base R m (Zz.opt o) s := by
  cases o with
  | none => exact Ok.fail
  | some a => exact h a rfl
theorem Ok.cond {α β : Type} {R : BMap → α → β → Prop} {m : BMap} {c : Bool} {x y : M α} {s : Sem β} (h1 : c = true → Ok P ρ w0 base R m x s) (h2 : c = false → Ok P ρ w0 base R m y s) : Ok P ρ w0 base R m (bif c then x else y) s := by
  cases c
  · exact h2 rfl
  · exact h1 rfl
theorem Ok.sem {α β δ : Type} {R : BMap → α → δ → Prop} {m : BMap} {x : M α} {s : Sem β} {g : β → Sem δ} {b : β} (hs : ∀ w, s.run P w = .ok b w) (h : Ok P ρ w0 base R m x (g b)) : Ok P ρ w0 base R m x (s >>= g) := fun st w a st' h' hr hf => by
  obtain ⟨d, w', m', e1, e⟩ := h st w a st' h' hr hf
  exact ⟨d, w', m', by rw [Sem.run_bind, hs]; exact e1, e⟩
theorem Ok.congr {α β : Type} {R : BMap → α → β → Prop} {m : BMap} {x : M α} {s s' : Sem β} (hs : ∀ w, s.run P w = s'.run P w) (h : Ok P ρ w0 base R m x s') : Ok P ρ w0 base R m x s := fun st w a st' h' hr hf => by
  obtain ⟨d, w', m', e1, e⟩ := h st w a st' h' hr hf
  exact ⟨d, w', m', by rw [hs]; exact e1, e⟩
theorem Ok.ext {α β : Type} {R : BMap → α → β → Prop} {m : BMap} {x y : M α} {s : Sem β} (hs : x = y) (h : Ok P ρ w0 base R m x s) : Ok P ρ w0 base R m y s := hs ▸ h
abbrev VRr (ρ : Nat → Value) (m : BMap) (a : AV) (v : Value) : Prop := VR ρ m a v
abbrev LRr (ρ : Nat → Value) (m : BMap) (a : List AV) (v : Array Value) : Prop := LR ρ m a v.toList
theorem heap_new (w : World) (o : Obj) : (w.alloc o).heap[w.heap.size]? = some o := by
  show (w.heap.push o)[w.heap.size]? = _
  simp
theorem add_mk' (b o k : Nat) : (⟨b, o, none⟩ : Addr).add k = ⟨b, o + k, none⟩ := by unfold Addr.add; split <;> simp_all
theorem set_same {w : World} {b o : Nat} {arr : Array Value} {e : TypeId} {fr : Nat × Nat} {v : Value} (h : w.heap[b]? = some (.cells arr e fr)) : (w.setCell ⟨b, o, none⟩ v).heap[b]? = some (.cells (arr.setIfInBounds o v) e fr) := by
  simp [World.setCell, Array.getElem?_modify, h]
theorem set_other {w : World} {b o k : Nat} {v : Value} (h : k ≠ b) : (w.setCell ⟨b, o, none⟩ v).heap[k]? = w.heap[k]? := by
  simp only [World.setCell, Array.getElem?_modify]
  rw [if_neg (by exact fun e => h e.symm)]
theorem cell_of {w : World} {b o : Nat} {arr : Array Value} {e : TypeId} {fr : Nat × Nat} (h : w.heap[b]? = some (.cells arr e fr)) : w.cell? ⟨b, o, none⟩ = arr[o]? := by
  simp [World.cell?, h]
theorem frozen_of {w : World} {b o : Nat} {arr : Array Value} {e : TypeId} {lo hi : Nat} (h : w.heap[b]? = some (.cells arr e (lo, hi))) : w.frozen? ⟨b, o, none⟩ = (decide (lo ≤ o) && decide (o < hi)) := by
  simp [World.frozen?, h]
theorem run_load {w : World} {a : Addr} {v : Value} (h : w.cell? a = some v) : (Go.load a).run P w = .ok v w := by
  simp [Go.load, Sem.run, h]
theorem run_loadFrom {w : World} {a : Addr} : ∀ (vs : List Value) (i : Nat) (acc : Array Value), (∀ (j : Nat) (v : Value), vs[j]? = some v → w.cell? (a.add (i + j)) = some v) →
    (loadCellsFrom a i vs.length acc).run P w = .ok (acc ++ vs.toArray) w
  | [], i, acc, _ => by simp [loadCellsFrom, Sem.run, pure]
  | v :: vs, i, acc, h => by
    have h0 := h 0 v rfl
    have ih := run_loadFrom vs (i + 1) (acc.push v) (fun j u hj => by have := h (j + 1) u (by simpa using hj); rwa [show i + (j + 1) = i + 1 + j by omega] at this)
    simp only [List.length_cons, loadCellsFrom, Sem.run_bind]
    rw [show i + 0 = i by omega] at h0
    rw [run_load h0, Result.andThen_ok, ih]
    simp
theorem run_loadCells {w : World} {a : Addr} {vs : List Value} {n : Nat} (hn : n = vs.length) (h : ∀ (j : Nat) (v : Value), vs[j]? = some v → w.cell? (a.add j) = some v) : (loadCells a n).run P w = .ok vs.toArray w := by
  subst hn
  unfold loadCells
  rw [run_loadFrom vs 0 #[] (fun j v hj => by rw [show 0 + j = j by omega]; exact h j v hj)]
  simp
theorem run_store {w : World} {b o : Nat} {v u : Value} (h1 : (∀ cs, v ≠ .agg cs) ∧ ∀ cs, v ≠ .tuple cs) (h2 : w.cell? ⟨b, o, none⟩ = some u) (h3 : w.frozen? ⟨b, o, none⟩ = false) : (Go.store ⟨b, o, none⟩ v).run P w = .ok () (w.setCell ⟨b, o, none⟩ v) := by
  unfold Go.store
  cases v <;> first | exact absurd rfl (h1.1 _) | exact absurd rfl (h1.2 _) | simp [Sem.run, h2, h3]
theorem run_storeCells (b d : Nat) (e : TypeId) (lo hi : Nat) : ∀ (vs : List Value) (i : Nat) (w : World) (arr : Array Value), w.heap[b]? = some (.cells arr e (lo, hi)) → d + i + vs.length ≤ arr.size →
    (∀ v ∈ vs, (∀ cs, v ≠ .agg cs) ∧ ∀ cs, v ≠ .tuple cs) → (∀ j, d + i ≤ j → j < d + i + vs.length → ¬ (lo ≤ j ∧ j < hi)) →
    ∃ w' arr', (storeCells ⟨b, d, none⟩ vs i).run P w = .ok () w' ∧ w'.heap[b]? = some (.cells arr' e (lo, hi)) ∧ arr'.size = arr.size ∧ (∀ j, arr'[j]? = if d + i ≤ j ∧ j < d + i + vs.length then vs[j - (d + i)]? else arr[j]?) ∧
      (∀ k, k ≠ b → w'.heap[k]? = w.heap[k]?) ∧ w'.heap.size = w.heap.size ∧ w'.os = w.os ∧ w'.tape = w.tape ∧ w'.output = w.output
  | [], i, w, arr, hw, _, _, _ => ⟨w, arr, by simp [storeCells, Sem.run, pure], hw, rfl, fun j => by simp; intro h1 h2; omega, fun _ _ => rfl, rfl, rfl, rfl, rfl⟩
  | v :: vs, i, w, arr, hw, hn, ho, hz => by
    simp only [List.length_cons] at hn hz
    have hd : d + i < arr.size := by omega
    have h2 : w.cell? ⟨b, d + i, none⟩ = some arr[d + i] := by rw [cell_of hw, Array.getElem?_eq_getElem hd]
    have h3 : w.frozen? ⟨b, d + i, none⟩ = false := by
      rw [frozen_of hw]
      have := hz (d + i) (by omega) (by omega)
      simp; omega
    have hr := run_store (P := P) (ho v (by simp)) h2 h3
    have hw1 := set_same (o := d + i) (v := v) hw
    obtain ⟨w', arr', e1, e2, e3, e4, e5, e6, e7, e8, e9⟩ := run_storeCells b d e lo hi vs (i + 1) _ _ hw1 (by simp; omega) (fun u hu => ho u (by simp [hu])) (fun j h1 h2 => hz j (by omega) (by omega))
    refine ⟨w', arr', ?_, e2, by rw [e3]; simp, fun j => ?_, fun k hk => by rw [e5 k hk]; exact set_other hk, by rw [e6]; simp, by rw [e7]; rfl, by rw [e8]; rfl, by rw [e9]; rfl⟩
    · simp only [storeCells, Sem.run_bind]
      rw [add_mk', hr, Result.andThen_ok, e1]
    · rw [e4 j]
      simp only [List.length_cons]
      by_cases h1 : j = d + i
      · subst h1
        rw [if_neg (by omega), if_pos (by omega)]
        simp [hd]
      · by_cases h2 : d + (i + 1) ≤ j ∧ j < d + (i + 1) + vs.length
        · rw [if_pos h2, if_pos (by omega)]
          rw [show j - (d + i) = (j - (d + (i + 1))) + 1 by omega]; simp
        · rw [if_neg h2, if_neg (by omega), Array.getElem?_setIfInBounds, if_neg (by omega)]
theorem getN_get {c : CT} : ∀ {k i : Nat} {l : List AV}, getN c i k = some l → l.length = k ∧ ∀ (j : Nat) (a : AV), l[j]? = some a → c.get (i + j) = some a
  | 0, i, l, h => by cases h; exact ⟨rfl, fun j a h => by simp at h⟩
  | k + 1, i, l, h => by
    unfold getN at h
    cases h1 : c.get i with
    | none => rw [h1] at h; cases h
    | some v =>
      rw [h1] at h
      simp only at h
      cases h2 : getN c (i + 1) k with
      | none => rw [h2] at h; cases h
      | some r =>
        rw [h2] at h; cases h
        obtain ⟨e1, e2⟩ := getN_get h2
        refine ⟨by simp [e1], fun j a hj => ?_⟩
        cases j with
        | zero => cases hj; exact h1
        | succ j => rw [show i + (j + 1) = i + 1 + j by omega]; exact e2 j a (by simpa using hj)
theorem putL_get : ∀ (l : List AV) (c : CT) (i k : Nat), (putL c i l).get k = if i ≤ k ∧ k < i + l.length then l[k - i]? else c.get k
  | [], c, i, k => by simp [putL]; intro h1 h2; omega
  | v :: l, c, i, k => by
    rw [putL, putL_get l, CT.get_put]
    simp only [List.length_cons]
    by_cases h1 : k = i
    · subst h1
      rw [if_neg (by omega), if_pos rfl, if_pos (by omega)]; simp
    · by_cases h2 : i + 1 ≤ k ∧ k < i + 1 + l.length
      · rw [if_pos h2, if_pos (by omega), show k - i = (k - (i + 1)) + 1 by omega]; simp
      · rw [if_neg h2, if_neg h1, if_neg (by omega)]
theorem allOne_mem : ∀ {l : List AV}, allOne l = true → ∀ a ∈ l, oneA a = true
  | [], _, a, h => by cases h
  | v :: l, h, a, ha => by
    simp only [allOne, Bool.and_eq_true] at h
    rcases List.mem_cons.1 ha with rfl | ha
    · exact h.1
    · exact allOne_mem h.2 a ha
theorem LR.mem {m : BMap} {l : List AV} {r : List Value} (h : LR ρ m l r) {v : Value} (hv : v ∈ r) : ∃ a ∈ l, VR ρ m a v := by
  obtain ⟨i, hi⟩ := List.getElem?_of_mem hv
  have hl := h.length
  have : i < l.length := by rw [hl]; exact (List.getElem?_eq_some_iff.1 hi).1
  obtain ⟨v', h1, h2⟩ := h.get (List.getElem?_eq_getElem this)
  rw [hi] at h1; cases h1
  exact ⟨_, List.getElem_mem _, h2⟩
theorem LR.one {m : BMap} {l : List AV} {r : List Value} (hq : Opq ρ) (h : LR ρ m l r) (h1 : allOne l = true) : ∀ v ∈ r, (∀ cs, v ≠ .agg cs) ∧ ∀ cs, v ≠ .tuple cs := fun v hv => by
  obtain ⟨a, ha, hr⟩ := h.mem hv
  exact hr.one hq (allOne_mem h1 a ha)
theorem rel_cells {m : BMap} {g : Nat → Option ABlk} {w : World} {A b d z : Nat} {c : CT} {n : Nat} {e : TypeId} {frz : Nat} {odd : Bool} (h : Rel ρ w0 base m g w) (hA : g A = some (.cells c n e frz odd)) (hp : m A = some (b, d, z)) :
    BR ρ m w (.cells c n e frz odd) (b, d, z) := by
  obtain ⟨p, e1, e2, e3⟩ := h.blk A _ hA
  rw [hp] at e1; cases e1; exact e3
theorem rd_eq {A : Nat} {st st' : ASt} {b : ABlk} (h : rd A st = some (b, st')) : st.heap.get A = some b ∧ st'.heap = st.heap ∧ st'.next = st.next := by
  unfold rd at h
  cases hb : st.heap.get A with
  | none => rw [hb] at h; cases h
  | some c => rw [hb] at h; cases h; exact ⟨rfl, rfl, rfl⟩
theorem Ok.rd {α β : Type} {R : BMap → α → β → Prop} {m : BMap} {A : Nat} {f : ABlk → M α} {s : Sem β}
    (h : ∀ b st w a st', f b st = some (a, st') → st.heap.get A = some b → Rel ρ w0 base m st.heap.get w → (∀ A, st.next ≤ A → A < st'.next → m A = none) →
      ∃ b' w' m', s.run P w = .ok b' w' ∧ Ext m m' ∧ (∀ A, m A = none → m' A ≠ none → st.next ≤ A ∧ A < st'.next) ∧ Rel ρ w0 base m' st'.heap.get w' ∧ R m' a b') :
    Ok P ρ w0 base R m (Zz.bnd (Zz.rd A) f) s := fun st w a st' h' hr hf => by
  unfold Zz.bnd at h'
  cases h1 : Zz.rd A st with
  | none => rw [h1] at h'; cases h'
  | some p =>
    obtain ⟨b, st1⟩ := p
    rw [h1] at h'
    obtain ⟨e1, e2, e3⟩ := rd_eq h1
    have := h b st1 w a st' h' (by rw [e2]; exact e1) (by rw [e2]; exact hr) (by rw [e3]; exact hf)
    rwa [e3] at this
theorem load1_ok {m : BMap} {A i b d z : Nat} (hp : m A = some (b, d, z)) : Ok P ρ w0 base (VRr ρ) m (load1 A i) (Go.load ⟨b, d + i, none⟩) := by
  unfold load1
  refine Ok.rd (fun blk st w a st' h hA hr hf => ?_)
  cases blk with
  | cells c n e frz odd =>
    simp only at h
    cases hc : c.get i with
    | none => rw [hc] at h; cases h
    | some x =>
      rw [hc] at h; cases h
      obtain ⟨arr, lo, hi, h1, h2, h3, h4, h5⟩ := rel_cells hr hA hp
      obtain ⟨q1, q2, v, q3, q4⟩ := h4 i a hc
      exact ⟨v, w, m, run_load (by rw [cell_of h1]; exact q3), Ext.refl m, fun A h1 h2 => absurd h1 h2, hr, q4⟩
  | _ => cases h
theorem loadC_eq {A i k : Nat} {st st' : ASt} {l : List AV} (h : loadC A i k st = some (l, st')) : ∃ c n e frz odd, st.heap.get A = some (.cells c n e frz odd) ∧ getN c i k = some l ∧ st'.heap = st.heap ∧ st'.next = st.next := by
  unfold loadC Zz.bnd at h
  cases h2 : Zz.rd A st with
  | none => rw [h2] at h; cases h
  | some q =>
    obtain ⟨bb, s2⟩ := q
    rw [h2] at h
    obtain ⟨e1, e2, e3⟩ := rd_eq h2
    cases bb with
    | cells c n e frz odd =>
      simp only at h
      cases hc : getN c i k with
      | none => rw [hc] at h; cases h
      | some l' => rw [hc] at h; cases h; exact ⟨c, n, e, frz, odd, e1, hc, e2, e3⟩
    | _ => cases h
theorem getN_vals {m : BMap} {c : CT} {arr : Array Value} {d n i k : Nat} {l : List AV} (h4 : ∀ i a, c.get i = some a → i < n ∧ oneA a = true ∧ ∃ v, arr[d + i]? = some v ∧ VR ρ m a v) (hc : getN c i k = some l) :
    ∃ vs : List Value, LR ρ m l vs ∧ l.length = k ∧ ∀ (j : Nat) (v : Value), vs[j]? = some v → arr[d + i + j]? = some v := by
  obtain ⟨g1, g2⟩ := getN_get hc
  have hv : ∀ j, ∃ v, j < l.length → arr[d + i + j]? = some v ∧ ∀ x, l[j]? = some x → VR ρ m x v := fun j => by
    by_cases hj : j < l.length
    · obtain ⟨q1, q2, v, q3, q4⟩ := h4 (i + j) l[j] (g2 j _ (List.getElem?_eq_getElem hj))
      exact ⟨v, fun _ => ⟨by rw [← q3, Nat.add_assoc], fun x hx => by rw [List.getElem?_eq_getElem hj] at hx; cases hx; exact q4⟩⟩
    · exact ⟨undef, fun h => absurd h hj⟩
  obtain ⟨f, hf2⟩ := Classical.axiomOfChoice hv
  have hget : ∀ (j : Nat) (v : Value), ((List.range l.length).map f)[j]? = some v → j < l.length ∧ f j = v := fun j v hj => by
    rw [List.getElem?_map] at hj
    rcases Nat.lt_or_ge j l.length with h' | h'
    · simp [h'] at hj; exact ⟨h', hj⟩
    · rw [List.getElem?_eq_none (by simpa using h')] at hj; simp at hj
  refine ⟨(List.range l.length).map f, LR.of_get (by simp) (fun j x v hj hv => ?_), g1, fun j v hj => ?_⟩
  · obtain ⟨hj', rfl⟩ := hget j v hv
    exact (hf2 j hj').2 x hj
  · obtain ⟨hj', rfl⟩ := hget j v hj
    exact (hf2 j hj').1
theorem loadC_ok {m : BMap} {A i k b d z : Nat} (hp : m A = some (b, d, z)) : Ok P ρ w0 base (LRr ρ) m (loadC A i k) (loadCells ⟨b, d + i, none⟩ k) := fun st w l st' h hr hf => by
  obtain ⟨c, n, e, frz, odd, hA, hc, e2, e3⟩ := loadC_eq h
  obtain ⟨arr, lo, hi, h1, h2, h3, h4, h5⟩ := rel_cells hr hA hp
  obtain ⟨vs, g1, g2, g3⟩ := getN_vals h4 hc
  refine ⟨vs.toArray, w, m, run_loadCells (by rw [← g1.length, g2]) (fun j v hj => ?_), Ext.refl m, fun A h1 h2 => absurd h1 h2, by rw [e2]; exact hr, g1⟩
  rw [add_mk', cell_of h1]; exact g3 j v hj
theorem wr_eq {A : Nat} {st st' : ASt} {b : ABlk} {u : Unit} (h : wr A b st = some (u, st')) : st'.heap = st.heap.put A b ∧ st'.next = st.next := by
  unfold wr at h
  cases hb : st.heap.get A with
  | none => rw [hb] at h; cases h
  | some c => rw [hb] at h; cases h; exact ⟨rfl, rfl⟩
theorem storeC_ok {m : BMap} {A i b d z : Nat} {l : List AV} {vs : List Value} (hq : Opq ρ) (hp : m A = some (b, d, z)) (hl : LR ρ m l vs) : Ok P ρ w0 base (fun _ _ (_ : Unit) => True) m (storeC A i l) (storeCells ⟨b, d + i, none⟩ vs) := by
  unfold storeC
  refine Ok.rd (fun blk st w a st' h hA hr hf => ?_)
  cases blk with
  | cells c n e frz odd =>
    simp only at h
    cases hc : (Nat.ble frz i && Nat.ble (i + l.length) n && allOne l) with
    | false => rw [hc] at h; cases h
    | true =>
      rw [hc, cond_true] at h
      simp only [Bool.and_eq_true, Nat.ble_eq] at hc
      obtain ⟨w1, w2⟩ := wr_eq h
      obtain ⟨arr, lo, hi, h1, h2, h3, h4, h5, h6⟩ := rel_cells hr hA hp
      simp only at h1 h2 h3 h4 h5
      have hlen := hl.length
      obtain ⟨w', arr', e1, e2, e3, e4, e5, e6, e7, e8, e9⟩ := run_storeCells (P := P) b (d + i) e lo hi vs 0 w arr h1 (by omega) (hl.one hq hc.2) (fun j g1 g2 => h5 j (by omega) (by omega))
      refine ⟨(), w', m, e1, Ext.refl m, fun A h1 h2 => absurd h1 h2, ?_, trivial⟩
      rw [w1, get_upd]
      refine hr.write hA hp rfl e5 e6 e7 e8 e9 ⟨arr', lo, hi, e2, by rw [e3, h2], h3, fun j x hj => ?_, h5, h6⟩
      rw [putL_get] at hj
      show j < n ∧ oneA x = true ∧ ∃ v, arr'[d + j]? = some v ∧ VR ρ m x v
      by_cases hin : i ≤ j ∧ j < i + l.length
      · rw [if_pos hin] at hj
        obtain ⟨v, g1, g2⟩ := hl.get hj
        refine ⟨by omega, allOne_mem hc.2 x (List.mem_of_getElem? hj), v, ?_, g2⟩
        rw [e4, if_pos (by omega), show d + j - (d + i + 0) = j - i by omega]; exact g1
      · rw [if_neg hin] at hj
        obtain ⟨q1, q2, v, q3, q4⟩ := h4 j x hj
        refine ⟨q1, q2, v, ?_, q4⟩
        rw [e4, if_neg (by omega)]; exact q3
  | _ => cases h
theorem nw_eq {st st' : ASt} {b : ABlk} {A : Nat} (h : nw b st = some (A, st')) : A = st.next ∧ st'.heap = st.heap.put st.next b ∧ st'.next = st.next + 1 := by
  unfold nw at h; cases h; exact ⟨rfl, rfl, rfl⟩
theorem rel_row {m : BMap} {g : Nat → Option ABlk} {w : World} {A : Nat} {e : TypeId} {l : List AV} {arr : Array Value} {frz : Nat} (hr : Rel ρ w0 base m g w) (hm : m A = none) (hl : LR ρ m l (arr.toList.take l.length)) (h1 : allOne l = true) (hle : l.length ≤ arr.size) :
    Rel ρ w0 base (mset m A (w.heap.size, 0, arr.size)) (upd g A (.cells (putL .lf 0 l) l.length e frz true)) (w.alloc (.cells arr e)) := by
  refine hr.new hm ⟨arr, 0, 0, ?_, rfl, by simpa using hle, fun j x hj => ?_, fun j _ _ => by omega, fun q _ => by cases q⟩
  · exact heap_new w _
  · rw [putL_get] at hj
    by_cases hin : 0 ≤ j ∧ j < 0 + l.length
    · rw [if_pos hin] at hj
      obtain ⟨v, g1, g2⟩ := hl.get (i := j - 0) hj
      refine ⟨by omega, allOne_mem h1 x (List.mem_of_getElem? hj), v, ?_, g2.ext (mset_ext hm)⟩
      simp only [Nat.zero_add]
      rw [List.getElem?_take_of_lt (by omega), Array.getElem?_toList] at g1
      exact g1
    · rw [if_neg hin] at hj; cases hj
theorem newRow_ok {m : BMap} {e : TypeId} {l : List AV} {odd : Bool} {arr : Array Value} {frz : Nat} (hl : LR ρ m l (arr.toList.take l.length)) (h1 : allOne l = true) (hle : l.length = arr.size) :
    Ok P ρ w0 base (fun m' A (ad : Addr) => ∃ b, ad = ⟨b, 0, none⟩ ∧ m' A = some (b, 0, arr.size)) m (nw (.cells (putL .lf 0 l) l.length e frz odd)) (newRow e arr) := fun st w A st' h hr hf => by
  obtain ⟨rfl, e2, e3⟩ := nw_eq h
  have hm : m st.next = none := hf _ (Nat.le_refl _) (by omega)
  refine ⟨⟨w.heap.size, 0, none⟩, w.alloc (.cells arr e), mset m st.next (w.heap.size, 0, arr.size), ?_, mset_ext hm, fun A h1 h2 => ?_, ?_, ⟨_, rfl, mset_same _ _ _⟩⟩
  · simp [newRow, newObj, Sem.run, pure]
  · have := mset_dom h1 h2; omega
  · rw [e2, get_upd]
    refine hr.new hm ⟨arr, 0, 0, ?_, rfl, by simp; omega, fun j x hj => ?_, fun j _ _ => by omega, fun _ _ => ⟨⟨rfl, rfl⟩, rfl, hle.symm⟩⟩
    · exact heap_new w _
    · rw [putL_get] at hj
      by_cases hin : 0 ≤ j ∧ j < 0 + l.length
      · rw [if_pos hin] at hj
        obtain ⟨v, g1, g2⟩ := hl.get (i := j - 0) hj
        refine ⟨by omega, allOne_mem h1 x (List.mem_of_getElem? hj), v, ?_, g2.ext (mset_ext hm)⟩
        simp only [Nat.zero_add]
        rw [List.getElem?_take_of_lt (by omega), Array.getElem?_toList] at g1
        exact g1
      · rw [if_neg hin] at hj; cases hj
theorem newRow_get {m : BMap} {e : TypeId} {c : CT} {n : Nat} {l : List AV} {arr : Array Value} (hc : ∀ i a, c.get i = some a → i < n ∧ l[i]? = some a) (hn : n = arr.size) (hl : LR ρ m l arr.toList) (h1 : ∀ a ∈ l, oneA a = true) :
    Ok P ρ w0 base (fun m' A (ad : Addr) => ∃ b, ad = ⟨b, 0, none⟩ ∧ m' A = some (b, 0, arr.size)) m (nw (.cells c n e 0 false)) (newRow e arr) := fun st w A st' h hr hf => by
  obtain ⟨rfl, e2, e3⟩ := nw_eq h
  have hm : m st.next = none := hf _ (Nat.le_refl _) (by omega)
  refine ⟨⟨w.heap.size, 0, none⟩, w.alloc (.cells arr e), mset m st.next (w.heap.size, 0, arr.size), ?_, mset_ext hm, fun A h1 h2 => ?_, ?_, ⟨_, rfl, mset_same _ _ _⟩⟩
  · simp [newRow, newObj, Sem.run, pure]
  · have := mset_dom h1 h2; omega
  · rw [e2, get_upd]
    refine hr.new hm ⟨arr, 0, 0, ?_, rfl, by simp; omega, fun j x hj => ?_, fun j _ _ => by omega, fun _ _ => ⟨⟨rfl, rfl⟩, rfl, hn.symm⟩⟩
    · exact heap_new w _
    · obtain ⟨q1, q2⟩ := hc j x hj
      obtain ⟨v, g1, g2⟩ := hl.get q2
      refine ⟨q1, h1 x (List.mem_of_getElem? q2), v, ?_, g2.ext (mset_ext hm)⟩
      simp only [Nat.zero_add]
      rw [Array.getElem?_toList] at g1
      exact g1
theorem newC_ok {m : BMap} {e : TypeId} {l : List AV} {arr : Array Value} (hl : LR ρ m l arr.toList) :
    Ok P ρ w0 base (fun m' A (ad : Addr) => ∃ b, ad = ⟨b, 0, none⟩ ∧ m' A = some (b, 0, arr.size)) m (newC e l) (newRow e arr) := by
  have hn : l.length = arr.size := by have := hl.length; simpa using this
  unfold newC
  refine Ok.cond (fun h1 => ?_) (fun _ => Ok.fail)
  refine newRow_ok ?_ h1 (by omega)
  rw [List.take_of_length_le (by simp; omega)]; exact hl
end
end Go.Proofs.YtbecmcjibpamoaaGreatDoor.Zz
namespace Go.Proofs.YtbecmcjibpamoaaGreatDoor.Zz
open Go Go.RowKit
section
variable {P : Program} {ρ : Nat → Value} {w0 : World} {base : Nat} {m : BMap}
theorem run_und {t : TypeId} {d : TypeDesc} (h : P.underlying t = some d) (w : World) : (underlying t).run P w = .ok d w := by
  simp [underlying, program, Sem.run, h]
theorem run_info {t : TypeId} {i : TypeInfo} (h : P.info? t = some i) (w : World) : (typeInfo t).run P w = .ok i w := by
  simp [typeInfo, program, Sem.run, h]
theorem run_size {t : TypeId} {n : Nat} (h : sizeT P t = some n) (w : World) : (Go.sizeOf t).run P w = .ok n w := by
  unfold sizeT at h
  cases hi : P.info? t with
  | none => rw [hi] at h; cases h
  | some i =>
    rw [hi] at h; cases h
    simp [Go.sizeOf, run_info hi]
theorem ofCell_ok {v : Value} {a : AV} (h : ofCell v = some a) : VR ρ m a v := by
  unfold ofCell at h
  split at h <;> cases h
  · exact .int _ _
  · exact .bool _
  · rename_i s
    have := VR.str (ρ := ρ) (m := m) s.data.toList
    simpa using this
  · exact .ptr0
  · exact .sl0
  · exact .map0
  · exact .fn0
  · exact .ifc0
theorem ofCells_ok : ∀ {r : List Value} {l : List AV}, ofCells r = some l → LR ρ m l r
  | [], l, h => by cases h; exact .nil
  | v :: r, l, h => by
    unfold ofCells at h
    cases h1 : ofCell v with
    | none => rw [h1] at h; cases h
    | some a =>
      rw [h1] at h
      simp only at h
      cases h2 : ofCells r with
      | none => rw [h2] at h; cases h
      | some l' => rw [h2] at h; cases h; exact .cons _ _ _ _ (ofCell_ok h1) (ofCells_ok h2)
theorem ofV_ok {v : Value} {a : AV} (h : ofV v = some a) : VR ρ m a v := by
  unfold ofV at h
  split at h
  · rename_i u
    cases h2 : ofCells u.toList with
    | none => rw [h2] at h; cases h
    | some l => rw [h2] at h; cases h; exact .agg _ _ (ofCells_ok h2)
  · rename_i u
    cases h2 : ofCells u.toList with
    | none => rw [h2] at h; cases h
    | some l => rw [h2] at h; cases h; exact .tup _ _ (ofCells_ok h2)
  · exact ofCell_ok h
theorem run_zero {t : TypeId} {a : AV} (h : zeroT P t = some a) : ∃ v, (∀ w, (zeroValue t).run P w = .ok v w) ∧ ∀ (ρ : Nat → Value) (m : BMap), VR ρ m a v := by
  unfold zeroT at h
  cases hi : P.info? t with
  | none => rw [hi] at h; cases h
  | some i =>
    rw [hi] at h
    simp only at h
    cases hz : i.zero with
    | none => rw [hz] at h; cases h
    | some v =>
      rw [hz] at h
      exact ⟨v, fun w => by simp [zeroValue, run_info hi, hz], fun ρ m => ofV_ok h⟩
theorem run_isAgg {t : TypeId} {b : Bool} (h : isAggT P t = some b) (w : World) : (isAgg t).run P w = .ok b w := by
  unfold isAggT at h
  cases hd : P.underlying t with
  | none => rw [hd] at h; cases h
  | some d =>
    rw [hd] at h
    cases d <;> (simp at h; subst h; simp [isAgg, run_und hd])
theorem loadT_ok {t : TypeId} {A i b d z : Nat} (hp : m A = some (b, d, z)) : Ok P ρ w0 base (VRr ρ) m (loadT P t A i) (loadVar t ⟨b, d + i, none⟩) := by
  unfold loadT
  cases hb : isAggT P t with
  | none => exact Ok.fail
  | some r =>
    cases r with
    | false => exact Ok.congr (fun w => by simp [loadVar, run_isAgg hb]) (load1_ok hp)
    | true =>
      refine Ok.opt (fun n hn => ?_)
      refine Ok.congr (s' := loadCells ⟨b, d + i, none⟩ n >>= fun x => pure (.agg x)) (fun w => by simp [loadVar, run_isAgg hb, run_size hn]) ?_
      exact Ok.bnd (Fr.loadC _ _ _) (fun _ => Fr.ret _) (loadC_ok hp) (fun l x m' _ hl => Ok.ret (fun w => rfl) (.agg _ _ hl))
theorem storeT_ok {t : TypeId} {A i b d z : Nat} {x : AV} {v : Value} (hq : Opq ρ) (hp : m A = some (b, d, z)) (hv : VR ρ m x v) : Ok P ρ w0 base (fun _ _ (_ : Unit) => True) m (storeT P t A i x) (storeVar t ⟨b, d + i, none⟩ v) := by
  unfold storeT
  refine Ok.opt (fun n hn => ?_)
  refine Ok.cond (fun hc => ?_) (fun _ => Ok.fail)
  have hl := hv.cells hq
  have hs : v.cells.size = n := by
    have := hl.length
    simp only [Nat.beq_eq] at hc
    rw [← hc, this]; simp
  refine Ok.congr (fun w => ?_) (storeC_ok hq hp hl)
  simp [storeVar, run_size hn, hs]
theorem partT_ok {t : TypeId} {l : List AV} {off : Nat} {cs : Array Value} (hl : LR ρ m l cs.toList) : Ok P ρ w0 base (VRr ρ) m (partT P t l off) (part t cs off) := by
  unfold partT
  cases hb : isAggT P t with
  | none => exact Ok.fail
  | some r =>
    cases r with
    | false =>
      refine Ok.optr (fun a ha => ?_)
      obtain ⟨v, h1, h2⟩ := hl.get ha
      rw [Array.getElem?_toList] at h1
      exact Ok.ret (fun w => by simp [part, run_isAgg hb, h1]) h2
    | true =>
      refine Ok.opt (fun n hn => ?_)
      refine Ok.ret (b := .agg (cs.extract off (off + n))) (fun w => by simp [part, run_isAgg hb, run_size hn]) (.agg _ _ ?_)
      have := (hl.drop off).take n
      rw [Array.toList_extract, List.extract_eq_drop_take]
      simpa using this
theorem wrapA_eq (k : IntKind) (n : Int) : wrapA k n = k.wrap n := by
  unfold wrapA
  cases h : inK k n with
  | false => rfl
  | true =>
    rw [cond_true]
    have e1 : (2 : Int) ^ 64 = 18446744073709551616 := by decide
    have e2 : (2 : Int) ^ 63 = 9223372036854775808 := by decide
    have e3 : (2 : Int) ^ 32 = 4294967296 := by decide
    have e4 : (2 : Int) ^ 31 = 2147483648 := by decide
    have e5 : (2 : Int) ^ 8 = 256 := by decide
    unfold inK at h
    split at h
    all_goals first | (cases h; done) | skip
    all_goals
      rw [Nat.blt_eq] at h
      simp only [IntKind.wrap, IntKind.bits, IntKind.signed, e1, e2, e3, e4, e5, Int.ofNat_eq_natCast, Nat.reduceSub, Bool.true_and, Bool.false_and, Bool.false_eq_true, if_false, decide_eq_true_eq]
      first
        | (split <;> omega)
        | omega
end
end Go.Proofs.YtbecmcjibpamoaaGreatDoor.Zz
