/- The executor: whether two states are one, and what two states have in common. -/
import Derived.Test.YtckmcajnhobkpaaGreatDoorExA
set_option linter.unusedVariables false
set_option linter.unusedSimpArgs false
set_option linter.deprecated false
namespace Go.Proofs.YtckmcajnhobkpaaGreatDoor.Zz
open Go

mutual
def eqAV : AV → AV → Bool
  | .int k n, .int k' n' => decide (k = k') && decide (n = n')
  | .bool b, .bool b' => decide (b = b')
  | .str s, .str s' => decide (s = s')
  | .ptr0, .ptr0 => true
  | .ptr A i, .ptr A' i' => Nat.beq A A' && Nat.beq i i'
  | .sl0, .sl0 => true
  | .sl A i l c z e, .sl A' i' l' c' z' e' => Nat.beq A A' && Nat.beq i i' && Nat.beq l l' && Nat.beq c c' && Nat.beq z z' && decide (e = e')
  | .map0, .map0 => true
  | .map A, .map A' => Nat.beq A A'
  | .fn f x y, .fn f' x' y' => decide (f = f') && eqAVs x x' && eqAVs y y'
  | .fn0, .fn0 => true
  | .ifc t v, .ifc t' v' => Nat.beq t t' && eqAV v v'
  | .ifc0, .ifc0 => true
  | .agg l, .agg l' => eqAVs l l'
  | .tup l, .tup l' => eqAVs l l'
  | .opq k, .opq k' => Nat.beq k k'
  | .pan v, .pan v' => eqAV v v'
  | _, _ => false
def eqAVs : List AV → List AV → Bool
  | [], [] => true
  | a :: l, b :: r => eqAV a b && eqAVs l r
  | _, _ => false
end
mutual
theorem eqAV_eq : ∀ {a b : AV}, eqAV a b = true → a = b
  | .int k n, b, h => by cases b <;> simp [eqAV] at h; simp [h]
  | .bool b0, b, h => by cases b <;> simp [eqAV] at h; simp [h]
  | .str s, b, h => by cases b <;> simp [eqAV] at h; simp [h]
  | .ptr0, b, h => by cases b <;> simp [eqAV] at h; rfl
  | .ptr A i, b, h => by cases b <;> simp [eqAV] at h; simp [h]
  | .sl0, b, h => by cases b <;> simp [eqAV] at h; rfl
  | .sl A i l c z e, b, h => by cases b <;> simp [eqAV] at h; simp [h]
  | .map0, b, h => by cases b <;> simp [eqAV] at h; rfl
  | .map A, b, h => by cases b <;> simp [eqAV] at h; simp [h]
  | .fn f x y, b, h => by
    cases b <;> simp [eqAV] at h
    obtain ⟨⟨h1, h2⟩, h3⟩ := h
    rw [h1, eqAVs_eq h2, eqAVs_eq h3]
  | .fn0, b, h => by cases b <;> simp [eqAV] at h; rfl
  | .ifc t v, b, h => by
    cases b <;> simp [eqAV] at h
    rw [h.1, eqAV_eq h.2]
  | .ifc0, b, h => by cases b <;> simp [eqAV] at h; rfl
  | .agg l, b, h => by cases b <;> simp [eqAV] at h; rw [eqAVs_eq h]
  | .tup l, b, h => by cases b <;> simp [eqAV] at h; rw [eqAVs_eq h]
  | .opq k, b, h => by cases b <;> simp [eqAV] at h; simp [h]
  | .pan v, b, h => by
    cases b <;> simp [eqAV] at h
    rw [eqAV_eq h]
theorem eqAVs_eq : ∀ {l r : List AV}, eqAVs l r = true → l = r
  | [], r, h => by cases r with | nil => rfl | cons _ _ => simp [eqAVs] at h
  | a :: l, r, h => by
    cases r with
    | nil => simp [eqAVs] at h
    | cons b r =>
      simp [eqAVs] at h
      rw [eqAV_eq h.1, eqAVs_eq h.2]
end
mutual
theorem eqAV_refl : ∀ a : AV, eqAV a a = true
  | .int k n => by simp [eqAV]
  | .bool b0 => by simp [eqAV]
  | .str s => by simp [eqAV]
  | .ptr0 => by simp [eqAV]
  | .ptr A i => by simp [eqAV]
  | .sl0 => by simp [eqAV]
  | .sl A i l c z e => by simp [eqAV]
  | .map0 => by simp [eqAV]
  | .map A => by simp [eqAV]
  | .fn f x y => by simp [eqAV, eqAVs_refl x, eqAVs_refl y]
  | .fn0 => by simp [eqAV]
  | .ifc t v => by simp [eqAV, eqAV_refl v]
  | .ifc0 => by simp [eqAV]
  | .agg l => by simp [eqAV, eqAVs_refl l]
  | .tup l => by simp [eqAV, eqAVs_refl l]
  | .opq k => by simp [eqAV]
  | .pan v => by simp [eqAV, eqAV_refl v]
theorem eqAVs_refl : ∀ l : List AV, eqAVs l l = true
  | [] => by simp [eqAVs]
  | a :: l => by simp [eqAVs, eqAV_refl a, eqAVs_refl l]
end
def eqO {α : Type} (q : α → α → Bool) : Option α → Option α → Bool
  | none, none => true
  | some a, some b => q a b
  | _, _ => false
def eqTr {α : Type} (q : α → α → Bool) : Tr α → Tr α → Bool
  | .lf, .lf => true
  | .nd v l r, .nd v' l' r' => eqO q v v' && eqTr q l l' && eqTr q r r'
  | _, _ => false
theorem eqO_eq {α : Type} {q : α → α → Bool} (h : ∀ a b, q a b = true → a = b) {x y : Option α} (e : eqO q x y = true) : x = y := by
  cases x <;> cases y <;> first | rfl | (simp [eqO] at e; done) | (simp [eqO] at e; rw [h _ _ e])
theorem eqTr_eq {α : Type} {q : α → α → Bool} (h : ∀ a b, q a b = true → a = b) : ∀ {t u : Tr α}, eqTr q t u = true → t = u
  | .lf, .lf, _ => rfl
  | .lf, .nd _ _ _, e => by simp [eqTr] at e
  | .nd _ _ _, .lf, e => by simp [eqTr] at e
  | .nd v l r, .nd v' l' r', e => by
    simp [eqTr] at e
    rw [eqO_eq h e.1.1, eqTr_eq h e.1.2, eqTr_eq h e.2]
theorem eqTr_refl {α : Type} {q : α → α → Bool} (h : ∀ a, q a a = true) : ∀ t : Tr α, eqTr q t t = true
  | .lf => rfl
  | .nd v l r => by
    have : eqO q v v = true := by cases v <;> simp [eqO, h]
    simp [eqTr, this, eqTr_refl h l, eqTr_refl h r]
def eqEnt (a b : AV × AV × Nat) : Bool := eqAV a.1 b.1 && eqAV a.2.1 b.2.1 && Nat.beq a.2.2 b.2.2
theorem eqEnt_eq {a b : AV × AV × Nat} (h : eqEnt a b = true) : a = b := by
  obtain ⟨x, y, n⟩ := a
  obtain ⟨x', y', n'⟩ := b
  simp [eqEnt] at h
  rw [eqAV_eq h.1.1, eqAV_eq h.1.2, h.2]
theorem eqEnt_refl (a : AV × AV × Nat) : eqEnt a a = true := by simp [eqEnt, eqAV_refl]
def eqEnts : List (AV × AV × Nat) → List (AV × AV × Nat) → Bool
  | [], [] => true
  | a :: l, b :: r => eqEnt a b && eqEnts l r
  | _, _ => false
theorem eqEnts_eq : ∀ {l r : List (AV × AV × Nat)}, eqEnts l r = true → l = r
  | [], [], _ => rfl
  | [], _ :: _, h => by simp [eqEnts] at h
  | _ :: _, [], h => by simp [eqEnts] at h
  | a :: l, b :: r, h => by
    simp [eqEnts] at h
    rw [eqEnt_eq h.1, eqEnts_eq h.2]
theorem eqEnts_refl : ∀ l, eqEnts l l = true
  | [] => rfl
  | a :: l => by simp [eqEnts, eqEnt_refl, eqEnts_refl l]
def eqCT (a b : CT) : Bool := eqTr eqAV a.t b.t && (eqAVs a.d b.d && (Nat.beq a.z b.z && Nat.beq a.n b.n))
theorem eqCT_eq {a b : CT} (h : eqCT a b = true) : a = b := by
  obtain ⟨t, d, z, n⟩ := a
  obtain ⟨t', d', z', n'⟩ := b
  simp only [eqCT, Bool.and_eq_true, Nat.beq_eq] at h
  rw [eqTr_eq (fun _ _ => eqAV_eq) h.1, eqAVs_eq h.2.1, h.2.2.1, h.2.2.2]
theorem eqCT_refl (a : CT) : eqCT a a = true := by simp [eqCT, eqTr_refl eqAV_refl, eqAVs_refl]
def eqBlk : ABlk → ABlk → Bool
  | .cells c n e f o, .cells c' n' e' f' o' => eqCT c c' && Nat.beq n n' && Nat.beq e e' && Nat.beq f f' && decide (o = o')
  | .map es k, .map es' k' => eqEnts es es' && Nat.beq k k'
  | .siter s p, .siter s' p' => decide (s = s') && Nat.beq p p'
  | .miter a s l k, .miter a' s' l' k' => decide (a = a') && Nat.beq s s' && decide (l = l') && Nat.beq k k'
  | .mforce a s l k c q, .mforce a' s' l' k' c' q' => decide (a = a') && Nat.beq s s' && decide (l = l') && Nat.beq k k' && eqO eqEnt c c' && Nat.beq q q'
  | .dead, .dead => true
  | .abs k, .abs k' => Nat.beq k k'
  | _, _ => false
theorem eqBlk_eq {a b : ABlk} (h : eqBlk a b = true) : a = b := by
  cases a <;> cases b <;> simp [eqBlk] at h
  case cells.cells => rw [eqCT_eq h.1.1.1.1, h.1.1.1.2, h.1.1.2, h.1.2, h.2]
  case map.map => rw [eqEnts_eq h.1, h.2]
  case siter.siter => rw [h.1, h.2]
  case miter.miter => rw [h.1.1.1, h.1.1.2, h.1.2, h.2]
  case mforce.mforce => rw [h.1.1.1.1.1, h.1.1.1.1.2, h.1.1.1.2, h.1.1.2, eqO_eq (fun _ _ => eqEnt_eq) h.1.2, h.2]
  case dead.dead => rfl
  case abs.abs => rw [h]
theorem eqBlk_refl (a : ABlk) : eqBlk a a = true := by
  cases a with
  | cells c n e f o => simp [eqBlk, eqCT_refl]
  | map es k => simp [eqBlk, eqEnts_refl]
  | siter s p => simp [eqBlk]
  | miter a s l k => simp [eqBlk]
  | mforce a s l k c q =>
    have : eqO eqEnt c c = true := by cases c <;> simp [eqO, eqEnt_refl]
    simp [eqBlk, this]
  | dead => rfl
  | abs k => simp [eqBlk]

/-- two tables, one number at a time -/
def Tr.right {α : Type} (f : Option α → Option α → Option α) : Tr α → Tr α
  | .lf => .lf
  | .nd v l r => .nd (f none v) (Tr.right f l) (Tr.right f r)
def Tr.left {α : Type} (f : Option α → Option α → Option α) : Tr α → Tr α
  | .lf => .lf
  | .nd v l r => .nd (f v none) (Tr.left f l) (Tr.left f r)
def Tr.zip {α : Type} (f : Option α → Option α → Option α) : Tr α → Tr α → Tr α
  | .lf, u => Tr.right f u
  | .nd v l r, .lf => Tr.left f (.nd v l r)
  | .nd v l r, .nd v' l' r' => .nd (f v v') (Tr.zip f l l') (Tr.zip f r r')
theorem Tr.get_right {α : Type} {f : Option α → Option α → Option α} (hf : f none none = none) : ∀ (u : Tr α) (k : Nat), (Tr.right f u).get k = f none (u.get k)
  | .lf, k => by simp [Tr.right, Tr.get, hf]
  | .nd v l r, k => by
    simp only [Tr.right, Tr.get]
    cases Nat.beq k 0 with
    | true => rfl
    | false =>
      simp only [cond_false]
      cases Nat.beq (k % 2) 1 with
      | true => exact Tr.get_right hf l _
      | false => exact Tr.get_right hf r _
theorem Tr.get_left {α : Type} {f : Option α → Option α → Option α} (hf : f none none = none) : ∀ (u : Tr α) (k : Nat), (Tr.left f u).get k = f (u.get k) none
  | .lf, k => by simp [Tr.left, Tr.get, hf]
  | .nd v l r, k => by
    simp only [Tr.left, Tr.get]
    cases Nat.beq k 0 with
    | true => rfl
    | false =>
      simp only [cond_false]
      cases Nat.beq (k % 2) 1 with
      | true => exact Tr.get_left hf l _
      | false => exact Tr.get_left hf r _
theorem Tr.get_zip {α : Type} {f : Option α → Option α → Option α} (hf : f none none = none) : ∀ (t u : Tr α) (k : Nat), (Tr.zip f t u).get k = f (t.get k) (u.get k)
  | .lf, u, k => by rw [Tr.zip, Tr.get_right hf]; rfl
  | .nd v l r, .lf, k => by rw [Tr.zip, Tr.get_left hf]; rfl
  | .nd v l r, .nd v' l' r', k => by
    simp only [Tr.zip, Tr.get]
    cases Nat.beq k 0 with
    | true => rfl
    | false =>
      simp only [cond_false]
      cases Nat.beq (k % 2) 1 with
      | true => exact Tr.get_zip hf l l' _
      | false => exact Tr.get_zip hf r r' _
/-- a block that is the same in both -/
def bothB : Option ABlk → Option ABlk → Option ABlk
  | some a, some b => bif eqBlk a b then some a else none
  | _, _ => none
/-- a temporary: what it is in both, or that it is not known -/
def bothT : Option (Option AV) → Option (Option AV) → Option (Option AV)
  | none, none => none
  | some (some a), some (some b) => bif eqAV a b then some (some a) else some none
  | _, _ => some none
def exEq : Exit → Exit → Bool
  | .normal, .normal => true
  | .ret, .ret => true
  | .exit i, .exit j => Nat.beq i j
  | _, _ => false
theorem exEq_eq {x y : Exit} (h : exEq x y = true) : x = y := by
  cases x <;> cases y <;> simp [exEq] at h <;> first | rfl | rw [h]
/-- two runs from one state: what both come to -/
def join2 (x y : M (Exit × Tm)) : M (Exit × Tm) := fun s => match x s with
  | none => none
  | some ((ex, t), s1) => match y ⟨s.heap, s.next, s1.log⟩ with
    | none => none
    | some ((ex2, t2), s2) => bif exEq ex ex2 && eqAVs t.d t2.d && (t.p.isNone && t2.p.isNone) then some ((ex, ⟨Tr.zip bothT t.t t2.t, t.d, none⟩), ⟨Tr.zip bothB s1.heap s2.heap, bif Nat.ble s1.next s2.next then s2.next else s1.next, s2.log⟩) else none
def joinAll (x : M (Exit × Tm)) : List (M (Exit × Tm)) → M (Exit × Tm)
  | [] => x
  | y :: l => join2 x (joinAll y l)
end Go.Proofs.YtckmcajnhobkpaaGreatDoor.Zz
