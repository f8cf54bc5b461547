/- ExA ExM ExB ExF -/
import Derived.Orders
import Derived.Scope
import Derived.KernelRfl
set_option linter.unusedVariables false
set_option linter.unusedSimpArgs false
set_option linter.deprecated false
set_option linter.unnecessarySimpa false
namespace Go.Proofs.YtbecmcjibpamoaaGreatDoor.Zz
open Go
inductive Tr (α : Type) where
  | lf
  | nd (v : Option α) (l r : Tr α)
def Tr.get {α : Type} : Tr α → Nat → Option α
  | .lf, _ => none
  | .nd v l r, n => bif Nat.beq n 0 then v else bif Nat.beq (n % 2) 1 then l.get (n / 2) else r.get (n / 2 - 1)
def Tr.ins {α : Type} (x : α) : Nat → Tr α → Nat → Tr α
  | 0, t, _ => t
  | f + 1, .lf, n => bif Nat.beq n 0 then .nd (some x) .lf .lf else bif Nat.beq (n % 2) 1 then .nd none (Tr.ins x f .lf (n / 2)) .lf else .nd none .lf (Tr.ins x f .lf (n / 2 - 1))
  | f + 1, .nd v l r, n => bif Nat.beq n 0 then .nd (some x) l r else bif Nat.beq (n % 2) 1 then .nd v (Tr.ins x f l (n / 2)) r else .nd v l (Tr.ins x f r (n / 2 - 1))
def Tr.put {α : Type} (t : Tr α) (n : Nat) (x : α) : Tr α := Tr.ins x (n + 1) t n
structure T16 (β : Type) where
  a0 : β
  a1 : β
  a2 : β
  a3 : β
  a4 : β
  a5 : β
  a6 : β
  a7 : β
  a8 : β
  a9 : β
  a10 : β
  a11 : β
  a12 : β
  a13 : β
  a14 : β
  a15 : β
def xnth {α : Type} (l : List α) (i : Nat) : Option α :=
  @Nat.rec (fun _ => List α → Option α) (fun l => @List.casesOn α (fun _ => Option α) l none (fun a _ => some a)) (fun _ ih l => @List.casesOn α (fun _ => Option α) l none (fun _ r => ih r)) i l
def T16.sels {β : Type} : List (T16 β → β) := [fun t => t.a1, fun t => t.a2, fun t => t.a3, fun t => t.a4, fun t => t.a5, fun t => t.a6, fun t => t.a7, fun t => t.a8, fun t => t.a9, fun t => t.a10, fun t => t.a11, fun t => t.a12, fun t => t.a13, fun t => t.a14, fun t => t.a15]
def T16.sets {β : Type} : List (T16 β → β → T16 β) := [fun t x => @T16.casesOn β (fun _ => T16 β) t (fun a0 _ a2 a3 a4 a5 a6 a7 a8 a9 a10 a11 a12 a13 a14 a15 => ⟨a0, x, a2, a3, a4, a5, a6, a7, a8, a9, a10, a11, a12, a13, a14, a15⟩), fun t x => @T16.casesOn β (fun _ => T16 β) t (fun a0 a1 _ a3 a4 a5 a6 a7 a8 a9 a10 a11 a12 a13 a14 a15 => ⟨a0, a1, x, a3, a4, a5, a6, a7, a8, a9, a10, a11, a12, a13, a14, a15⟩), fun t x => @T16.casesOn β (fun _ => T16 β) t (fun a0 a1 a2 _ a4 a5 a6 a7 a8 a9 a10 a11 a12 a13 a14 a15 => ⟨a0, a1, a2, x, a4, a5, a6, a7, a8, a9, a10, a11, a12, a13, a14, a15⟩), fun t x => @T16.casesOn β (fun _ => T16 β) t (fun a0 a1 a2 a3 _ a5 a6 a7 a8 a9 a10 a11 a12 a13 a14 a15 => ⟨a0, a1, a2, a3, x, a5, a6, a7, a8, a9, a10, a11, a12, a13, a14, a15⟩), fun t x => @T16.casesOn β (fun _ => T16 β) t (fun a0 a1 a2 a3 a4 _ a6 a7 a8 a9 a10 a11 a12 a13 a14 a15 => ⟨a0, a1, a2, a3, a4, x, a6, a7, a8, a9, a10, a11, a12, a13, a14, a15⟩), fun t x => @T16.casesOn β (fun _ => T16 β) t (fun a0 a1 a2 a3 a4 a5 _ a7 a8 a9 a10 a11 a12 a13 a14 a15 => ⟨a0, a1, a2, a3, a4, a5, x, a7, a8, a9, a10, a11, a12, a13, a14, a15⟩), fun t x => @T16.casesOn β (fun _ => T16 β) t (fun a0 a1 a2 a3 a4 a5 a6 _ a8 a9 a10 a11 a12 a13 a14 a15 => ⟨a0, a1, a2, a3, a4, a5, a6, x, a8, a9, a10, a11, a12, a13, a14, a15⟩), fun t x => @T16.casesOn β (fun _ => T16 β) t (fun a0 a1 a2 a3 a4 a5 a6 a7 _ a9 a10 a11 a12 a13 a14 a15 => ⟨a0, a1, a2, a3, a4, a5, a6, a7, x, a9, a10, a11, a12, a13, a14, a15⟩), fun t x => @T16.casesOn β (fun _ => T16 β) t (fun a0 a1 a2 a3 a4 a5 a6 a7 a8 _ a10 a11 a12 a13 a14 a15 => ⟨a0, a1, a2, a3, a4, a5, a6, a7, a8, x, a10, a11, a12, a13, a14, a15⟩), fun t x => @T16.casesOn β (fun _ => T16 β) t (fun a0 a1 a2 a3 a4 a5 a6 a7 a8 a9 _ a11 a12 a13 a14 a15 => ⟨a0, a1, a2, a3, a4, a5, a6, a7, a8, a9, x, a11, a12, a13, a14, a15⟩), fun t x => @T16.casesOn β (fun _ => T16 β) t (fun a0 a1 a2 a3 a4 a5 a6 a7 a8 a9 a10 _ a12 a13 a14 a15 => ⟨a0, a1, a2, a3, a4, a5, a6, a7, a8, a9, a10, x, a12, a13, a14, a15⟩), fun t x => @T16.casesOn β (fun _ => T16 β) t (fun a0 a1 a2 a3 a4 a5 a6 a7 a8 a9 a10 a11 _ a13 a14 a15 => ⟨a0, a1, a2, a3, a4, a5, a6, a7, a8, a9, a10, a11, x, a13, a14, a15⟩), fun t x => @T16.casesOn β (fun _ => T16 β) t (fun a0 a1 a2 a3 a4 a5 a6 a7 a8 a9 a10 a11 a12 _ a14 a15 => ⟨a0, a1, a2, a3, a4, a5, a6, a7, a8, a9, a10, a11, a12, x, a14, a15⟩), fun t x => @T16.casesOn β (fun _ => T16 β) t (fun a0 a1 a2 a3 a4 a5 a6 a7 a8 a9 a10 a11 a12 a13 _ a15 => ⟨a0, a1, a2, a3, a4, a5, a6, a7, a8, a9, a10, a11, a12, a13, x, a15⟩), fun t x => @T16.casesOn β (fun _ => T16 β) t (fun a0 a1 a2 a3 a4 a5 a6 a7 a8 a9 a10 a11 a12 a13 a14 _ => ⟨a0, a1, a2, a3, a4, a5, a6, a7, a8, a9, a10, a11, a12, a13, a14, x⟩)]
def T16.get {β : Type} (t : T16 β) (k : Nat) : β := @Nat.casesOn (fun _ => β) k t.a0 (fun j => @Option.casesOn (T16 β → β) (fun _ => β) (xnth T16.sels j) t.a0 (fun g => g t))
def T16.set0 {β : Type} (t : T16 β) (x : β) : T16 β := @T16.casesOn β (fun _ => T16 β) t (fun _ a1 a2 a3 a4 a5 a6 a7 a8 a9 a10 a11 a12 a13 a14 a15 => ⟨x, a1, a2, a3, a4, a5, a6, a7, a8, a9, a10, a11, a12, a13, a14, a15⟩)
def T16.set {β : Type} (t : T16 β) (k : Nat) (x : β) : T16 β := @Nat.casesOn (fun _ => T16 β) k (t.set0 x) (fun j => @Option.casesOn (T16 β → β → T16 β) (fun _ => T16 β) (xnth T16.sets j) t (fun g => g t x))
def T16.all {β : Type} (x : β) : T16 β := ⟨x, x, x, x, x, x, x, x, x, x, x, x, x, x, x, x⟩
def T16.zip {β γ δ : Type} (f : β → γ → δ) (x : T16 β) (y : T16 γ) : T16 δ := ⟨f x.a0 y.a0, f x.a1 y.a1, f x.a2 y.a2, f x.a3 y.a3, f x.a4 y.a4, f x.a5 y.a5, f x.a6 y.a6, f x.a7 y.a7, f x.a8 y.a8, f x.a9 y.a9, f x.a10 y.a10, f x.a11 y.a11, f x.a12 y.a12, f x.a13 y.a13, f x.a14 y.a14, f x.a15 y.a15⟩
theorem xnth_nil {α : Type} (n : Nat) : xnth ([] : List α) n = none := by cases n <;> rfl
theorem T16.sels_none {β : Type} (n : Nat) : xnth (T16.sels (β := β)) (n + 15) = none := (show xnth (T16.sels (β := β)) (n + 15) = xnth [] n from rfl).trans (xnth_nil n)
theorem T16.get_far {β : Type} (t : T16 β) (n : Nat) : t.get (n + 16) = t.a0 := by
  show @Option.casesOn (T16 β → β) (fun _ => β) (xnth T16.sels (n + 15)) t.a0 (fun g => g t) = t.a0
  rw [T16.sels_none]
theorem T16.get_all {β : Type} (x : β) (k : Nat) : (T16.all x).get k = x :=
  match k with
  | 0 | 1 | 2 | 3 | 4 | 5 | 6 | 7 | 8 | 9 | 10 | 11 | 12 | 13 | 14 | 15 => rfl
  | n + 16 => T16.get_far _ n
theorem T16.get_zip {β γ δ : Type} (f : β → γ → δ) (x : T16 β) (y : T16 γ) (k : Nat) : (T16.zip f x y).get k = f (x.get k) (y.get k) :=
  match k with
  | 0 | 1 | 2 | 3 | 4 | 5 | 6 | 7 | 8 | 9 | 10 | 11 | 12 | 13 | 14 | 15 => rfl
  | n + 16 => by rw [T16.get_far, T16.get_far, T16.get_far]; rfl
theorem T16.get_same {β : Type} (t : T16 β) (k : Nat) (x : β) (h : k < 16) : (t.set k x).get k = x :=
  match k, h with
  | 0, _ => rfl
  | 1, _ => rfl
  | 2, _ => rfl
  | 3, _ => rfl
  | 4, _ => rfl
  | 5, _ => rfl
  | 6, _ => rfl
  | 7, _ => rfl
  | 8, _ => rfl
  | 9, _ => rfl
  | 10, _ => rfl
  | 11, _ => rfl
  | 12, _ => rfl
  | 13, _ => rfl
  | 14, _ => rfl
  | 15, _ => rfl
  | n + 16, h => absurd h (by omega)
theorem T16.get_other {β : Type} (t : T16 β) (k : Nat) (x : β) (j : Nat) (h : k < 16) (hj : j < 16) (hne : j ≠ k) : (t.set k x).get j = t.get j :=
  match k, h with
  | 0, _ => match j, hj, hne with
    | 0, _, e => absurd rfl e
    | 1, _, _ => rfl
    | 2, _, _ => rfl
    | 3, _, _ => rfl
    | 4, _, _ => rfl
    | 5, _, _ => rfl
    | 6, _, _ => rfl
    | 7, _, _ => rfl
    | 8, _, _ => rfl
    | 9, _, _ => rfl
    | 10, _, _ => rfl
    | 11, _, _ => rfl
    | 12, _, _ => rfl
    | 13, _, _ => rfl
    | 14, _, _ => rfl
    | 15, _, _ => rfl
    | n + 16, h, _ => absurd h (by omega)
  | 1, _ => match j, hj, hne with
    | 0, _, _ => rfl
    | 1, _, e => absurd rfl e
    | 2, _, _ => rfl
    | 3, _, _ => rfl
    | 4, _, _ => rfl
    | 5, _, _ => rfl
    | 6, _, _ => rfl
    | 7, _, _ => rfl
    | 8, _, _ => rfl
    | 9, _, _ => rfl
    | 10, _, _ => rfl
    | 11, _, _ => rfl
    | 12, _, _ => rfl
    | 13, _, _ => rfl
    | 14, _, _ => rfl
    | 15, _, _ => rfl
    | n + 16, h, _ => absurd h (by omega)
  | 2, _ => match j, hj, hne with
    | 0, _, _ => rfl
    | 1, _, _ => rfl
    | 2, _, e => absurd rfl e
    | 3, _, _ => rfl
    | 4, _, _ => rfl
    | 5, _, _ => rfl
    | 6, _, _ => rfl
    | 7, _, _ => rfl
    | 8, _, _ => rfl
    | 9, _, _ => rfl
    | 10, _, _ => rfl
    | 11, _, _ => rfl
    | 12, _, _ => rfl
    | 13, _, _ => rfl
    | 14, _, _ => rfl
    | 15, _, _ => rfl
    | n + 16, h, _ => absurd h (by omega)
  | 3, _ => match j, hj, hne with
    | 0, _, _ => rfl
    | 1, _, _ => rfl
    | 2, _, _ => rfl
    | 3, _, e => absurd rfl e
    | 4, _, _ => rfl
    | 5, _, _ => rfl
    | 6, _, _ => rfl
    | 7, _, _ => rfl
    | 8, _, _ => rfl
    | 9, _, _ => rfl
    | 10, _, _ => rfl
    | 11, _, _ => rfl
    | 12, _, _ => rfl
    | 13, _, _ => rfl
    | 14, _, _ => rfl
    | 15, _, _ => rfl
    | n + 16, h, _ => absurd h (by omega)
  | 4, _ => match j, hj, hne with
    | 0, _, _ => rfl
    | 1, _, _ => rfl
    | 2, _, _ => rfl
    | 3, _, _ => rfl
    | 4, _, e => absurd rfl e
    | 5, _, _ => rfl
    | 6, _, _ => rfl
    | 7, _, _ => rfl
    | 8, _, _ => rfl
    | 9, _, _ => rfl
    | 10, _, _ => rfl
    | 11, _, _ => rfl
    | 12, _, _ => rfl
    | 13, _, _ => rfl
    | 14, _, _ => rfl
    | 15, _, _ => rfl
    | n + 16, h, _ => absurd h (by omega)
  | 5, _ => match j, hj, hne with
    | 0, _, _ => rfl
    | 1, _, _ => rfl
    | 2, _, _ => rfl
    | 3, _, _ => rfl
    | 4, _, _ => rfl
    | 5, _, e => absurd rfl e
    | 6, _, _ => rfl
    | 7, _, _ => rfl
    | 8, _, _ => rfl
    | 9, _, _ => rfl
    | 10, _, _ => rfl
    | 11, _, _ => rfl
    | 12, _, _ => rfl
    | 13, _, _ => rfl
    | 14, _, _ => rfl
    | 15, _, _ => rfl
    | n + 16, h, _ => absurd h (by omega)
  | 6, _ => match j, hj, hne with
    | 0, _, _ => rfl
    | 1, _, _ => rfl
    | 2, _, _ => rfl
    | 3, _, _ => rfl
    | 4, _, _ => rfl
    | 5, _, _ => rfl
    | 6, _, e => absurd rfl e
    | 7, _, _ => rfl
    | 8, _, _ => rfl
    | 9, _, _ => rfl
    | 10, _, _ => rfl
    | 11, _, _ => rfl
    | 12, _, _ => rfl
    | 13, _, _ => rfl
    | 14, _, _ => rfl
    | 15, _, _ => rfl
    | n + 16, h, _ => absurd h (by omega)
  | 7, _ => match j, hj, hne with
    | 0, _, _ => rfl
    | 1, _, _ => rfl
    | 2, _, _ => rfl
    | 3, _, _ => rfl
    | 4, _, _ => rfl
    | 5, _, _ => rfl
    | 6, _, _ => rfl
    | 7, _, e => absurd rfl e
    | 8, _, _ => rfl
    | 9, _, _ => rfl
    | 10, _, _ => rfl
    | 11, _, _ => rfl
    | 12, _, _ => rfl
    | 13, _, _ => rfl
    | 14, _, _ => rfl
    | 15, _, _ => rfl
    | n + 16, h, _ => absurd h (by omega)
  | 8, _ => match j, hj, hne with
    | 0, _, _ => rfl
    | 1, _, _ => rfl
    | 2, _, _ => rfl
    | 3, _, _ => rfl
    | 4, _, _ => rfl
    | 5, _, _ => rfl
    | 6, _, _ => rfl
    | 7, _, _ => rfl
    | 8, _, e => absurd rfl e
    | 9, _, _ => rfl
    | 10, _, _ => rfl
    | 11, _, _ => rfl
    | 12, _, _ => rfl
    | 13, _, _ => rfl
    | 14, _, _ => rfl
    | 15, _, _ => rfl
    | n + 16, h, _ => absurd h (by omega)
  | 9, _ => match j, hj, hne with
    | 0, _, _ => rfl
    | 1, _, _ => rfl
    | 2, _, _ => rfl
    | 3, _, _ => rfl
    | 4, _, _ => rfl
    | 5, _, _ => rfl
    | 6, _, _ => rfl
    | 7, _, _ => rfl
    | 8, _, _ => rfl
    | 9, _, e => absurd rfl e
    | 10, _, _ => rfl
    | 11, _, _ => rfl
    | 12, _, _ => rfl
    | 13, _, _ => rfl
    | 14, _, _ => rfl
    | 15, _, _ => rfl
    | n + 16, h, _ => absurd h (by omega)
  | 10, _ => match j, hj, hne with
    | 0, _, _ => rfl
    | 1, _, _ => rfl
    | 2, _, _ => rfl
    | 3, _, _ => rfl
    | 4, _, _ => rfl
    | 5, _, _ => rfl
    | 6, _, _ => rfl
    | 7, _, _ => rfl
    | 8, _, _ => rfl
    | 9, _, _ => rfl
    | 10, _, e => absurd rfl e
    | 11, _, _ => rfl
    | 12, _, _ => rfl
    | 13, _, _ => rfl
    | 14, _, _ => rfl
    | 15, _, _ => rfl
    | n + 16, h, _ => absurd h (by omega)
  | 11, _ => match j, hj, hne with
    | 0, _, _ => rfl
    | 1, _, _ => rfl
    | 2, _, _ => rfl
    | 3, _, _ => rfl
    | 4, _, _ => rfl
    | 5, _, _ => rfl
    | 6, _, _ => rfl
    | 7, _, _ => rfl
    | 8, _, _ => rfl
    | 9, _, _ => rfl
    | 10, _, _ => rfl
    | 11, _, e => absurd rfl e
    | 12, _, _ => rfl
    | 13, _, _ => rfl
    | 14, _, _ => rfl
    | 15, _, _ => rfl
    | n + 16, h, _ => absurd h (by omega)
  | 12, _ => match j, hj, hne with
    | 0, _, _ => rfl
    | 1, _, _ => rfl
    | 2, _, _ => rfl
    | 3, _, _ => rfl
    | 4, _, _ => rfl
    | 5, _, _ => rfl
    | 6, _, _ => rfl
    | 7, _, _ => rfl
    | 8, _, _ => rfl
    | 9, _, _ => rfl
    | 10, _, _ => rfl
    | 11, _, _ => rfl
    | 12, _, e => absurd rfl e
    | 13, _, _ => rfl
    | 14, _, _ => rfl
    | 15, _, _ => rfl
    | n + 16, h, _ => absurd h (by omega)
  | 13, _ => match j, hj, hne with
    | 0, _, _ => rfl
    | 1, _, _ => rfl
    | 2, _, _ => rfl
    | 3, _, _ => rfl
    | 4, _, _ => rfl
    | 5, _, _ => rfl
    | 6, _, _ => rfl
    | 7, _, _ => rfl
    | 8, _, _ => rfl
    | 9, _, _ => rfl
    | 10, _, _ => rfl
    | 11, _, _ => rfl
    | 12, _, _ => rfl
    | 13, _, e => absurd rfl e
    | 14, _, _ => rfl
    | 15, _, _ => rfl
    | n + 16, h, _ => absurd h (by omega)
  | 14, _ => match j, hj, hne with
    | 0, _, _ => rfl
    | 1, _, _ => rfl
    | 2, _, _ => rfl
    | 3, _, _ => rfl
    | 4, _, _ => rfl
    | 5, _, _ => rfl
    | 6, _, _ => rfl
    | 7, _, _ => rfl
    | 8, _, _ => rfl
    | 9, _, _ => rfl
    | 10, _, _ => rfl
    | 11, _, _ => rfl
    | 12, _, _ => rfl
    | 13, _, _ => rfl
    | 14, _, e => absurd rfl e
    | 15, _, _ => rfl
    | n + 16, h, _ => absurd h (by omega)
  | 15, _ => match j, hj, hne with
    | 0, _, _ => rfl
    | 1, _, _ => rfl
    | 2, _, _ => rfl
    | 3, _, _ => rfl
    | 4, _, _ => rfl
    | 5, _, _ => rfl
    | 6, _, _ => rfl
    | 7, _, _ => rfl
    | 8, _, _ => rfl
    | 9, _, _ => rfl
    | 10, _, _ => rfl
    | 11, _, _ => rfl
    | 12, _, _ => rfl
    | 13, _, _ => rfl
    | 14, _, _ => rfl
    | 15, _, e => absurd rfl e
    | n + 16, h, _ => absurd h (by omega)
  | n + 16, h => absurd h (by omega)
structure Hp (α : Type) where
  a : T16 (Option α)
  b : T16 (T16 (Option α))
  c : T16 (T16 (T16 (Option α)))
  d : T16 (T16 (T16 (T16 (Option α))))
  h : Tr α
def Hp.lf {α : Type} : Hp α := ⟨.all none, .all (.all none), .all (.all (.all none)), .all (.all (.all (.all none))), .lf⟩
def Hp.get {α : Type} (t : Hp α) (n : Nat) : Option α := @Hp.casesOn α (fun _ => Option α) t (fun a b c d h =>
  @Bool.casesOn (fun _ => Option α) (Nat.ble n 15)
    (@Bool.casesOn (fun _ => Option α) (Nat.ble n 255)
      (@Bool.casesOn (fun _ => Option α) (Nat.ble n 4095)
        (@Bool.casesOn (fun _ => Option α) (Nat.ble n 65535) (h.get n) ((((d.get (Nat.div n 4096)).get (Nat.mod (Nat.div n 256) 16)).get (Nat.mod (Nat.div n 16) 16)).get (Nat.mod n 16)))
        (((c.get (Nat.div n 256)).get (Nat.mod (Nat.div n 16) 16)).get (Nat.mod n 16)))
      ((b.get (Nat.div n 16)).get (Nat.mod n 16)))
    (a.get n))
def T16.put2 {β : Type} (t : T16 (T16 β)) (i j : Nat) (x : β) : T16 (T16 β) := t.set i ((t.get i).set j x)
def T16.put3 {β : Type} (t : T16 (T16 (T16 β))) (i j k : Nat) (x : β) : T16 (T16 (T16 β)) := t.set i ((t.get i).put2 j k x)
def T16.put4 {β : Type} (t : T16 (T16 (T16 (T16 β)))) (i j k l : Nat) (x : β) : T16 (T16 (T16 (T16 β))) := t.set i ((t.get i).put3 j k l x)
def Hp.put {α : Type} (t : Hp α) (n : Nat) (x : α) : Hp α := @Hp.casesOn α (fun _ => Hp α) t (fun a b c d h =>
  @Bool.casesOn (fun _ => Hp α) (Nat.ble n 15)
    (@Bool.casesOn (fun _ => Hp α) (Nat.ble n 255)
      (@Bool.casesOn (fun _ => Hp α) (Nat.ble n 4095)
        (@Bool.casesOn (fun _ => Hp α) (Nat.ble n 65535) ⟨a, b, c, d, h.put n x⟩ ⟨a, b, c, d.put4 (Nat.div n 4096) (Nat.mod (Nat.div n 256) 16) (Nat.mod (Nat.div n 16) 16) (Nat.mod n 16) (some x), h⟩)
        ⟨a, b, c.put3 (Nat.div n 256) (Nat.mod (Nat.div n 16) 16) (Nat.mod n 16) (some x), d, h⟩)
      ⟨a, b.put2 (Nat.div n 16) (Nat.mod n 16) (some x), c, d, h⟩)
    ⟨a.set n (some x), b, c, d, h⟩)
inductive AV where
  | int (k : IntKind) (n : Int)
  | bool (b : Bool)
  | str (s : List UInt8)
  | ptr0
  | ptr (A i : Nat)
  | sl0
  | sl (A i len cap sz : Nat) (ex : Bool)
  | map0
  | map (A : Nat)
  | fn (f : Fn) (first cap : List AV)
  | fn0
  | ifc (t : TypeId) (v : AV)
  | ifc0
  | agg (l : List AV)
  | tup (l : List AV)
  | opq (k : Nat)
  | pan (v : AV)
structure CT where
  t : Tr AV
  d : List AV
  z : Nat
  n : Nat
def nthL : List AV → Nat → Option AV
  | [], _ => none
  | a :: l, i => bif Nat.beq i 0 then some a else nthL l (i - 1)
def CT.get (c : CT) (k : Nat) : Option AV := match c.t.get k with
  | some v => some v
  | none => bif Nat.blt k c.n then nthL c.d (k % c.z) else none
def CT.put (c : CT) (k : Nat) (x : AV) : CT := ⟨c.t.put k x, c.d, c.z, c.n⟩
def CT.lf : CT := ⟨.lf, [], 0, 0⟩
inductive ABlk where
  | cells (c : CT) (n : Nat) (e : TypeId) (frz : Nat) (odd : Bool)
  | map (es : List (AV × AV × Nat)) (clk : Nat)
  | siter (s : List UInt8) (pos : Nat)
  | miter (a : Option Nat) (since : Nat) (seen : List Nat) (last : Nat)
  | mforce (a : Option Nat) (since : Nat) (seen : List Nat) (last : Nat) (c : Option (AV × AV × Nat)) (clk : Nat)
  | dead
  | abs (k : Nat)
structure ASt where
  heap : Hp ABlk
  next : Nat
  log : List Nat
abbrev M (α : Type) := ASt → Option (α × ASt)
def fail {α : Type} : M α := fun _ => none
def ret {α : Type} (a : α) : M α := fun s => some (a, s)
def bnd {α β : Type} (x : M α) (f : α → M β) : M β := fun s => match x s with
  | none => none
  | some (a, s') => f a s'
def opt {α : Type} : Option α → M α
  | none => fail
  | some a => ret a
def rd (A : Nat) : M ABlk := fun s => match s.heap.get A with
  | some b => some (b, ⟨s.heap, s.next, (2 * A) :: s.log⟩)
  | none => none
def wr (A : Nat) (b : ABlk) : M Unit := fun s => match s.heap.get A with
  | some _ => some ((), ⟨s.heap.put A b, s.next, (2 * A + 1) :: s.log⟩)
  | none => none
def nw (b : ABlk) : M Nat := fun s => some (s.next, ⟨s.heap.put s.next b, s.next + 1, (2 * s.next + 1) :: s.log⟩)
def ofCell : Value → Option AV
  | .int k n => some (.int k n)
  | .bool b => some (.bool b)
  | .string s => some (.str s.data.toList)
  | .pointer none => some .ptr0
  | .slice none 0 0 => some .sl0
  | .map none => some .map0
  | .nilFunc => some .fn0
  | .nilIface => some .ifc0
  | _ => none
def ofCells : List Value → Option (List AV)
  | [] => some []
  | v :: l => match ofCell v with
    | some a => match ofCells l with
      | some r => some (a :: r)
      | none => none
    | none => none
def ofV : Value → Option AV
  | .agg l => match ofCells l.toList with
    | some r => some (.agg r)
    | none => none
  | .tuple l => match ofCells l.toList with
    | some r => some (.tup r)
    | none => none
  | v => ofCell v
def cellsA : AV → List AV
  | .agg l => l
  | v => [v]
def oneA : AV → Bool
  | .agg _ | .tup _ => false
  | _ => true
def allOne : List AV → Bool
  | [] => true
  | v :: l => oneA v && allOne l
def getN (c : CT) : Nat → Nat → Option (List AV)
  | _, 0 => some []
  | i, k + 1 => match c.get i with
    | some v => match getN c (i + 1) k with
      | some l => some (v :: l)
      | none => none
    | none => none
def putL (c : CT) : Nat → List AV → CT
  | _, [] => c
  | i, v :: l => putL (c.put i v) (i + 1) l
def undefA : AV := .tup []
structure Tm where
  t : Hp (Option AV)
  d : List AV
  p : Option AV
def Tm.get (tm : Tm) (n : Nat) : Option (Option AV) := tm.t.get n
def Tm.put (tm : Tm) (n : Nat) (x : Option AV) : Tm := ⟨tm.t.put n x, tm.d, tm.p⟩
def Tm.nil : Tm := ⟨.lf, [], none⟩
def aval (tm : Tm) : Operand → Option AV
  | .tmp t => match tm.get t with
    | some x => x
    | none => some undefA
  | .const v => ofV v
  | .global _ => none
  | .func f => some (.fn (.func f) [] [])
def avals (tm : Tm) : List Operand → Option (List AV)
  | [] => some []
  | x :: l => match aval tm x with
    | some a => match avals tm l with
      | some r => some (a :: r)
      | none => none
    | none => none
def loadC (A i k : Nat) : M (List AV) := bnd (rd A) fun b => match b with
  | .cells c _ _ _ _ => opt (getN c i k)
  | _ => fail
def load1 (A i : Nat) : M AV := bnd (rd A) fun b => match b with
  | .cells c _ _ _ _ => opt (c.get i)
  | _ => fail
def storeC (A i : Nat) (l : List AV) : M Unit := bnd (rd A) fun b => match b with
  | .cells c n e frz odd => bif Nat.ble frz i && Nat.ble (i + l.length) n && allOne l then wr A (.cells (putL c i l) n e frz odd) else fail
  | _ => fail
def newC (e : TypeId) (l : List AV) : M Nat := bif allOne l then nw (.cells (putL .lf 0 l) l.length e 0 false) else fail
def newR (e : TypeId) (d : List AV) (k : Nat) : M Nat := bif allOne d then nw (.cells ⟨.lf, d, d.length, k * d.length⟩ (k * d.length) e 0 false) else fail
def newS (e : TypeId) (l : List AV) : M Nat := bif allOne l then nw (.cells (putL .lf 0 l) l.length e 0 true) else fail
def isAggT (P : Program) (t : TypeId) : Option Bool := match P.underlying t with
  | some (.struct _) | some (.array _ _) => some true
  | some _ => some false
  | none => none
def sizeT (P : Program) (t : TypeId) : Option Nat := match P.info? t with
  | some i => some i.size
  | none => none
def zeroT (P : Program) (t : TypeId) : Option AV := match P.info? t with
  | some i => match i.zero with
    | some v => ofV v
    | none => none
  | none => none
def loadT (P : Program) (t : TypeId) (A i : Nat) : M AV := match isAggT P t with
  | some true => bnd (opt (sizeT P t)) fun n => bnd (loadC A i n) fun l => ret (.agg l)
  | some false => load1 A i
  | none => fail
def storeT (P : Program) (t : TypeId) (A i : Nat) (v : AV) : M Unit := bnd (opt (sizeT P t)) fun n =>
  bif Nat.beq (cellsA v).length n then storeC A i (cellsA v) else fail
def partT (P : Program) (t : TypeId) (l : List AV) (off : Nat) : M AV := match isAggT P t with
  | some true => bnd (opt (sizeT P t)) fun n => ret (.agg ((l.drop off).take n))
  | some false => opt (l[off]?)
  | none => fail
def inK (k : IntKind) (n : Int) : Bool := match k, n with
  | .i64, .ofNat m => Nat.blt m 9223372036854775808
  | .i64, .negSucc m => Nat.blt m 9223372036854775808
  | .u8, .ofNat m => Nat.blt m 256
  | .i32, .ofNat m => Nat.blt m 2147483648
  | .u64, .ofNat m => Nat.blt m 18446744073709551616
  | .u32, .ofNat m => Nat.blt m 4294967296
  | _, _ => false
def wrapA (k : IntKind) (n : Int) : Int := bif inK k n then n else k.wrap n
def eqB : List UInt8 → List UInt8 → Bool
  | [], [] => true
  | a :: l, b :: r => Nat.beq a.toNat b.toNat && eqB l r
  | _, _ => false
def eqInt : Int → Int → Bool
  | .ofNat a, .ofNat b => Nat.beq a b
  | .negSucc a, .negSucc b => Nat.beq a b
  | _, _ => false
def intA (op : BinOp) (k : IntKind) (x y : Int) : Option AV := match op with
  | .add => some (.int k (wrapA k (x + y)))
  | .sub => some (.int k (wrapA k (x - y)))
  | .mul => some (.int k (wrapA k (x * y)))
  | .quo => bif eqInt y 0 then none else some (.int k (wrapA k (x.tdiv y)))
  | .rem => bif eqInt y 0 then none else some (.int k (x.tmod y))
  | .and => some (.int k (k.wrap (BitVec.ofInt k.bits x &&& BitVec.ofInt k.bits y).toNat))
  | .or => some (.int k (k.wrap (BitVec.ofInt k.bits x ||| BitVec.ofInt k.bits y).toNat))
  | .xor => some (.int k (k.wrap (BitVec.ofInt k.bits x ^^^ BitVec.ofInt k.bits y).toNat))
  | .andNot => some (.int k (k.wrap (BitVec.ofInt k.bits x &&& ~~~ BitVec.ofInt k.bits y).toNat))
  | .eql => some (.bool (x == y))
  | .neq => some (.bool (x != y))
  | .lss => some (.bool (decide (x < y)))
  | .leq => some (.bool (decide (x ≤ y)))
  | .gtr => some (.bool (decide (x > y)))
  | .geq => some (.bool (decide (x ≥ y)))
  | _ => none
def shiftA (op : BinOp) (k : IntKind) (x y : Int) : Option AV := bif decide (y < 0) then none else match op with
  | .shl => some (.int k (k.wrap (x * 2 ^ min y.toNat k.bits)))
  | .shr => some (.int k (x.fdiv (2 ^ min y.toNat k.bits)))
  | _ => none
def strA (op : BinOp) (a b : List UInt8) : Option AV := match op with
  | .add => bif Nat.ble (a.length + b.length) 1000000000 then some (.str (a ++ b)) else none
  | .eql => some (.bool (eqB a b))
  | .neq => some (.bool (!eqB a b))
  | .lss => some (.bool (Op.bytesLess a b))
  | .leq => some (.bool (Op.bytesLess a b || eqB a b))
  | .gtr => some (.bool (!(Op.bytesLess a b || eqB a b)))
  | .geq => some (.bool (!Op.bytesLess a b))
  | _ => none
def aliveC (A : Nat) : M Unit := bnd (rd A) fun b => match b with
  | .cells _ _ _ 0 false => ret ()
  | _ => fail
def eqA (P : Program) : Nat → TypeId → AV → AV → M Bool
  | 0, _, _, _ => fail
  | d + 1, t, x, y => match P.underlying t, x, y with
    | some .bool, .bool a, .bool b => ret (a == b)
    | some (.int _), .int k a, .int k' b => bif k == k' then ret (eqInt a b) else fail
    | some .string, .str a, .str b => ret (eqB a b)
    | some (.pointer _), .ptr0, .ptr0 => ret true
    | some (.pointer _), .ptr0, .ptr _ _ => ret false
    | some (.pointer _), .ptr _ _, .ptr0 => ret false
    | some (.pointer e), .ptr A i, .ptr B j => match sizeT P e with
      | some (_ + 1) => bif Nat.beq A B then ret (Nat.beq i j) else bnd (aliveC A) fun _ => bnd (aliveC B) fun _ => ret false
      | _ => fail
    | some (.interface _), .ifc0, .ifc0 => ret true
    | some (.interface _), .ifc0, .ifc _ _ => ret false
    | some (.interface _), .ifc _ _, .ifc0 => ret false
    | some (.interface _), .ifc tx vx, .ifc ty vy => bif Nat.beq tx ty then (match P.info? tx with
        | some i => bif i.comparable then eqA P d tx vx vy else fail
        | none => fail) else ret false
    | some (.struct fs), .agg xs, .agg ys => bif P.stoodInHeld t then fail else
        fs.toList.foldr (fun f k => bif f.name == "_" then fail else
          bnd (partT P f.type xs f.offset) fun a => bnd (partT P f.type ys f.offset) fun b => bnd (eqA P d f.type a b) fun r => bif r then k else ret false) (ret true)
    | some (.slice _), .sl0, .sl0 => ret true
    | some (.slice _), .sl0, .sl .. => ret false
    | some (.slice _), .sl .., .sl0 => ret false
    | some (.map _ _), .map0, .map0 => ret true
    | some (.map _ _), .map0, .map _ => ret false
    | some (.map _ _), .map _, .map0 => ret false
    | some (.func _ _ _), .fn0, .fn0 => ret true
    | some (.func _ _ _), .fn0, .fn .. => ret false
    | some (.func _ _ _), .fn .., .fn0 => ret false
    | _, _, _ => fail
def isConstO : Operand → Bool
  | .const _ => true
  | _ => false
def guardB (P : Program) (t : TypeId) (x y : Operand) (a b : AV) : Bool := match a, b with
  | .ifc0, .ifc0 => isConstO x || isConstO y
  | .agg _, .agg _ => !P.eqGuardType P.depth t
  | .opq _, _ => false
  | _, .opq _ => false
  | _, _ => true
def guardA (P : Program) (op : BinOp) (t : TypeId) (x y : Operand) (a b : AV) : Bool := match op with
  | .eql | .neq => guardB P t x y a b
  | _ => true
def binA (P : Program) (op : BinOp) (t : TypeId) (a b : AV) : M AV := match op, a, b with
  | .shl, .int k x, .int _ y => opt (shiftA .shl k x y)
  | .shr, .int k x, .int _ y => opt (shiftA .shr k x y)
  | op, .int k x, .int k' y => bif k == k' then opt (intA op k x y) else fail
  | op, .str x, .str y => opt (strA op x y)
  | .eql, x, y => bnd (eqA P 10000 t x y) fun r => ret (.bool r)
  | .neq, x, y => bnd (eqA P 10000 t x y) fun r => ret (.bool (!r))
  | _, _, _ => fail
def unA (op : UnOp) (x : AV) : M AV := match op, x with
  | .neg, .int k n => ret (.int k (wrapA k (0 - n)))
  | .not, .bool b => ret (.bool (!b))
  | .xor, .int k n => opt (intA .xor k (if k.signed then -1 else k.max) n)
  | _, _ => fail
end Go.Proofs.YtbecmcjibpamoaaGreatDoor.Zz
namespace Go.Proofs.YtbecmcjibpamoaaGreatDoor.Zz
open Go
mutual
def eqAV : AV → AV → Bool
  | .int k n, .int k' n' => decide (k = k') && decide (n = n')
  | .bool b, .bool b' => decide (b = b')
  | .str s, .str s' => decide (s = s')
  | .ptr0, .ptr0 => true
  | .ptr A i, .ptr A' i' => Nat.beq A A' && Nat.beq i i'
  | .sl0, .sl0 => true
  | .sl A i l c z e, .sl A' i' l' c' z' e' => Nat.beq A A' && Nat.beq i i' && Nat.beq l l' && Nat.beq c c' && Nat.beq z z' && decide (e = e')
  | .map0, .map0 => true
  | .map A, .map A' => Nat.beq A A'
  | .fn f x y, .fn f' x' y' => decide (f = f') && eqAVs x x' && eqAVs y y'
  | .fn0, .fn0 => true
  | .ifc t v, .ifc t' v' => Nat.beq t t' && eqAV v v'
  | .ifc0, .ifc0 => true
  | .agg l, .agg l' => eqAVs l l'
  | .tup l, .tup l' => eqAVs l l'
  | .opq k, .opq k' => Nat.beq k k'
  | .pan v, .pan v' => eqAV v v'
  | _, _ => false
def eqAVs : List AV → List AV → Bool
  | [], [] => true
  | a :: l, b :: r => eqAV a b && eqAVs l r
  | _, _ => false
end
mutual
theorem eqAV_eq : ∀ {a b : AV}, eqAV a b = true → a = b
  | .int k n, b, h => by cases b <;> simp [eqAV] at h; simp [h]
  | .bool b0, b, h => by cases b <;> simp [eqAV] at h; simp [h]
  | .str s, b, h => by cases b <;> simp [eqAV] at h; simp [h]
  | .ptr0, b, h => by cases b <;> simp [eqAV] at h; rfl
  | .ptr A i, b, h => by cases b <;> simp [eqAV] at h; simp [h]
  | .sl0, b, h => by cases b <;> simp [eqAV] at h; rfl
  | .sl A i l c z e, b, h => by cases b <;> simp [eqAV] at h; simp [h]
  | .map0, b, h => by cases b <;> simp [eqAV] at h; rfl
  | .map A, b, h => by cases b <;> simp [eqAV] at h; simp [h]
  | .fn f x y, b, h => by
    cases b <;> simp [eqAV] at h
    obtain ⟨⟨h1, h2⟩, h3⟩ := h
    rw [h1, eqAVs_eq h2, eqAVs_eq h3]
  | .fn0, b, h => by cases b <;> simp [eqAV] at h; rfl
  | .ifc t v, b, h => by
    cases b <;> simp [eqAV] at h
    rw [h.1, eqAV_eq h.2]
  | .ifc0, b, h => by cases b <;> simp [eqAV] at h; rfl
  | .agg l, b, h => by cases b <;> simp [eqAV] at h; rw [eqAVs_eq h]
  | .tup l, b, h => by cases b <;> simp [eqAV] at h; rw [eqAVs_eq h]
  | .opq k, b, h => by cases b <;> simp [eqAV] at h; simp [h]
  | .pan v, b, h => by
    cases b <;> simp [eqAV] at h
    rw [eqAV_eq h]
theorem eqAVs_eq : ∀ {l r : List AV}, eqAVs l r = true → l = r
  | [], r, h => by cases r with | nil => rfl | cons _ _ => simp [eqAVs] at h
  | a :: l, r, h => by
    cases r with
    | nil => simp [eqAVs] at h
    | cons b r =>
      simp [eqAVs] at h
      rw [eqAV_eq h.1, eqAVs_eq h.2]
end
mutual
theorem eqAV_refl : ∀ a : AV, eqAV a a = true
  | .int k n => by simp [eqAV]
  | .bool b0 => by simp [eqAV]
  | .str s => by simp [eqAV]
  | .ptr0 => by simp [eqAV]
  | .ptr A i => by simp [eqAV]
  | .sl0 => by simp [eqAV]
  | .sl A i l c z e => by simp [eqAV]
  | .map0 => by simp [eqAV]
  | .map A => by simp [eqAV]
  | .fn f x y => by simp [eqAV, eqAVs_refl x, eqAVs_refl y]
  | .fn0 => by simp [eqAV]
  | .ifc t v => by simp [eqAV, eqAV_refl v]
  | .ifc0 => by simp [eqAV]
  | .agg l => by simp [eqAV, eqAVs_refl l]
  | .tup l => by simp [eqAV, eqAVs_refl l]
  | .opq k => by simp [eqAV]
  | .pan v => by simp [eqAV, eqAV_refl v]
theorem eqAVs_refl : ∀ l : List AV, eqAVs l l = true
  | [] => by simp [eqAVs]
  | a :: l => by simp [eqAVs, eqAV_refl a, eqAVs_refl l]
end
def eqO {α : Type} (q : α → α → Bool) : Option α → Option α → Bool
  | none, none => true
  | some a, some b => q a b
  | _, _ => false
def eqTr {α : Type} (q : α → α → Bool) : Tr α → Tr α → Bool
  | .lf, .lf => true
  | .nd v l r, .nd v' l' r' => eqO q v v' && eqTr q l l' && eqTr q r r'
  | _, _ => false
theorem eqO_eq {α : Type} {q : α → α → Bool} (h : ∀ a b, q a b = true → a = b) {x y : Option α} (e : eqO q x y = true) : x = y := by
  cases x <;> cases y <;> first | rfl | (simp [eqO] at e; done) | (simp [eqO] at e; rw [h _ _ e])
theorem eqTr_eq {α : Type} {q : α → α → Bool} (h : ∀ a b, q a b = true → a = b) : ∀ {t u : Tr α}, eqTr q t u = true → t = u
  | .lf, .lf, _ => rfl
  | .lf, .nd _ _ _, e => by simp [eqTr] at e
  | .nd _ _ _, .lf, e => by simp [eqTr] at e
  | .nd v l r, .nd v' l' r', e => by
    simp [eqTr] at e
    rw [eqO_eq h e.1.1, eqTr_eq h e.1.2, eqTr_eq h e.2]
theorem eqTr_refl {α : Type} {q : α → α → Bool} (h : ∀ a, q a a = true) : ∀ t : Tr α, eqTr q t t = true
  | .lf => rfl
  | .nd v l r => by
    have : eqO q v v = true := by cases v <;> simp [eqO, h]
    simp [eqTr, this, eqTr_refl h l, eqTr_refl h r]
def eqEnt (a b : AV × AV × Nat) : Bool := eqAV a.1 b.1 && eqAV a.2.1 b.2.1 && Nat.beq a.2.2 b.2.2
theorem eqEnt_eq {a b : AV × AV × Nat} (h : eqEnt a b = true) : a = b := by
  obtain ⟨x, y, n⟩ := a
  obtain ⟨x', y', n'⟩ := b
  simp [eqEnt] at h
  rw [eqAV_eq h.1.1, eqAV_eq h.1.2, h.2]
theorem eqEnt_refl (a : AV × AV × Nat) : eqEnt a a = true := by simp [eqEnt, eqAV_refl]
def eqEnts : List (AV × AV × Nat) → List (AV × AV × Nat) → Bool
  | [], [] => true
  | a :: l, b :: r => eqEnt a b && eqEnts l r
  | _, _ => false
theorem eqEnts_eq : ∀ {l r : List (AV × AV × Nat)}, eqEnts l r = true → l = r
  | [], [], _ => rfl
  | [], _ :: _, h => by simp [eqEnts] at h
  | _ :: _, [], h => by simp [eqEnts] at h
  | a :: l, b :: r, h => by
    simp [eqEnts] at h
    rw [eqEnt_eq h.1, eqEnts_eq h.2]
theorem eqEnts_refl : ∀ l, eqEnts l l = true
  | [] => rfl
  | a :: l => by simp [eqEnts, eqEnt_refl, eqEnts_refl l]
def eqCT (a b : CT) : Bool := eqTr eqAV a.t b.t && (eqAVs a.d b.d && (Nat.beq a.z b.z && Nat.beq a.n b.n))
theorem eqCT_eq {a b : CT} (h : eqCT a b = true) : a = b := by
  obtain ⟨t, d, z, n⟩ := a
  obtain ⟨t', d', z', n'⟩ := b
  simp only [eqCT, Bool.and_eq_true, Nat.beq_eq] at h
  rw [eqTr_eq (fun _ _ => eqAV_eq) h.1, eqAVs_eq h.2.1, h.2.2.1, h.2.2.2]
theorem eqCT_refl (a : CT) : eqCT a a = true := by simp [eqCT, eqTr_refl eqAV_refl, eqAVs_refl]
def eqBlk : ABlk → ABlk → Bool
  | .cells c n e f o, .cells c' n' e' f' o' => eqCT c c' && Nat.beq n n' && Nat.beq e e' && Nat.beq f f' && decide (o = o')
  | .map es k, .map es' k' => eqEnts es es' && Nat.beq k k'
  | .siter s p, .siter s' p' => decide (s = s') && Nat.beq p p'
  | .miter a s l k, .miter a' s' l' k' => decide (a = a') && Nat.beq s s' && decide (l = l') && Nat.beq k k'
  | .mforce a s l k c q, .mforce a' s' l' k' c' q' => decide (a = a') && Nat.beq s s' && decide (l = l') && Nat.beq k k' && eqO eqEnt c c' && Nat.beq q q'
  | .dead, .dead => true
  | .abs k, .abs k' => Nat.beq k k'
  | _, _ => false
theorem eqBlk_eq {a b : ABlk} (h : eqBlk a b = true) : a = b := by
  cases a <;> cases b <;> simp [eqBlk] at h
  case cells.cells => rw [eqCT_eq h.1.1.1.1, h.1.1.1.2, h.1.1.2, h.1.2, h.2]
  case map.map => rw [eqEnts_eq h.1, h.2]
  case siter.siter => rw [h.1, h.2]
  case miter.miter => rw [h.1.1.1, h.1.1.2, h.1.2, h.2]
  case mforce.mforce => rw [h.1.1.1.1.1, h.1.1.1.1.2, h.1.1.1.2, h.1.1.2, eqO_eq (fun _ _ => eqEnt_eq) h.1.2, h.2]
  case dead.dead => rfl
  case abs.abs => rw [h]
theorem eqBlk_refl (a : ABlk) : eqBlk a a = true := by
  cases a with
  | cells c n e f o => simp [eqBlk, eqCT_refl]
  | map es k => simp [eqBlk, eqEnts_refl]
  | siter s p => simp [eqBlk]
  | miter a s l k => simp [eqBlk]
  | mforce a s l k c q =>
    have : eqO eqEnt c c = true := by cases c <;> simp [eqO, eqEnt_refl]
    simp [eqBlk, this]
  | dead => rfl
  | abs k => simp [eqBlk]
def Tr.right {α : Type} (f : Option α → Option α → Option α) : Tr α → Tr α
  | .lf => .lf
  | .nd v l r => .nd (f none v) (Tr.right f l) (Tr.right f r)
def Tr.left {α : Type} (f : Option α → Option α → Option α) : Tr α → Tr α
  | .lf => .lf
  | .nd v l r => .nd (f v none) (Tr.left f l) (Tr.left f r)
def Tr.zip {α : Type} (f : Option α → Option α → Option α) : Tr α → Tr α → Tr α
  | .lf, u => Tr.right f u
  | .nd v l r, .lf => Tr.left f (.nd v l r)
  | .nd v l r, .nd v' l' r' => .nd (f v v') (Tr.zip f l l') (Tr.zip f r r')
theorem Tr.get_right {α : Type} {f : Option α → Option α → Option α} (hf : f none none = none) : ∀ (u : Tr α) (k : Nat), (Tr.right f u).get k = f none (u.get k)
  | .lf, k => by simp [Tr.right, Tr.get, hf]
  | .nd v l r, k => by
    simp only [Tr.right, Tr.get]
    cases Nat.beq k 0 with
    | true => rfl
    | false =>
      simp only [cond_false]
      cases Nat.beq (k % 2) 1 with
      | true => exact Tr.get_right hf l _
      | false => exact Tr.get_right hf r _
theorem Tr.get_left {α : Type} {f : Option α → Option α → Option α} (hf : f none none = none) : ∀ (u : Tr α) (k : Nat), (Tr.left f u).get k = f (u.get k) none
  | .lf, k => by simp [Tr.left, Tr.get, hf]
  | .nd v l r, k => by
    simp only [Tr.left, Tr.get]
    cases Nat.beq k 0 with
    | true => rfl
    | false =>
      simp only [cond_false]
      cases Nat.beq (k % 2) 1 with
      | true => exact Tr.get_left hf l _
      | false => exact Tr.get_left hf r _
theorem Tr.get_zip {α : Type} {f : Option α → Option α → Option α} (hf : f none none = none) : ∀ (t u : Tr α) (k : Nat), (Tr.zip f t u).get k = f (t.get k) (u.get k)
  | .lf, u, k => by rw [Tr.zip, Tr.get_right hf]; rfl
  | .nd v l r, .lf, k => by rw [Tr.zip, Tr.get_left hf]; rfl
  | .nd v l r, .nd v' l' r', k => by
    simp only [Tr.zip, Tr.get]
    cases Nat.beq k 0 with
    | true => rfl
    | false =>
      simp only [cond_false]
      cases Nat.beq (k % 2) 1 with
      | true => exact Tr.get_zip hf l l' _
      | false => exact Tr.get_zip hf r r' _
def Hp.zip {α : Type} (f : Option α → Option α → Option α) (t u : Hp α) : Hp α :=
  ⟨T16.zip f t.a u.a, T16.zip (T16.zip f) t.b u.b, T16.zip (T16.zip (T16.zip f)) t.c u.c, T16.zip (T16.zip (T16.zip (T16.zip f))) t.d u.d, Tr.zip f t.h u.h⟩
theorem Hp.get_zip {α : Type} {f : Option α → Option α → Option α} (hf : f none none = none) (t u : Hp α) (k : Nat) : (Hp.zip f t u).get k = f (t.get k) (u.get k) := by
  obtain ⟨a, b, c, d, h⟩ := t
  obtain ⟨a', b', c', d', h'⟩ := u
  unfold Hp.zip Hp.get
  cases Nat.ble k 15 with
  | true => exact T16.get_zip f a a' k
  | false =>
    cases Nat.ble k 255 with
    | true => simp only [T16.get_zip]
    | false =>
      cases Nat.ble k 4095 with
      | true => simp only [T16.get_zip]
      | false =>
        cases Nat.ble k 65535 with
        | true => simp only [T16.get_zip]
        | false => exact Tr.get_zip hf h h' k
def bothB : Option ABlk → Option ABlk → Option ABlk
  | some a, some b => bif eqBlk a b then some a else none
  | _, _ => none
def bothT : Option (Option AV) → Option (Option AV) → Option (Option AV)
  | none, none => none
  | some (some a), some (some b) => bif eqAV a b then some (some a) else some none
  | _, _ => some none
def exEq : Exit → Exit → Bool
  | .normal, .normal => true
  | .ret, .ret => true
  | .exit i, .exit j => Nat.beq i j
  | _, _ => false
theorem exEq_eq {x y : Exit} (h : exEq x y = true) : x = y := by
  cases x <;> cases y <;> simp [exEq] at h <;> first | rfl | rw [h]
def join2 (x y : M (Exit × Tm)) : M (Exit × Tm) := fun s => match x s with
  | none => none
  | some ((ex, t), s1) => match y ⟨s.heap, s.next, s1.log⟩ with
    | none => none
    | some ((ex2, t2), s2) => bif exEq ex ex2 && eqAVs t.d t2.d && (t.p.isNone && t2.p.isNone) then some ((ex, ⟨Hp.zip bothT t.t t2.t, t.d, none⟩), ⟨Hp.zip bothB s1.heap s2.heap, bif Nat.ble s1.next s2.next then s2.next else s1.next, s2.log⟩) else none
def joinAll (x : M (Exit × Tm)) : List (M (Exit × Tm)) → M (Exit × Tm)
  | [] => x
  | y :: l => join2 x (joinAll y l)
end Go.Proofs.YtbecmcjibpamoaaGreatDoor.Zz
namespace Go.Proofs.YtbecmcjibpamoaaGreatDoor.Zz
open Go
inductive Q where
  | len (t : TypeId) (k : Nat)
  | bin (op : BinOp) (a b : AV)
  | idx (t : TypeId) (k j : Nat)
  | load (t : TypeId) (k : Nat)
structure Hooks where
  fn : FuncId → Option (List AV → M AV)
  ora : Q → Option AV
inductive MA where
  | rtn
  | pan (v : AV) (rec : Bool)
structure Ex where
  call : FuncId → List AV → M AV
  loop : Nat → Code → Tm → M (Exit × Tm)
  callD : FuncId → List AV → MA → M MA
def asInt : AV → M Int
  | .int _ n => ret n
  | _ => fail
def asNat : AV → M Nat
  | .int _ (.ofNat n) => ret n
  | _ => fail
def ints (l : List UInt8) : List AV := l.map fun b => .int .u8 b.toNat
def bytesOf : List AV → Option (List UInt8)
  | [] => some []
  | .int .u8 n :: l => match bytesOf l with
    | some r => some (UInt8.ofNat n.toNat :: r)
    | none => none
  | _ => none
def natOf : AV → Option Nat
  | .int _ (.ofNat n) => some n
  | _ => none
def boundP (v : Option AV) (y d : Nat) : Option Nat := match v with
  | none => some d
  | some a => match natOf a with
    | some n => bif Nat.ble n y then some n else none
    | none => none
def boundsP (len cap : Nat) (lo hi mx : Option AV) : Option (Nat × Nat × Nat) := bif mx.isSome && hi.isNone then none else
  (boundP mx cap cap).bind fun m => (boundP hi m len).bind fun h => (boundP lo h 0).bind fun l => some (l, h, m)
def oAval (tm : Tm) : Option Operand → Option (Option AV)
  | none => some none
  | some x => match aval tm x with
    | some a => some (some a)
    | none => none
def sliceA (P : Program) (t : TypeId) (x : AV) (lo hi mx : Option AV) : M AV := match P.underlying t, x with
  | some .string, .str s => (match mx with
    | some _ => fail
    | none => bnd (opt (boundsP s.length s.length lo hi none)) fun (l, h, _) => ret (.str ((s.drop l).take (h - l))))
  | some (.slice e), .sl A i len cap sz ex => bnd (opt (boundsP len cap lo hi mx)) fun (l, h, m) =>
      bnd (opt (sizeT P e)) fun n => bif Nat.beq n sz then ret (.sl A (i + l * sz) (h - l) (m - l) sz (ex || mx.isSome)) else fail
  | some (.slice e), .sl0 => bnd (opt (boundsP 0 0 lo hi mx)) fun _ => bnd (opt (sizeT P e)) fun _ => ret .sl0
  | some (.array n e), .ptr A i => bnd (opt (boundsP n n lo hi mx)) fun (l, h, m) => bnd (opt (sizeT P e)) fun z =>
      bnd (rd A) fun b => match b with
        | .cells _ k _ _ _ => bif Nat.ble (i + n * z) k then ret (.sl A (i + l * z) (h - l) (m - l) z true) else fail
        | _ => fail
  | _, _ => fail
def growA (A j len sz k : Nat) (ex : Bool) (cap : Nat) (e : TypeId) (new : List AV) : M AV := bnd (rd A) fun b => match b with
  | .cells c _ e' frz odd => bnd (opt (getN c j (len * sz))) fun old =>
      bif allOne old && (bif Nat.beq cap 0 then Nat.beq frz 0 else Nat.ble frz (j + len * sz)) && Nat.beq e' e then
        bnd (bif ex then ret () else wr A .dead) fun _ =>
        bnd (nw (.cells (putL .lf 0 (old ++ new)) (old ++ new).length e (bif ex then 0 else (frz - j)) true)) fun B => ret (.sl B 0 (len + k) (len + k) sz false)
      else fail
  | _ => fail
def appendA (P : Program) (e : TypeId) (s : AV) (k : Nat) (new : List AV) : M AV := match P.info? e with
  | none => fail
  | some i => match i.zero with
    | none => fail
    | some z => bif Nat.ble i.bytes 4096 && Nat.ble 1 i.bytes && Nat.ble 1 i.size && Nat.beq new.length (k * i.size) && allOne new && Nat.beq z.cells.size i.size then
      (match s with
      | .sl0 => bif Nat.beq k 0 then ret .sl0 else bif Nat.ble k 1000000 then bnd (newS e new) fun A => ret (.sl A 0 k k i.size false) else fail
      | .sl A j len cap sz ex =>
        bif Nat.beq k 0 then ret (.sl A j len cap sz ex) else
        bif Nat.beq sz i.size && Nat.ble (len + k) 1000000 then
          (bif Nat.ble (len + k) cap then bnd (storeC A (j + len * sz) new) fun _ => ret (.sl A j (len + k) cap sz ex)
          else growA A j len sz k ex cap e new)
        else fail
      | _ => fail)
    else fail
def cellsIn (size : Nat) : AV → M (Nat × List AV)
  | .sl0 => ret (0, [])
  | .sl A i len _ sz _ => bif Nat.beq sz size then (bif Nat.beq len 0 then ret (0, []) else bnd (loadC A i (len * sz)) fun l => ret (len, l)) else fail
  | .str s => bif Nat.beq size 1 then ret (s.length, ints s) else fail
  | _ => fail
def fillA : List AV → List (Nat × List AV) → Option (List AV)
  | cs, [] => some cs
  | cs, (off, l) :: r => bif Nat.ble (off + l.length) cs.length then fillA (cs.take off ++ l ++ cs.drop (off + l.length)) r else none
def sameKey : AV → AV → Option Bool
  | .int k a, .int k' b => bif k == k' then some (eqInt a b) else none
  | .str a, .str b => some (eqB a b)
  | .bool a, .bool b => some (a == b)
  | _, _ => none
def findA (k : AV) : List (AV × AV × Nat) → Nat → Option (Option (Nat × AV))
  | [], _ => some none
  | (k', v, _) :: l, i => match sameKey k k' with
    | some true => some (some (i, v))
    | some false => findA k l (i + 1)
    | none => none
def keyOk (P : Program) (t : TypeId) (k : AV) : Bool := match P.underlying t, k with
  | some (.int _), .int _ _ => true
  | some .string, .str _ => true
  | some .bool, .bool _ => true
  | _, _ => false
def setAt {α : Type} : List α → Nat → α → List α
  | [], _, _ => []
  | _ :: l, 0, x => x :: l
  | y :: l, i + 1, x => y :: setAt l i x
def lookFin (P : Program) (et : TypeId) (k : AV) (ok : Bool) (es : List (AV × AV × Nat)) : M AV := match findA k es 0 with
  | none => fail
  | some (some (_, v)) => ret (if ok then .tup [v, .bool true] else v)
  | some none => match zeroT P et with
    | none => fail
    | some z => ret (if ok then .tup [z, .bool false] else z)
def lookA (P : Program) (t : TypeId) (x k : AV) (ok : Bool) : M AV := match P.underlying t, x with
  | some (.map kt et), .map0 => bif keyOk P kt k then lookFin P et k ok [] else fail
  | some (.map kt et), .map A => bif keyOk P kt k then bnd (rd A) fun b => (match b with
      | .map es _ => lookFin P et k ok es
      | _ => fail) else fail
  | _, _ => fail
def mapUpA (P : Program) (t : TypeId) (x k v : AV) : M Unit := match P.underlying t, x with
  | some (.map kt _), .map A => bif keyOk P kt k then bnd (rd A) fun b => match b with
      | .map es clk => bnd (opt (findA k es 0)) fun r => (match r with
        | some (i, _) => (match es[i]? with
          | some (k', _, b) => wr A (.map (setAt es i (k', v, b)) clk)
          | none => fail)
        | none => wr A (.map (es ++ [(k, v, clk)]) (clk + 1)))
      | _ => fail
    else fail
  | _, _ => fail
def assertA (P : Program) (x : AV) (asserted : TypeId) (ok : Bool) : M AV := match P.underlying asserted, x with
  | some (.interface want), .ifc t v => (match P.info? t with
    | some i => (match Instr.missingMethod want i.methods with
      | none => ret (if ok then .tup [.ifc t v, .bool true] else .ifc t v)
      | some _ => bif ok then bnd (opt (zeroT P asserted)) fun z => ret (.tup [z, .bool false]) else fail)
    | none => fail)
  | some (.interface _), .ifc0 => bif ok then bnd (opt (zeroT P asserted)) fun z => ret (.tup [z, .bool false]) else fail
  | some _, .ifc0 => bif ok then bnd (opt (zeroT P asserted)) fun z => ret (.tup [z, .bool false]) else fail
  | some _, .ifc t v => bif Nat.beq t asserted then ret (if ok then .tup [v, .bool true] else v) else bif ok then bnd (opt (zeroT P asserted)) fun z => ret (.tup [z, .bool false]) else fail
  | _, _ => fail
inductive Pl where
  | val (v : AV)
  | var (A i : Nat)
def getP (P : Program) (t : TypeId) : Pl → M AV
  | .val v => ret v
  | .var A i => loadT P t A i
def followA (P : Program) : List FieldStep → TypeId → Pl → M (TypeId × Pl)
  | [], t, x => ret (t, x)
  | s :: r, t, x => match P.underlying s.struct with
    | some (.struct fs) => (match fs[s.index]? with
      | some f => (match sizeT P f.type with
        | some (_ + 1) => bif s.deref then bnd (getP P t x) fun v => (match v with
            | .ptr A i => followA P r f.type (.var A (i + f.offset))
            | _ => fail)
          else (match x with
            | .var A i => followA P r f.type (.var A (i + f.offset))
            | .val (.agg l) => bnd (partT P f.type l f.offset) fun v => followA P r f.type (.val v)
            | _ => fail)
        | _ => fail)
      | none => fail)
    | _ => fail
def recvA (P : Program) (t : TypeId) (x : Pl) (pr : Bool) : M AV := match P.underlying t, pr with
  | some (.pointer _), true => getP P t x
  | some (.pointer e), false => bnd (getP P t x) fun v => (match v with
    | .ptr A i => loadT P e A i
    | _ => fail)
  | some _, true => (match x with
    | .var A i => ret (.ptr A i)
    | _ => fail)
  | some _, false => getP P t x
  | none, _ => fail
def methN (P : Program) : Nat → TypeId → AV → String → M (FuncId × AV)
  | 0, _, _, _ => fail
  | n + 1, t, v, name => match P.info? t with
    | none => fail
    | some i => match i.methods.find? (·.name == name) with
      | none => fail
      | some m => bnd (followA P m.path.toList t (.val v)) fun (xt, x) => (match m.func with
        | none => bnd (getP P xt x) fun y => (match y with
          | .ifc t' v' => methN P n t' v' name
          | _ => fail)
        | some (f, pr) => bnd (recvA P xt x pr) fun r => ret (f, r))
def methA (P : Program) (t : TypeId) (v : AV) (name : String) : M (FuncId × AV) := methN P 4 t v name
def funcA (P : Program) (H : Hooks) (e : Ex) (f : FuncId) (args : List AV) : M AV := match H.fn f with
  | some h => h args
  | none => match P.funcs[f]? with
    | some fn => bif fn.name == "runtime.NumGoroutine" || fn.body.isNone then fail else e.call f args
    | none => fail
def copyFin (d : AV) (n : Nat) (p : Nat × List AV) : M AV := match d with
  | .sl0 => ret (.int .i64 0)
  | .sl A i len _ sz _ => bif Nat.beq len 0 then ret (.int .i64 0) else bif Nat.beq sz n then bnd (storeC A i (p.2.take (min p.1 len * n))) fun _ => ret (.int .i64 (min p.1 len : Nat)) else fail
  | _ => fail
def copyA (P : Program) (t : TypeId) (d x : AV) : M AV := match P.underlying t with
  | some (.slice e) => bnd (opt (sizeT P e)) fun n => bnd (cellsIn n x) fun p => copyFin d n p
  | _ => fail
def deleteA (P : Program) (t : TypeId) (x k : AV) : M AV := match P.underlying t, x with
  | some (.map kt _), .map A => bif keyOk P kt k then bnd (rd A) fun b => (match b with
    | .map es clk => bnd (opt (findA k es 0)) fun r => (match r with
      | some (i, _) => bnd (wr A (.map (es.eraseIdx i) clk)) fun _ => ret undefA
      | none => bnd (wr A (.map es clk)) fun _ => ret undefA)
    | _ => fail) else fail
  | _, _ => fail
def builtA (P : Program) (b : Builtin) (ts : List TypeId) (args : List AV) : M AV := match b, ts, args with
  | .append, t :: t' :: [], [s, x] => (match P.underlying t, P.underlying t' with
    | some (.slice e), some (.slice _) => bnd (opt (sizeT P e)) fun n => bnd (cellsIn n x) fun p => appendA P e s p.1 p.2
    | some (.slice e), some .string => bnd (opt (sizeT P e)) fun n => bnd (cellsIn n x) fun p => appendA P e s p.1 p.2
    | _, _ => fail)
  | .len, t :: _, [x] => (match P.underlying t, x with
    | some .string, .str s => ret (.int .i64 s.length)
    | some (.array n _), _ => ret (.int .i64 n)
    | some (.pointer a), _ => (match P.underlying a with | some (.array n _) => ret (.int .i64 n) | _ => fail)
    | some (.slice _), .sl0 => ret (.int .i64 0)
    | some (.slice _), .sl _ _ n _ _ _ => ret (.int .i64 n)
    | some (.map _ _), .map0 => ret (.int .i64 0)
    | some (.map _ _), .map A => bnd (rd A) fun b => (match b with | .map es _ => ret (.int .i64 es.length) | _ => fail)
    | _, _ => fail)
  | .copy, t :: _, [d, x] => copyA P t d x
  | .delete, t :: _, [x, k] => deleteA P t x k
  | .min, _, [.int k a, .int k' b] => bif k == k' then ret (.int k (if b < a then b else a)) else fail
  | .max, _, [.int k a, .int k' b] => bif k == k' then ret (.int k (if b > a then b else a)) else fail
  | _, _, _ => fail
def placesA (pls : List (Nat × Nat)) : List (Nat × Operand) → Option (List (Nat × Nat × Operand))
  | [] => some []
  | (i, x) :: r => match pls[i]? with
    | some (off, z) => match placesA pls r with
      | some l => some ((off, z, x) :: l)
      | none => none
    | none => none
def arrPlaces (n : Nat) : List (Nat × Operand) → List (Nat × Nat × Operand)
  | [] => []
  | (i, x) :: r => (i * n, n, x) :: arrPlaces n r
def partsA (tm : Tm) : List (Nat × Nat × Operand) → Option (List (Nat × List AV))
  | [] => some []
  | (off, z, x) :: r => match aval tm x with
    | some v => bif Nat.beq (cellsA v).length z then (match partsA tm r with
      | some l => some ((off, cellsA v) :: l)
      | none => none) else none
    | none => none
def repeatL (z : List AV) : Nat → List AV
  | 0 => []
  | n + 1 => z ++ repeatL z n
def cvtA (P : Program) (src dst : TypeId) (x : AV) : M AV := match P.underlying src, P.underlying dst, x with
  | some _, some (.int k), .int _ n => ret (.int k (wrapA k n))
  | some _, some .string, .str s => ret (.str s)
  | some _, some .string, .int _ n => ret (.str (Utf8.encode n).data.toList)
  | some _, some (.slice e), .str s => (match P.underlying e with
    | some (.int .u8) => bnd (nw (.cells (putL .lf 0 (ints s)) (ints s).length e 0 true)) fun A => ret (.sl A 0 s.length s.length 1 false)
    | _ => fail)
  | some (.slice e), some .string, .sl0 => (match P.underlying e with
    | some (.int .u8) => ret (.str [])
    | _ => fail)
  | some (.slice e), some .string, .sl A i len cap sz ex => (match P.underlying e with
    | some (.int .u8) => bnd (cellsIn 1 (.sl A i len cap sz ex)) fun p => bnd (opt (bytesOf p.2)) fun s => ret (.str s)
    | _ => fail)
  | _, _, _ => fail
def lastN : List Nat → Option Nat
  | [] => none
  | [x] => some x
  | _ :: l => lastN l
def bornA (n : Option Nat) (es : List (AV × AV × Nat)) : Option (AV × AV) := match n with
  | none => none
  | some n => match es with
    | [] => none
    | (k, u, b) :: l => bif Nat.beq b n then some (k, u) else bornA (some n) l
def elemN (x : Nat) : List Nat → Bool
  | [] => false
  | y :: l => Nat.beq x y || elemN x l
def leftA (seen : List Nat) : List (AV × AV × Nat) → List (AV × AV × Nat)
  | [] => []
  | (k, u, b) :: l => bif elemN b seen then leftA seen l else (k, u, b) :: leftA seen l
def allBefore (since : Nat) : List (AV × AV × Nat) → Bool
  | [] => true
  | (_, _, b) :: l => Nat.blt b since && allBefore since l
def opA (P : Program) (H : Hooks) (e : Ex) (o : Oper) (tm : Tm) : M AV := match o.op with
  | .move x | .assign x => opt (aval tm x)
  | .pick c a b => bnd (opt (aval tm c)) fun c => (match c with
    | .bool true => opt (aval tm a)
    | .bool false => opt (aval tm b)
    | _ => fail)
  | .alloc t => bnd (opt (zeroT P t)) fun z => bnd (newC t (cellsA z)) fun A => ret (.ptr A 0)
  | .box t x => bnd (opt (aval tm x)) fun v => bnd (newC t (cellsA v)) fun A => ret (.ptr A 0)
  | .build t ps => bnd (opt (zeroT P t)) fun z => (match P.underlying t with
    | some (.struct fs) => bnd (opt (fs.toList.mapM fun f => (P.info? f.type).map fun i => (f.offset, i.size))) fun pls => bnd (opt (placesA pls ps.toList)) fun pl => bnd (opt (partsA tm pl)) fun l => bnd (opt (fillA (cellsA z) l)) fun cs => ret (.agg cs)
    | some (.array _ el) => bnd (opt (sizeT P el)) fun n => bnd (opt (partsA tm (arrPlaces n ps.toList))) fun l => bnd (opt (fillA (cellsA z) l)) fun cs => ret (.agg cs)
    | _ => fail)
  | .buildSlice t len ps => (match P.underlying t with
    | some (.slice el) => bnd (opt (sizeT P el)) fun n => bnd (opt (zeroT P el)) fun z =>
        bif Nat.ble 1 n && Nat.beq (cellsA z).length n && Nat.ble (len * n) 16777216 then
          bnd (opt (partsA tm (arrPlaces n ps.toList))) fun l => bnd (opt (fillA (repeatL (cellsA z) len) l)) fun cs =>
          bnd (newC el cs) fun A => ret (.sl A 0 len len n true)
        else fail
    | _ => fail)
  | .load t x => bnd (opt (aval tm x)) fun v => (match v with
    | .ptr A i => loadT P t A i
    | _ => fail)
  | .store t x y => bnd (opt (aval tm x)) fun v => bnd (opt (aval tm y)) fun u => (match v with
    | .ptr A i => bnd (storeT P t A i u) fun _ => ret undefA
    | _ => fail)
  | .nilCheck x => bnd (opt (aval tm x)) fun v => (match v with
    | .ptr A i => ret (.ptr A i)
    | .ifc t u => ret (.ifc t u)
    | .fn (.func f) a b => ret (.fn (.func f) a b)
    | _ => fail)
  | .binOp op t x y _ => bnd (opt (aval tm x)) fun a => bnd (opt (aval tm y)) fun b => bif guardA P op t x y a b then binA P op t a b else fail
  | .unOp op _ x => bnd (opt (aval tm x)) fun a => unA op a
  | .convert src dst x => bnd (opt (aval tm x)) fun a => cvtA P src dst a
  | .makeInterface t x => bnd (opt (aval tm x)) fun a => (match P.underlying t with
    | some (.interface _) => fail
    | some _ => ret (.ifc t a)
    | none => fail)
  | .makeFunc f a b => bnd (opt (avals tm a.toList)) fun x => bnd (opt (avals tm b.toList)) fun y => ret (.fn f x y)
  | .makeMap t r => (match r with
    | none => bnd (nw (.map [] 0)) fun A => ret (.map A)
    | some x => bnd (opt (aval tm x)) fun v => (match P.underlying t, v with
      | some (.map _ _), .int _ _ => bnd (nw (.map [] 0)) fun A => ret (.map A)
      | _, _ => fail))
  | .makeSlice t l c => bnd (opt (aval tm l)) fun l => bnd (opt (aval tm c)) fun c => bnd (asNat l) fun l => bnd (asNat c) fun c => (match P.underlying t with
    | some (.slice el) => bnd (opt (sizeT P el)) fun n => bnd (opt (zeroT P el)) fun z =>
        bif Nat.ble 1 n && Nat.beq (cellsA z).length n && Nat.ble l c && Nat.ble c 65536 && Nat.ble (P.bytesOf el) 65536 then
          bnd (newR el (cellsA z) c) fun A => ret (.sl A 0 l c n true)
        else fail
    | _ => fail)
  | .slice t x lo hi mx => bnd (opt (aval tm x)) fun v => bnd (opt (oAval tm lo)) fun l => bnd (opt (oAval tm hi)) fun h => bnd (opt (oAval tm mx)) fun m => sliceA P t v l h m
  | .fieldAddr t x f => bnd (opt (aval tm x)) fun v => (match P.underlying t, v with
    | some (.struct fs), .ptr A i => (match fs[f]? with
      | some fd => (match sizeT P fd.type with
        | some (_ + 1) => ret (.ptr A (i + fd.offset))
        | _ => fail)
      | none => fail)
    | _, _ => fail)
  | .field t x f => bnd (opt (aval tm x)) fun v => (match P.underlying t, v with
    | some (.struct fs), .agg l => (match fs[f]? with
      | some fd => partT P fd.type l fd.offset
      | none => fail)
    | _, _ => fail)
  | .indexAddr t x y => bnd (opt (aval tm x)) fun v => bnd (opt (aval tm y)) fun j => bnd (asNat j) fun j => (match P.underlying t, v with
    | some (.array n el), .ptr A i => bnd (opt (sizeT P el)) fun z => bif Nat.blt j n then ret (.ptr A (i + j * z)) else fail
    | some (.slice el), .sl A i len _ sz _ => bnd (opt (sizeT P el)) fun z => bif Nat.blt j len && Nat.beq z sz then ret (.ptr A (i + j * sz)) else fail
    | _, _ => fail)
  | .index t x y => bnd (opt (aval tm x)) fun v => bnd (opt (aval tm y)) fun j => bnd (asNat j) fun j => (match P.underlying t, v with
    | some (.array n el), .agg l => bnd (opt (sizeT P el)) fun z => bif Nat.blt j n then partT P el l (j * z) else fail
    | some .string, .str s => (match s[j]? with
      | some b => ret (.int .u8 b.toNat)
      | none => fail)
    | _, _ => fail)
  | .lookup t x y ok => bnd (opt (aval tm x)) fun v => bnd (opt (aval tm y)) fun k => lookA P t v k ok
  | .mapUpdate t x y z | .insert t x y z => bnd (opt (aval tm x)) fun v => bnd (opt (aval tm y)) fun k => bnd (opt (aval tm z)) fun u => bnd (mapUpA P t v k u) fun _ => ret undefA
  | .range t x => bnd (opt (aval tm x)) fun v => (match P.underlying t, v with
    | some .string, .str s => bnd (nw (.siter s 0)) fun A => ret (.ptr A 0)
    | some (.map _ _), .map0 => bnd (nw (.miter none 0 [] 0)) fun A => ret (.ptr A 0)
    | some (.map _ _), .map mA => bnd (rd mA) fun b => (match b with
      | .map _ clk => bnd (nw (.miter (some mA) clk [] clk)) fun A => ret (.ptr A 0)
      | _ => fail)
    | _, _ => fail)
  | .next x true => bnd (opt (aval tm x)) fun v => (match v with
    | .ptr A 0 => bnd (rd A) fun b => (match b with
      | .siter s pos => (match s[pos]? with
        | some c => bif Nat.blt c.toNat 128 then bnd (wr A (.siter s (pos + 1))) fun _ => ret (.tup [.bool true, .int .i64 pos, .int .i32 c.toNat]) else fail
        | none => ret (.tup [.bool false]))
      | _ => fail)
    | _ => fail)
  | .next x false => bnd (opt (aval tm x)) fun v => (match v with
    | .ptr A 0 => bnd (rd A) fun b => (match b with
      | .mforce a since seen last c clk => (match c with
        | none => bnd (wr A (.miter a since seen last)) fun _ => ret (.tup [.bool false])
        | some (k, u, n) => bnd (wr A (.miter a since (seen ++ [n]) clk)) fun _ => ret (.tup [.bool true, k, u]))
      | _ => fail)
    | _ => fail)
  | .entry x => bnd (opt (aval tm x)) fun v => (match v with
    | .ptr A 0 => bnd (rd A) fun b => (match b with
      | .miter (some mA) _ seen last => bnd (rd mA) fun b => (match b with
        | .map es clk => bif Nat.beq clk last then bnd (opt (bornA (lastN seen) es)) fun (k, u) => ret (.tup [k, u]) else fail
        | _ => fail)
      | _ => fail)
    | _ => fail)
  | .typeAssert x _ t ok => bnd (opt (aval tm x)) fun v => assertA P v t ok
  | .extract x i => bnd (opt (aval tm x)) fun v => (match v with
    | .tup l => opt (l[i]?)
    | _ => fail)
  | .call c => bnd (opt (avals tm c.args.toList)) fun args => (match c.callee with
    | .builtin b => builtA P b c.argTypes.toList args
    | .invoke r name => bnd (opt (aval tm r)) fun v => (match v with
      | .ifc t u => bnd (methA P t u name) fun (f, rc) => funcA P H e f (rc :: args)
      | _ => fail)
    | .value f => bnd (opt (aval tm f)) fun v => (match v with
      | .fn (.func f) first cap => funcA P H e f (first ++ args ++ cap)
      | .fn (.method name) first cap => (match first ++ args, cap with
        | .ifc t u :: rest, _ => bnd (methA P t u name) fun (f, rc) => funcA P H e f (rc :: rest)
        | _, _ => fail)
      | _ => fail))
  | _ => fail
def isOpq : AV → Bool
  | .opq _ => true
  | _ => false
def oraKey (tm : Tm) (op : Op) : Option Q := match op with
  | .call c => (match c.callee, c.args.toList, c.argTypes.toList with
    | .builtin .len, [x], t :: _ => (match aval tm x with
      | some (.opq k) => some (.len t k)
      | _ => none)
    | _, _, _ => none)
  | .binOp op _ x y _ => (match aval tm x, aval tm y with
    | some a, some b => bif isOpq a || isOpq b then some (.bin op a b) else none
    | _, _ => none)
  | .indexAddr t x y => (match aval tm x, aval tm y with
    | some (.opq k), some (.int _ (.ofNat j)) => some (.idx t k j)
    | _, _ => none)
  | .load t x => (match aval tm x with
    | some (.opq k) => some (.load t k)
    | _ => none)
  | _ => none
def askA (H : Hooks) (tm : Tm) (op : Op) (x : M AV) : M AV := match oraKey tm op with
  | none => x
  | some q => match H.ora q with
    | none => x
    | some r => ret r
def wantA (ops : Array Oper) (o : Oper) (tm : Tm) : Option Bool := match o.guard with
  | none => some true
  | some (j, want) => match ops[j]? with
    | none => some false
    | some g => match g.dst with
      | none => some false
      | some d => match tm.get d with
        | some (some (.bool b)) => some (b == want)
        | some (some (.opq _)) => none
        | some none => none
        | _ => some false
def putA (N : Nat) (tm : Tm) (dst : Option Tmp) (v : AV) : M Tm := match dst with
  | none => ret tm
  | some d => bif Nat.blt d N then ret (tm.put d (some v)) else fail
def operA (P : Program) (H : Hooks) (e : Ex) (N : Nat) (ops : Array Oper) (o : Oper) (tm : Tm) : M Tm := match wantA ops o tm with
  | some true => bnd (askA H tm o.op (opA P H e o tm)) fun v => (match v with
    | .pan _ => fail
    | v => putA N tm o.dst v)
  | some false => putA N tm o.dst undefA
  | none => fail
def deferA (P : Program) (tm : Tm) (c : Call) : M AV := bnd (opt (avals tm c.args.toList)) fun args => (match c.callee with
  | .value f => bnd (opt (aval tm f)) fun v => (match v with
    | .fn (.func g) first cap => (match P.funcs[g]? with
      | some fn => bif fn.name == "runtime.NumGoroutine" || fn.body.isNone then fail else ret (.fn (.func g) (first ++ args ++ cap) [])
      | none => fail)
    | _ => fail)
  | _ => fail)
def operP (P : Program) (H : Hooks) (e : Ex) (N : Nat) (ops : Array Oper) (o : Oper) (tm : Tm) : M Tm := match o.op with
  | .defer c => (match wantA ops o tm with
    | some true => bnd (deferA P tm c) fun x => bnd (putA N tm o.dst undefA) fun tm' => ret ⟨tm'.t, x :: tm'.d, tm'.p⟩
    | some false => putA N tm o.dst undefA
    | none => fail)
  | .panic x => (match wantA ops o tm with
    | some true => bnd (opt (aval tm x)) fun v => (match v with
      | .ifc t u => ret ⟨tm.t, tm.d, some (.ifc t u)⟩
      | _ => fail)
    | some false => putA N tm o.dst undefA
    | none => fail)
  | .call _ => (match wantA ops o tm with
    | some true => bnd (askA H tm o.op (opA P H e o tm)) fun v => (match v with
      | .pan x => ret ⟨tm.t, tm.d, some x⟩
      | v => putA N tm o.dst v)
    | some false => putA N tm o.dst undefA
    | none => fail)
  | _ => operA P H e N ops o tm
def opsP (P : Program) (H : Hooks) (e : Ex) (N : Nat) (ops : Array Oper) : List Oper → Tm → M Tm
  | [], tm => ret tm
  | o :: r, tm => bnd (operP P H e N ops o tm) fun tm' => (match tm'.p with
    | some _ => ret tm'
    | none => opsP P H e N ops r tm')
def endP (tm : Tm) : M (Exit × Tm) := match tm.p with
  | some _ => ret (.panic [], tm)
  | none => ret (.normal, tm)
def capt {α : Type} (x : M α) : M (α × List Nat) := fun s => match x ⟨s.heap, s.next, []⟩ with
  | some (a, s') => some ((a, s'.log), ⟨s'.heap, s'.next, s'.log ++ s.log⟩)
  | none => none
def drawA (P : Program) (H : Hooks) (e : Ex) (N : Nat) (ops : Array Oper) : List Oper → Tm → M (Tm × List (List Nat))
  | [], tm => ret (tm, [])
  | o :: r, tm => bnd (capt (operA P H e N ops o tm)) fun (tm', l) => bnd (drawA P H e N ops r tm') fun (tm'', ls) => ret (tm'', l :: ls)
def wrote (l : List Nat) : Tr Unit := l.foldr (fun x t => bif Nat.beq (x % 2) 1 then t.put (x / 2) () else t) .lf
def meets (t : Tr Unit) : List Nat → Bool
  | [] => false
  | x :: l => (match t.get (x / 2) with | some _ => true | none => false) || meets t l
def hits (x : Nat) : List Nat → Bool
  | [] => false
  | y :: l => bif Nat.beq (x / 2) (y / 2) && (Nat.beq (x % 2) 1 || Nat.beq (y % 2) 1) then true else hits x l
def hitsAny : List Nat → List Nat → Bool
  | [], _ => false
  | x :: l, b => bif hits x b then true else hitsAny l b
def shortN : Nat → List Nat → Bool
  | _, [] => true
  | 0, _ :: _ => false
  | n + 1, _ :: l => shortN n l
def noMeet (a b : List Nat) : Bool := bif shortN 6 b then !hitsAny b a else bif shortN 6 a then !hitsAny a b else !meets (wrote a) b && !meets (wrote b) a
def ancs (ops : List Oper) : List (List Nat) :=
  ops.foldl (fun acc o => acc ++ [o.after.toList.foldr (fun ed l => bif Region.binds .any ed then ed.on :: ((acc[ed.on]?).getD [] ++ l) else l) []]) []
def pairOk (ops : Array Oper) (i j : Nat) (x y : Oper) (ay : List Nat) (lx ly : List Nat) : Bool :=
  elemN i ay || (noMeet lx ly && Oper.apart ops x y)
def rowOk (ops : Array Oper) (j : Nat) (y : Oper) (ay ly : List Nat) : Nat → List Oper → List (List Nat) → Bool
  | i, x :: r, lx :: ls => bif Nat.blt i j then pairOk ops i j x y ay lx ly && rowOk ops j y ay ly (i + 1) r ls else true
  | _, _, _ => true
def edgeOk (j : Nat) (y : Oper) : Bool := y.after.toList.all fun ed => !Region.binds .any ed || Nat.blt ed.on j
def allOk (ops : Array Oper) (all : List Oper) (logs : List (List Nat)) : Nat → List Oper → List (List Nat) → List (List Nat) → Bool
  | _, [], _, _ => true
  | j, y :: r, ay :: ays, ly :: ls => edgeOk j y && rowOk ops j y ay ly 0 all logs && allOk ops all logs (j + 1) r ays ls
  | _, _, _, _ => false
def rangeOf : Code → Option Operand
  | .seq (.region _ ops false) _ => match ops.toList with
    | o :: _ => match o.op, o.guard with
      | .next x false, none => some x
      | _, _ => none
    | [] => none
  | _ => none
def rangeA (r : Option Operand) (tm : Tm) (round : M Unit → M (Exit × Tm)) : M (Exit × Tm) := match r with
  | none => round (ret ())
  | some x => bnd (opt (aval tm x)) fun v => (match v with
    | .ptr A 0 => bnd (rd A) fun b => (match b with
      | .miter none since seen last => round (wr A (.mforce none since seen last none 0))
      | .miter (some mA) since seen last => bnd (rd mA) fun b => (match b with
        | .map es clk => bif allBefore since es && Nat.ble since last then (match leftA seen es with
          | [] => round (wr A (.mforce (some mA) since seen last none clk))
          | c :: l => joinAll (round (wr A (.mforce (some mA) since seen last (some c) clk))) (l.map fun c => round (wr A (.mforce (some mA) since seen last (some c) clk)))) else fail
        | _ => fail)
      | _ => fail)
    | _ => fail)
def codeA (P : Program) (H : Hooks) (e : Ex) (N : Nat) : Code → Tm → M (Exit × Tm)
  | .skip, tm => ret (.normal, tm)
  | .label _, tm => ret (.normal, tm)
  | .region _ ops false, tm => (match tm.p with
    | some _ => fail
    | none => bnd (opsP P H e N ops ops.toList tm) fun tm' => endP tm')
  | .region _ ops true, tm => bnd (drawA P H e N ops ops.toList tm) fun (tm', logs) => bif allOk ops ops.toList logs 0 ops.toList (ancs ops.toList) logs then ret (.normal, tm') else fail
  | .seq a b, tm => bnd (codeA P H e N a tm) fun (x, tm') => (match x with
    | .normal => codeA P H e N b tm'
    | x => ret (x, tm'))
  | .cond c a b, tm => bnd (opt (aval tm c)) fun v => (match v with
    | .bool true => codeA P H e N a tm
    | .bool false => codeA P H e N b tm
    | _ => fail)
  | .block id b, tm => bnd (codeA P H e N b tm) fun (x, tm') => (match x with
    | .exit id' => bif Nat.beq id' id then ret (.normal, tm') else ret (.exit id', tm')
    | x => ret (x, tm'))
  | .loop b, tm => rangeA (rangeOf b) tm (fun F => bnd F fun _ => bnd (codeA P H e N b tm) fun (x, tm') => (match x with
    | .normal => e.loop N b tm'
    | x => ret (x, tm')))
  | .scope b, tm => bnd (codeA P H e N b tm) fun (x, tm') => (match x with
    | .goto _ => fail
    | x => ret (x, tm'))
  | .exit id, tm => ret (.exit id, tm)
  | .ret, tm => ret (.ret, tm)
  | _, _ => fail
def resultA (P : Program) (tm : Tm) : List ResultVar → M (List AV)
  | [] => ret []
  | .tmp t :: r => bnd (opt (aval tm (.tmp t))) fun v => bnd (resultA P tm r) fun l => ret (v :: l)
  | .cell a t :: r => bnd (opt (aval tm (.tmp a))) fun v => (match v with
    | .ptr A i => bnd (loadT P t A i) fun x => bnd (resultA P tm r) fun l => ret (x :: l)
    | _ => fail)
def tmOf : Nat → List AV → Tm → Tm
  | _, [], tm => tm
  | i, v :: l, tm => tmOf (i + 1) l (tm.put i (some v))
def settleA : MA → MA
  | .pan _ true => .rtn
  | u => u
def leaveA (P : Program) (e : Ex) (fn : Func) (tm : Tm) : List AV → MA → M AV
  | [], .rtn => bnd (resultA P tm fn.results.toList) fun l => (match l with
    | [v] => ret v
    | l => ret (.tup l))
  | [], .pan v false => ret (.pan v)
  | [], .pan _ true => fail
  | .fn (.func f) l [] :: ds, u => bnd (e.callD f l u) fun u' => leaveA P e fn tm ds (settleA u')
  | _ :: _, _ => fail
def callA (P : Program) (H : Hooks) (e : Ex) (f : FuncId) (args : List AV) : M AV := match P.funcs[f]? with
  | none => fail
  | some fn => match fn.body with
    | none => fail
    | some c => bnd (codeA P H e (args.length + (fn.ntmps - args.length)) c (tmOf 0 args Tm.nil)) fun (x, tm) => (match x with
      | .normal | .ret => leaveA P e fn tm tm.d .rtn
      | .panic _ => (match tm.p with
        | some v => leaveA P e fn tm tm.d (.pan v false)
        | none => fail)
      | _ => fail)
def isRecover : Op → Bool
  | .call c => (match c.callee with
    | .builtin .recover => true
    | _ => false)
  | _ => false
def operS (P : Program) (H : Hooks) (e : Ex) (N : Nat) (ops : Array Oper) (o : Oper) (tm : Tm) (u : MA) : M (Tm × MA) := bif isRecover o.op then
    (match wantA ops o tm with
    | some true => (match u with
      | .pan v false => bnd (putA N tm o.dst v) fun tm' => ret (tm', .pan v true)
      | u => bnd (putA N tm o.dst .ifc0) fun tm' => ret (tm', u))
    | some false => bnd (putA N tm o.dst undefA) fun tm' => ret (tm', u)
    | none => fail)
  else bnd (operA P H e N ops o tm) fun tm' => ret (tm', u)
def opsS (P : Program) (H : Hooks) (e : Ex) (N : Nat) (ops : Array Oper) : List Oper → Tm → MA → M (Tm × MA)
  | [], tm, u => ret (tm, u)
  | o :: r, tm, u => bnd (operS P H e N ops o tm u) fun (tm', u') => opsS P H e N ops r tm' u'
def codeS (P : Program) (H : Hooks) (e : Ex) (N : Nat) : Code → Tm → MA → M (Exit × Tm × MA)
  | .seq a b, tm, u => bnd (codeS P H e N a tm u) fun (x, tm', u') => (match x with
    | .normal => codeS P H e N b tm' u'
    | x => ret (x, tm', u'))
  | .region _ ops false, tm, u => bnd (opsS P H e N ops ops.toList tm u) fun (tm', u') => ret (.normal, tm', u')
  | .cond c a b, tm, u => bnd (opt (aval tm c)) fun v => (match v with
    | .bool true => codeS P H e N a tm u
    | .bool false => codeS P H e N b tm u
    | _ => fail)
  | c, tm, u => bnd (codeA P H e N c tm) fun (x, tm') => (match x with
    | .panic _ => fail
    | x => ret (x, tm', u))
def callDA (P : Program) (H : Hooks) (e : Ex) (f : FuncId) (args : List AV) (u : MA) : M MA := match P.funcs[f]? with
  | none => fail
  | some fn => match fn.body with
    | none => fail
    | some c => bnd (codeS P H e (args.length + (fn.ntmps - args.length)) c (tmOf 0 args Tm.nil) u) fun (x, tm, u') => (match x with
      | .normal | .ret => (match tm.d with
        | [] => bnd (resultA P tm fn.results.toList) fun _ => ret u'
        | _ => fail)
      | _ => fail)
def exec (P : Program) (H : Hooks) : Nat → Ex
  | 0 => ⟨fun _ _ => fail, fun _ _ _ => fail, fun _ _ _ => fail⟩
  | n + 1 => ⟨callA P H (exec P H n), fun N b tm => codeA P H (exec P H n) N (.loop b) tm, callDA P H (exec P H n)⟩
end Go.Proofs.YtbecmcjibpamoaaGreatDoor.Zz
namespace Go.Proofs.YtbecmcjibpamoaaGreatDoor.Zz
open Go
theorem Tr.get_lf {α : Type} (n : Nat) : (Tr.lf : Tr α).get n = none := rfl
theorem Tr.get_ins {α : Type} (x : α) : ∀ (f : Nat) (t : Tr α) (n k : Nat), n < f → (Tr.ins x f t n).get k = if k = n then some x else t.get k := by
  intro f
  induction f with
  | zero => intro t n k h; omega
  | succ f ih =>
    intro t n k h
    have hb : ∀ a b : Nat, Nat.beq a b = decide (a = b) := fun a b => by
      rw [Bool.eq_iff_iff]; simp
    cases t with
    | lf =>
      simp only [Tr.ins, hb]
      by_cases h0 : n = 0
      · subst h0
        simp only [decide_true, cond_true, Tr.get, hb]
        by_cases hk : k = 0
        · simp [hk]
        · simp [hk, Tr.get]
      · simp only [h0, decide_false, cond_false]
        by_cases h1 : n % 2 = 1
        · simp only [h1, decide_true, cond_true, Tr.get, hb]
          by_cases hk : k = 0
          · simp [hk, Tr.get]; omega
          · simp only [hk, decide_false, cond_false]
            by_cases hk1 : k % 2 = 1
            · simp only [hk1, decide_true, cond_true]
              rw [ih _ _ _ (by omega)]
              by_cases e : k = n
              · simp [e]
              · rw [if_neg (by omega), if_neg e]; rfl
            · simp only [hk1, decide_false, cond_false]
              rw [if_neg (by omega)]
        · simp only [h1, decide_false, cond_false, Tr.get, hb]
          by_cases hk : k = 0
          · simp [hk, Tr.get]; omega
          · simp only [hk, decide_false, cond_false]
            by_cases hk1 : k % 2 = 1
            · simp only [hk1, decide_true, cond_true]
              rw [if_neg (by omega)]
            · simp only [hk1, decide_false, cond_false]
              rw [ih _ _ _ (by omega)]
              by_cases e : k = n
              · simp [e]
              · rw [if_neg (by omega), if_neg e]; rfl
    | nd v l r =>
      simp only [Tr.ins, hb]
      by_cases h0 : n = 0
      · subst h0
        simp only [decide_true, cond_true, Tr.get, hb]
        by_cases hk : k = 0
        · simp [hk]
        · simp [hk]
      · simp only [h0, decide_false, cond_false]
        by_cases h1 : n % 2 = 1
        · simp only [h1, decide_true, cond_true, Tr.get, hb]
          by_cases hk : k = 0
          · simp [hk]; omega
          · simp only [hk, decide_false, cond_false]
            by_cases hk1 : k % 2 = 1
            · simp only [hk1, decide_true, cond_true]
              rw [ih _ _ _ (by omega)]
              by_cases e : k = n
              · simp [e]
              · rw [if_neg (by omega), if_neg e]
            · simp only [hk1, decide_false, cond_false]
              rw [if_neg (by omega)]
        · simp only [h1, decide_false, cond_false, Tr.get, hb]
          by_cases hk : k = 0
          · simp [hk]; omega
          · simp only [hk, decide_false, cond_false]
            by_cases hk1 : k % 2 = 1
            · simp only [hk1, decide_true, cond_true]
              rw [if_neg (by omega)]
            · simp only [hk1, decide_false, cond_false]
              rw [ih _ _ _ (by omega)]
              by_cases e : k = n
              · simp [e]
              · rw [if_neg (by omega), if_neg e]
theorem Tr.get_put {α : Type} (t : Tr α) (n : Nat) (x : α) (k : Nat) : (t.put n x).get k = if k = n then some x else t.get k := Tr.get_ins x (n + 1) t n k (by omega)
theorem ble_f {n m : Nat} (h : ¬ n ≤ m) : Nat.ble n m = false := by
  cases hb : Nat.ble n m with
  | false => rfl
  | true => exact absurd (Nat.le_of_ble_eq_true hb) h
theorem T16.get2_put2 {β : Type} (t : T16 (T16 β)) (i j i' j' : Nat) (x : β) (hi : i < 16) (hj : j < 16) (hi' : i' < 16) (hj' : j' < 16) : ((t.put2 i j x).get i').get j' = if i' = i ∧ j' = j then x else (t.get i').get j' := by
  unfold T16.put2
  by_cases h1 : i' = i
  · subst h1
    rw [T16.get_same _ _ _ hi]
    by_cases h2 : j' = j
    · subst h2; rw [T16.get_same _ _ _ hj, if_pos ⟨rfl, rfl⟩]
    · rw [T16.get_other _ _ _ _ hj hj' h2, if_neg (fun h => h2 h.2)]
  · rw [T16.get_other _ _ _ _ hi hi' h1, if_neg (fun h => h1 h.1)]
theorem T16.get3_put3 {β : Type} (t : T16 (T16 (T16 β))) (i j k i' j' k' : Nat) (x : β) (hi : i < 16) (hj : j < 16) (hk : k < 16) (hi' : i' < 16) (hj' : j' < 16) (hk' : k' < 16) : (((t.put3 i j k x).get i').get j').get k' = if i' = i ∧ j' = j ∧ k' = k then x else ((t.get i').get j').get k' := by
  unfold T16.put3
  by_cases h1 : i' = i
  · subst h1
    rw [T16.get_same _ _ _ hi, T16.get2_put2 _ _ _ _ _ _ hj hk hj' hk']
    by_cases h2 : j' = j ∧ k' = k
    · rw [if_pos h2, if_pos ⟨rfl, h2⟩]
    · rw [if_neg h2, if_neg (fun h => h2 h.2)]
  · rw [T16.get_other _ _ _ _ hi hi' h1, if_neg (fun h => h1 h.1)]
theorem T16.get4_put4 {β : Type} (t : T16 (T16 (T16 (T16 β)))) (i j k l i' j' k' l' : Nat) (x : β) (hi : i < 16) (hj : j < 16) (hk : k < 16) (hl : l < 16) (hi' : i' < 16) (hj' : j' < 16) (hk' : k' < 16) (hl' : l' < 16) : ((((t.put4 i j k l x).get i').get j').get k').get l' = if i' = i ∧ j' = j ∧ k' = k ∧ l' = l then x else (((t.get i').get j').get k').get l' := by
  unfold T16.put4
  by_cases h1 : i' = i
  · subst h1
    rw [T16.get_same _ _ _ hi, T16.get3_put3 _ _ _ _ _ _ _ _ hj hk hl hj' hk' hl']
    by_cases h2 : j' = j ∧ k' = k ∧ l' = l
    · rw [if_pos h2, if_pos ⟨rfl, h2⟩]
    · rw [if_neg h2, if_neg (fun h => h2 h.2)]
  · rw [T16.get_other _ _ _ _ hi hi' h1, if_neg (fun h => h1 h.1)]
inductive Cls where
  | one | two | three | four | far
def cls (n : Nat) : Cls := if n ≤ 15 then .one else if n ≤ 255 then .two else if n ≤ 4095 then .three else if n ≤ 65535 then .four else .far
theorem Hp.get_eq {α : Type} (t : Hp α) (n : Nat) : t.get n = match cls n with
    | .one => t.a.get n
    | .two => (t.b.get (n / 16)).get (n % 16)
    | .three => ((t.c.get (n / 256)).get (n / 16 % 16)).get (n % 16)
    | .four => (((t.d.get (n / 4096)).get (n / 256 % 16)).get (n / 16 % 16)).get (n % 16)
    | .far => t.h.get n := by
  obtain ⟨a, b, c, d, h⟩ := t
  unfold cls
  by_cases h1 : n ≤ 15
  · rw [if_pos h1]; unfold Hp.get; rw [show Nat.ble n 15 = true by simpa using h1]
  rw [if_neg h1]; unfold Hp.get; rw [ble_f h1]
  by_cases h2 : n ≤ 255
  · rw [if_pos h2, show Nat.ble n 255 = true by simpa using h2]; rfl
  rw [if_neg h2, ble_f h2]
  by_cases h3 : n ≤ 4095
  · rw [if_pos h3, show Nat.ble n 4095 = true by simpa using h3]; rfl
  rw [if_neg h3, ble_f h3]
  by_cases h4 : n ≤ 65535
  · rw [if_pos h4, show Nat.ble n 65535 = true by simpa using h4]; rfl
  rw [if_neg h4, ble_f h4]
theorem Hp.put_eq {α : Type} (t : Hp α) (n : Nat) (x : α) : t.put n x = match cls n with
    | .one => ⟨t.a.set n (some x), t.b, t.c, t.d, t.h⟩
    | .two => ⟨t.a, t.b.put2 (n / 16) (n % 16) (some x), t.c, t.d, t.h⟩
    | .three => ⟨t.a, t.b, t.c.put3 (n / 256) (n / 16 % 16) (n % 16) (some x), t.d, t.h⟩
    | .four => ⟨t.a, t.b, t.c, t.d.put4 (n / 4096) (n / 256 % 16) (n / 16 % 16) (n % 16) (some x), t.h⟩
    | .far => ⟨t.a, t.b, t.c, t.d, t.h.put n x⟩ := by
  obtain ⟨a, b, c, d, h⟩ := t
  unfold cls
  by_cases h1 : n ≤ 15
  · rw [if_pos h1]; unfold Hp.put; rw [show Nat.ble n 15 = true by simpa using h1]
  rw [if_neg h1]; unfold Hp.put; rw [ble_f h1]
  by_cases h2 : n ≤ 255
  · rw [if_pos h2, show Nat.ble n 255 = true by simpa using h2]; rfl
  rw [if_neg h2, ble_f h2]
  by_cases h3 : n ≤ 4095
  · rw [if_pos h3, show Nat.ble n 4095 = true by simpa using h3]; rfl
  rw [if_neg h3, ble_f h3]
  by_cases h4 : n ≤ 65535
  · rw [if_pos h4, show Nat.ble n 65535 = true by simpa using h4]; rfl
  rw [if_neg h4, ble_f h4]
theorem cls_bound (n : Nat) : match cls n with
    | .one => n ≤ 15
    | .two => 15 < n ∧ n ≤ 255
    | .three => 255 < n ∧ n ≤ 4095
    | .four => 4095 < n ∧ n ≤ 65535
    | .far => 65535 < n := by
  unfold cls
  by_cases h1 : n ≤ 15
  · rw [if_pos h1]; exact h1
  rw [if_neg h1]
  by_cases h2 : n ≤ 255
  · rw [if_pos h2]; exact ⟨by omega, h2⟩
  rw [if_neg h2]
  by_cases h3 : n ≤ 4095
  · rw [if_pos h3]; exact ⟨by omega, h3⟩
  rw [if_neg h3]
  by_cases h4 : n ≤ 65535
  · rw [if_pos h4]; exact ⟨by omega, h4⟩
  rw [if_neg h4]
  show 65535 < n
  omega
theorem Hp.get_put {α : Type} (t : Hp α) (n : Nat) (x : α) (k : Nat) : (t.put n x).get k = if k = n then some x else t.get k := by
  rw [Hp.put_eq, Hp.get_eq, Hp.get_eq]
  have hn := cls_bound n
  have hk := cls_bound k
  cases hc : cls n <;> cases hd : cls k <;> rw [hc] at hn <;> rw [hd] at hk <;> dsimp only at hn hk ⊢
  case one.one =>
    by_cases e : k = n
    · subst e; rw [if_pos rfl, T16.get_same _ _ _ (by omega)]
    · rw [if_neg e, T16.get_other _ _ _ _ (by omega) (by omega) e]
  case two.two =>
    rw [T16.get2_put2 _ _ _ _ _ _ (by omega) (by omega) (by omega) (by omega)]
    by_cases e : k = n
    · subst e; rw [if_pos rfl, if_pos ⟨rfl, rfl⟩]
    · rw [if_neg e, if_neg (by omega)]
  case three.three =>
    rw [T16.get3_put3 _ _ _ _ _ _ _ _ (by omega) (by omega) (by omega) (by omega) (by omega) (by omega)]
    by_cases e : k = n
    · subst e; rw [if_pos rfl, if_pos ⟨rfl, rfl, rfl⟩]
    · rw [if_neg e, if_neg (by omega)]
  case four.four =>
    rw [T16.get4_put4 _ _ _ _ _ _ _ _ _ _ (by omega) (by omega) (by omega) (by omega) (by omega) (by omega) (by omega) (by omega)]
    by_cases e : k = n
    · subst e; rw [if_pos rfl, if_pos ⟨rfl, rfl, rfl, rfl⟩]
    · rw [if_neg e, if_neg (by omega)]
  case far.far => rw [Tr.get_put]
  all_goals rw [if_neg (by omega)]
theorem Hp.get_lf {α : Type} (n : Nat) : (Hp.lf : Hp α).get n = none := by
  rw [Hp.get_eq]
  unfold Hp.lf
  cases cls n <;> simp only [T16.get_all]
  rfl
theorem CT.get_put (c : CT) (n : Nat) (x : AV) (k : Nat) : (c.put n x).get k = if k = n then some x else c.get k := by
  unfold CT.get CT.put
  simp only [Tr.get_put]
  by_cases h : k = n
  · simp [h]
  · simp [h]
theorem nthL_eq : ∀ (l : List AV) (i : Nat), nthL l i = l[i]?
  | [], i => rfl
  | a :: l, i => by
    cases i with
    | zero => rfl
    | succ i =>
      show (bif Nat.beq (i + 1) 0 then some a else nthL l (i + 1 - 1)) = _
      rw [show Nat.beq (i + 1) 0 = false from rfl, cond_false, Nat.add_sub_cancel, nthL_eq l i]; rfl
theorem Tm.get_put (tm : Tm) (n : Nat) (x : Option AV) (k : Nat) : (tm.put n x).get k = if k = n then some x else tm.get k := Hp.get_put tm.t n x k
def Tch (L : List Nat) (A : Nat) : Prop := 2 * A ∈ L ∨ 2 * A + 1 ∈ L
structure Fro {α : Type} (x : M α) (st : ASt) (a : α) (st' : ASt) (L : List Nat) : Prop where
  log : st'.log = L ++ st.log
  next : st.next ≤ st'.next
  alloc : ∀ A, st.next ≤ A → A < st'.next → 2 * A + 1 ∈ L
  same : ∀ A, 2 * A + 1 ∉ L → ¬ (st.next ≤ A ∧ A < st'.next) → st'.heap.get A = st.heap.get A
  other : ∀ s2 : ASt, s2.next = st.next → (∀ A, Tch L A ∨ (st.next ≤ A ∧ A < st'.next) → s2.heap.get A = st.heap.get A) →
    ∃ s2', x s2 = some (a, s2') ∧ s2'.log = L ++ s2.log ∧ s2'.next = st'.next ∧ (∀ A, (2 * A + 1 ∈ L ∨ (st.next ≤ A ∧ A < st'.next)) → s2'.heap.get A = st'.heap.get A) ∧
      (∀ A, 2 * A + 1 ∉ L → ¬ (st.next ≤ A ∧ A < st'.next) → s2'.heap.get A = s2.heap.get A)
def Fr {α : Type} (x : M α) : Prop := ∀ st a st', x st = some (a, st') → ∃ L, Fro x st a st' L
theorem Fr.fail {α : Type} : Fr (fail : M α) := fun st a st' h => by cases h
theorem Fr.ret {α : Type} (a : α) : Fr (ret a) := fun st b st' h => by
  cases h
  exact ⟨[], rfl, Nat.le_refl _, fun A h1 h2 => absurd h1 (Nat.not_le.2 h2), fun A _ _ => rfl, fun s2 hn _ => ⟨s2, rfl, rfl, hn, fun A h => by simp at h; omega, fun A _ _ => rfl⟩⟩
theorem Fr.opt {α : Type} (o : Option α) : Fr (opt o) := by
  cases o with
  | none => exact Fr.fail
  | some a => exact Fr.ret a
theorem Fr.rd (A : Nat) : Fr (rd A) := fun st b st' h => by
  unfold Zz.rd at h
  cases hb : st.heap.get A with
  | none => rw [hb] at h; cases h
  | some c =>
    rw [hb] at h
    cases h
    refine ⟨[2 * A], rfl, Nat.le_refl _, fun B h1 h2 => absurd h1 (Nat.not_le.2 h2), fun B _ _ => rfl, fun s2 hn hs => ⟨⟨s2.heap, s2.next, 2 * A :: s2.log⟩, ?_, rfl, hn, fun B h => ?_, fun B _ _ => rfl⟩⟩
    · unfold Zz.rd; rw [hs A (.inl (.inl (by simp))), hb]
    · rcases h with h | h
      · simp at h; omega
      · simp at h; omega
theorem Fr.wr (A : Nat) (b : ABlk) : Fr (wr A b) := fun st u st' h => by
  unfold Zz.wr at h
  cases hb : st.heap.get A with
  | none => rw [hb] at h; cases h
  | some c =>
    rw [hb] at h
    cases h
    refine ⟨[2 * A + 1], rfl, Nat.le_refl _, fun B h1 h2 => absurd h1 (Nat.not_le.2 h2), fun B hB _ => ?_, fun s2 hn hs => ⟨⟨s2.heap.put A b, s2.next, (2 * A + 1) :: s2.log⟩, ?_, rfl, hn, fun B h => ?_, fun B hB _ => ?_⟩⟩
    · show (st.heap.put A b).get B = _
      rw [Hp.get_put, if_neg (by intro e; subst e; simp at hB)]
    · unfold Zz.wr; rw [hs A (.inl (.inr (by simp))), hb]
    · rcases h with h | h
      · have : B = A := by simp at h; omega
        subst this
        show (s2.heap.put B b).get B = (st.heap.put B b).get B
        rw [Hp.get_put, Hp.get_put, if_pos rfl, if_pos rfl]
      · simp at h; omega
    · show (s2.heap.put A b).get B = _
      rw [Hp.get_put, if_neg (by intro e; subst e; simp at hB)]
theorem Fr.nw (b : ABlk) : Fr (nw b) := fun st u st' h => by
  unfold Zz.nw at h
  cases h
  refine ⟨[2 * st.next + 1], rfl, by simp, fun B h1 h2 => ?_, fun B _ hB => ?_, fun s2 hn hs => ⟨⟨s2.heap.put s2.next b, s2.next + 1, (2 * s2.next + 1) :: s2.log⟩, ?_, by rw [hn]; rfl, by simp [hn], fun B h => ?_, fun B _ hB => ?_⟩⟩
  · simp only at h2
    simp; omega
  · show (st.heap.put st.next b).get B = _
    rw [Hp.get_put, if_neg (by intro e; subst e; simp at hB)]
  · unfold Zz.nw; rw [hn]
  · have : B = st.next := by simp at h; omega
    subst this
    show (s2.heap.put s2.next b).get _ = (st.heap.put st.next b).get _
    rw [Hp.get_put, Hp.get_put, hn]
    simp
  · show (s2.heap.put s2.next b).get B = _
    rw [Hp.get_put, if_neg (by intro e; subst e; rw [hn] at hB; simp at hB)]
theorem Fr.bnd {α β : Type} {x : M α} {f : α → M β} (hx : Fr x) (hf : ∀ a, Fr (f a)) : Fr (bnd x f) := fun st b st' h => by
  unfold Zz.bnd at h
  cases h1 : x st with
  | none => rw [h1] at h; cases h
  | some p =>
    obtain ⟨a, st1⟩ := p
    rw [h1] at h
    simp only at h
    obtain ⟨L1, q1⟩ := hx st a st1 h1
    obtain ⟨L2, q2⟩ := hf a st1 b st' h
    have n1 := q1.next
    have n2 := q2.next
    refine ⟨L2 ++ L1, by rw [q2.log, q1.log, List.append_assoc], by omega, fun A e1 e2 => (by
      by_cases h : A < st1.next
      · exact List.mem_append_right _ (q1.alloc A e1 h)
      · exact List.mem_append_left _ (q2.alloc A (by omega) e2)), fun A hA hN => ?_, fun s2 hn hs => ?_⟩
    · rw [q2.same A (fun h => hA (List.mem_append_left _ h)) (by omega), q1.same A (fun h => hA (List.mem_append_right _ h)) (by omega)]
    · obtain ⟨s3, e1, e2, e3, e4, e5⟩ := q1.other s2 hn (fun A hA => hs A (by
        rcases hA with hA | hA
        · exact .inl (hA.imp (List.mem_append_right _) (List.mem_append_right _))
        · exact .inr (by omega)))
      obtain ⟨s4, g1, g2, g3, g4, g5⟩ := q2.other s3 e3 (fun A hA => by
        by_cases hw : 2 * A + 1 ∈ L1 ∨ (st.next ≤ A ∧ A < st1.next)
        · exact e4 A hw
        · rw [e5 A (fun h => hw (.inl h)) (fun h => hw (.inr h)), q1.same A (fun h => hw (.inl h)) (fun h => hw (.inr h))]
          refine hs A ?_
          rcases hA with hA | hA
          · exact .inl (hA.imp (List.mem_append_left _) (List.mem_append_left _))
          · exact .inr (by omega))
      refine ⟨s4, ?_, by rw [g2, e2, List.append_assoc], g3, fun A hA => ?_, fun A hA hN => ?_⟩
      · unfold Zz.bnd; rw [e1]; exact g1
      · by_cases hw : 2 * A + 1 ∈ L2 ∨ (st1.next ≤ A ∧ A < st'.next)
        · exact g4 A hw
        · rw [g5 A (fun h => hw (.inl h)) (fun h => hw (.inr h)), q2.same A (fun h => hw (.inl h)) (fun h => hw (.inr h))]
          refine e4 A ?_
          rcases hA with hA | hA
          · rcases List.mem_append.1 hA with h | h
            · exact absurd (.inl h) hw
            · exact .inl h
          · by_cases h : A < st1.next
            · exact .inr ⟨hA.1, h⟩
            · exact absurd (.inr ⟨by omega, hA.2⟩) hw
      · rw [g5 A (fun h => hA (List.mem_append_left _ h)) (by omega), e5 A (fun h => hA (List.mem_append_right _ h)) (by omega)]
theorem Fr.capt {α : Type} {x : M α} (hx : Fr x) : Fr (capt x) := fun st b st' h => by
  unfold Zz.capt at h
  cases h1 : x ⟨st.heap, st.next, []⟩ with
  | none => rw [h1] at h; cases h
  | some p =>
    obtain ⟨a, s1⟩ := p
    rw [h1] at h
    cases h
    obtain ⟨L, q⟩ := hx _ a s1 h1
    have hl : s1.log = L := by rw [q.log]; simp
    refine ⟨L, by simp [hl], q.next, q.alloc, q.same, fun s2 hn hs => ?_⟩
    obtain ⟨s3, e1, e2, e3, e4, e5⟩ := q.other ⟨s2.heap, s2.next, []⟩ hn hs
    have e2' : s3.log = L := by rw [e2]; simp
    refine ⟨⟨s3.heap, s3.next, s3.log ++ s2.log⟩, ?_, by simp [e2'], e3, e4, e5⟩
    unfold Zz.capt
    rw [e1, hl]
    simp [e2']
theorem capt_log {α : Type} {x : M α} (hx : Fr x) {st st' : ASt} {a : α} {l : List Nat} (h : capt x st = some ((a, l), st')) : ∃ s1, x ⟨st.heap, st.next, []⟩ = some (a, s1) ∧ Fro x ⟨st.heap, st.next, []⟩ a s1 l ∧ st'.heap = s1.heap ∧ st'.next = s1.next := by
  unfold Zz.capt at h
  cases h1 : x ⟨st.heap, st.next, []⟩ with
  | none => rw [h1] at h; cases h
  | some p =>
    obtain ⟨b, s1⟩ := p
    rw [h1] at h
    cases h
    obtain ⟨L, q⟩ := hx _ a s1 h1
    have hl : s1.log = L := by rw [q.log]; simp
    exact ⟨s1, rfl, hl ▸ q, rfl, rfl⟩
theorem Fr.cond {α : Type} {c : Bool} {x y : M α} (hx : Fr x) (hy : Fr y) : Fr (bif c then x else y) := by cases c <;> assumption
theorem Fr.loadC (A i k : Nat) : Fr (loadC A i k) := by
  unfold Zz.loadC
  repeat' (first | exact Fr.fail | exact Fr.ret _ | exact Fr.opt _ | exact Fr.rd _ | exact Fr.wr _ _ | exact Fr.nw _ | (refine Fr.bnd ?_ (fun _ => ?_)) | refine Fr.cond ?_ ?_ | split)
theorem Fr.load1 (A i : Nat) : Fr (load1 A i) := by
  unfold Zz.load1
  repeat' (first | exact Fr.fail | exact Fr.ret _ | exact Fr.opt _ | exact Fr.rd _ | exact Fr.wr _ _ | exact Fr.nw _ | (refine Fr.bnd ?_ (fun _ => ?_)) | refine Fr.cond ?_ ?_ | split)
theorem Fr.storeC (A i : Nat) (l : List AV) : Fr (storeC A i l) := by
  unfold Zz.storeC
  repeat' (first | exact Fr.fail | exact Fr.ret _ | exact Fr.opt _ | exact Fr.rd _ | exact Fr.wr _ _ | exact Fr.nw _ | (refine Fr.bnd ?_ (fun _ => ?_)) | refine Fr.cond ?_ ?_ | split)
theorem Fr.newC (e : TypeId) (l : List AV) : Fr (newC e l) := by
  unfold Zz.newC
  repeat' (first | exact Fr.fail | exact Fr.ret _ | exact Fr.opt _ | exact Fr.rd _ | exact Fr.wr _ _ | exact Fr.nw _ | (refine Fr.bnd ?_ (fun _ => ?_)) | refine Fr.cond ?_ ?_ | split)
theorem Fr.newR (e : TypeId) (d : List AV) (k : Nat) : Fr (newR e d k) := by
  unfold Zz.newR
  exact Fr.cond (Fr.nw _) Fr.fail
theorem Fr.newS (e : TypeId) (l : List AV) : Fr (newS e l) := by
  unfold Zz.newS
  repeat' (first | exact Fr.fail | exact Fr.ret _ | exact Fr.opt _ | exact Fr.rd _ | exact Fr.wr _ _ | exact Fr.nw _ | (refine Fr.bnd ?_ (fun _ => ?_)) | refine Fr.cond ?_ ?_ | split)
theorem Fr.loadT (P : Program) (t : TypeId) (A i : Nat) : Fr (loadT P t A i) := by
  unfold Zz.loadT
  repeat' (first | exact Fr.fail | exact Fr.ret _ | exact Fr.opt _ | exact Fr.rd _ | exact Fr.wr _ _ | exact Fr.nw _ | exact Fr.loadC _ _ _ | exact Fr.load1 _ _ | exact Fr.storeC _ _ _ | exact Fr.newC _ _ | exact Fr.newR _ _ _ | exact Fr.newS _ _ | (refine Fr.bnd ?_ (fun _ => ?_)) | refine Fr.cond ?_ ?_ | split)
theorem Fr.storeT (P : Program) (t : TypeId) (A i : Nat) (v : AV) : Fr (storeT P t A i v) := by
  unfold Zz.storeT
  repeat' (first | exact Fr.fail | exact Fr.ret _ | exact Fr.opt _ | exact Fr.rd _ | exact Fr.wr _ _ | exact Fr.nw _ | exact Fr.loadC _ _ _ | exact Fr.load1 _ _ | exact Fr.storeC _ _ _ | exact Fr.newC _ _ | exact Fr.newR _ _ _ | exact Fr.newS _ _ | exact Fr.loadT _ _ _ _ | (refine Fr.bnd ?_ (fun _ => ?_)) | refine Fr.cond ?_ ?_ | split)
theorem Fr.partT (P : Program) (t : TypeId) (l : List AV) (off : Nat) : Fr (partT P t l off) := by
  unfold Zz.partT
  repeat' (first | exact Fr.fail | exact Fr.ret _ | exact Fr.opt _ | exact Fr.rd _ | exact Fr.wr _ _ | exact Fr.nw _ | exact Fr.loadC _ _ _ | exact Fr.load1 _ _ | exact Fr.storeC _ _ _ | exact Fr.newC _ _ | exact Fr.newR _ _ _ | exact Fr.newS _ _ | exact Fr.loadT _ _ _ _ | exact Fr.storeT _ _ _ _ _ | (refine Fr.bnd ?_ (fun _ => ?_)) | refine Fr.cond ?_ ?_ | split)
theorem Fr.aliveC (A : Nat) : Fr (aliveC A) := by
  unfold Zz.aliveC
  repeat' (first | exact Fr.fail | exact Fr.ret _ | exact Fr.opt _ | exact Fr.rd _ | exact Fr.wr _ _ | exact Fr.nw _ | exact Fr.loadC _ _ _ | exact Fr.load1 _ _ | exact Fr.storeC _ _ _ | exact Fr.newC _ _ | exact Fr.newR _ _ _ | exact Fr.newS _ _ | exact Fr.loadT _ _ _ _ | exact Fr.storeT _ _ _ _ _ | exact Fr.partT _ _ _ _ | (refine Fr.bnd ?_ (fun _ => ?_)) | refine Fr.cond ?_ ?_ | split)
theorem Fr.foldr {α : Type} {γ : Type} (f : γ → M α → M α) (z : M α) (hz : Fr z) (hf : ∀ c k, Fr k → Fr (f c k)) : ∀ l : List γ, Fr (l.foldr f z)
  | [] => hz
  | c :: l => hf c _ (Fr.foldr f z hz hf l)
theorem Fr.eqA (P : Program) : ∀ (n : Nat) (t : TypeId) (x y : AV), Fr (eqA P n t x y) := by
  intro n
  induction n with
  | zero => intro t x y; exact Fr.fail
  | succ n ih =>
    intro t x y
    unfold Zz.eqA
    repeat' (first | exact Fr.fail | exact Fr.ret _ | exact Fr.opt _ | exact Fr.rd _ | exact Fr.wr _ _ | exact Fr.nw _ | exact Fr.loadC _ _ _ | exact Fr.load1 _ _ | exact Fr.storeC _ _ _ | exact Fr.newC _ _ | exact Fr.newR _ _ _ | exact Fr.newS _ _ | exact Fr.loadT _ _ _ _ | exact Fr.storeT _ _ _ _ _ | exact Fr.partT _ _ _ _ | exact Fr.aliveC _ | exact ih _ _ _ | (refine Fr.foldr _ _ (Fr.ret _) (fun c k hk => ?_) _) | assumption | (refine Fr.bnd ?_ (fun _ => ?_)) | refine Fr.cond ?_ ?_ | split)
theorem Fr.binA (P : Program) (op : BinOp) (t : TypeId) (a b : AV) : Fr (binA P op t a b) := by
  unfold Zz.binA
  repeat' (first | exact Fr.fail | exact Fr.ret _ | exact Fr.opt _ | exact Fr.rd _ | exact Fr.wr _ _ | exact Fr.nw _ | exact Fr.loadC _ _ _ | exact Fr.load1 _ _ | exact Fr.storeC _ _ _ | exact Fr.newC _ _ | exact Fr.newR _ _ _ | exact Fr.newS _ _ | exact Fr.loadT _ _ _ _ | exact Fr.storeT _ _ _ _ _ | exact Fr.partT _ _ _ _ | exact Fr.aliveC _ | exact Fr.eqA _ _ _ _ _ | (refine Fr.bnd ?_ (fun _ => ?_)) | refine Fr.cond ?_ ?_ | split)
theorem Fr.unA (op : UnOp) (x : AV) : Fr (unA op x) := by
  unfold Zz.unA
  repeat' (first | exact Fr.fail | exact Fr.ret _ | exact Fr.opt _ | exact Fr.rd _ | exact Fr.wr _ _ | exact Fr.nw _ | exact Fr.loadC _ _ _ | exact Fr.load1 _ _ | exact Fr.storeC _ _ _ | exact Fr.newC _ _ | exact Fr.newR _ _ _ | exact Fr.newS _ _ | exact Fr.loadT _ _ _ _ | exact Fr.storeT _ _ _ _ _ | exact Fr.partT _ _ _ _ | exact Fr.aliveC _ | exact Fr.eqA _ _ _ _ _ | exact Fr.binA _ _ _ _ _ | (refine Fr.bnd ?_ (fun _ => ?_)) | refine Fr.cond ?_ ?_ | split)
theorem Fr.asInt (v : AV) : Fr (asInt v) := by
  unfold Zz.asInt
  repeat' (first | exact Fr.fail | exact Fr.ret _ | exact Fr.opt _ | exact Fr.rd _ | exact Fr.wr _ _ | exact Fr.nw _ | exact Fr.loadC _ _ _ | exact Fr.load1 _ _ | exact Fr.storeC _ _ _ | exact Fr.newC _ _ | exact Fr.newR _ _ _ | exact Fr.newS _ _ | exact Fr.loadT _ _ _ _ | exact Fr.storeT _ _ _ _ _ | exact Fr.partT _ _ _ _ | exact Fr.aliveC _ | exact Fr.eqA _ _ _ _ _ | exact Fr.binA _ _ _ _ _ | exact Fr.unA _ _ | (refine Fr.bnd ?_ (fun _ => ?_)) | refine Fr.cond ?_ ?_ | split)
theorem Fr.asNat (v : AV) : Fr (asNat v) := by
  unfold Zz.asNat
  repeat' (first | exact Fr.fail | exact Fr.ret _ | exact Fr.opt _ | exact Fr.rd _ | exact Fr.wr _ _ | exact Fr.nw _ | exact Fr.loadC _ _ _ | exact Fr.load1 _ _ | exact Fr.storeC _ _ _ | exact Fr.newC _ _ | exact Fr.newR _ _ _ | exact Fr.newS _ _ | exact Fr.loadT _ _ _ _ | exact Fr.storeT _ _ _ _ _ | exact Fr.partT _ _ _ _ | exact Fr.aliveC _ | exact Fr.eqA _ _ _ _ _ | exact Fr.binA _ _ _ _ _ | exact Fr.unA _ _ | exact Fr.asInt _ | (refine Fr.bnd ?_ (fun _ => ?_)) | refine Fr.cond ?_ ?_ | split)
theorem Fr.sliceA (P : Program) (t : TypeId) (x : AV) (lo hi mx : Option AV) : Fr (sliceA P t x lo hi mx) := by
  unfold Zz.sliceA
  repeat' (first | exact Fr.fail | exact Fr.ret _ | exact Fr.opt _ | exact Fr.rd _ | exact Fr.wr _ _ | exact Fr.nw _ | exact Fr.loadC _ _ _ | exact Fr.load1 _ _ | exact Fr.storeC _ _ _ | exact Fr.newC _ _ | exact Fr.newR _ _ _ | exact Fr.newS _ _ | exact Fr.loadT _ _ _ _ | exact Fr.storeT _ _ _ _ _ | exact Fr.partT _ _ _ _ | exact Fr.aliveC _ | exact Fr.eqA _ _ _ _ _ | exact Fr.binA _ _ _ _ _ | exact Fr.unA _ _ | exact Fr.asInt _ | exact Fr.asNat _ | (refine Fr.bnd ?_ (fun _ => ?_)) | refine Fr.cond ?_ ?_ | split)
theorem Fr.growA (A j len sz k : Nat) (ex : Bool) (cap : Nat) (e : TypeId) (new : List AV) : Fr (growA A j len sz k ex cap e new) := by
  unfold Zz.growA
  repeat' (first | exact Fr.fail | exact Fr.ret _ | exact Fr.opt _ | exact Fr.rd _ | exact Fr.wr _ _ | exact Fr.nw _ | (refine Fr.bnd ?_ (fun _ => ?_)) | refine Fr.cond ?_ ?_ | split)
theorem Fr.appendA (P : Program) (e : TypeId) (s : AV) (k : Nat) (new : List AV) : Fr (appendA P e s k new) := by
  unfold Zz.appendA
  repeat' (first | exact Fr.fail | exact Fr.ret _ | exact Fr.opt _ | exact Fr.rd _ | exact Fr.wr _ _ | exact Fr.nw _ | exact Fr.growA _ _ _ _ _ _ _ _ _ | exact Fr.loadC _ _ _ | exact Fr.load1 _ _ | exact Fr.storeC _ _ _ | exact Fr.newC _ _ | exact Fr.newR _ _ _ | exact Fr.newS _ _ | exact Fr.loadT _ _ _ _ | exact Fr.storeT _ _ _ _ _ | exact Fr.partT _ _ _ _ | exact Fr.aliveC _ | exact Fr.eqA _ _ _ _ _ | exact Fr.binA _ _ _ _ _ | exact Fr.unA _ _ | exact Fr.asInt _ | exact Fr.asNat _ | exact Fr.sliceA _ _ _ _ _ _ | (refine Fr.bnd ?_ (fun _ => ?_)) | refine Fr.cond ?_ ?_ | split)
theorem Fr.cellsIn (size : Nat) (x : AV) : Fr (cellsIn size x) := by
  unfold Zz.cellsIn
  repeat' (first | exact Fr.fail | exact Fr.ret _ | exact Fr.opt _ | exact Fr.rd _ | exact Fr.wr _ _ | exact Fr.nw _ | exact Fr.loadC _ _ _ | exact Fr.load1 _ _ | exact Fr.storeC _ _ _ | exact Fr.newC _ _ | exact Fr.newR _ _ _ | exact Fr.newS _ _ | exact Fr.loadT _ _ _ _ | exact Fr.storeT _ _ _ _ _ | exact Fr.partT _ _ _ _ | exact Fr.aliveC _ | exact Fr.eqA _ _ _ _ _ | exact Fr.binA _ _ _ _ _ | exact Fr.unA _ _ | exact Fr.asInt _ | exact Fr.asNat _ | exact Fr.sliceA _ _ _ _ _ _ | exact Fr.appendA _ _ _ _ _ | (refine Fr.bnd ?_ (fun _ => ?_)) | refine Fr.cond ?_ ?_ | split)
theorem Fr.lookFin (P : Program) (et : TypeId) (k : AV) (ok : Bool) (es : List (AV × AV × Nat)) : Fr (lookFin P et k ok es) := by
  unfold Zz.lookFin
  repeat' (first | exact Fr.fail | exact Fr.ret _ | split)
theorem Fr.lookA (P : Program) (t : TypeId) (x k : AV) (ok : Bool) : Fr (lookA P t x k ok) := by
  unfold Zz.lookA
  repeat' (first | exact Fr.fail | exact Fr.ret _ | exact Fr.opt _ | exact Fr.rd _ | exact Fr.wr _ _ | exact Fr.nw _ | exact Fr.lookFin _ _ _ _ _ | exact Fr.loadC _ _ _ | exact Fr.load1 _ _ | exact Fr.storeC _ _ _ | exact Fr.newC _ _ | exact Fr.newR _ _ _ | exact Fr.newS _ _ | exact Fr.loadT _ _ _ _ | exact Fr.storeT _ _ _ _ _ | exact Fr.partT _ _ _ _ | exact Fr.aliveC _ | exact Fr.eqA _ _ _ _ _ | exact Fr.binA _ _ _ _ _ | exact Fr.unA _ _ | exact Fr.asInt _ | exact Fr.asNat _ | exact Fr.sliceA _ _ _ _ _ _ | exact Fr.appendA _ _ _ _ _ | exact Fr.cellsIn _ _ | (refine Fr.bnd ?_ (fun _ => ?_)) | refine Fr.cond ?_ ?_ | split)
theorem Fr.mapUpA (P : Program) (t : TypeId) (x k v : AV) : Fr (mapUpA P t x k v) := by
  unfold Zz.mapUpA
  repeat' (first | exact Fr.fail | exact Fr.ret _ | exact Fr.opt _ | exact Fr.rd _ | exact Fr.wr _ _ | exact Fr.nw _ | exact Fr.loadC _ _ _ | exact Fr.load1 _ _ | exact Fr.storeC _ _ _ | exact Fr.newC _ _ | exact Fr.newR _ _ _ | exact Fr.newS _ _ | exact Fr.loadT _ _ _ _ | exact Fr.storeT _ _ _ _ _ | exact Fr.partT _ _ _ _ | exact Fr.aliveC _ | exact Fr.eqA _ _ _ _ _ | exact Fr.binA _ _ _ _ _ | exact Fr.unA _ _ | exact Fr.asInt _ | exact Fr.asNat _ | exact Fr.sliceA _ _ _ _ _ _ | exact Fr.appendA _ _ _ _ _ | exact Fr.cellsIn _ _ | exact Fr.lookA _ _ _ _ _ | (refine Fr.bnd ?_ (fun _ => ?_)) | refine Fr.cond ?_ ?_ | split)
theorem Fr.assertA (P : Program) (x : AV) (t : TypeId) (ok : Bool) : Fr (assertA P x t ok) := by
  unfold Zz.assertA
  repeat' (first | exact Fr.fail | exact Fr.ret _ | exact Fr.opt _ | exact Fr.rd _ | exact Fr.wr _ _ | exact Fr.nw _ | exact Fr.loadC _ _ _ | exact Fr.load1 _ _ | exact Fr.storeC _ _ _ | exact Fr.newC _ _ | exact Fr.newR _ _ _ | exact Fr.newS _ _ | exact Fr.loadT _ _ _ _ | exact Fr.storeT _ _ _ _ _ | exact Fr.partT _ _ _ _ | exact Fr.aliveC _ | exact Fr.eqA _ _ _ _ _ | exact Fr.binA _ _ _ _ _ | exact Fr.unA _ _ | exact Fr.asInt _ | exact Fr.asNat _ | exact Fr.sliceA _ _ _ _ _ _ | exact Fr.appendA _ _ _ _ _ | exact Fr.cellsIn _ _ | exact Fr.lookA _ _ _ _ _ | exact Fr.mapUpA _ _ _ _ _ | (refine Fr.bnd ?_ (fun _ => ?_)) | refine Fr.cond ?_ ?_ | split)
theorem Fr.getP (P : Program) (t : TypeId) (x : Pl) : Fr (getP P t x) := by
  cases x with
  | val v => exact Fr.ret _
  | var A i => exact Fr.loadT _ _ _ _
theorem Fr.followA (P : Program) : ∀ (l : List FieldStep) (t : TypeId) (x : Pl), Fr (followA P l t x)
  | [], t, x => Fr.ret _
  | s :: r, t, x => by
    have ih := Fr.followA P r
    unfold Zz.followA
    repeat' (first | exact ih _ _ | exact Fr.fail | exact Fr.ret _ | exact Fr.getP _ _ _ | exact Fr.partT _ _ _ _ | (refine Fr.bnd ?_ (fun _ => ?_)) | refine Fr.cond ?_ ?_ | split)
theorem Fr.recvA (P : Program) (t : TypeId) (x : Pl) (pr : Bool) : Fr (recvA P t x pr) := by
  unfold Zz.recvA
  repeat' (first | exact Fr.fail | exact Fr.ret _ | exact Fr.getP _ _ _ | exact Fr.loadT _ _ _ _ | (refine Fr.bnd ?_ (fun _ => ?_)) | refine Fr.cond ?_ ?_ | split)
theorem Fr.methN (P : Program) : ∀ (n : Nat) (t : TypeId) (v : AV) (name : String), Fr (methN P n t v name)
  | 0, _, _, _ => Fr.fail
  | n + 1, t, v, name => by
    have ih := Fr.methN P n
    unfold Zz.methN
    repeat' (first | exact ih _ _ _ | exact Fr.fail | exact Fr.ret _ | exact Fr.getP _ _ _ | exact Fr.followA _ _ _ _ | exact Fr.recvA _ _ _ _ | (refine Fr.bnd ?_ (fun _ => ?_)) | refine Fr.cond ?_ ?_ | split)
theorem Fr.methA (P : Program) (t : TypeId) (v : AV) (name : String) : Fr (methA P t v name) := Fr.methN P 4 t v name
def FrH (H : Hooks) : Prop := ∀ f h, H.fn f = some h → ∀ args, Fr (h args)
def FrE (e : Ex) : Prop := (∀ f args, Fr (e.call f args)) ∧ (∀ N b tm, Fr (e.loop N b tm)) ∧ ∀ f l u, Fr (e.callD f l u)
theorem Fr.funcA (P : Program) {H : Hooks} {e : Ex} (hH : FrH H) (he : FrE e) (f : FuncId) (args : List AV) : Fr (funcA P H e f args) := by
  unfold Zz.funcA
  split
  · rename_i h hh; exact hH _ _ hh _
  · repeat' (first | exact Fr.fail | exact Fr.ret _ | exact Fr.opt _ | exact Fr.rd _ | exact Fr.wr _ _ | exact Fr.nw _ | exact he.1 _ _ | (refine Fr.bnd ?_ (fun _ => ?_)) | refine Fr.cond ?_ ?_ | split)
theorem Fr.copyFin (d : AV) (n : Nat) (p : Nat × List AV) : Fr (copyFin d n p) := by
  unfold Zz.copyFin
  repeat' (first | exact Fr.fail | exact Fr.ret _ | exact Fr.opt _ | exact Fr.rd _ | exact Fr.wr _ _ | exact Fr.nw _ | exact Fr.loadC _ _ _ | exact Fr.load1 _ _ | exact Fr.storeC _ _ _ | exact Fr.newC _ _ | exact Fr.newR _ _ _ | exact Fr.newS _ _ | exact Fr.loadT _ _ _ _ | exact Fr.storeT _ _ _ _ _ | exact Fr.partT _ _ _ _ | exact Fr.aliveC _ | exact Fr.eqA _ _ _ _ _ | exact Fr.binA _ _ _ _ _ | exact Fr.unA _ _ | exact Fr.asInt _ | exact Fr.asNat _ | exact Fr.sliceA _ _ _ _ _ _ | exact Fr.appendA _ _ _ _ _ | exact Fr.cellsIn _ _ | exact Fr.lookA _ _ _ _ _ | exact Fr.mapUpA _ _ _ _ _ | exact Fr.assertA _ _ _ _ | exact Fr.methA _ _ _ _ | (refine Fr.bnd ?_ (fun _ => ?_)) | refine Fr.cond ?_ ?_ | split)
theorem Fr.copyA (P : Program) (t : TypeId) (d x : AV) : Fr (copyA P t d x) := by
  unfold Zz.copyA
  repeat' (first | exact Fr.copyFin _ _ _ | exact Fr.fail | exact Fr.ret _ | exact Fr.opt _ | exact Fr.rd _ | exact Fr.wr _ _ | exact Fr.nw _ | exact Fr.loadC _ _ _ | exact Fr.load1 _ _ | exact Fr.storeC _ _ _ | exact Fr.newC _ _ | exact Fr.newR _ _ _ | exact Fr.newS _ _ | exact Fr.loadT _ _ _ _ | exact Fr.storeT _ _ _ _ _ | exact Fr.partT _ _ _ _ | exact Fr.aliveC _ | exact Fr.eqA _ _ _ _ _ | exact Fr.binA _ _ _ _ _ | exact Fr.unA _ _ | exact Fr.asInt _ | exact Fr.asNat _ | exact Fr.sliceA _ _ _ _ _ _ | exact Fr.appendA _ _ _ _ _ | exact Fr.cellsIn _ _ | exact Fr.lookA _ _ _ _ _ | exact Fr.mapUpA _ _ _ _ _ | exact Fr.assertA _ _ _ _ | exact Fr.methA _ _ _ _ | (refine Fr.bnd ?_ (fun _ => ?_)) | refine Fr.cond ?_ ?_ | split)
theorem Fr.deleteA (P : Program) (t : TypeId) (x k : AV) : Fr (deleteA P t x k) := by
  unfold Zz.deleteA
  repeat' (first | exact Fr.fail | exact Fr.ret _ | exact Fr.opt _ | exact Fr.rd _ | exact Fr.wr _ _ | exact Fr.nw _ | exact Fr.loadC _ _ _ | exact Fr.load1 _ _ | exact Fr.storeC _ _ _ | exact Fr.newC _ _ | exact Fr.newR _ _ _ | exact Fr.newS _ _ | exact Fr.loadT _ _ _ _ | exact Fr.storeT _ _ _ _ _ | exact Fr.partT _ _ _ _ | exact Fr.aliveC _ | exact Fr.eqA _ _ _ _ _ | exact Fr.binA _ _ _ _ _ | exact Fr.unA _ _ | exact Fr.asInt _ | exact Fr.asNat _ | exact Fr.sliceA _ _ _ _ _ _ | exact Fr.appendA _ _ _ _ _ | exact Fr.cellsIn _ _ | exact Fr.lookA _ _ _ _ _ | exact Fr.mapUpA _ _ _ _ _ | exact Fr.assertA _ _ _ _ | exact Fr.methA _ _ _ _ | (refine Fr.bnd ?_ (fun _ => ?_)) | refine Fr.cond ?_ ?_ | split)
theorem Fr.builtA (P : Program) (b : Builtin) (ts : List TypeId) (args : List AV) : Fr (builtA P b ts args) := by
  unfold Zz.builtA
  repeat' (first | exact Fr.copyA _ _ _ _ | exact Fr.deleteA _ _ _ _ | exact Fr.fail | exact Fr.ret _ | exact Fr.opt _ | exact Fr.rd _ | exact Fr.wr _ _ | exact Fr.nw _ | exact Fr.loadC _ _ _ | exact Fr.load1 _ _ | exact Fr.storeC _ _ _ | exact Fr.newC _ _ | exact Fr.newR _ _ _ | exact Fr.newS _ _ | exact Fr.loadT _ _ _ _ | exact Fr.storeT _ _ _ _ _ | exact Fr.partT _ _ _ _ | exact Fr.aliveC _ | exact Fr.eqA _ _ _ _ _ | exact Fr.binA _ _ _ _ _ | exact Fr.unA _ _ | exact Fr.asInt _ | exact Fr.asNat _ | exact Fr.sliceA _ _ _ _ _ _ | exact Fr.appendA _ _ _ _ _ | exact Fr.cellsIn _ _ | exact Fr.lookA _ _ _ _ _ | exact Fr.mapUpA _ _ _ _ _ | exact Fr.assertA _ _ _ _ | exact Fr.methA _ _ _ _ | (refine Fr.bnd ?_ (fun _ => ?_)) | refine Fr.cond ?_ ?_ | split)
theorem Fr.cvtA (P : Program) (src dst : TypeId) (x : AV) : Fr (cvtA P src dst x) := by
  unfold Zz.cvtA
  repeat' (first | exact Fr.fail | exact Fr.ret _ | exact Fr.opt _ | exact Fr.rd _ | exact Fr.wr _ _ | exact Fr.nw _ | exact Fr.loadC _ _ _ | exact Fr.load1 _ _ | exact Fr.storeC _ _ _ | exact Fr.newC _ _ | exact Fr.newR _ _ _ | exact Fr.newS _ _ | exact Fr.loadT _ _ _ _ | exact Fr.storeT _ _ _ _ _ | exact Fr.partT _ _ _ _ | exact Fr.aliveC _ | exact Fr.eqA _ _ _ _ _ | exact Fr.binA _ _ _ _ _ | exact Fr.unA _ _ | exact Fr.asInt _ | exact Fr.asNat _ | exact Fr.sliceA _ _ _ _ _ _ | exact Fr.appendA _ _ _ _ _ | exact Fr.cellsIn _ _ | exact Fr.lookA _ _ _ _ _ | exact Fr.mapUpA _ _ _ _ _ | exact Fr.assertA _ _ _ _ | exact Fr.methA _ _ _ _ | exact Fr.builtA _ _ _ _ | (refine Fr.bnd ?_ (fun _ => ?_)) | refine Fr.cond ?_ ?_ | split)
theorem Fr.opA (P : Program) {H : Hooks} {e : Ex} (hH : FrH H) (he : FrE e) (o : Oper) (tm : Tm) : Fr (opA P H e o tm) := by
  unfold Zz.opA
  repeat' (first | exact Fr.fail | exact Fr.ret _ | exact Fr.opt _ | exact Fr.rd _ | exact Fr.wr _ _ | exact Fr.nw _ | exact Fr.loadC _ _ _ | exact Fr.load1 _ _ | exact Fr.storeC _ _ _ | exact Fr.newC _ _ | exact Fr.newR _ _ _ | exact Fr.newS _ _ | exact Fr.loadT _ _ _ _ | exact Fr.storeT _ _ _ _ _ | exact Fr.partT _ _ _ _ | exact Fr.aliveC _ | exact Fr.eqA _ _ _ _ _ | exact Fr.binA _ _ _ _ _ | exact Fr.unA _ _ | exact Fr.asInt _ | exact Fr.asNat _ | exact Fr.sliceA _ _ _ _ _ _ | exact Fr.appendA _ _ _ _ _ | exact Fr.cellsIn _ _ | exact Fr.lookA _ _ _ _ _ | exact Fr.mapUpA _ _ _ _ _ | exact Fr.assertA _ _ _ _ | exact Fr.methA _ _ _ _ | exact Fr.builtA _ _ _ _ | exact Fr.cvtA _ _ _ _ | exact Fr.funcA P hH he _ _ | (refine Fr.bnd ?_ (fun _ => ?_)) | refine Fr.cond ?_ ?_ | split)
theorem Fr.putA (N : Nat) (tm : Tm) (dst : Option Tmp) (v : AV) : Fr (putA N tm dst v) := by
  unfold Zz.putA
  repeat' (first | exact Fr.fail | exact Fr.ret _ | exact Fr.opt _ | exact Fr.rd _ | exact Fr.wr _ _ | exact Fr.nw _ | exact Fr.loadC _ _ _ | exact Fr.load1 _ _ | exact Fr.storeC _ _ _ | exact Fr.newC _ _ | exact Fr.newR _ _ _ | exact Fr.newS _ _ | exact Fr.loadT _ _ _ _ | exact Fr.storeT _ _ _ _ _ | exact Fr.partT _ _ _ _ | exact Fr.aliveC _ | exact Fr.eqA _ _ _ _ _ | exact Fr.binA _ _ _ _ _ | exact Fr.unA _ _ | exact Fr.asInt _ | exact Fr.asNat _ | exact Fr.sliceA _ _ _ _ _ _ | exact Fr.appendA _ _ _ _ _ | exact Fr.cellsIn _ _ | exact Fr.lookA _ _ _ _ _ | exact Fr.mapUpA _ _ _ _ _ | exact Fr.assertA _ _ _ _ | exact Fr.methA _ _ _ _ | exact Fr.builtA _ _ _ _ | exact Fr.cvtA _ _ _ _ | exact Fr.funcA P hH he _ _ | (refine Fr.bnd ?_ (fun _ => ?_)) | refine Fr.cond ?_ ?_ | split)
theorem Fr.askA {H : Hooks} {tm : Tm} {op : Op} {x : M AV} (hx : Fr x) : Fr (askA H tm op x) := by
  unfold Zz.askA
  split
  · exact hx
  · split
    · exact hx
    · exact Fr.ret _
theorem Fr.operA (P : Program) {H : Hooks} {e : Ex} (hH : FrH H) (he : FrE e) (N : Nat) (ops : Array Oper) (o : Oper) (tm : Tm) : Fr (operA P H e N ops o tm) := by
  unfold Zz.operA
  split
  · refine Fr.bnd (Fr.askA (Fr.opA P hH he o tm)) (fun v => ?_)
    split
    · exact Fr.fail
    · exact Fr.putA _ _ _ _
  · exact Fr.putA _ _ _ _
  · exact Fr.fail
theorem Fr.deferA (P : Program) (tm : Tm) (c : Call) : Fr (deferA P tm c) := by
  unfold Zz.deferA
  refine Fr.bnd (Fr.opt _) (fun args => ?_)
  split
  · refine Fr.bnd (Fr.opt _) (fun v => ?_)
    split
    · split
      · exact Fr.cond Fr.fail (Fr.ret _)
      · exact Fr.fail
    · exact Fr.fail
  · exact Fr.fail
theorem Fr.operP (P : Program) {H : Hooks} {e : Ex} (hH : FrH H) (he : FrE e) (N : Nat) (ops : Array Oper) (o : Oper) (tm : Tm) : Fr (operP P H e N ops o tm) := by
  unfold Zz.operP
  split
  · split
    · exact Fr.bnd (Fr.deferA P tm _) (fun x => Fr.bnd (Fr.putA _ _ _ _) (fun _ => Fr.ret _))
    · exact Fr.putA _ _ _ _
    · exact Fr.fail
  · split
    · refine Fr.bnd (Fr.opt _) (fun v => ?_)
      split
      · exact Fr.ret _
      · exact Fr.fail
    · exact Fr.putA _ _ _ _
    · exact Fr.fail
  · split
    · refine Fr.bnd (Fr.askA (Fr.opA P hH he o tm)) (fun v => ?_)
      split
      · exact Fr.ret _
      · exact Fr.putA _ _ _ _
    · exact Fr.putA _ _ _ _
    · exact Fr.fail
  · exact Fr.operA P hH he N ops o tm
theorem Fr.opsP (P : Program) {H : Hooks} {e : Ex} (hH : FrH H) (he : FrE e) (N : Nat) (ops : Array Oper) : ∀ (l : List Oper) (tm : Tm), Fr (opsP P H e N ops l tm)
  | [], tm => Fr.ret _
  | o :: r, tm => Fr.bnd (Fr.operP P hH he N ops o tm) (fun tm' => by
      cases tm'.p with
      | some p => exact Fr.ret _
      | none => exact Fr.opsP P hH he N ops r tm')
theorem Fr.endP (tm : Tm) : Fr (endP tm) := by
  unfold Zz.endP
  split <;> exact Fr.ret _
theorem Fr.drawA (P : Program) {H : Hooks} {e : Ex} (hH : FrH H) (he : FrE e) (N : Nat) (ops : Array Oper) : ∀ (l : List Oper) (tm : Tm), Fr (drawA P H e N ops l tm)
  | [], tm => Fr.ret _
  | o :: r, tm => Fr.bnd (Fr.capt (Fr.operA P hH he N ops o tm)) (fun p => Fr.bnd (Fr.drawA P hH he N ops r p.1) (fun q => Fr.ret _))
theorem bothB_self (o : Option ABlk) : bothB o o = o := by
  cases o with
  | none => rfl
  | some a => show (bif eqBlk a a then some a else none) = _; rw [eqBlk_refl, cond_true]
theorem Fr.join2 {x y : M (Exit × Tm)} (hx : Fr x) (hy : Fr y) : Fr (join2 x y) := fun st r st' h => by
  unfold Zz.join2 at h
  cases h1 : x st with
  | none => rw [h1] at h; cases h
  | some p =>
    obtain ⟨⟨ex, t⟩, s1⟩ := p
    rw [h1] at h
    dsimp only at h
    cases h2 : y ⟨st.heap, st.next, s1.log⟩ with
    | none => rw [h2] at h; cases h
    | some p2 =>
      obtain ⟨⟨ex2, t2⟩, s2⟩ := p2
      rw [h2] at h
      dsimp only at h
      cases he : (exEq ex ex2 && eqAVs t.d t2.d && (t.p.isNone && t2.p.isNone)) with
      | false => rw [he] at h; cases h
      | true =>
        rw [he, cond_true] at h
        cases h
        obtain ⟨L1, q1⟩ := hx _ _ _ h1
        obtain ⟨L2, q2⟩ := hy _ _ _ h2
        have hmx : ∀ a b : Nat, a ≤ (bif Nat.ble a b then b else a) ∧ b ≤ (bif Nat.ble a b then b else a) ∧ ((bif Nat.ble a b then b else a) = a ∨ (bif Nat.ble a b then b else a) = b) := fun a b => by
          cases hb : Nat.ble a b with
          | true => have := Nat.le_of_ble_eq_true hb; simp; omega
          | false =>
            have : ¬ a ≤ b := fun hle => by rw [Nat.ble_eq_true_of_le hle] at hb; cases hb
            simp; omega
        have n1 := q1.next
        have n2 := q2.next
        dsimp only at n2
        obtain ⟨m1, m2, m3⟩ := hmx s1.next s2.next
        generalize hmxe : (bif Nat.ble s1.next s2.next then s2.next else s1.next) = mx at m1 m2 m3
        refine ⟨L2 ++ L1, by show s2.log = _; rw [q2.log, q1.log, List.append_assoc], by show st.next ≤ mx; omega, fun A e1 e2 => ?_, fun A hA hN => ?_, fun u hn hs => ?_⟩
        · have e2' : A < mx := e2
          by_cases hlt : A < s1.next
          · exact List.mem_append_right _ (q1.alloc A e1 hlt)
          · exact List.mem_append_left _ (q2.alloc A e1 (by omega))
        · have hN' : ¬ (st.next ≤ A ∧ A < mx) := hN
          show (Hp.zip bothB s1.heap s2.heap).get A = _
          rw [Hp.get_zip rfl, q1.same A (fun h => hA (List.mem_append_right _ h)) (by omega), q2.same A (fun h => hA (List.mem_append_left _ h)) (by dsimp only; omega)]
          exact bothB_self _
        · have hs' : ∀ A, Tch (L2 ++ L1) A ∨ (st.next ≤ A ∧ A < mx) → u.heap.get A = st.heap.get A := fun A hA => hs A hA
          obtain ⟨u1, e1, e2, e3, e4, e5⟩ := q1.other u hn (fun A hA => hs' A (by
            rcases hA with hA | hA
            · exact .inl (hA.imp (List.mem_append_right _) (List.mem_append_right _))
            · exact .inr (by omega)))
          obtain ⟨u2, g1, g2, g3, g4, g5⟩ := q2.other ⟨u.heap, u.next, u1.log⟩ hn (fun A hA => hs' A (by
            rcases hA with hA | hA
            · exact .inl (hA.imp (List.mem_append_left _) (List.mem_append_left _))
            · exact .inr (by dsimp only at hA; omega)))
          dsimp only at g4 g5
          have c1 : ∀ A, Tch (L2 ++ L1) A ∨ (st.next ≤ A ∧ A < mx) → u1.heap.get A = s1.heap.get A := fun A hA => by
            by_cases hw : 2 * A + 1 ∈ L1 ∨ (st.next ≤ A ∧ A < s1.next)
            · exact e4 A hw
            · rw [e5 A (fun h => hw (.inl h)) (fun h => hw (.inr h)), q1.same A (fun h => hw (.inl h)) (fun h => hw (.inr h))]
              exact hs' A hA
          have c2 : ∀ A, Tch (L2 ++ L1) A ∨ (st.next ≤ A ∧ A < mx) → u2.heap.get A = s2.heap.get A := fun A hA => by
            by_cases hw : 2 * A + 1 ∈ L2 ∨ (st.next ≤ A ∧ A < s2.next)
            · exact g4 A hw
            · rw [g5 A (fun h => hw (.inl h)) (fun h => hw (.inr h)), q2.same A (fun h => hw (.inl h)) (fun h => hw (.inr h))]
              exact hs' A hA
          refine ⟨⟨Hp.zip bothB u1.heap u2.heap, mx, u2.log⟩, ?_, by show u2.log = _; rw [g2, e2, List.append_assoc], rfl, fun A hA => ?_, fun A hA hN => ?_⟩
          · unfold Zz.join2
            rw [e1]
            dsimp only
            rw [g1]
            dsimp only
            rw [he, cond_true, e3, g3, hmxe]
          · have hA' : Tch (L2 ++ L1) A ∨ (st.next ≤ A ∧ A < mx) := by
              rcases hA with hA | hA
              · exact .inl (.inr hA)
              · exact .inr hA
            show (Hp.zip bothB u1.heap u2.heap).get A = (Hp.zip bothB s1.heap s2.heap).get A
            rw [Hp.get_zip rfl, Hp.get_zip rfl, c1 A hA', c2 A hA']
          · have hN' : ¬ (st.next ≤ A ∧ A < mx) := hN
            show (Hp.zip bothB u1.heap u2.heap).get A = u.heap.get A
            rw [Hp.get_zip rfl, e5 A (fun h => hA (List.mem_append_right _ h)) (by omega), g5 A (fun h => hA (List.mem_append_left _ h)) (by omega)]
            exact bothB_self _
theorem Fr.joinAll {x : M (Exit × Tm)} (hx : Fr x) : ∀ {l : List (M (Exit × Tm))}, (∀ y ∈ l, Fr y) → Fr (joinAll x l) := by
  intro l
  induction l generalizing x with
  | nil => exact fun _ => hx
  | cons y l ih => exact fun h => Fr.join2 hx (ih (h y (by simp)) (fun z hz => h z (by simp [hz])))
theorem Fr.rangeA {r : Option Operand} {tm : Tm} {round : M Unit → M (Exit × Tm)} (h : ∀ F, Fr F → Fr (round F)) : Fr (rangeA r tm round) := by
  unfold Zz.rangeA
  cases r with
  | none => exact h _ (Fr.ret _)
  | some x =>
    dsimp only
    refine Fr.bnd (Fr.opt _) (fun v => ?_)
    split
    · refine Fr.bnd (Fr.rd _) (fun b => ?_)
      split
      · exact h _ (Fr.wr _ _)
      · refine Fr.bnd (Fr.rd _) (fun b => ?_)
        split
        · refine Fr.cond ?_ Fr.fail
          split
          · exact h _ (Fr.wr _ _)
          · refine Fr.joinAll (h _ (Fr.wr _ _)) (fun y hy => ?_)
            obtain ⟨c, _, rfl⟩ := List.mem_map.1 hy
            exact h _ (Fr.wr _ _)
        · exact Fr.fail
      · exact Fr.fail
    · exact Fr.fail
theorem Fr.codeA (P : Program) {H : Hooks} {e : Ex} (hH : FrH H) (he : FrE e) (N : Nat) (c : Code) : ∀ tm, Fr (codeA P H e N c tm) := by
  induction c with
  | skip => exact fun _ => Fr.ret _
  | label _ => exact fun _ => Fr.ret _
  | region id ops d =>
    intro tm
    cases d
    · show Fr (match tm.p with | some _ => Zz.fail | none => Zz.bnd (Zz.opsP P H e N ops ops.toList tm) fun tm' => Zz.endP tm')
      split
      · exact Fr.fail
      · exact Fr.bnd (Fr.opsP P hH he N ops _ tm) (fun _ => Fr.endP _)
    · refine Fr.bnd (Fr.drawA P hH he N ops _ tm) (fun p => ?_)
      exact Fr.cond (Fr.ret _) Fr.fail
  | seq a b iha ihb =>
    intro tm
    refine Fr.bnd (iha tm) (fun p => ?_)
    obtain ⟨x, tm'⟩ := p
    cases x <;> first | exact ihb _ | exact Fr.ret _
  | cond c a b iha ihb =>
    intro tm
    refine Fr.bnd (Fr.opt _) (fun v => ?_)
    cases v with
    | bool t => cases t <;> first | exact iha _ | exact ihb _
    | _ => exact Fr.fail
  | block id b ih =>
    intro tm
    refine Fr.bnd (ih tm) (fun p => ?_)
    obtain ⟨x, tm'⟩ := p
    cases x <;> first | exact Fr.cond (Fr.ret _) (Fr.ret _) | exact Fr.ret _
  | loop b ih =>
    intro tm
    refine Fr.rangeA (fun F hF => Fr.bnd hF (fun _ => Fr.bnd (ih tm) (fun p => ?_)))
    obtain ⟨x, tm'⟩ := p
    cases x <;> first | exact he.2.1 _ _ _ | exact Fr.ret _
  | scope b ih =>
    intro tm
    refine Fr.bnd (ih tm) (fun p => ?_)
    obtain ⟨x, tm'⟩ := p
    cases x <;> first | exact Fr.fail | exact Fr.ret _
  | exit id => exact fun _ => Fr.ret _
  | ret => exact fun _ => Fr.ret _
  | _ => exact fun _ => Fr.fail
theorem Fr.resultA (P : Program) (tm : Tm) : ∀ l : List ResultVar, Fr (resultA P tm l)
  | [] => Fr.ret _
  | .tmp t :: r => Fr.bnd (Fr.opt _) (fun _ => Fr.bnd (Fr.resultA P tm r) (fun _ => Fr.ret _))
  | .cell a t :: r => Fr.bnd (Fr.opt _) (fun v => by
      cases v with
      | ptr A i => exact Fr.bnd (Fr.loadT P t A i) (fun _ => Fr.bnd (Fr.resultA P tm r) (fun _ => Fr.ret _))
      | _ => exact Fr.fail)
theorem Fr.leaveA (P : Program) {e : Ex} (he : FrE e) (fn : Func) (tm : Tm) : ∀ (ds : List AV) (u : MA), Fr (leaveA P e fn tm ds u) := by
  intro ds
  induction ds with
  | nil =>
    intro u
    unfold Zz.leaveA
    split <;> first | exact Fr.fail | exact Fr.ret _ | (refine Fr.bnd (Fr.resultA P tm _) (fun l => ?_); split <;> exact Fr.ret _) | (rename_i heq; cases heq)
  | cons d ds ih =>
    intro u
    unfold Zz.leaveA
    split
    · rename_i heq; cases heq
    · rename_i heq; cases heq
    · rename_i heq; cases heq
    · rename_i heq
      cases heq
      exact Fr.bnd (he.2.2 _ _ _) (fun _ => ih _)
    · exact Fr.fail
theorem Fr.callA (P : Program) {H : Hooks} {e : Ex} (hH : FrH H) (he : FrE e) (f : FuncId) (args : List AV) : Fr (callA P H e f args) := by
  unfold Zz.callA
  split
  · exact Fr.fail
  · split
    · exact Fr.fail
    · refine Fr.bnd (Fr.codeA P hH he _ _ _) (fun p => ?_)
      obtain ⟨x, tm⟩ := p
      cases x <;> first | exact Fr.fail | exact Fr.leaveA P he _ tm _ _ | (dsimp only; split <;> first | exact Fr.leaveA P he _ tm _ _ | exact Fr.fail)
theorem Fr.operS (P : Program) {H : Hooks} {e : Ex} (hH : FrH H) (he : FrE e) (N : Nat) (ops : Array Oper) (o : Oper) (tm : Tm) (u : MA) : Fr (operS P H e N ops o tm u) := by
  unfold Zz.operS
  refine Fr.cond ?_ (Fr.bnd (Fr.operA P hH he N ops o tm) (fun _ => Fr.ret _))
  split
  · split <;> exact Fr.bnd (Fr.putA _ _ _ _) (fun _ => Fr.ret _)
  · exact Fr.bnd (Fr.putA _ _ _ _) (fun _ => Fr.ret _)
  · exact Fr.fail
theorem Fr.opsS (P : Program) {H : Hooks} {e : Ex} (hH : FrH H) (he : FrE e) (N : Nat) (ops : Array Oper) : ∀ (l : List Oper) (tm : Tm) (u : MA), Fr (opsS P H e N ops l tm u)
  | [], tm, u => Fr.ret _
  | o :: r, tm, u => Fr.bnd (Fr.operS P hH he N ops o tm u) (fun p => Fr.opsS P hH he N ops r p.1 p.2)
theorem Fr.codeS (P : Program) {H : Hooks} {e : Ex} (hH : FrH H) (he : FrE e) (N : Nat) (c : Code) : ∀ tm u, Fr (codeS P H e N c tm u) := by
  have other : ∀ (c : Code) (tm : Tm) (u : MA), Fr (Zz.bnd (Zz.codeA P H e N c tm) fun (x, tm') => (match x with
    | .panic _ => Zz.fail
    | x => Zz.ret (x, tm', u))) := fun c tm u => Fr.bnd (Fr.codeA P hH he N c tm) (fun p => by
      obtain ⟨x, tm'⟩ := p
      cases x <;> first | exact Fr.fail | exact Fr.ret _)
  induction c with
  | region id ops d =>
    intro tm u
    cases d
    · exact Fr.bnd (Fr.opsS P hH he N ops _ tm u) (fun _ => Fr.ret _)
    · exact other _ tm u
  | seq a b iha ihb =>
    intro tm u
    refine Fr.bnd (iha tm u) (fun p => ?_)
    obtain ⟨x, tm', u'⟩ := p
    cases x <;> first | exact ihb _ _ | exact Fr.ret _
  | cond c a b iha ihb =>
    intro tm u
    refine Fr.bnd (Fr.opt _) (fun v => ?_)
    cases v with
    | bool t => cases t <;> first | exact iha _ _ | exact ihb _ _
    | _ => exact Fr.fail
  | _ => exact fun tm u => other _ tm u
theorem Fr.callDA (P : Program) {H : Hooks} {e : Ex} (hH : FrH H) (he : FrE e) (f : FuncId) (args : List AV) (u : MA) : Fr (callDA P H e f args u) := by
  unfold Zz.callDA
  split
  · exact Fr.fail
  · split
    · exact Fr.fail
    · refine Fr.bnd (Fr.codeS P hH he _ _ _ _) (fun p => ?_)
      obtain ⟨x, tm, u'⟩ := p
      cases x <;> first | exact Fr.fail | (dsimp only; split <;> first | exact Fr.fail | exact Fr.bnd (Fr.resultA P tm _) (fun _ => Fr.ret _))
theorem FrE.exec (P : Program) {H : Hooks} (hH : FrH H) : ∀ n, FrE (exec P H n)
  | 0 => ⟨fun _ _ => Fr.fail, fun _ _ _ => Fr.fail, fun _ _ _ => Fr.fail⟩
  | n + 1 => ⟨fun f args => Fr.callA P hH (FrE.exec P hH n) f args, fun N b tm => Fr.codeA P hH (FrE.exec P hH n) N (.loop b) tm, fun f l u => Fr.callDA P hH (FrE.exec P hH n) f l u⟩
end Go.Proofs.YtbecmcjibpamoaaGreatDoor.Zz
