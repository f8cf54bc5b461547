/- A pipe as one thing for the executor: what stands in for its Read, its Write, its Leave. -/
import Derived.Test.YtckmcajnhobkpaaGreatDoorPipeC
import Derived.Test.YtckmcajnhobkpaaGreatDoorExFo
namespace Go.Proofs.YtckmcajnhobkpaaGreatDoor
open Go.RowKit
set_option linter.unusedVariables false
set_option linter.unusedSimpArgs false

theorem opt_some {α : Type} {o : Option α} {a : α} {st st' : Zz.ASt} (h : Zz.opt o st = some (a, st')) : o = some a ∧ st' = st := by
  cases o with
  | none => cases h
  | some b => cases h; exact ⟨rfl, rfl⟩
def isAbs (k : Nat) : Zz.ABlk → Option Unit
  | .abs j => bif Nat.beq j k then some () else none
  | _ => none
def argP (x : Zz.AV) : List Zz.AV → Option Nat
  | [.ptr A 0, y] => bif Zz.eqAV y x then some A else none
  | _ => none
theorem isAbs_some {k : Nat} {b : Zz.ABlk} {u : Unit} (h : isAbs k b = some u) : b = .abs k := by
  unfold isAbs at h
  split at h
  · rename_i j
    cases hb : Nat.beq j k with
    | false => rw [hb] at h; cases h
    | true => rw [show j = k by simpa using hb]
  · cases h
theorem argP_some {x : Zz.AV} {args : List Zz.AV} {A : Nat} (h : argP x args = some A) : args = [.ptr A 0, x] := by
  unfold argP at h
  split at h
  · rename_i B y
    cases hb : Zz.eqAV y x with
    | false => rw [hb] at h; cases h
    | true => rw [hb] at h; cases h; rw [Zz.eqAV_eq hb]
  · cases h
def hAbs (x : Zz.AV) (pre post : Nat) (res : Zz.AV) (args : List Zz.AV) : Zz.M Zz.AV :=
  Zz.bnd (Zz.opt (argP x args)) fun A => Zz.bnd (Zz.rd A) fun b => Zz.bnd (Zz.opt (isAbs pre b)) fun _ => Zz.bnd (Zz.wr A (.abs post)) fun _ => Zz.ret res
theorem cell_same {w w1 : World} {b b1 i : Nat} (h : w.heap[b]? = w1.heap[b1]?) : w.cell? ⟨b, i, none⟩ = w1.cell? ⟨b1, i, none⟩ := by
  unfold World.cell?
  simp only
  rw [h]
theorem frozen_same {w w1 : World} {b b1 i : Nat} (h : w.heap[b]? = w1.heap[b1]?) : w.frozen? ⟨b, i, none⟩ = w1.frozen? ⟨b1, i, none⟩ := by
  unfold World.frozen?
  simp only
  rw [h]
theorem PipeSt.move {w w1 : World} {b b1 : Nat} {l r wr} (h : PipeSt w1 b1 l r wr) (he : w.heap[b]? = w1.heap[b1]?) : PipeSt w b l r wr := by
  obtain ⟨g, f, h1, h2, h3⟩ := h.st
  refine ⟨h.len, g, f, h1, ⟨fun i hi => ?_, ?_, ?_, ?_, ?_, fun i => ?_⟩, h3⟩
  · rw [cell_same he]; exact h2.ring i hi
  · rw [cell_same he]; exact h2.first
  · rw [cell_same he]; exact h2.many
  · rw [cell_same he]; exact h2.readers
  · rw [cell_same he]; exact h2.writers
  · rw [frozen_same he]; exact h2.free i
theorem pipeV_inj {l l' : List UInt8} {r r' wr wr' : Nat} (h : Zz.pipeV l r wr = Zz.pipeV l' r' wr') : l = l' ∧ r = r' ∧ wr = wr' := by
  have h' : l = l' ∧ (r : Int) = (r' : Int) ∧ (wr : Int) = (wr' : Int) := by simpa [Zz.pipeV] using h
  exact ⟨h'.1, by omega, by omega⟩
theorem absR_at {w : World} {b : Nat} {o : Obj} {l r wr} (ho : w.heap[b]? = some o) (h : Zz.absR (Zz.pipeV l r wr) o) : PipeSt w b l r wr := by
  obtain ⟨l', r', wr', h1, w1, b1, h2, h3⟩ := h
  obtain ⟨rfl, rfl, rfl⟩ := pipeV_inj h1
  exact h3.move (by rw [ho, h2])
theorem absR_of {w : World} {b : Nat} {l r wr} (h : PipeSt w b l r wr) : ∃ o, w.heap[b]? = some o ∧ Zz.absR (Zz.pipeV l r wr) o := by
  have := h.lt
  refine ⟨w.heap[b], Array.getElem?_eq_getElem this, l, r, wr, rfl, w, b, Array.getElem?_eq_getElem this, h⟩
section
variable {ρ : Nat → Value} {w0 : World} {base : Nat} {m : Zz.BMap} {g : Nat → Option Zz.ABlk} {w w' : World}
/-- a block is written, and there may be new ones -/
theorem Rel_writeG {A : Nat} {old new : Zz.ABlk} {p : Nat × Nat × Nat} (h : Zz.Rel ρ w0 base m g w) (hA : g A = some old) (hp : m A = some p) (hd : Zz.isDead old = false) (hG : w.grownBy w' (some p.1)) (hs : w.heap.size ≤ w'.heap.size) (hn : Zz.BR ρ m w' new p) : Zz.Rel ρ w0 base m (Zz.upd g A new) w' := by
  have hb : base ≤ p.1 := by
    obtain ⟨q, e1, e2, _⟩ := h.blk A old hA
    rw [hp] at e1; cases e1; exact e2
  have hk : ∀ k, k < w.heap.size → k ≠ p.1 → w'.heap[k]? = w.heap[k]? := fun k hk hne => hG.block k hk (fun e => hne (by cases e; rfl))
  refine ⟨fun B b hB => ?_, fun B C a b q r hB hC ha hb' hne hq hr => ?_, ⟨hG.os.trans h.old.os, hG.tape.trans h.old.tape, hG.output.trans h.old.output, Nat.le_trans h.old.size hs, fun k hk' => by rw [hk k (Nat.lt_of_lt_of_le hk' h.le) (by omega)]; exact h.old.block k hk'⟩, Nat.le_trans h.le hs⟩
  · by_cases e : B = A
    · subst e
      rw [Zz.upd_same] at hB; cases hB
      exact ⟨p, hp, hb, hn⟩
    · rw [Zz.upd_other e] at hB
      obtain ⟨q, e1, e2, e3⟩ := h.blk B b hB
      refine ⟨q, e1, e2, e3.keep (fun hd' => hk _ (e3.lt hd') ?_)⟩
      exact h.sep B A b old q p hB hA hd' hd e e1 hp
  · have hal : ∀ X x, Zz.upd g A new X = some x → Zz.isDead x = false → ∃ y, g X = some y ∧ Zz.isDead y = false := fun X x hX hx => by
      by_cases e : X = A
      · subst e; exact ⟨old, hA, hd⟩
      · rw [Zz.upd_other e] at hX; exact ⟨x, hX, hx⟩
    obtain ⟨a', g1, g2⟩ := hal B a hB ha
    obtain ⟨b', g3, g4⟩ := hal C b hC hb'
    exact h.sep B C a' b' q r g1 g3 g2 g4 hne hq hr
end
/-- what a call of a pipe is to show -/
def AbsC (ρ : Nat → Value) (f : FuncId) (xv : Value) (pre post : Nat) (res : Zz.AV) : Prop :=
  ∀ (w : World) (b : Nat) (o : Obj), w.heap[b]? = some o → Zz.absR (ρ pre) o → Calls Tryz.prog f #[.pointer (some ⟨b, 0, none⟩), xv] w fun e w' =>
    ∃ v o', e = .returned v ∧ (∀ m, Zz.VR ρ m res v) ∧ w'.heap[b]? = some o' ∧ Zz.absR (ρ post) o' ∧ w.grownBy w' (some b) ∧ w.heap.size ≤ w'.heap.size
set_option maxRecDepth 100000 in
theorem hAbs_ok {ρ : Nat → Value} {w0 : World} {base : Nat} {f : FuncId} (hrun : ∀ us w, (callFunc f us).run Tryz.prog w = .ok (.enter f us) w) {x res : Zz.AV} {pre post : Nat} {xv : Value} (hx : ∀ m u, Zz.VR ρ m x u → u = xv) (hC : AbsC ρ f xv pre post res) :
    (∀ args, Zz.Fr (hAbs x pre post res args)) ∧ Zz.HookFn Tryz.prog ρ w0 base f (hAbs x pre post res) := by
  refine ⟨fun args => Zz.Fr.bnd (Zz.Fr.opt _) fun A => Zz.Fr.bnd (Zz.Fr.rd _) fun b => Zz.Fr.bnd (Zz.Fr.opt _) fun _ => Zz.Fr.bnd (Zz.Fr.wr _ _) fun _ => Zz.Fr.ret _, fun args us m st w v st' h hr hf hl o a K Q hK => ?_⟩
  unfold hAbs at h
  obtain ⟨A, s0, h0, h1⟩ := Zz.bnd_eq h
  obtain ⟨hA0, rfl⟩ := opt_some h0
  obtain rfl := argP_some hA0
  obtain ⟨b, s1, h2, h3⟩ := Zz.bnd_eq h1
  obtain ⟨e1, e2, e3⟩ := Zz.rd_eq h2
  obtain ⟨u, s2, h4, h5⟩ := Zz.bnd_eq h3
  obtain ⟨hb0, rfl⟩ := opt_some h4
  obtain rfl := isAbs_some hb0
  obtain ⟨u2, s3, h6, h7⟩ := Zz.bnd_eq h5
  cases h7
  obtain ⟨⟨B, d, z⟩, g1, g2, g3, ob, g4, g5⟩ := hr.blk A _ e1
  simp only at g3 g4
  subst g3
  have hus : us = #[.pointer (some ⟨B, 0, none⟩), xv] := by
    obtain ⟨us⟩ := us
    cases hl with | cons _ v1 _ r1 q1 hl => _
    cases hl with | cons _ v2 _ r2 q2 hl => _
    cases hl
    have := hx _ _ q2
    subst this
    cases q1 with
    | ptr _ _ b' d' z' hm' =>
      rw [hm'] at g1; cases g1
      rfl
  rw [hrun, Oper.upon_enter, hus]
  refine (hC w B ob g4 g5).mono ?_
  rintro en w' ⟨v', o', rfl, q1, q2, q3, q4, q5⟩
  have hw : st'.heap = s2.heap.put A (.abs post) ∧ st'.next = s2.next := by
    unfold Zz.wr at h6
    split at h6
    · cases h6; exact ⟨rfl, rfl⟩
    · cases h6
  refine hK v' w' m (Zz.Ext.refl m) (fun A e1 e2 => absurd e1 e2) ?_ (q1 m)
  rw [hw.1, Zz.get_upd, e2]
  exact Rel_writeG hr e1 g1 rfl q4 q5 ⟨rfl, o', q2, q3⟩
theorem grown_size {w w' : World} {r : Option Nat} (h : w.grownBy w' r) : w.heap.size ≤ w'.heap.size := h.size
/-- Read hands bytes out, or says to wait -/
theorem read_abs {ρ : Nat → Value} {n : Int} {l : List UInt8} {r wr : Nat} {t l' : List UInt8} {e : Int} {pre post : Nat} {res : Zz.AV} (h1 : ρ pre = Zz.pipeV l r wr) (h2 : ρ post = Zz.pipeV l' r wr) (hr : readRes l r wr n = (t, e)) (hl : readLeft l r n = l')
    (hv : ∀ m, Zz.VR ρ m res (.tuple #[.string ⟨t.toArray⟩, .int .i64 e])) : AbsC ρ 199 (.int .i64 n) pre post res := by
  intro w b o ho ha
  rw [h1] at ha
  refine (read_st n b l r wr w (absR_at ho ha)).mono ?_
  rintro en w' ⟨rfl, hP, hG⟩
  rw [hl] at hP
  obtain ⟨o', q1, q2⟩ := absR_of hP
  rw [hr]
  exact ⟨_, o', rfl, hv, q1, by rw [h2]; exact q2, hG, grown_size hG⟩
theorem write_abs {ρ : Nat → Value} {s l : List UInt8} {r wr k : Nat} {l' : List UInt8} {e : Int} {pre post : Nat} {res : Zz.AV} (hs : s.length ≤ maxLen) (h1 : ρ pre = Zz.pipeV l r wr) (h2 : ρ post = Zz.pipeV l' r wr) (hr : writeRes l r wr s = (k, e)) (hl : writeLeft l r wr s = l')
    (hv : ∀ m, Zz.VR ρ m res (.tuple #[.int .i64 k, .int .i64 e])) : AbsC ρ 200 (.string ⟨s.toArray⟩) pre post res := by
  intro w b o ho ha
  rw [h1] at ha
  refine (write_st s hs b l r wr w (absR_at ho ha)).mono ?_
  rintro en w' ⟨rfl, hP, hG⟩
  rw [hl] at hP
  obtain ⟨o', q1, q2⟩ := absR_of hP
  rw [hr]
  exact ⟨_, o', rfl, hv, q1, by rw [h2]; exact q2, hG, grown_size hG⟩
theorem leave_abs {ρ : Nat → Value} {l : List UInt8} {wr : Nat} {pre post : Nat} {res : Zz.AV} (hw : wr < 9223372036854775807) (h1 : ρ pre = Zz.pipeV l 1 (wr + 1)) (h2 : ρ post = Zz.pipeV l 1 wr)
    (hv : ∀ m, Zz.VR ρ m res (.int .i64 0)) : AbsC ρ 204 (.bool true) pre post res := by
  intro w b o ho ha
  rw [h1] at ha
  refine (leave_w_st b l 1 wr w (absR_at ho ha) hw).mono ?_
  rintro en w' ⟨rfl, hP, hG⟩
  rw [if_neg (by decide)] at hP
  obtain ⟨o', q1, q2⟩ := absR_of hP
  exact ⟨_, o', rfl, hv, q1, by rw [h2]; exact q2, hG, grown_size hG⟩
end Go.Proofs.YtckmcajnhobkpaaGreatDoor
