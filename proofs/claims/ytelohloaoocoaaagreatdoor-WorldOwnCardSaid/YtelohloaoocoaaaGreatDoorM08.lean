/- Texts of one proof, packed: ExF, ExAbs, ExC, ExD, ExE, ExG, ExI -/
import Derived.Test.YtelohloaoocoaaaGreatDoorM07
import Derived.Orders
import Derived.Below
import Derived.WalkKit
import Derived.Laws.StructEq
import Derived.LaidEql
set_option linter.unusedVariables false
set_option linter.unusedSimpArgs false
set_option linter.deprecated false
set_option linter.unnecessarySimpa false
/- The executor: what a run hangs on is what it touches. -/
set_option linter.unusedVariables false
set_option linter.unusedSimpArgs false
set_option linter.deprecated false
namespace Go.Proofs.YtelohloaoocoaaaGreatDoor.Zz
open Go

theorem Tr.get_lf {α : Type} (n : Nat) : (Tr.lf : Tr α).get n = none := rfl
theorem Tr.get_ins {α : Type} (x : α) : ∀ (f : Nat) (t : Tr α) (n k : Nat), n < f → (Tr.ins x f t n).get k = if k = n then some x else t.get k := by
  intro f
  induction f with
  | zero => intro t n k h; omega
  | succ f ih =>
    intro t n k h
    have hb : ∀ a b : Nat, Nat.beq a b = decide (a = b) := fun a b => by
      rw [Bool.eq_iff_iff]; simp
    cases t with
    | lf =>
      simp only [Tr.ins, hb]
      by_cases h0 : n = 0
      · subst h0
        simp only [decide_true, cond_true, Tr.get, hb]
        by_cases hk : k = 0
        · simp [hk]
        · simp [hk, Tr.get]
      · simp only [h0, decide_false, cond_false]
        by_cases h1 : n % 2 = 1
        · simp only [h1, decide_true, cond_true, Tr.get, hb]
          by_cases hk : k = 0
          · simp [hk, Tr.get]; omega
          · simp only [hk, decide_false, cond_false]
            by_cases hk1 : k % 2 = 1
            · simp only [hk1, decide_true, cond_true]
              rw [ih _ _ _ (by omega)]
              by_cases e : k = n
              · simp [e]
              · rw [if_neg (by omega), if_neg e]; rfl
            · simp only [hk1, decide_false, cond_false]
              rw [if_neg (by omega)]
        · simp only [h1, decide_false, cond_false, Tr.get, hb]
          by_cases hk : k = 0
          · simp [hk, Tr.get]; omega
          · simp only [hk, decide_false, cond_false]
            by_cases hk1 : k % 2 = 1
            · simp only [hk1, decide_true, cond_true]
              rw [if_neg (by omega)]
            · simp only [hk1, decide_false, cond_false]
              rw [ih _ _ _ (by omega)]
              by_cases e : k = n
              · simp [e]
              · rw [if_neg (by omega), if_neg e]; rfl
    | nd v l r =>
      simp only [Tr.ins, hb]
      by_cases h0 : n = 0
      · subst h0
        simp only [decide_true, cond_true, Tr.get, hb]
        by_cases hk : k = 0
        · simp [hk]
        · simp [hk]
      · simp only [h0, decide_false, cond_false]
        by_cases h1 : n % 2 = 1
        · simp only [h1, decide_true, cond_true, Tr.get, hb]
          by_cases hk : k = 0
          · simp [hk]; omega
          · simp only [hk, decide_false, cond_false]
            by_cases hk1 : k % 2 = 1
            · simp only [hk1, decide_true, cond_true]
              rw [ih _ _ _ (by omega)]
              by_cases e : k = n
              · simp [e]
              · rw [if_neg (by omega), if_neg e]
            · simp only [hk1, decide_false, cond_false]
              rw [if_neg (by omega)]
        · simp only [h1, decide_false, cond_false, Tr.get, hb]
          by_cases hk : k = 0
          · simp [hk]; omega
          · simp only [hk, decide_false, cond_false]
            by_cases hk1 : k % 2 = 1
            · simp only [hk1, decide_true, cond_true]
              rw [if_neg (by omega)]
            · simp only [hk1, decide_false, cond_false]
              rw [ih _ _ _ (by omega)]
              by_cases e : k = n
              · simp [e]
              · rw [if_neg (by omega), if_neg e]
theorem Tr.get_put {α : Type} (t : Tr α) (n : Nat) (x : α) (k : Nat) : (t.put n x).get k = if k = n then some x else t.get k := Tr.get_ins x (n + 1) t n k (by omega)
theorem CT.get_put (c : CT) (n : Nat) (x : AV) (k : Nat) : (c.put n x).get k = if k = n then some x else c.get k := by
  unfold CT.get CT.put
  simp only [Tr.get_put]
  by_cases h : k = n
  · simp [h]
  · simp [h]
theorem nthL_eq : ∀ (l : List AV) (i : Nat), nthL l i = l[i]?
  | [], i => rfl
  | a :: l, i => by
    cases i with
    | zero => rfl
    | succ i =>
      show (bif Nat.beq (i + 1) 0 then some a else nthL l (i + 1 - 1)) = _
      rw [show Nat.beq (i + 1) 0 = false from rfl, cond_false, Nat.add_sub_cancel, nthL_eq l i]; rfl
theorem Tm.get_put (tm : Tm) (n : Nat) (x : Option AV) (k : Nat) : (tm.put n x).get k = if k = n then some x else tm.get k := Tr.get_put tm.t n x k

def Tch (L : List Nat) (A : Nat) : Prop := 2 * A ∈ L ∨ 2 * A + 1 ∈ L
structure Fro {α : Type} (x : M α) (st : ASt) (a : α) (st' : ASt) (L : List Nat) : Prop where
  log : st'.log = L ++ st.log
  next : st.next ≤ st'.next
  alloc : ∀ A, st.next ≤ A → A < st'.next → 2 * A + 1 ∈ L
  same : ∀ A, 2 * A + 1 ∉ L → ¬ (st.next ≤ A ∧ A < st'.next) → st'.heap.get A = st.heap.get A
  other : ∀ s2 : ASt, s2.next = st.next → (∀ A, Tch L A ∨ (st.next ≤ A ∧ A < st'.next) → s2.heap.get A = st.heap.get A) →
    ∃ s2', x s2 = some (a, s2') ∧ s2'.log = L ++ s2.log ∧ s2'.next = st'.next ∧ (∀ A, (2 * A + 1 ∈ L ∨ (st.next ≤ A ∧ A < st'.next)) → s2'.heap.get A = st'.heap.get A) ∧
      (∀ A, 2 * A + 1 ∉ L → ¬ (st.next ≤ A ∧ A < st'.next) → s2'.heap.get A = s2.heap.get A)
/-- what a step does hangs on nothing but what it touches -/
def Fr {α : Type} (x : M α) : Prop := ∀ st a st', x st = some (a, st') → ∃ L, Fro x st a st' L
theorem Fr.fail {α : Type} : Fr (fail : M α) := fun st a st' h => by cases h
theorem Fr.ret {α : Type} (a : α) : Fr (ret a) := fun st b st' h => by
  cases h
  exact ⟨[], rfl, Nat.le_refl _, fun A h1 h2 => absurd h1 (Nat.not_le.2 h2), fun A _ _ => rfl, fun s2 hn _ => ⟨s2, rfl, rfl, hn, fun A h => by simp at h; omega, fun A _ _ => rfl⟩⟩
theorem Fr.opt {α : Type} (o : Option α) : Fr (opt o) := by
  cases o with
  | none => exact Fr.fail
  | some a => exact Fr.ret a
theorem Fr.rd (A : Nat) : Fr (rd A) := fun st b st' h => by
  unfold Zz.rd at h
  cases hb : st.heap.get A with
  | none => rw [hb] at h; cases h
  | some c =>
    rw [hb] at h
    cases h
    refine ⟨[2 * A], rfl, Nat.le_refl _, fun B h1 h2 => absurd h1 (Nat.not_le.2 h2), fun B _ _ => rfl, fun s2 hn hs => ⟨⟨s2.heap, s2.next, 2 * A :: s2.log⟩, ?_, rfl, hn, fun B h => ?_, fun B _ _ => rfl⟩⟩
    · unfold Zz.rd; rw [hs A (.inl (.inl (by simp))), hb]
    · rcases h with h | h
      · simp at h; omega
      · simp at h; omega
theorem Fr.wr (A : Nat) (b : ABlk) : Fr (wr A b) := fun st u st' h => by
  unfold Zz.wr at h
  cases hb : st.heap.get A with
  | none => rw [hb] at h; cases h
  | some c =>
    rw [hb] at h
    cases h
    refine ⟨[2 * A + 1], rfl, Nat.le_refl _, fun B h1 h2 => absurd h1 (Nat.not_le.2 h2), fun B hB _ => ?_, fun s2 hn hs => ⟨⟨s2.heap.put A b, s2.next, (2 * A + 1) :: s2.log⟩, ?_, rfl, hn, fun B h => ?_, fun B hB _ => ?_⟩⟩
    · show (st.heap.put A b).get B = _
      rw [Tr.get_put, if_neg (by intro e; subst e; simp at hB)]
    · unfold Zz.wr; rw [hs A (.inl (.inr (by simp))), hb]
    · rcases h with h | h
      · have : B = A := by simp at h; omega
        subst this
        show (s2.heap.put B b).get B = (st.heap.put B b).get B
        rw [Tr.get_put, Tr.get_put, if_pos rfl, if_pos rfl]
      · simp at h; omega
    · show (s2.heap.put A b).get B = _
      rw [Tr.get_put, if_neg (by intro e; subst e; simp at hB)]
theorem Fr.nw (b : ABlk) : Fr (nw b) := fun st u st' h => by
  unfold Zz.nw at h
  cases h
  refine ⟨[2 * st.next + 1], rfl, by simp, fun B h1 h2 => ?_, fun B _ hB => ?_, fun s2 hn hs => ⟨⟨s2.heap.put s2.next b, s2.next + 1, (2 * s2.next + 1) :: s2.log⟩, ?_, by rw [hn]; rfl, by simp [hn], fun B h => ?_, fun B _ hB => ?_⟩⟩
  · simp only at h2
    simp; omega
  · show (st.heap.put st.next b).get B = _
    rw [Tr.get_put, if_neg (by intro e; subst e; simp at hB)]
  · unfold Zz.nw; rw [hn]
  · have : B = st.next := by simp at h; omega
    subst this
    show (s2.heap.put s2.next b).get _ = (st.heap.put st.next b).get _
    rw [Tr.get_put, Tr.get_put, hn]
    simp
  · show (s2.heap.put s2.next b).get B = _
    rw [Tr.get_put, if_neg (by intro e; subst e; rw [hn] at hB; simp at hB)]
theorem Fr.bnd {α β : Type} {x : M α} {f : α → M β} (hx : Fr x) (hf : ∀ a, Fr (f a)) : Fr (bnd x f) := fun st b st' h => by
  unfold Zz.bnd at h
  cases h1 : x st with
  | none => rw [h1] at h; cases h
  | some p =>
    obtain ⟨a, st1⟩ := p
    rw [h1] at h
    simp only at h
    obtain ⟨L1, q1⟩ := hx st a st1 h1
    obtain ⟨L2, q2⟩ := hf a st1 b st' h
    have n1 := q1.next
    have n2 := q2.next
    refine ⟨L2 ++ L1, by rw [q2.log, q1.log, List.append_assoc], by omega, fun A e1 e2 => (by
      by_cases h : A < st1.next
      · exact List.mem_append_right _ (q1.alloc A e1 h)
      · exact List.mem_append_left _ (q2.alloc A (by omega) e2)), fun A hA hN => ?_, fun s2 hn hs => ?_⟩
    · rw [q2.same A (fun h => hA (List.mem_append_left _ h)) (by omega), q1.same A (fun h => hA (List.mem_append_right _ h)) (by omega)]
    · obtain ⟨s3, e1, e2, e3, e4, e5⟩ := q1.other s2 hn (fun A hA => hs A (by
        rcases hA with hA | hA
        · exact .inl (hA.imp (List.mem_append_right _) (List.mem_append_right _))
        · exact .inr (by omega)))
      obtain ⟨s4, g1, g2, g3, g4, g5⟩ := q2.other s3 e3 (fun A hA => by
        by_cases hw : 2 * A + 1 ∈ L1 ∨ (st.next ≤ A ∧ A < st1.next)
        · exact e4 A hw
        · rw [e5 A (fun h => hw (.inl h)) (fun h => hw (.inr h)), q1.same A (fun h => hw (.inl h)) (fun h => hw (.inr h))]
          refine hs A ?_
          rcases hA with hA | hA
          · exact .inl (hA.imp (List.mem_append_left _) (List.mem_append_left _))
          · exact .inr (by omega))
      refine ⟨s4, ?_, by rw [g2, e2, List.append_assoc], g3, fun A hA => ?_, fun A hA hN => ?_⟩
      · unfold Zz.bnd; rw [e1]; exact g1
      · by_cases hw : 2 * A + 1 ∈ L2 ∨ (st1.next ≤ A ∧ A < st'.next)
        · exact g4 A hw
        · rw [g5 A (fun h => hw (.inl h)) (fun h => hw (.inr h)), q2.same A (fun h => hw (.inl h)) (fun h => hw (.inr h))]
          refine e4 A ?_
          rcases hA with hA | hA
          · rcases List.mem_append.1 hA with h | h
            · exact absurd (.inl h) hw
            · exact .inl h
          · by_cases h : A < st1.next
            · exact .inr ⟨hA.1, h⟩
            · exact absurd (.inr ⟨by omega, hA.2⟩) hw
      · rw [g5 A (fun h => hA (List.mem_append_left _ h)) (by omega), e5 A (fun h => hA (List.mem_append_right _ h)) (by omega)]
theorem Fr.capt {α : Type} {x : M α} (hx : Fr x) : Fr (capt x) := fun st b st' h => by
  unfold Zz.capt at h
  cases h1 : x ⟨st.heap, st.next, []⟩ with
  | none => rw [h1] at h; cases h
  | some p =>
    obtain ⟨a, s1⟩ := p
    rw [h1] at h
    cases h
    obtain ⟨L, q⟩ := hx _ a s1 h1
    have hl : s1.log = L := by rw [q.log]; simp
    refine ⟨L, by simp [hl], q.next, q.alloc, q.same, fun s2 hn hs => ?_⟩
    obtain ⟨s3, e1, e2, e3, e4, e5⟩ := q.other ⟨s2.heap, s2.next, []⟩ hn hs
    have e2' : s3.log = L := by rw [e2]; simp
    refine ⟨⟨s3.heap, s3.next, s3.log ++ s2.log⟩, ?_, by simp [e2'], e3, e4, e5⟩
    unfold Zz.capt
    rw [e1, hl]
    simp [e2']
/-- its own log is what it touches -/
theorem capt_log {α : Type} {x : M α} (hx : Fr x) {st st' : ASt} {a : α} {l : List Nat} (h : capt x st = some ((a, l), st')) : ∃ s1, x ⟨st.heap, st.next, []⟩ = some (a, s1) ∧ Fro x ⟨st.heap, st.next, []⟩ a s1 l ∧ st'.heap = s1.heap ∧ st'.next = s1.next := by
  unfold Zz.capt at h
  cases h1 : x ⟨st.heap, st.next, []⟩ with
  | none => rw [h1] at h; cases h
  | some p =>
    obtain ⟨b, s1⟩ := p
    rw [h1] at h
    cases h
    obtain ⟨L, q⟩ := hx _ a s1 h1
    have hl : s1.log = L := by rw [q.log]; simp
    exact ⟨s1, rfl, hl ▸ q, rfl, rfl⟩
theorem Fr.cond {α : Type} {c : Bool} {x y : M α} (hx : Fr x) (hy : Fr y) : Fr (bif c then x else y) := by cases c <;> assumption
theorem Fr.loadC (A i k : Nat) : Fr (loadC A i k) := by
  unfold Zz.loadC
  repeat' (first | exact Fr.fail | exact Fr.ret _ | exact Fr.opt _ | exact Fr.rd _ | exact Fr.wr _ _ | exact Fr.nw _ | (refine Fr.bnd ?_ (fun _ => ?_)) | refine Fr.cond ?_ ?_ | split)
theorem Fr.load1 (A i : Nat) : Fr (load1 A i) := by
  unfold Zz.load1
  repeat' (first | exact Fr.fail | exact Fr.ret _ | exact Fr.opt _ | exact Fr.rd _ | exact Fr.wr _ _ | exact Fr.nw _ | (refine Fr.bnd ?_ (fun _ => ?_)) | refine Fr.cond ?_ ?_ | split)
theorem Fr.storeC (A i : Nat) (l : List AV) : Fr (storeC A i l) := by
  unfold Zz.storeC
  repeat' (first | exact Fr.fail | exact Fr.ret _ | exact Fr.opt _ | exact Fr.rd _ | exact Fr.wr _ _ | exact Fr.nw _ | (refine Fr.bnd ?_ (fun _ => ?_)) | refine Fr.cond ?_ ?_ | split)
theorem Fr.newC (e : TypeId) (l : List AV) : Fr (newC e l) := by
  unfold Zz.newC
  repeat' (first | exact Fr.fail | exact Fr.ret _ | exact Fr.opt _ | exact Fr.rd _ | exact Fr.wr _ _ | exact Fr.nw _ | (refine Fr.bnd ?_ (fun _ => ?_)) | refine Fr.cond ?_ ?_ | split)
theorem Fr.newR (e : TypeId) (d : List AV) (k : Nat) : Fr (newR e d k) := by
  unfold Zz.newR
  exact Fr.cond (Fr.nw _) Fr.fail
theorem Fr.newS (e : TypeId) (l : List AV) : Fr (newS e l) := by
  unfold Zz.newS
  repeat' (first | exact Fr.fail | exact Fr.ret _ | exact Fr.opt _ | exact Fr.rd _ | exact Fr.wr _ _ | exact Fr.nw _ | (refine Fr.bnd ?_ (fun _ => ?_)) | refine Fr.cond ?_ ?_ | split)
theorem Fr.loadT (P : Program) (t : TypeId) (A i : Nat) : Fr (loadT P t A i) := by
  unfold Zz.loadT
  repeat' (first | exact Fr.fail | exact Fr.ret _ | exact Fr.opt _ | exact Fr.rd _ | exact Fr.wr _ _ | exact Fr.nw _ | exact Fr.loadC _ _ _ | exact Fr.load1 _ _ | exact Fr.storeC _ _ _ | exact Fr.newC _ _ | exact Fr.newR _ _ _ | exact Fr.newS _ _ | (refine Fr.bnd ?_ (fun _ => ?_)) | refine Fr.cond ?_ ?_ | split)
theorem Fr.storeT (P : Program) (t : TypeId) (A i : Nat) (v : AV) : Fr (storeT P t A i v) := by
  unfold Zz.storeT
  repeat' (first | exact Fr.fail | exact Fr.ret _ | exact Fr.opt _ | exact Fr.rd _ | exact Fr.wr _ _ | exact Fr.nw _ | exact Fr.loadC _ _ _ | exact Fr.load1 _ _ | exact Fr.storeC _ _ _ | exact Fr.newC _ _ | exact Fr.newR _ _ _ | exact Fr.newS _ _ | exact Fr.loadT _ _ _ _ | (refine Fr.bnd ?_ (fun _ => ?_)) | refine Fr.cond ?_ ?_ | split)
theorem Fr.partT (P : Program) (t : TypeId) (l : List AV) (off : Nat) : Fr (partT P t l off) := by
  unfold Zz.partT
  repeat' (first | exact Fr.fail | exact Fr.ret _ | exact Fr.opt _ | exact Fr.rd _ | exact Fr.wr _ _ | exact Fr.nw _ | exact Fr.loadC _ _ _ | exact Fr.load1 _ _ | exact Fr.storeC _ _ _ | exact Fr.newC _ _ | exact Fr.newR _ _ _ | exact Fr.newS _ _ | exact Fr.loadT _ _ _ _ | exact Fr.storeT _ _ _ _ _ | (refine Fr.bnd ?_ (fun _ => ?_)) | refine Fr.cond ?_ ?_ | split)
theorem Fr.aliveC (A : Nat) : Fr (aliveC A) := by
  unfold Zz.aliveC
  repeat' (first | exact Fr.fail | exact Fr.ret _ | exact Fr.opt _ | exact Fr.rd _ | exact Fr.wr _ _ | exact Fr.nw _ | exact Fr.loadC _ _ _ | exact Fr.load1 _ _ | exact Fr.storeC _ _ _ | exact Fr.newC _ _ | exact Fr.newR _ _ _ | exact Fr.newS _ _ | exact Fr.loadT _ _ _ _ | exact Fr.storeT _ _ _ _ _ | exact Fr.partT _ _ _ _ | (refine Fr.bnd ?_ (fun _ => ?_)) | refine Fr.cond ?_ ?_ | split)
theorem Fr.foldr {α : Type} {γ : Type} (f : γ → M α → M α) (z : M α) (hz : Fr z) (hf : ∀ c k, Fr k → Fr (f c k)) : ∀ l : List γ, Fr (l.foldr f z)
  | [] => hz
  | c :: l => hf c _ (Fr.foldr f z hz hf l)
theorem Fr.eqA (P : Program) : ∀ (n : Nat) (t : TypeId) (x y : AV), Fr (eqA P n t x y) := by
  intro n
  induction n with
  | zero => intro t x y; exact Fr.fail
  | succ n ih =>
    intro t x y
    unfold Zz.eqA
    repeat' (first | exact Fr.fail | exact Fr.ret _ | exact Fr.opt _ | exact Fr.rd _ | exact Fr.wr _ _ | exact Fr.nw _ | exact Fr.loadC _ _ _ | exact Fr.load1 _ _ | exact Fr.storeC _ _ _ | exact Fr.newC _ _ | exact Fr.newR _ _ _ | exact Fr.newS _ _ | exact Fr.loadT _ _ _ _ | exact Fr.storeT _ _ _ _ _ | exact Fr.partT _ _ _ _ | exact Fr.aliveC _ | exact ih _ _ _ | (refine Fr.foldr _ _ (Fr.ret _) (fun c k hk => ?_) _) | assumption | (refine Fr.bnd ?_ (fun _ => ?_)) | refine Fr.cond ?_ ?_ | split)
theorem Fr.binA (P : Program) (op : BinOp) (t : TypeId) (a b : AV) : Fr (binA P op t a b) := by
  unfold Zz.binA
  repeat' (first | exact Fr.fail | exact Fr.ret _ | exact Fr.opt _ | exact Fr.rd _ | exact Fr.wr _ _ | exact Fr.nw _ | exact Fr.loadC _ _ _ | exact Fr.load1 _ _ | exact Fr.storeC _ _ _ | exact Fr.newC _ _ | exact Fr.newR _ _ _ | exact Fr.newS _ _ | exact Fr.loadT _ _ _ _ | exact Fr.storeT _ _ _ _ _ | exact Fr.partT _ _ _ _ | exact Fr.aliveC _ | exact Fr.eqA _ _ _ _ _ | (refine Fr.bnd ?_ (fun _ => ?_)) | refine Fr.cond ?_ ?_ | split)
theorem Fr.unA (op : UnOp) (x : AV) : Fr (unA op x) := by
  unfold Zz.unA
  repeat' (first | exact Fr.fail | exact Fr.ret _ | exact Fr.opt _ | exact Fr.rd _ | exact Fr.wr _ _ | exact Fr.nw _ | exact Fr.loadC _ _ _ | exact Fr.load1 _ _ | exact Fr.storeC _ _ _ | exact Fr.newC _ _ | exact Fr.newR _ _ _ | exact Fr.newS _ _ | exact Fr.loadT _ _ _ _ | exact Fr.storeT _ _ _ _ _ | exact Fr.partT _ _ _ _ | exact Fr.aliveC _ | exact Fr.eqA _ _ _ _ _ | exact Fr.binA _ _ _ _ _ | (refine Fr.bnd ?_ (fun _ => ?_)) | refine Fr.cond ?_ ?_ | split)
theorem Fr.asInt (v : AV) : Fr (asInt v) := by
  unfold Zz.asInt
  repeat' (first | exact Fr.fail | exact Fr.ret _ | exact Fr.opt _ | exact Fr.rd _ | exact Fr.wr _ _ | exact Fr.nw _ | exact Fr.loadC _ _ _ | exact Fr.load1 _ _ | exact Fr.storeC _ _ _ | exact Fr.newC _ _ | exact Fr.newR _ _ _ | exact Fr.newS _ _ | exact Fr.loadT _ _ _ _ | exact Fr.storeT _ _ _ _ _ | exact Fr.partT _ _ _ _ | exact Fr.aliveC _ | exact Fr.eqA _ _ _ _ _ | exact Fr.binA _ _ _ _ _ | exact Fr.unA _ _ | (refine Fr.bnd ?_ (fun _ => ?_)) | refine Fr.cond ?_ ?_ | split)
theorem Fr.asNat (v : AV) : Fr (asNat v) := by
  unfold Zz.asNat
  repeat' (first | exact Fr.fail | exact Fr.ret _ | exact Fr.opt _ | exact Fr.rd _ | exact Fr.wr _ _ | exact Fr.nw _ | exact Fr.loadC _ _ _ | exact Fr.load1 _ _ | exact Fr.storeC _ _ _ | exact Fr.newC _ _ | exact Fr.newR _ _ _ | exact Fr.newS _ _ | exact Fr.loadT _ _ _ _ | exact Fr.storeT _ _ _ _ _ | exact Fr.partT _ _ _ _ | exact Fr.aliveC _ | exact Fr.eqA _ _ _ _ _ | exact Fr.binA _ _ _ _ _ | exact Fr.unA _ _ | exact Fr.asInt _ | (refine Fr.bnd ?_ (fun _ => ?_)) | refine Fr.cond ?_ ?_ | split)
theorem Fr.sliceA (P : Program) (t : TypeId) (x : AV) (lo hi mx : Option AV) : Fr (sliceA P t x lo hi mx) := by
  unfold Zz.sliceA
  repeat' (first | exact Fr.fail | exact Fr.ret _ | exact Fr.opt _ | exact Fr.rd _ | exact Fr.wr _ _ | exact Fr.nw _ | exact Fr.loadC _ _ _ | exact Fr.load1 _ _ | exact Fr.storeC _ _ _ | exact Fr.newC _ _ | exact Fr.newR _ _ _ | exact Fr.newS _ _ | exact Fr.loadT _ _ _ _ | exact Fr.storeT _ _ _ _ _ | exact Fr.partT _ _ _ _ | exact Fr.aliveC _ | exact Fr.eqA _ _ _ _ _ | exact Fr.binA _ _ _ _ _ | exact Fr.unA _ _ | exact Fr.asInt _ | exact Fr.asNat _ | (refine Fr.bnd ?_ (fun _ => ?_)) | refine Fr.cond ?_ ?_ | split)
theorem Fr.growA (A j len sz k : Nat) (ex : Bool) (cap : Nat) (e : TypeId) (new : List AV) : Fr (growA A j len sz k ex cap e new) := by
  unfold Zz.growA
  repeat' (first | exact Fr.fail | exact Fr.ret _ | exact Fr.opt _ | exact Fr.rd _ | exact Fr.wr _ _ | exact Fr.nw _ | (refine Fr.bnd ?_ (fun _ => ?_)) | refine Fr.cond ?_ ?_ | split)
theorem Fr.appendA (P : Program) (e : TypeId) (s : AV) (k : Nat) (new : List AV) : Fr (appendA P e s k new) := by
  unfold Zz.appendA
  repeat' (first | exact Fr.fail | exact Fr.ret _ | exact Fr.opt _ | exact Fr.rd _ | exact Fr.wr _ _ | exact Fr.nw _ | exact Fr.growA _ _ _ _ _ _ _ _ _ | exact Fr.loadC _ _ _ | exact Fr.load1 _ _ | exact Fr.storeC _ _ _ | exact Fr.newC _ _ | exact Fr.newR _ _ _ | exact Fr.newS _ _ | exact Fr.loadT _ _ _ _ | exact Fr.storeT _ _ _ _ _ | exact Fr.partT _ _ _ _ | exact Fr.aliveC _ | exact Fr.eqA _ _ _ _ _ | exact Fr.binA _ _ _ _ _ | exact Fr.unA _ _ | exact Fr.asInt _ | exact Fr.asNat _ | exact Fr.sliceA _ _ _ _ _ _ | (refine Fr.bnd ?_ (fun _ => ?_)) | refine Fr.cond ?_ ?_ | split)
theorem Fr.cellsIn (size : Nat) (x : AV) : Fr (cellsIn size x) := by
  unfold Zz.cellsIn
  repeat' (first | exact Fr.fail | exact Fr.ret _ | exact Fr.opt _ | exact Fr.rd _ | exact Fr.wr _ _ | exact Fr.nw _ | exact Fr.loadC _ _ _ | exact Fr.load1 _ _ | exact Fr.storeC _ _ _ | exact Fr.newC _ _ | exact Fr.newR _ _ _ | exact Fr.newS _ _ | exact Fr.loadT _ _ _ _ | exact Fr.storeT _ _ _ _ _ | exact Fr.partT _ _ _ _ | exact Fr.aliveC _ | exact Fr.eqA _ _ _ _ _ | exact Fr.binA _ _ _ _ _ | exact Fr.unA _ _ | exact Fr.asInt _ | exact Fr.asNat _ | exact Fr.sliceA _ _ _ _ _ _ | exact Fr.appendA _ _ _ _ _ | (refine Fr.bnd ?_ (fun _ => ?_)) | refine Fr.cond ?_ ?_ | split)
theorem Fr.lookFin (P : Program) (et : TypeId) (k : AV) (ok : Bool) (es : List (AV × AV × Nat)) : Fr (lookFin P et k ok es) := by
  unfold Zz.lookFin
  repeat' (first | exact Fr.fail | exact Fr.ret _ | split)
theorem Fr.lookA (P : Program) (t : TypeId) (x k : AV) (ok : Bool) : Fr (lookA P t x k ok) := by
  unfold Zz.lookA
  repeat' (first | exact Fr.fail | exact Fr.ret _ | exact Fr.opt _ | exact Fr.rd _ | exact Fr.wr _ _ | exact Fr.nw _ | exact Fr.lookFin _ _ _ _ _ | exact Fr.loadC _ _ _ | exact Fr.load1 _ _ | exact Fr.storeC _ _ _ | exact Fr.newC _ _ | exact Fr.newR _ _ _ | exact Fr.newS _ _ | exact Fr.loadT _ _ _ _ | exact Fr.storeT _ _ _ _ _ | exact Fr.partT _ _ _ _ | exact Fr.aliveC _ | exact Fr.eqA _ _ _ _ _ | exact Fr.binA _ _ _ _ _ | exact Fr.unA _ _ | exact Fr.asInt _ | exact Fr.asNat _ | exact Fr.sliceA _ _ _ _ _ _ | exact Fr.appendA _ _ _ _ _ | exact Fr.cellsIn _ _ | (refine Fr.bnd ?_ (fun _ => ?_)) | refine Fr.cond ?_ ?_ | split)
theorem Fr.mapUpA (P : Program) (t : TypeId) (x k v : AV) : Fr (mapUpA P t x k v) := by
  unfold Zz.mapUpA
  repeat' (first | exact Fr.fail | exact Fr.ret _ | exact Fr.opt _ | exact Fr.rd _ | exact Fr.wr _ _ | exact Fr.nw _ | exact Fr.loadC _ _ _ | exact Fr.load1 _ _ | exact Fr.storeC _ _ _ | exact Fr.newC _ _ | exact Fr.newR _ _ _ | exact Fr.newS _ _ | exact Fr.loadT _ _ _ _ | exact Fr.storeT _ _ _ _ _ | exact Fr.partT _ _ _ _ | exact Fr.aliveC _ | exact Fr.eqA _ _ _ _ _ | exact Fr.binA _ _ _ _ _ | exact Fr.unA _ _ | exact Fr.asInt _ | exact Fr.asNat _ | exact Fr.sliceA _ _ _ _ _ _ | exact Fr.appendA _ _ _ _ _ | exact Fr.cellsIn _ _ | exact Fr.lookA _ _ _ _ _ | (refine Fr.bnd ?_ (fun _ => ?_)) | refine Fr.cond ?_ ?_ | split)
theorem Fr.assertA (P : Program) (x : AV) (t : TypeId) (ok : Bool) : Fr (assertA P x t ok) := by
  unfold Zz.assertA
  repeat' (first | exact Fr.fail | exact Fr.ret _ | exact Fr.opt _ | exact Fr.rd _ | exact Fr.wr _ _ | exact Fr.nw _ | exact Fr.loadC _ _ _ | exact Fr.load1 _ _ | exact Fr.storeC _ _ _ | exact Fr.newC _ _ | exact Fr.newR _ _ _ | exact Fr.newS _ _ | exact Fr.loadT _ _ _ _ | exact Fr.storeT _ _ _ _ _ | exact Fr.partT _ _ _ _ | exact Fr.aliveC _ | exact Fr.eqA _ _ _ _ _ | exact Fr.binA _ _ _ _ _ | exact Fr.unA _ _ | exact Fr.asInt _ | exact Fr.asNat _ | exact Fr.sliceA _ _ _ _ _ _ | exact Fr.appendA _ _ _ _ _ | exact Fr.cellsIn _ _ | exact Fr.lookA _ _ _ _ _ | exact Fr.mapUpA _ _ _ _ _ | (refine Fr.bnd ?_ (fun _ => ?_)) | refine Fr.cond ?_ ?_ | split)
theorem Fr.getP (P : Program) (t : TypeId) (x : Pl) : Fr (getP P t x) := by
  cases x with
  | val v => exact Fr.ret _
  | var A i => exact Fr.loadT _ _ _ _
theorem Fr.followA (P : Program) : ∀ (l : List FieldStep) (t : TypeId) (x : Pl), Fr (followA P l t x)
  | [], t, x => Fr.ret _
  | s :: r, t, x => by
    have ih := Fr.followA P r
    unfold Zz.followA
    repeat' (first | exact ih _ _ | exact Fr.fail | exact Fr.ret _ | exact Fr.getP _ _ _ | exact Fr.partT _ _ _ _ | (refine Fr.bnd ?_ (fun _ => ?_)) | refine Fr.cond ?_ ?_ | split)
theorem Fr.recvA (P : Program) (t : TypeId) (x : Pl) (pr : Bool) : Fr (recvA P t x pr) := by
  unfold Zz.recvA
  repeat' (first | exact Fr.fail | exact Fr.ret _ | exact Fr.getP _ _ _ | exact Fr.loadT _ _ _ _ | (refine Fr.bnd ?_ (fun _ => ?_)) | refine Fr.cond ?_ ?_ | split)
theorem Fr.methN (P : Program) : ∀ (n : Nat) (t : TypeId) (v : AV) (name : String), Fr (methN P n t v name)
  | 0, _, _, _ => Fr.fail
  | n + 1, t, v, name => by
    have ih := Fr.methN P n
    unfold Zz.methN
    repeat' (first | exact ih _ _ _ | exact Fr.fail | exact Fr.ret _ | exact Fr.getP _ _ _ | exact Fr.followA _ _ _ _ | exact Fr.recvA _ _ _ _ | (refine Fr.bnd ?_ (fun _ => ?_)) | refine Fr.cond ?_ ?_ | split)
theorem Fr.methA (P : Program) (t : TypeId) (v : AV) (name : String) : Fr (methA P t v name) := Fr.methN P 4 t v name
def FrH (H : Hooks) : Prop := ∀ f h, H.fn f = some h → ∀ args, Fr (h args)
def FrE (e : Ex) : Prop := (∀ f args, Fr (e.call f args)) ∧ (∀ N b tm, Fr (e.loop N b tm)) ∧ ∀ f l u, Fr (e.callD f l u)
theorem Fr.funcA (P : Program) {H : Hooks} {e : Ex} (hH : FrH H) (he : FrE e) (f : FuncId) (args : List AV) : Fr (funcA P H e f args) := by
  unfold Zz.funcA
  split
  · rename_i h hh; exact hH _ _ hh _
  · repeat' (first | exact Fr.fail | exact Fr.ret _ | exact Fr.opt _ | exact Fr.rd _ | exact Fr.wr _ _ | exact Fr.nw _ | exact he.1 _ _ | (refine Fr.bnd ?_ (fun _ => ?_)) | refine Fr.cond ?_ ?_ | split)
theorem Fr.copyFin (d : AV) (n : Nat) (p : Nat × List AV) : Fr (copyFin d n p) := by
  unfold Zz.copyFin
  repeat' (first | exact Fr.fail | exact Fr.ret _ | exact Fr.opt _ | exact Fr.rd _ | exact Fr.wr _ _ | exact Fr.nw _ | exact Fr.loadC _ _ _ | exact Fr.load1 _ _ | exact Fr.storeC _ _ _ | exact Fr.newC _ _ | exact Fr.newR _ _ _ | exact Fr.newS _ _ | exact Fr.loadT _ _ _ _ | exact Fr.storeT _ _ _ _ _ | exact Fr.partT _ _ _ _ | exact Fr.aliveC _ | exact Fr.eqA _ _ _ _ _ | exact Fr.binA _ _ _ _ _ | exact Fr.unA _ _ | exact Fr.asInt _ | exact Fr.asNat _ | exact Fr.sliceA _ _ _ _ _ _ | exact Fr.appendA _ _ _ _ _ | exact Fr.cellsIn _ _ | exact Fr.lookA _ _ _ _ _ | exact Fr.mapUpA _ _ _ _ _ | exact Fr.assertA _ _ _ _ | exact Fr.methA _ _ _ _ | (refine Fr.bnd ?_ (fun _ => ?_)) | refine Fr.cond ?_ ?_ | split)
theorem Fr.copyA (P : Program) (t : TypeId) (d x : AV) : Fr (copyA P t d x) := by
  unfold Zz.copyA
  repeat' (first | exact Fr.copyFin _ _ _ | exact Fr.fail | exact Fr.ret _ | exact Fr.opt _ | exact Fr.rd _ | exact Fr.wr _ _ | exact Fr.nw _ | exact Fr.loadC _ _ _ | exact Fr.load1 _ _ | exact Fr.storeC _ _ _ | exact Fr.newC _ _ | exact Fr.newR _ _ _ | exact Fr.newS _ _ | exact Fr.loadT _ _ _ _ | exact Fr.storeT _ _ _ _ _ | exact Fr.partT _ _ _ _ | exact Fr.aliveC _ | exact Fr.eqA _ _ _ _ _ | exact Fr.binA _ _ _ _ _ | exact Fr.unA _ _ | exact Fr.asInt _ | exact Fr.asNat _ | exact Fr.sliceA _ _ _ _ _ _ | exact Fr.appendA _ _ _ _ _ | exact Fr.cellsIn _ _ | exact Fr.lookA _ _ _ _ _ | exact Fr.mapUpA _ _ _ _ _ | exact Fr.assertA _ _ _ _ | exact Fr.methA _ _ _ _ | (refine Fr.bnd ?_ (fun _ => ?_)) | refine Fr.cond ?_ ?_ | split)
theorem Fr.deleteA (P : Program) (t : TypeId) (x k : AV) : Fr (deleteA P t x k) := by
  unfold Zz.deleteA
  repeat' (first | exact Fr.fail | exact Fr.ret _ | exact Fr.opt _ | exact Fr.rd _ | exact Fr.wr _ _ | exact Fr.nw _ | exact Fr.loadC _ _ _ | exact Fr.load1 _ _ | exact Fr.storeC _ _ _ | exact Fr.newC _ _ | exact Fr.newR _ _ _ | exact Fr.newS _ _ | exact Fr.loadT _ _ _ _ | exact Fr.storeT _ _ _ _ _ | exact Fr.partT _ _ _ _ | exact Fr.aliveC _ | exact Fr.eqA _ _ _ _ _ | exact Fr.binA _ _ _ _ _ | exact Fr.unA _ _ | exact Fr.asInt _ | exact Fr.asNat _ | exact Fr.sliceA _ _ _ _ _ _ | exact Fr.appendA _ _ _ _ _ | exact Fr.cellsIn _ _ | exact Fr.lookA _ _ _ _ _ | exact Fr.mapUpA _ _ _ _ _ | exact Fr.assertA _ _ _ _ | exact Fr.methA _ _ _ _ | (refine Fr.bnd ?_ (fun _ => ?_)) | refine Fr.cond ?_ ?_ | split)
theorem Fr.builtA (P : Program) (b : Builtin) (ts : List TypeId) (args : List AV) : Fr (builtA P b ts args) := by
  unfold Zz.builtA
  repeat' (first | exact Fr.copyA _ _ _ _ | exact Fr.deleteA _ _ _ _ | exact Fr.fail | exact Fr.ret _ | exact Fr.opt _ | exact Fr.rd _ | exact Fr.wr _ _ | exact Fr.nw _ | exact Fr.loadC _ _ _ | exact Fr.load1 _ _ | exact Fr.storeC _ _ _ | exact Fr.newC _ _ | exact Fr.newR _ _ _ | exact Fr.newS _ _ | exact Fr.loadT _ _ _ _ | exact Fr.storeT _ _ _ _ _ | exact Fr.partT _ _ _ _ | exact Fr.aliveC _ | exact Fr.eqA _ _ _ _ _ | exact Fr.binA _ _ _ _ _ | exact Fr.unA _ _ | exact Fr.asInt _ | exact Fr.asNat _ | exact Fr.sliceA _ _ _ _ _ _ | exact Fr.appendA _ _ _ _ _ | exact Fr.cellsIn _ _ | exact Fr.lookA _ _ _ _ _ | exact Fr.mapUpA _ _ _ _ _ | exact Fr.assertA _ _ _ _ | exact Fr.methA _ _ _ _ | (refine Fr.bnd ?_ (fun _ => ?_)) | refine Fr.cond ?_ ?_ | split)
theorem Fr.cvtA (P : Program) (src dst : TypeId) (x : AV) : Fr (cvtA P src dst x) := by
  unfold Zz.cvtA
  repeat' (first | exact Fr.fail | exact Fr.ret _ | exact Fr.opt _ | exact Fr.rd _ | exact Fr.wr _ _ | exact Fr.nw _ | exact Fr.loadC _ _ _ | exact Fr.load1 _ _ | exact Fr.storeC _ _ _ | exact Fr.newC _ _ | exact Fr.newR _ _ _ | exact Fr.newS _ _ | exact Fr.loadT _ _ _ _ | exact Fr.storeT _ _ _ _ _ | exact Fr.partT _ _ _ _ | exact Fr.aliveC _ | exact Fr.eqA _ _ _ _ _ | exact Fr.binA _ _ _ _ _ | exact Fr.unA _ _ | exact Fr.asInt _ | exact Fr.asNat _ | exact Fr.sliceA _ _ _ _ _ _ | exact Fr.appendA _ _ _ _ _ | exact Fr.cellsIn _ _ | exact Fr.lookA _ _ _ _ _ | exact Fr.mapUpA _ _ _ _ _ | exact Fr.assertA _ _ _ _ | exact Fr.methA _ _ _ _ | exact Fr.builtA _ _ _ _ | (refine Fr.bnd ?_ (fun _ => ?_)) | refine Fr.cond ?_ ?_ | split)
theorem Fr.opA (P : Program) {H : Hooks} {e : Ex} (hH : FrH H) (he : FrE e) (o : Oper) (tm : Tm) : Fr (opA P H e o tm) := by
  unfold Zz.opA
  repeat' (first | exact Fr.fail | exact Fr.ret _ | exact Fr.opt _ | exact Fr.rd _ | exact Fr.wr _ _ | exact Fr.nw _ | exact Fr.loadC _ _ _ | exact Fr.load1 _ _ | exact Fr.storeC _ _ _ | exact Fr.newC _ _ | exact Fr.newR _ _ _ | exact Fr.newS _ _ | exact Fr.loadT _ _ _ _ | exact Fr.storeT _ _ _ _ _ | exact Fr.partT _ _ _ _ | exact Fr.aliveC _ | exact Fr.eqA _ _ _ _ _ | exact Fr.binA _ _ _ _ _ | exact Fr.unA _ _ | exact Fr.asInt _ | exact Fr.asNat _ | exact Fr.sliceA _ _ _ _ _ _ | exact Fr.appendA _ _ _ _ _ | exact Fr.cellsIn _ _ | exact Fr.lookA _ _ _ _ _ | exact Fr.mapUpA _ _ _ _ _ | exact Fr.assertA _ _ _ _ | exact Fr.methA _ _ _ _ | exact Fr.builtA _ _ _ _ | exact Fr.cvtA _ _ _ _ | exact Fr.funcA P hH he _ _ | (refine Fr.bnd ?_ (fun _ => ?_)) | refine Fr.cond ?_ ?_ | split)
theorem Fr.putA (N : Nat) (tm : Tm) (dst : Option Tmp) (v : AV) : Fr (putA N tm dst v) := by
  unfold Zz.putA
  repeat' (first | exact Fr.fail | exact Fr.ret _ | exact Fr.opt _ | exact Fr.rd _ | exact Fr.wr _ _ | exact Fr.nw _ | exact Fr.loadC _ _ _ | exact Fr.load1 _ _ | exact Fr.storeC _ _ _ | exact Fr.newC _ _ | exact Fr.newR _ _ _ | exact Fr.newS _ _ | exact Fr.loadT _ _ _ _ | exact Fr.storeT _ _ _ _ _ | exact Fr.partT _ _ _ _ | exact Fr.aliveC _ | exact Fr.eqA _ _ _ _ _ | exact Fr.binA _ _ _ _ _ | exact Fr.unA _ _ | exact Fr.asInt _ | exact Fr.asNat _ | exact Fr.sliceA _ _ _ _ _ _ | exact Fr.appendA _ _ _ _ _ | exact Fr.cellsIn _ _ | exact Fr.lookA _ _ _ _ _ | exact Fr.mapUpA _ _ _ _ _ | exact Fr.assertA _ _ _ _ | exact Fr.methA _ _ _ _ | exact Fr.builtA _ _ _ _ | exact Fr.cvtA _ _ _ _ | exact Fr.funcA P hH he _ _ | (refine Fr.bnd ?_ (fun _ => ?_)) | refine Fr.cond ?_ ?_ | split)
theorem Fr.askA {H : Hooks} {tm : Tm} {op : Op} {x : M AV} (hx : Fr x) : Fr (askA H tm op x) := by
  unfold Zz.askA
  split
  · exact hx
  · split
    · exact hx
    · exact Fr.ret _
theorem Fr.operA (P : Program) {H : Hooks} {e : Ex} (hH : FrH H) (he : FrE e) (N : Nat) (ops : Array Oper) (o : Oper) (tm : Tm) : Fr (operA P H e N ops o tm) := by
  unfold Zz.operA
  split
  · refine Fr.bnd (Fr.askA (Fr.opA P hH he o tm)) (fun v => ?_)
    split
    · exact Fr.fail
    · exact Fr.putA _ _ _ _
  · exact Fr.putA _ _ _ _
  · exact Fr.fail
theorem Fr.deferA (P : Program) (tm : Tm) (c : Call) : Fr (deferA P tm c) := by
  unfold Zz.deferA
  refine Fr.bnd (Fr.opt _) (fun args => ?_)
  split
  · refine Fr.bnd (Fr.opt _) (fun v => ?_)
    split
    · split
      · exact Fr.cond Fr.fail (Fr.ret _)
      · exact Fr.fail
    · exact Fr.fail
  · exact Fr.fail
theorem Fr.operP (P : Program) {H : Hooks} {e : Ex} (hH : FrH H) (he : FrE e) (N : Nat) (ops : Array Oper) (o : Oper) (tm : Tm) : Fr (operP P H e N ops o tm) := by
  unfold Zz.operP
  split
  · split
    · exact Fr.bnd (Fr.deferA P tm _) (fun x => Fr.bnd (Fr.putA _ _ _ _) (fun _ => Fr.ret _))
    · exact Fr.putA _ _ _ _
    · exact Fr.fail
  · split
    · refine Fr.bnd (Fr.opt _) (fun v => ?_)
      split
      · exact Fr.ret _
      · exact Fr.fail
    · exact Fr.putA _ _ _ _
    · exact Fr.fail
  · split
    · refine Fr.bnd (Fr.askA (Fr.opA P hH he o tm)) (fun v => ?_)
      split
      · exact Fr.ret _
      · exact Fr.putA _ _ _ _
    · exact Fr.putA _ _ _ _
    · exact Fr.fail
  · exact Fr.operA P hH he N ops o tm
theorem Fr.opsP (P : Program) {H : Hooks} {e : Ex} (hH : FrH H) (he : FrE e) (N : Nat) (ops : Array Oper) : ∀ (l : List Oper) (tm : Tm), Fr (opsP P H e N ops l tm)
  | [], tm => Fr.ret _
  | o :: r, tm => Fr.bnd (Fr.operP P hH he N ops o tm) (fun tm' => by
      cases tm'.p with
      | some p => exact Fr.ret _
      | none => exact Fr.opsP P hH he N ops r tm')
theorem Fr.endP (tm : Tm) : Fr (endP tm) := by
  unfold Zz.endP
  split <;> exact Fr.ret _
theorem Fr.drawA (P : Program) {H : Hooks} {e : Ex} (hH : FrH H) (he : FrE e) (N : Nat) (ops : Array Oper) : ∀ (l : List Oper) (tm : Tm), Fr (drawA P H e N ops l tm)
  | [], tm => Fr.ret _
  | o :: r, tm => Fr.bnd (Fr.capt (Fr.operA P hH he N ops o tm)) (fun p => Fr.bnd (Fr.drawA P hH he N ops r p.1) (fun q => Fr.ret _))
theorem bothB_self (o : Option ABlk) : bothB o o = o := by
  cases o with
  | none => rfl
  | some a => show (bif eqBlk a a then some a else none) = _; rw [eqBlk_refl, cond_true]
theorem Fr.join2 {x y : M (Exit × Tm)} (hx : Fr x) (hy : Fr y) : Fr (join2 x y) := fun st r st' h => by
  unfold Zz.join2 at h
  cases h1 : x st with
  | none => rw [h1] at h; cases h
  | some p =>
    obtain ⟨⟨ex, t⟩, s1⟩ := p
    rw [h1] at h
    dsimp only at h
    cases h2 : y ⟨st.heap, st.next, s1.log⟩ with
    | none => rw [h2] at h; cases h
    | some p2 =>
      obtain ⟨⟨ex2, t2⟩, s2⟩ := p2
      rw [h2] at h
      dsimp only at h
      cases he : (exEq ex ex2 && eqAVs t.d t2.d && (t.p.isNone && t2.p.isNone)) with
      | false => rw [he] at h; cases h
      | true =>
        rw [he, cond_true] at h
        cases h
        obtain ⟨L1, q1⟩ := hx _ _ _ h1
        obtain ⟨L2, q2⟩ := hy _ _ _ h2
        have hmx : ∀ a b : Nat, a ≤ (bif Nat.ble a b then b else a) ∧ b ≤ (bif Nat.ble a b then b else a) ∧ ((bif Nat.ble a b then b else a) = a ∨ (bif Nat.ble a b then b else a) = b) := fun a b => by
          cases hb : Nat.ble a b with
          | true => have := Nat.le_of_ble_eq_true hb; simp; omega
          | false =>
            have : ¬ a ≤ b := fun hle => by rw [Nat.ble_eq_true_of_le hle] at hb; cases hb
            simp; omega
        have n1 := q1.next
        have n2 := q2.next
        dsimp only at n2
        obtain ⟨m1, m2, m3⟩ := hmx s1.next s2.next
        generalize hmxe : (bif Nat.ble s1.next s2.next then s2.next else s1.next) = mx at m1 m2 m3
        refine ⟨L2 ++ L1, by show s2.log = _; rw [q2.log, q1.log, List.append_assoc], by show st.next ≤ mx; omega, fun A e1 e2 => ?_, fun A hA hN => ?_, fun u hn hs => ?_⟩
        · have e2' : A < mx := e2
          by_cases hlt : A < s1.next
          · exact List.mem_append_right _ (q1.alloc A e1 hlt)
          · exact List.mem_append_left _ (q2.alloc A e1 (by omega))
        · have hN' : ¬ (st.next ≤ A ∧ A < mx) := hN
          show (Tr.zip bothB s1.heap s2.heap).get A = _
          rw [Tr.get_zip rfl, q1.same A (fun h => hA (List.mem_append_right _ h)) (by omega), q2.same A (fun h => hA (List.mem_append_left _ h)) (by dsimp only; omega)]
          exact bothB_self _
        · have hs' : ∀ A, Tch (L2 ++ L1) A ∨ (st.next ≤ A ∧ A < mx) → u.heap.get A = st.heap.get A := fun A hA => hs A hA
          obtain ⟨u1, e1, e2, e3, e4, e5⟩ := q1.other u hn (fun A hA => hs' A (by
            rcases hA with hA | hA
            · exact .inl (hA.imp (List.mem_append_right _) (List.mem_append_right _))
            · exact .inr (by omega)))
          obtain ⟨u2, g1, g2, g3, g4, g5⟩ := q2.other ⟨u.heap, u.next, u1.log⟩ hn (fun A hA => hs' A (by
            rcases hA with hA | hA
            · exact .inl (hA.imp (List.mem_append_left _) (List.mem_append_left _))
            · exact .inr (by dsimp only at hA; omega)))
          dsimp only at g4 g5
          have c1 : ∀ A, Tch (L2 ++ L1) A ∨ (st.next ≤ A ∧ A < mx) → u1.heap.get A = s1.heap.get A := fun A hA => by
            by_cases hw : 2 * A + 1 ∈ L1 ∨ (st.next ≤ A ∧ A < s1.next)
            · exact e4 A hw
            · rw [e5 A (fun h => hw (.inl h)) (fun h => hw (.inr h)), q1.same A (fun h => hw (.inl h)) (fun h => hw (.inr h))]
              exact hs' A hA
          have c2 : ∀ A, Tch (L2 ++ L1) A ∨ (st.next ≤ A ∧ A < mx) → u2.heap.get A = s2.heap.get A := fun A hA => by
            by_cases hw : 2 * A + 1 ∈ L2 ∨ (st.next ≤ A ∧ A < s2.next)
            · exact g4 A hw
            · rw [g5 A (fun h => hw (.inl h)) (fun h => hw (.inr h)), q2.same A (fun h => hw (.inl h)) (fun h => hw (.inr h))]
              exact hs' A hA
          refine ⟨⟨Tr.zip bothB u1.heap u2.heap, mx, u2.log⟩, ?_, by show u2.log = _; rw [g2, e2, List.append_assoc], rfl, fun A hA => ?_, fun A hA hN => ?_⟩
          · unfold Zz.join2
            rw [e1]
            dsimp only
            rw [g1]
            dsimp only
            rw [he, cond_true, e3, g3, hmxe]
          · have hA' : Tch (L2 ++ L1) A ∨ (st.next ≤ A ∧ A < mx) := by
              rcases hA with hA | hA
              · exact .inl (.inr hA)
              · exact .inr hA
            show (Tr.zip bothB u1.heap u2.heap).get A = (Tr.zip bothB s1.heap s2.heap).get A
            rw [Tr.get_zip rfl, Tr.get_zip rfl, c1 A hA', c2 A hA']
          · have hN' : ¬ (st.next ≤ A ∧ A < mx) := hN
            show (Tr.zip bothB u1.heap u2.heap).get A = u.heap.get A
            rw [Tr.get_zip rfl, e5 A (fun h => hA (List.mem_append_right _ h)) (by omega), g5 A (fun h => hA (List.mem_append_left _ h)) (by omega)]
            exact bothB_self _
theorem Fr.joinAll {x : M (Exit × Tm)} (hx : Fr x) : ∀ {l : List (M (Exit × Tm))}, (∀ y ∈ l, Fr y) → Fr (joinAll x l) := by
  intro l
  induction l generalizing x with
  | nil => exact fun _ => hx
  | cons y l ih => exact fun h => Fr.join2 hx (ih (h y (by simp)) (fun z hz => h z (by simp [hz])))
theorem Fr.rangeA {r : Option Operand} {tm : Tm} {round : M Unit → M (Exit × Tm)} (h : ∀ F, Fr F → Fr (round F)) : Fr (rangeA r tm round) := by
  unfold Zz.rangeA
  cases r with
  | none => exact h _ (Fr.ret _)
  | some x =>
    dsimp only
    refine Fr.bnd (Fr.opt _) (fun v => ?_)
    split
    · refine Fr.bnd (Fr.rd _) (fun b => ?_)
      split
      · exact h _ (Fr.wr _ _)
      · refine Fr.bnd (Fr.rd _) (fun b => ?_)
        split
        · refine Fr.cond ?_ Fr.fail
          split
          · exact h _ (Fr.wr _ _)
          · refine Fr.joinAll (h _ (Fr.wr _ _)) (fun y hy => ?_)
            obtain ⟨c, _, rfl⟩ := List.mem_map.1 hy
            exact h _ (Fr.wr _ _)
        · exact Fr.fail
      · exact Fr.fail
    · exact Fr.fail
theorem Fr.codeA (P : Program) {H : Hooks} {e : Ex} (hH : FrH H) (he : FrE e) (N : Nat) (c : Code) : ∀ tm, Fr (codeA P H e N c tm) := by
  induction c with
  | skip => exact fun _ => Fr.ret _
  | label _ => exact fun _ => Fr.ret _
  | region id ops d =>
    intro tm
    cases d
    · show Fr (match tm.p with | some _ => Zz.fail | none => Zz.bnd (Zz.opsP P H e N ops ops.toList tm) fun tm' => Zz.endP tm')
      split
      · exact Fr.fail
      · exact Fr.bnd (Fr.opsP P hH he N ops _ tm) (fun _ => Fr.endP _)
    · refine Fr.bnd (Fr.drawA P hH he N ops _ tm) (fun p => ?_)
      exact Fr.cond (Fr.ret _) Fr.fail
  | seq a b iha ihb =>
    intro tm
    refine Fr.bnd (iha tm) (fun p => ?_)
    obtain ⟨x, tm'⟩ := p
    cases x <;> first | exact ihb _ | exact Fr.ret _
  | cond c a b iha ihb =>
    intro tm
    refine Fr.bnd (Fr.opt _) (fun v => ?_)
    cases v with
    | bool t => cases t <;> first | exact iha _ | exact ihb _
    | _ => exact Fr.fail
  | block id b ih =>
    intro tm
    refine Fr.bnd (ih tm) (fun p => ?_)
    obtain ⟨x, tm'⟩ := p
    cases x <;> first | exact Fr.cond (Fr.ret _) (Fr.ret _) | exact Fr.ret _
  | loop b ih =>
    intro tm
    refine Fr.rangeA (fun F hF => Fr.bnd hF (fun _ => Fr.bnd (ih tm) (fun p => ?_)))
    obtain ⟨x, tm'⟩ := p
    cases x <;> first | exact he.2.1 _ _ _ | exact Fr.ret _
  | scope b ih =>
    intro tm
    refine Fr.bnd (ih tm) (fun p => ?_)
    obtain ⟨x, tm'⟩ := p
    cases x <;> first | exact Fr.fail | exact Fr.ret _
  | exit id => exact fun _ => Fr.ret _
  | ret => exact fun _ => Fr.ret _
  | _ => exact fun _ => Fr.fail
theorem Fr.resultA (P : Program) (tm : Tm) : ∀ l : List ResultVar, Fr (resultA P tm l)
  | [] => Fr.ret _
  | .tmp t :: r => Fr.bnd (Fr.opt _) (fun _ => Fr.bnd (Fr.resultA P tm r) (fun _ => Fr.ret _))
  | .cell a t :: r => Fr.bnd (Fr.opt _) (fun v => by
      cases v with
      | ptr A i => exact Fr.bnd (Fr.loadT P t A i) (fun _ => Fr.bnd (Fr.resultA P tm r) (fun _ => Fr.ret _))
      | _ => exact Fr.fail)
theorem Fr.leaveA (P : Program) {e : Ex} (he : FrE e) (fn : Func) (tm : Tm) : ∀ (ds : List AV) (u : MA), Fr (leaveA P e fn tm ds u) := by
  intro ds
  induction ds with
  | nil =>
    intro u
    unfold Zz.leaveA
    split <;> first | exact Fr.fail | exact Fr.ret _ | (refine Fr.bnd (Fr.resultA P tm _) (fun l => ?_); split <;> exact Fr.ret _) | (rename_i heq; cases heq)
  | cons d ds ih =>
    intro u
    unfold Zz.leaveA
    split
    · rename_i heq; cases heq
    · rename_i heq; cases heq
    · rename_i heq; cases heq
    · rename_i heq
      cases heq
      exact Fr.bnd (he.2.2 _ _ _) (fun _ => ih _)
    · exact Fr.fail
theorem Fr.callA (P : Program) {H : Hooks} {e : Ex} (hH : FrH H) (he : FrE e) (f : FuncId) (args : List AV) : Fr (callA P H e f args) := by
  unfold Zz.callA
  split
  · exact Fr.fail
  · split
    · exact Fr.fail
    · refine Fr.bnd (Fr.codeA P hH he _ _ _) (fun p => ?_)
      obtain ⟨x, tm⟩ := p
      cases x <;> first | exact Fr.fail | exact Fr.leaveA P he _ tm _ _ | (dsimp only; split <;> first | exact Fr.leaveA P he _ tm _ _ | exact Fr.fail)
theorem Fr.operS (P : Program) {H : Hooks} {e : Ex} (hH : FrH H) (he : FrE e) (N : Nat) (ops : Array Oper) (o : Oper) (tm : Tm) (u : MA) : Fr (operS P H e N ops o tm u) := by
  unfold Zz.operS
  refine Fr.cond ?_ (Fr.bnd (Fr.operA P hH he N ops o tm) (fun _ => Fr.ret _))
  split
  · split <;> exact Fr.bnd (Fr.putA _ _ _ _) (fun _ => Fr.ret _)
  · exact Fr.bnd (Fr.putA _ _ _ _) (fun _ => Fr.ret _)
  · exact Fr.fail
theorem Fr.opsS (P : Program) {H : Hooks} {e : Ex} (hH : FrH H) (he : FrE e) (N : Nat) (ops : Array Oper) : ∀ (l : List Oper) (tm : Tm) (u : MA), Fr (opsS P H e N ops l tm u)
  | [], tm, u => Fr.ret _
  | o :: r, tm, u => Fr.bnd (Fr.operS P hH he N ops o tm u) (fun p => Fr.opsS P hH he N ops r p.1 p.2)
theorem Fr.codeS (P : Program) {H : Hooks} {e : Ex} (hH : FrH H) (he : FrE e) (N : Nat) (c : Code) : ∀ tm u, Fr (codeS P H e N c tm u) := by
  have other : ∀ (c : Code) (tm : Tm) (u : MA), Fr (Zz.bnd (Zz.codeA P H e N c tm) fun (x, tm') => (match x with
    | .panic _ => Zz.fail
    | x => Zz.ret (x, tm', u))) := fun c tm u => Fr.bnd (Fr.codeA P hH he N c tm) (fun p => by
      obtain ⟨x, tm'⟩ := p
      cases x <;> first | exact Fr.fail | exact Fr.ret _)
  induction c with
  | region id ops d =>
    intro tm u
    cases d
    · exact Fr.bnd (Fr.opsS P hH he N ops _ tm u) (fun _ => Fr.ret _)
    · exact other _ tm u
  | seq a b iha ihb =>
    intro tm u
    refine Fr.bnd (iha tm u) (fun p => ?_)
    obtain ⟨x, tm', u'⟩ := p
    cases x <;> first | exact ihb _ _ | exact Fr.ret _
  | cond c a b iha ihb =>
    intro tm u
    refine Fr.bnd (Fr.opt _) (fun v => ?_)
    cases v with
    | bool t => cases t <;> first | exact iha _ _ | exact ihb _ _
    | _ => exact Fr.fail
  | _ => exact fun tm u => other _ tm u
theorem Fr.callDA (P : Program) {H : Hooks} {e : Ex} (hH : FrH H) (he : FrE e) (f : FuncId) (args : List AV) (u : MA) : Fr (callDA P H e f args u) := by
  unfold Zz.callDA
  split
  · exact Fr.fail
  · split
    · exact Fr.fail
    · refine Fr.bnd (Fr.codeS P hH he _ _ _ _) (fun p => ?_)
      obtain ⟨x, tm, u'⟩ := p
      cases x <;> first | exact Fr.fail | (dsimp only; split <;> first | exact Fr.fail | exact Fr.bnd (Fr.resultA P tm _) (fun _ => Fr.ret _))
theorem FrE.exec (P : Program) {H : Hooks} (hH : FrH H) : ∀ n, FrE (exec P H n)
  | 0 => ⟨fun _ _ => Fr.fail, fun _ _ _ => Fr.fail, fun _ _ _ => Fr.fail⟩
  | n + 1 => ⟨fun f args => Fr.callA P hH (FrE.exec P hH n) f args, fun N b tm => Fr.codeA P hH (FrE.exec P hH n) N (.loop b) tm, fun f l u => Fr.callDA P hH (FrE.exec P hH n) f l u⟩
end Go.Proofs.YtelohloaoocoaaaGreatDoor.Zz
/- The executor: objects that stand for a value as a whole: none does, here. -/
set_option linter.unusedVariables false
set_option linter.unusedSimpArgs false
set_option linter.deprecated false
namespace Go.Proofs.YtelohloaoocoaaaGreatDoor.Zz
open Go
/-- the object is what the value tells -/
def absR (_ : Value) (_ : Obj) : Prop := False
end Go.Proofs.YtelohloaoocoaaaGreatDoor.Zz
/- The executor: how its states lie in a world. -/
set_option linter.unusedVariables false
set_option linter.unusedSimpArgs false
set_option linter.deprecated false
namespace Go.Proofs.YtelohloaoocoaaaGreatDoor.Zz
open Go Go.RowKit

abbrev BMap := Nat → Option (Nat × Nat × Nat)
mutual
inductive VR (ρ : Nat → Value) (m : BMap) : AV → Value → Prop where
  | int (k : IntKind) (n : Int) : VR ρ m (.int k n) (.int k n)
  | bool (b : Bool) : VR ρ m (.bool b) (.bool b)
  | str (s : List UInt8) : VR ρ m (.str s) (.string ⟨s.toArray⟩)
  | ptr0 : VR ρ m .ptr0 (.pointer none)
  | ptr (A i b d z : Nat) (h : m A = some (b, d, z)) : VR ρ m (.ptr A i) (.pointer (some ⟨b, d + i, none⟩))
  | sl0 : VR ρ m .sl0 (.slice none 0 0)
  | sl (A i len cap sz : Nat) (ex : Bool) (b d z off cap' : Nat) (h : m A = some (b, d, z)) (hc : cap ≤ cap') (hex : ex = true → cap' = cap) (ho : 0 < cap → off = d + i) (hz : off + cap' * sz ≤ z) (hl : len ≤ cap) (hd : d ≤ off) :
      VR ρ m (.sl A i len cap sz ex) (.slice (some ⟨b, off, none⟩) len cap')
  | map0 : VR ρ m .map0 (.map none)
  | map (A b d z : Nat) (h : m A = some (b, d, z)) : VR ρ m (.map A) (.map (some b))
  | fn (f : Fn) (x y : List AV) (u v : Array Value) (h1 : LR ρ m x u.toList) (h2 : LR ρ m y v.toList) : VR ρ m (.fn f x y) (.func f u v)
  | fn0 : VR ρ m .fn0 .nilFunc
  | ifc (t : TypeId) (x : AV) (v : Value) (h : VR ρ m x v) : VR ρ m (.ifc t x) (.iface t v)
  | ifc0 : VR ρ m .ifc0 .nilIface
  | agg (l : List AV) (u : Array Value) (h : LR ρ m l u.toList) : VR ρ m (.agg l) (.agg u)
  | tup (l : List AV) (u : Array Value) (h : LR ρ m l u.toList) : VR ρ m (.tup l) (.tuple u)
  | opq (k : Nat) : VR ρ m (.opq k) (ρ k)
inductive LR (ρ : Nat → Value) (m : BMap) : List AV → List Value → Prop where
  | nil : LR ρ m [] []
  | cons (a : AV) (v : Value) (l : List AV) (r : List Value) (h : VR ρ m a v) (hr : LR ρ m l r) : LR ρ m (a :: l) (v :: r)
end
/-- an opaque value is one cell's value -/
def Opq (ρ : Nat → Value) : Prop := ∀ k, (∀ cs, ρ k ≠ .agg cs) ∧ ∀ cs, ρ k ≠ .tuple cs
def Ext (m m' : BMap) : Prop := ∀ A p, m A = some p → m' A = some p
theorem Ext.refl (m : BMap) : Ext m m := fun _ _ h => h
theorem Ext.trans {a b c : BMap} (h : Ext a b) (k : Ext b c) : Ext a c := fun A p e => k A p (h A p e)
mutual
theorem VR.ext {ρ : Nat → Value} {m m' : BMap} (he : Ext m m') : ∀ {a : AV} {v : Value}, VR ρ m a v → VR ρ m' a v
  | _, _, .int k n => .int k n
  | _, _, .bool b => .bool b
  | _, _, .str s => .str s
  | _, _, .ptr0 => .ptr0
  | _, _, .ptr A i b d z h => .ptr A i b d z (he _ _ h)
  | _, _, .sl0 => .sl0
  | _, _, .sl A i len cap sz ex b d z off cap' h hc hex ho hz hl hd => .sl A i len cap sz ex b d z off cap' (he _ _ h) hc hex ho hz hl hd
  | _, _, .map0 => .map0
  | _, _, .map A b d z h => .map A b d z (he _ _ h)
  | _, _, .fn f x y u v h1 h2 => .fn f x y u v (LR.ext he h1) (LR.ext he h2)
  | _, _, .fn0 => .fn0
  | _, _, .ifc t x v h => .ifc t x v (VR.ext he h)
  | _, _, .ifc0 => .ifc0
  | _, _, .agg l u h => .agg l u (LR.ext he h)
  | _, _, .tup l u h => .tup l u (LR.ext he h)
  | _, _, .opq k => .opq k
theorem LR.ext {ρ : Nat → Value} {m m' : BMap} (he : Ext m m') : ∀ {l : List AV} {r : List Value}, LR ρ m l r → LR ρ m' l r
  | _, _, .nil => .nil
  | _, _, .cons a v l r h hr => .cons a v l r (VR.ext he h) (LR.ext he hr)
end
section lists
variable {ρ : Nat → Value} {m : BMap}
theorem LR.length {l : List AV} {r : List Value} (h : LR ρ m l r) : l.length = r.length := by
  induction l generalizing r with
  | nil => cases h; rfl
  | cons a l ih => cases h with | cons _ v _ r _ hr => simp [ih hr]
theorem LR.get {l : List AV} {r : List Value} (h : LR ρ m l r) {i : Nat} {a : AV} (hi : l[i]? = some a) : ∃ v, r[i]? = some v ∧ VR ρ m a v := by
  induction l generalizing r i with
  | nil => cases hi
  | cons b l ih =>
    cases h with
    | cons _ v _ r hv hr =>
      cases i with
      | zero => cases hi; exact ⟨v, rfl, hv⟩
      | succ i => simpa using ih hr (by simpa using hi)
theorem LR.of_get {l : List AV} {r : List Value} (hl : l.length = r.length) (h : ∀ (i : Nat) (a : AV) (v : Value), l[i]? = some a → r[i]? = some v → VR ρ m a v) : LR ρ m l r := by
  induction l generalizing r with
  | nil => cases r with | nil => exact .nil | cons _ _ => cases hl
  | cons a l ih =>
    cases r with
    | nil => cases hl
    | cons v r => exact .cons _ _ _ _ (h 0 a v rfl rfl) (ih (by simpa using hl) fun i b u hb hu => h (i + 1) b u (by simpa using hb) (by simpa using hu))
theorem LR.append {l l' : List AV} {r r' : List Value} (h : LR ρ m l r) (h' : LR ρ m l' r') : LR ρ m (l ++ l') (r ++ r') := by
  induction l generalizing r with
  | nil => cases h; exact h'
  | cons a l ih => cases h with | cons _ v _ r hv hr => exact .cons _ _ _ _ hv (ih hr)
theorem LR.drop {l : List AV} {r : List Value} (h : LR ρ m l r) (n : Nat) : LR ρ m (l.drop n) (r.drop n) := by
  induction n generalizing l r with
  | zero => simpa using h
  | succ n ih =>
    cases h with
    | nil => simpa using LR.nil
    | cons a v l r hv hr => simpa using ih hr
theorem LR.take {l : List AV} {r : List Value} (h : LR ρ m l r) (n : Nat) : LR ρ m (l.take n) (r.take n) := by
  induction n generalizing l r with
  | zero => simpa using LR.nil
  | succ n ih =>
    cases h with
    | nil => simpa using LR.nil
    | cons a v l r hv hr => simpa using LR.cons _ _ _ _ hv (ih hr)
theorem VR.cells {a : AV} {v : Value} (hq : Opq ρ) (h : VR ρ m a v) : LR ρ m (cellsA a) v.cells.toList := by
  cases h <;> first
    | (unfold cellsA Value.cells; assumption)
    | (refine LR.cons _ _ _ _ ?_ .nil; constructor <;> assumption)
    | skip
  case opq k =>
    have h1 := (hq k).1
    have : (ρ k).cells = #[ρ k] := by
      cases e : ρ k <;> first | rfl | exact absurd e (h1 _)
    rw [this]
    exact .cons _ _ _ _ (.opq k) .nil
theorem VR.one {a : AV} {v : Value} (hq : Opq ρ) (h : VR ρ m a v) (h1 : oneA a = true) : (∀ cs, v ≠ .agg cs) ∧ ∀ cs, v ≠ .tuple cs := by
  cases h <;> first
    | (refine ⟨?_, ?_⟩ <;> intro cs hh <;> cases hh; done)
    | (cases h1; done)
    | exact hq _
end lists

/-- which map an iterator is over -/
def onMap (m : BMap) : Option Nat → Option Nat → Prop
  | none, r => r = none
  | some A, r => ∃ q, m A = some q ∧ r = some q.1
theorem onMap.ext {m m' : BMap} {a r : Option Nat} (h : onMap m a r) (he : Ext m m') : onMap m' a r := by
  cases a with
  | none => exact h
  | some A => obtain ⟨q, h1, h2⟩ := h; exact ⟨q, he _ _ h1, h2⟩
/-- how a block lies in a world -/
def BR (ρ : Nat → Value) (m : BMap) (w : World) : ABlk → Nat × Nat × Nat → Prop
  | .cells c n e frz odd, p => ∃ arr lo hi, w.heap[p.1]? = some (.cells arr e (lo, hi)) ∧ arr.size = p.2.2 ∧ p.2.1 + n ≤ p.2.2 ∧
      (∀ i a, c.get i = some a → i < n ∧ oneA a = true ∧ ∃ v, arr[p.2.1 + i]? = some v ∧ VR ρ m a v) ∧
      (∀ j, p.2.1 + frz ≤ j → j < p.2.2 → ¬ (lo ≤ j ∧ j < hi)) ∧ (odd = false → frz = 0 → (lo = 0 ∧ hi = 0) ∧ p.2.1 = 0 ∧ p.2.2 = n)
  | .map es clk, p => ∃ es' : Array MapEntry, w.heap[p.1]? = some (.map es' clk) ∧ es.length = es'.size ∧ ∀ (i : Nat) (k v : AV) (b : Nat), es[i]? = some (k, v, b) → ∃ en : MapEntry, es'[i]? = some en ∧ en.born = b ∧ VR ρ m k en.key ∧ VR ρ m v en.val
  | .siter s pos, p => p.2.1 = 0 ∧ w.heap[p.1]? = some (.stringIter ⟨s.toArray⟩ pos)
  | .miter a since seen last, p => p.2.1 = 0 ∧ ∃ r, onMap m a r ∧ w.heap[p.1]? = some (.mapIter r since seen.toArray last)
  | .mforce .., _ => False
  | .dead, _ => True
  | .abs k, p => p.2.1 = 0 ∧ ∃ o, w.heap[p.1]? = some o ∧ absR (ρ k) o
def isDead : ABlk → Bool
  | .dead => true
  | _ => false
theorem BR.ext {ρ : Nat → Value} {m m' : BMap} {w : World} {b : ABlk} {p : Nat × Nat × Nat} (h : BR ρ m w b p) (he : Ext m m') : BR ρ m' w b p := by
  cases b with
  | cells c n e frz odd =>
    obtain ⟨arr, lo, hi, h1, h2, h3, h4, h5⟩ := h
    exact ⟨arr, lo, hi, h1, h2, h3, fun i a hi => let ⟨q1, q2, v, q3, q4⟩ := h4 i a hi; ⟨q1, q2, v, q3, q4.ext he⟩, h5⟩
  | map es clk =>
    obtain ⟨es', h1, h2, h3⟩ := h
    exact ⟨es', h1, h2, fun i k v b hi => let ⟨en, q1, q2, q3, q4⟩ := h3 i k v b hi; ⟨en, q1, q2, q3.ext he, q4.ext he⟩⟩
  | siter s pos => exact h
  | miter a since seen last => obtain ⟨h1, r, h2, h3⟩ := h; exact ⟨h1, r, h2.ext he, h3⟩
  | mforce _ _ _ _ _ _ => cases h
  | dead => trivial
  | abs k => exact h
theorem BR.keep {ρ : Nat → Value} {m : BMap} {w w' : World} {b : ABlk} {p : Nat × Nat × Nat} (h : BR ρ m w b p) (he : isDead b = false → w'.heap[p.1]? = w.heap[p.1]?) : BR ρ m w' b p := by
  cases b with
  | cells c n e frz odd => have e1 := he rfl; simp only [BR] at h ⊢; rw [e1]; exact h
  | map es clk => have e1 := he rfl; simp only [BR] at h ⊢; rw [e1]; exact h
  | siter s pos => have e1 := he rfl; simp only [BR] at h ⊢; rw [e1]; exact h
  | miter a since seen last => have e1 := he rfl; simp only [BR] at h ⊢; rw [e1]; exact h
  | mforce _ _ _ _ _ _ => cases h
  | dead => trivial
  | abs k => have e1 := he rfl; simp only [BR] at h ⊢; rw [e1]; exact h
theorem BR.lt {ρ : Nat → Value} {m : BMap} {w : World} {b : ABlk} {p : Nat × Nat × Nat} (h : BR ρ m w b p) (hd : isDead b = false) : p.1 < w.heap.size := by
  have : w.heap[p.1]? ≠ none := by
    cases b with
    | cells c n e frz odd => obtain ⟨arr, lo, hi, h1, _⟩ := h; rw [h1]; simp
    | map es clk => obtain ⟨es', h1, _⟩ := h; rw [h1]; simp
    | siter s pos => rw [h.2]; simp
    | miter a since seen last => obtain ⟨h1, r, h2, h3⟩ := h; rw [h3]; simp
    | mforce _ _ _ _ _ _ => cases h
    | dead => cases hd
    | abs k => obtain ⟨_, o, h1, _⟩ := h; rw [h1]; simp
  rcases Nat.lt_or_ge p.1 w.heap.size with h' | h'
  · exact h'
  · exact absurd (Array.getElem?_eq_none h') this

def upd (g : Nat → Option ABlk) (A : Nat) (b : ABlk) : Nat → Option ABlk := fun B => if B = A then some b else g B
theorem upd_same (g : Nat → Option ABlk) (A : Nat) (b : ABlk) : upd g A b A = some b := if_pos rfl
theorem upd_other {g : Nat → Option ABlk} {A B : Nat} {b : ABlk} (h : B ≠ A) : upd g A b B = g B := if_neg h
theorem get_upd (h : Tr ABlk) (A : Nat) (b : ABlk) : (h.put A b).get = upd h.get A b := by
  funext B; rw [Tr.get_put]; rfl
/-- the executor's blocks g lie in the world w, above block base; below it w is as w0 was -/
structure Rel (ρ : Nat → Value) (w0 : World) (base : Nat) (m : BMap) (g : Nat → Option ABlk) (w : World) : Prop where
  blk : ∀ A b, g A = some b → ∃ p, m A = some p ∧ base ≤ p.1 ∧ BR ρ m w b p
  sep : ∀ A B a b p q, g A = some a → g B = some b → isDead a = false → isDead b = false → A ≠ B → m A = some p → m B = some q → p.1 ≠ q.1
  old : Below base w0 w
  le : base ≤ w.heap.size
section rel
variable {ρ : Nat → Value} {w0 : World} {base : Nat} {m : BMap} {g : Nat → Option ABlk} {w : World}
theorem Rel.same_heap {w' : World} (h : Rel ρ w0 base m g w) (hh : w'.heap = w.heap) (h1 : w'.os = w.os) (h2 : w'.tape = w.tape) (h3 : w'.output = w.output) : Rel ρ w0 base m g w' :=
  ⟨fun A b hb => let ⟨p, e1, e2, e3⟩ := h.blk A b hb; ⟨p, e1, e2, e3.keep (fun _ => by rw [hh])⟩, h.sep,
   ⟨h1.trans h.old.os, h2.trans h.old.tape, h3.trans h.old.output, by rw [hh]; exact h.old.size, fun k hk => by rw [hh]; exact h.old.block k hk⟩, by rw [hh]; exact h.le⟩
theorem Rel.drew (h : Rel ρ w0 base m g w) : Rel ρ w0 base m g w.drew := h.same_heap rfl rfl rfl rfl
/-- a block is written -/
theorem Rel.write {w' : World} {A : Nat} {old new : ABlk} {p : Nat × Nat × Nat} (h : Rel ρ w0 base m g w) (hA : g A = some old) (hp : m A = some p) (hd : isDead old = false)
    (hk : ∀ k, k ≠ p.1 → w'.heap[k]? = w.heap[k]?) (hs : w'.heap.size = w.heap.size) (h1 : w'.os = w.os) (h2 : w'.tape = w.tape) (h3 : w'.output = w.output) (hn : BR ρ m w' new p) : Rel ρ w0 base m (upd g A new) w' := by
  have hb : base ≤ p.1 := by
    obtain ⟨q, e1, e2, _⟩ := h.blk A old hA
    rw [hp] at e1; cases e1; exact e2
  refine ⟨fun B b hB => ?_, fun B C a b q r hB hC ha hb' hne hq hr => ?_, ⟨h1.trans h.old.os, h2.trans h.old.tape, h3.trans h.old.output, by rw [hs]; exact h.old.size, fun k hk' => by rw [hk k (by omega)]; exact h.old.block k hk'⟩, by rw [hs]; exact h.le⟩
  · by_cases e : B = A
    · subst e
      rw [upd_same] at hB; cases hB
      exact ⟨p, hp, hb, hn⟩
    · rw [upd_other e] at hB
      obtain ⟨q, e1, e2, e3⟩ := h.blk B b hB
      refine ⟨q, e1, e2, e3.keep (fun hd' => hk _ ?_)⟩
      exact h.sep B A b old q p hB hA hd' hd e e1 hp
  · have hal : ∀ X x, upd g A new X = some x → isDead x = false → ∃ y, g X = some y ∧ isDead y = false := fun X x hX hx => by
      by_cases e : X = A
      · subst e; exact ⟨old, hA, hd⟩
      · rw [upd_other e] at hX; exact ⟨x, hX, hx⟩
    obtain ⟨a', g1, g2⟩ := hal B a hB ha
    obtain ⟨b', g3, g4⟩ := hal C b hC hb'
    exact h.sep B C a' b' q r g1 g3 g2 g4 hne hq hr
/-- a block is forgotten -/
theorem Rel.kill {A : Nat} {old : ABlk} (h : Rel ρ w0 base m g w) (hA : g A = some old) : Rel ρ w0 base m (upd g A .dead) w := by
  refine ⟨fun B b hB => ?_, fun B C a b q r hB hC ha hb' hne hq hr => ?_, h.old, h.le⟩
  · by_cases e : B = A
    · subst e
      rw [upd_same] at hB; cases hB
      obtain ⟨p, e1, e2, _⟩ := h.blk B old hA
      exact ⟨p, e1, e2, trivial⟩
    · rw [upd_other e] at hB; exact h.blk B b hB
  · have hal : ∀ X x, upd g A .dead X = some x → isDead x = false → g X = some x := fun X x hX hx => by
      by_cases e : X = A
      · subst e; rw [upd_same] at hX; cases hX; cases hx
      · rwa [upd_other e] at hX
    exact h.sep B C a b q r (hal B a hB ha) (hal C b hC hb') ha hb' hne hq hr
def mset (m : BMap) (A : Nat) (p : Nat × Nat × Nat) : BMap := fun B => if B = A then some p else m B
theorem mset_ext {A : Nat} {p : Nat × Nat × Nat} (h : m A = none) : Ext m (mset m A p) := fun B q hB => by
  unfold mset; rw [if_neg (by rintro rfl; rw [h] at hB; cases hB)]; exact hB
theorem mset_same (m : BMap) (A : Nat) (p : Nat × Nat × Nat) : mset m A p A = some p := if_pos rfl
theorem mset_dom {A B : Nat} {p : Nat × Nat × Nat} (h : m B = none) (h' : mset m A p B ≠ none) : B = A := by
  unfold mset at h'
  by_cases e : B = A
  · exact e
  · rw [if_neg e] at h'; exact absurd h h'
theorem heap_alloc_old {o : Obj} {k : Nat} (h : k < w.heap.size) : (w.alloc o).heap[k]? = w.heap[k]? := Below.heap_alloc w o k h
/-- a block is new: it lies in a world's block that no other one lies in -/
theorem Rel.fresh {w' : World} {A : Nat} {new : ABlk} {p : Nat × Nat × Nat} (h : Rel ρ w0 base m g w') (hA : m A = none) (hb : base ≤ p.1) (hno : ∀ B b q, g B = some b → isDead b = false → m B = some q → q.1 ≠ p.1)
    (hn : BR ρ (mset m A p) w' new p) : Rel ρ w0 base (mset m A p) (upd g A new) w' := by
  have hgA : g A = none := by
    cases e : g A with
    | none => rfl
    | some b => obtain ⟨q, e1, _⟩ := h.blk A b e; rw [hA] at e1; cases e1
  have he := mset_ext (p := p) hA
  refine ⟨fun B b hB => ?_, fun B C a b q r hB hC ha hb' hne hq hr => ?_, h.old, h.le⟩
  · by_cases e : B = A
    · subst e
      rw [upd_same] at hB; cases hB
      exact ⟨p, mset_same _ _ _, hb, hn⟩
    · rw [upd_other e] at hB
      obtain ⟨q, e1, e2, e3⟩ := h.blk B b hB
      exact ⟨q, he _ _ e1, e2, e3.ext he⟩
  · have hm : ∀ X q, X ≠ A → mset m A p X = some q → m X = some q := fun X q hX h => by unfold mset at h; rwa [if_neg hX] at h
    by_cases e1 : B = A
    · have e2 : C ≠ A := fun e => hne (e1.trans e.symm)
      subst e1
      rw [mset_same] at hq; cases hq
      rw [upd_other e2] at hC
      exact (hno C b r hC hb' (hm C r e2 hr)).symm
    · rw [upd_other e1] at hB
      by_cases e2 : C = A
      · subst e2
        rw [mset_same] at hr; cases hr
        exact hno B a q hB ha (hm B q e1 hq)
      · rw [upd_other e2] at hC
        exact h.sep B C a b q r hB hC ha hb' hne (hm B q e1 hq) (hm C r e2 hr)
theorem Rel.alloc (h : Rel ρ w0 base m g w) (o : Obj) : Rel ρ w0 base m g (w.alloc o) :=
  ⟨fun A b hb => let ⟨p, e1, e2, e3⟩ := h.blk A b hb; ⟨p, e1, e2, e3.keep (fun hd => heap_alloc_old (e3.lt hd))⟩, h.sep, h.old.alloc h.le o, by simp; have := h.le; omega⟩
theorem Rel.new {A : Nat} {new : ABlk} {o : Obj} {d z : Nat} (h : Rel ρ w0 base m g w) (hA : m A = none) (hn : BR ρ (mset m A (w.heap.size, d, z)) (w.alloc o) new (w.heap.size, d, z)) :
    Rel ρ w0 base (mset m A (w.heap.size, d, z)) (upd g A new) (w.alloc o) := by
  refine (h.alloc o).fresh hA h.le (fun B b q hB hd hq => ?_) hn
  obtain ⟨p, e1, _, e3⟩ := h.blk B b hB
  rw [hq] at e1; cases e1
  exact Nat.ne_of_lt (e3.lt hd)
end rel
end Go.Proofs.YtelohloaoocoaaaGreatDoor.Zz
/- The executor: memory, step by step. -/
set_option linter.unusedVariables false
set_option linter.unusedSimpArgs false
set_option linter.deprecated false
namespace Go.Proofs.YtelohloaoocoaaaGreatDoor.Zz
open Go Go.RowKit

section
variable {P : Program} {ρ : Nat → Value} {w0 : World} {base : Nat}
/-- what x does, s does -/
def Ok (P : Program) (ρ : Nat → Value) (w0 : World) (base : Nat) {α β : Type} (R : BMap → α → β → Prop) (m : BMap) (x : M α) (s : Sem β) : Prop :=
  ∀ st w a st', x st = some (a, st') → Rel ρ w0 base m st.heap.get w → (∀ A, st.next ≤ A → A < st'.next → m A = none) →
    ∃ b w' m', s.run P w = .ok b w' ∧ Ext m m' ∧ (∀ A, m A = none → m' A ≠ none → st.next ≤ A ∧ A < st'.next) ∧ Rel ρ w0 base m' st'.heap.get w' ∧ R m' a b
theorem Ok.fail {α β : Type} {R : BMap → α → β → Prop} {m : BMap} {s : Sem β} : Ok P ρ w0 base R m fail s := fun st w a st' h => by cases h
theorem Ok.ret {α β : Type} {R : BMap → α → β → Prop} {m : BMap} {a : α} {b : β} {s : Sem β} (hs : ∀ w, s.run P w = .ok b w) (h : R m a b) : Ok P ρ w0 base R m (ret a) s := fun st w a' st' h' hr _ => by
  cases h'
  exact ⟨b, w, m, hs w, Ext.refl m, fun A h1 h2 => absurd h1 h2, hr, h⟩
theorem Ok.mono {α β : Type} {R R' : BMap → α → β → Prop} {m : BMap} {x : M α} {s : Sem β} (h : Ok P ρ w0 base R m x s) (hr : ∀ m' a b, Ext m m' → R m' a b → R' m' a b) : Ok P ρ w0 base R' m x s := fun st w a st' h' hr' hf => by
  obtain ⟨b, w', m', h1, h2, h3, h4, h5⟩ := h st w a st' h' hr' hf
  exact ⟨b, w', m', h1, h2, h3, h4, hr _ _ _ h2 h5⟩
theorem Ok.bnd {α β γ δ : Type} {R : BMap → α → β → Prop} {R' : BMap → γ → δ → Prop} {m : BMap} {x : M α} {f : α → M γ} {s : Sem β} {g : β → Sem δ} (hx : Fr x) (hf : ∀ a, Fr (f a))
    (h : Ok P ρ w0 base R m x s) (hk : ∀ a b m', Ext m m' → R m' a b → Ok P ρ w0 base R' m' (f a) (g b)) : Ok P ρ w0 base R' m (bnd x f) (s >>= g) := fun st w c st' h' hr hfr => by
  unfold Zz.bnd at h'
  cases h1 : x st with
  | none => rw [h1] at h'; cases h'
  | some p =>
    obtain ⟨a, st1⟩ := p
    rw [h1] at h'
    simp only at h'
    obtain ⟨L1, q1⟩ := hx st a st1 h1
    obtain ⟨L2, q2⟩ := hf a st1 c st' h'
    have n1 := q1.next
    have n2 := q2.next
    obtain ⟨b, w1, m1, e1, e2, e3, e4, e5⟩ := h st w a st1 h1 hr (fun A h1 h2 => hfr A h1 (by omega))
    obtain ⟨d, w2, m2, g1, g2, g3, g4, g5⟩ := hk a b m1 e2 e5 st1 w1 c st' h' e4 (fun A h1 h2 => by
      have := hfr A (by omega) h2
      cases hm : m1 A with
      | none => rfl
      | some p => have := e3 A this (by rw [hm]; simp); omega)
    refine ⟨d, w2, m2, ?_, e2.trans g2, fun A h1 h2 => ?_, g4, g5⟩
    · rw [Sem.run_bind, e1]; exact g1
    · cases hm : m1 A with
      | none => have := g3 A hm h2; omega
      | some p => have := e3 A h1 (by rw [hm]; simp); omega
theorem Ok.opt {α γ δ : Type} {R : BMap → γ → δ → Prop} {m : BMap} {o : Option α} {f : α → M γ} {s : Sem δ} (h : ∀ a, o = some a → Ok P ρ w0 base R m (f a) s) : Ok P ρ w0 base R m (Zz.bnd (Zz.opt o) f) s := by
  cases o with
  | none => exact fun st w a st' h => by cases h
  | some a => exact h a rfl
theorem Ok.optr {α β : Type} {R : BMap → α → β → Prop} {m : BMap} {o : Option α} {s : Sem β} (h : ∀ a, o = some a → Ok P ρ w0 base R m (Zz.ret a) s) : Ok P ρ w0 base R m (Zz.opt o) s := by
  cases o with
  | none => exact Ok.fail
  | some a => exact h a rfl
theorem Ok.cond {α β : Type} {R : BMap → α → β → Prop} {m : BMap} {c : Bool} {x y : M α} {s : Sem β} (h1 : c = true → Ok P ρ w0 base R m x s) (h2 : c = false → Ok P ρ w0 base R m y s) : Ok P ρ w0 base R m (bif c then x else y) s := by
  cases c
  · exact h2 rfl
  · exact h1 rfl
theorem Ok.sem {α β δ : Type} {R : BMap → α → δ → Prop} {m : BMap} {x : M α} {s : Sem β} {g : β → Sem δ} {b : β} (hs : ∀ w, s.run P w = .ok b w) (h : Ok P ρ w0 base R m x (g b)) : Ok P ρ w0 base R m x (s >>= g) := fun st w a st' h' hr hf => by
  obtain ⟨d, w', m', e1, e⟩ := h st w a st' h' hr hf
  exact ⟨d, w', m', by rw [Sem.run_bind, hs]; exact e1, e⟩
/-- the Sem's side, as another one that runs alike -/
theorem Ok.congr {α β : Type} {R : BMap → α → β → Prop} {m : BMap} {x : M α} {s s' : Sem β} (hs : ∀ w, s.run P w = s'.run P w) (h : Ok P ρ w0 base R m x s') : Ok P ρ w0 base R m x s := fun st w a st' h' hr hf => by
  obtain ⟨d, w', m', e1, e⟩ := h st w a st' h' hr hf
  exact ⟨d, w', m', by rw [hs]; exact e1, e⟩
theorem Ok.ext {α β : Type} {R : BMap → α → β → Prop} {m : BMap} {x y : M α} {s : Sem β} (hs : x = y) (h : Ok P ρ w0 base R m x s) : Ok P ρ w0 base R m y s := hs ▸ h
abbrev VRr (ρ : Nat → Value) (m : BMap) (a : AV) (v : Value) : Prop := VR ρ m a v
abbrev LRr (ρ : Nat → Value) (m : BMap) (a : List AV) (v : Array Value) : Prop := LR ρ m a v.toList

/-! ### facts about worlds -/
theorem heap_new (w : World) (o : Obj) : (w.alloc o).heap[w.heap.size]? = some o := by
  show (w.heap.push o)[w.heap.size]? = _
  simp
theorem add_mk' (b o k : Nat) : (⟨b, o, none⟩ : Addr).add k = ⟨b, o + k, none⟩ := by unfold Addr.add; split <;> simp_all
theorem set_same {w : World} {b o : Nat} {arr : Array Value} {e : TypeId} {fr : Nat × Nat} {v : Value} (h : w.heap[b]? = some (.cells arr e fr)) : (w.setCell ⟨b, o, none⟩ v).heap[b]? = some (.cells (arr.setIfInBounds o v) e fr) := by
  simp [World.setCell, Array.getElem?_modify, h]
theorem set_other {w : World} {b o k : Nat} {v : Value} (h : k ≠ b) : (w.setCell ⟨b, o, none⟩ v).heap[k]? = w.heap[k]? := by
  simp only [World.setCell, Array.getElem?_modify]
  rw [if_neg (by exact fun e => h e.symm)]
theorem cell_of {w : World} {b o : Nat} {arr : Array Value} {e : TypeId} {fr : Nat × Nat} (h : w.heap[b]? = some (.cells arr e fr)) : w.cell? ⟨b, o, none⟩ = arr[o]? := by
  simp [World.cell?, h]
theorem frozen_of {w : World} {b o : Nat} {arr : Array Value} {e : TypeId} {lo hi : Nat} (h : w.heap[b]? = some (.cells arr e (lo, hi))) : w.frozen? ⟨b, o, none⟩ = (decide (lo ≤ o) && decide (o < hi)) := by
  simp [World.frozen?, h]
theorem run_load {w : World} {a : Addr} {v : Value} (h : w.cell? a = some v) : (Go.load a).run P w = .ok v w := by
  simp [Go.load, Sem.run, h]
theorem run_loadFrom {w : World} {a : Addr} : ∀ (vs : List Value) (i : Nat) (acc : Array Value), (∀ (j : Nat) (v : Value), vs[j]? = some v → w.cell? (a.add (i + j)) = some v) →
    (loadCellsFrom a i vs.length acc).run P w = .ok (acc ++ vs.toArray) w
  | [], i, acc, _ => by simp [loadCellsFrom, Sem.run, pure]
  | v :: vs, i, acc, h => by
    have h0 := h 0 v rfl
    have ih := run_loadFrom vs (i + 1) (acc.push v) (fun j u hj => by have := h (j + 1) u (by simpa using hj); rwa [show i + (j + 1) = i + 1 + j by omega] at this)
    simp only [List.length_cons, loadCellsFrom, Sem.run_bind]
    rw [show i + 0 = i by omega] at h0
    rw [run_load h0, Result.andThen_ok, ih]
    simp
theorem run_loadCells {w : World} {a : Addr} {vs : List Value} {n : Nat} (hn : n = vs.length) (h : ∀ (j : Nat) (v : Value), vs[j]? = some v → w.cell? (a.add j) = some v) : (loadCells a n).run P w = .ok vs.toArray w := by
  subst hn
  unfold loadCells
  rw [run_loadFrom vs 0 #[] (fun j v hj => by rw [show 0 + j = j by omega]; exact h j v hj)]
  simp
theorem run_store {w : World} {b o : Nat} {v u : Value} (h1 : (∀ cs, v ≠ .agg cs) ∧ ∀ cs, v ≠ .tuple cs) (h2 : w.cell? ⟨b, o, none⟩ = some u) (h3 : w.frozen? ⟨b, o, none⟩ = false) : (Go.store ⟨b, o, none⟩ v).run P w = .ok () (w.setCell ⟨b, o, none⟩ v) := by
  unfold Go.store
  cases v <;> first | exact absurd rfl (h1.1 _) | exact absurd rfl (h1.2 _) | simp [Sem.run, h2, h3]
/-- cells are stored, one behind the other -/
theorem run_storeCells (b d : Nat) (e : TypeId) (lo hi : Nat) : ∀ (vs : List Value) (i : Nat) (w : World) (arr : Array Value), w.heap[b]? = some (.cells arr e (lo, hi)) → d + i + vs.length ≤ arr.size →
    (∀ v ∈ vs, (∀ cs, v ≠ .agg cs) ∧ ∀ cs, v ≠ .tuple cs) → (∀ j, d + i ≤ j → j < d + i + vs.length → ¬ (lo ≤ j ∧ j < hi)) →
    ∃ w' arr', (storeCells ⟨b, d, none⟩ vs i).run P w = .ok () w' ∧ w'.heap[b]? = some (.cells arr' e (lo, hi)) ∧ arr'.size = arr.size ∧ (∀ j, arr'[j]? = if d + i ≤ j ∧ j < d + i + vs.length then vs[j - (d + i)]? else arr[j]?) ∧
      (∀ k, k ≠ b → w'.heap[k]? = w.heap[k]?) ∧ w'.heap.size = w.heap.size ∧ w'.os = w.os ∧ w'.tape = w.tape ∧ w'.output = w.output
  | [], i, w, arr, hw, _, _, _ => ⟨w, arr, by simp [storeCells, Sem.run, pure], hw, rfl, fun j => by simp; intro h1 h2; omega, fun _ _ => rfl, rfl, rfl, rfl, rfl⟩
  | v :: vs, i, w, arr, hw, hn, ho, hz => by
    simp only [List.length_cons] at hn hz
    have hd : d + i < arr.size := by omega
    have h2 : w.cell? ⟨b, d + i, none⟩ = some arr[d + i] := by rw [cell_of hw, Array.getElem?_eq_getElem hd]
    have h3 : w.frozen? ⟨b, d + i, none⟩ = false := by
      rw [frozen_of hw]
      have := hz (d + i) (by omega) (by omega)
      simp; omega
    have hr := run_store (P := P) (ho v (by simp)) h2 h3
    have hw1 := set_same (o := d + i) (v := v) hw
    obtain ⟨w', arr', e1, e2, e3, e4, e5, e6, e7, e8, e9⟩ := run_storeCells b d e lo hi vs (i + 1) _ _ hw1 (by simp; omega) (fun u hu => ho u (by simp [hu])) (fun j h1 h2 => hz j (by omega) (by omega))
    refine ⟨w', arr', ?_, e2, by rw [e3]; simp, fun j => ?_, fun k hk => by rw [e5 k hk]; exact set_other hk, by rw [e6]; simp, by rw [e7]; rfl, by rw [e8]; rfl, by rw [e9]; rfl⟩
    · simp only [storeCells, Sem.run_bind]
      rw [add_mk', hr, Result.andThen_ok, e1]
    · rw [e4 j]
      simp only [List.length_cons]
      by_cases h1 : j = d + i
      · subst h1
        rw [if_neg (by omega), if_pos (by omega)]
        simp [hd]
      · by_cases h2 : d + (i + 1) ≤ j ∧ j < d + (i + 1) + vs.length
        · rw [if_pos h2, if_pos (by omega)]
          rw [show j - (d + i) = (j - (d + (i + 1))) + 1 by omega]; simp
        · rw [if_neg h2, if_neg (by omega), Array.getElem?_setIfInBounds, if_neg (by omega)]

/-! ### tables -/
theorem getN_get {c : CT} : ∀ {k i : Nat} {l : List AV}, getN c i k = some l → l.length = k ∧ ∀ (j : Nat) (a : AV), l[j]? = some a → c.get (i + j) = some a
  | 0, i, l, h => by cases h; exact ⟨rfl, fun j a h => by simp at h⟩
  | k + 1, i, l, h => by
    unfold getN at h
    cases h1 : c.get i with
    | none => rw [h1] at h; cases h
    | some v =>
      rw [h1] at h
      simp only at h
      cases h2 : getN c (i + 1) k with
      | none => rw [h2] at h; cases h
      | some r =>
        rw [h2] at h; cases h
        obtain ⟨e1, e2⟩ := getN_get h2
        refine ⟨by simp [e1], fun j a hj => ?_⟩
        cases j with
        | zero => cases hj; exact h1
        | succ j => rw [show i + (j + 1) = i + 1 + j by omega]; exact e2 j a (by simpa using hj)
theorem putL_get : ∀ (l : List AV) (c : CT) (i k : Nat), (putL c i l).get k = if i ≤ k ∧ k < i + l.length then l[k - i]? else c.get k
  | [], c, i, k => by simp [putL]; intro h1 h2; omega
  | v :: l, c, i, k => by
    rw [putL, putL_get l, CT.get_put]
    simp only [List.length_cons]
    by_cases h1 : k = i
    · subst h1
      rw [if_neg (by omega), if_pos rfl, if_pos (by omega)]; simp
    · by_cases h2 : i + 1 ≤ k ∧ k < i + 1 + l.length
      · rw [if_pos h2, if_pos (by omega), show k - i = (k - (i + 1)) + 1 by omega]; simp
      · rw [if_neg h2, if_neg h1, if_neg (by omega)]
theorem allOne_mem : ∀ {l : List AV}, allOne l = true → ∀ a ∈ l, oneA a = true
  | [], _, a, h => by cases h
  | v :: l, h, a, ha => by
    simp only [allOne, Bool.and_eq_true] at h
    rcases List.mem_cons.1 ha with rfl | ha
    · exact h.1
    · exact allOne_mem h.2 a ha
theorem LR.mem {m : BMap} {l : List AV} {r : List Value} (h : LR ρ m l r) {v : Value} (hv : v ∈ r) : ∃ a ∈ l, VR ρ m a v := by
  obtain ⟨i, hi⟩ := List.getElem?_of_mem hv
  have hl := h.length
  have : i < l.length := by rw [hl]; exact (List.getElem?_eq_some_iff.1 hi).1
  obtain ⟨v', h1, h2⟩ := h.get (List.getElem?_eq_getElem this)
  rw [hi] at h1; cases h1
  exact ⟨_, List.getElem_mem _, h2⟩
theorem LR.one {m : BMap} {l : List AV} {r : List Value} (hq : Opq ρ) (h : LR ρ m l r) (h1 : allOne l = true) : ∀ v ∈ r, (∀ cs, v ≠ .agg cs) ∧ ∀ cs, v ≠ .tuple cs := fun v hv => by
  obtain ⟨a, ha, hr⟩ := h.mem hv
  exact hr.one hq (allOne_mem h1 a ha)

/-! ### loads, stores, new blocks -/
theorem rel_cells {m : BMap} {g : Nat → Option ABlk} {w : World} {A b d z : Nat} {c : CT} {n : Nat} {e : TypeId} {frz : Nat} {odd : Bool} (h : Rel ρ w0 base m g w) (hA : g A = some (.cells c n e frz odd)) (hp : m A = some (b, d, z)) :
    BR ρ m w (.cells c n e frz odd) (b, d, z) := by
  obtain ⟨p, e1, e2, e3⟩ := h.blk A _ hA
  rw [hp] at e1; cases e1; exact e3
theorem rd_eq {A : Nat} {st st' : ASt} {b : ABlk} (h : rd A st = some (b, st')) : st.heap.get A = some b ∧ st'.heap = st.heap ∧ st'.next = st.next := by
  unfold rd at h
  cases hb : st.heap.get A with
  | none => rw [hb] at h; cases h
  | some c => rw [hb] at h; cases h; exact ⟨rfl, rfl, rfl⟩
/-- a read: what is behind it, with the block known -/
theorem Ok.rd {α β : Type} {R : BMap → α → β → Prop} {m : BMap} {A : Nat} {f : ABlk → M α} {s : Sem β}
    (h : ∀ b st w a st', f b st = some (a, st') → st.heap.get A = some b → Rel ρ w0 base m st.heap.get w → (∀ A, st.next ≤ A → A < st'.next → m A = none) →
      ∃ b' w' m', s.run P w = .ok b' w' ∧ Ext m m' ∧ (∀ A, m A = none → m' A ≠ none → st.next ≤ A ∧ A < st'.next) ∧ Rel ρ w0 base m' st'.heap.get w' ∧ R m' a b') :
    Ok P ρ w0 base R m (Zz.bnd (Zz.rd A) f) s := fun st w a st' h' hr hf => by
  unfold Zz.bnd at h'
  cases h1 : Zz.rd A st with
  | none => rw [h1] at h'; cases h'
  | some p =>
    obtain ⟨b, st1⟩ := p
    rw [h1] at h'
    obtain ⟨e1, e2, e3⟩ := rd_eq h1
    have := h b st1 w a st' h' (by rw [e2]; exact e1) (by rw [e2]; exact hr) (by rw [e3]; exact hf)
    rwa [e3] at this
theorem load1_ok {m : BMap} {A i b d z : Nat} (hp : m A = some (b, d, z)) : Ok P ρ w0 base (VRr ρ) m (load1 A i) (Go.load ⟨b, d + i, none⟩) := by
  unfold load1
  refine Ok.rd (fun blk st w a st' h hA hr hf => ?_)
  cases blk with
  | cells c n e frz odd =>
    simp only at h
    cases hc : c.get i with
    | none => rw [hc] at h; cases h
    | some x =>
      rw [hc] at h; cases h
      obtain ⟨arr, lo, hi, h1, h2, h3, h4, h5⟩ := rel_cells hr hA hp
      obtain ⟨q1, q2, v, q3, q4⟩ := h4 i a hc
      exact ⟨v, w, m, run_load (by rw [cell_of h1]; exact q3), Ext.refl m, fun A h1 h2 => absurd h1 h2, hr, q4⟩
  | _ => cases h
theorem loadC_eq {A i k : Nat} {st st' : ASt} {l : List AV} (h : loadC A i k st = some (l, st')) : ∃ c n e frz odd, st.heap.get A = some (.cells c n e frz odd) ∧ getN c i k = some l ∧ st'.heap = st.heap ∧ st'.next = st.next := by
  unfold loadC Zz.bnd at h
  cases h2 : Zz.rd A st with
  | none => rw [h2] at h; cases h
  | some q =>
    obtain ⟨bb, s2⟩ := q
    rw [h2] at h
    obtain ⟨e1, e2, e3⟩ := rd_eq h2
    cases bb with
    | cells c n e frz odd =>
      simp only at h
      cases hc : getN c i k with
      | none => rw [hc] at h; cases h
      | some l' => rw [hc] at h; cases h; exact ⟨c, n, e, frz, odd, e1, hc, e2, e3⟩
    | _ => cases h
/-- the values behind cells that are read -/
theorem getN_vals {m : BMap} {c : CT} {arr : Array Value} {d n i k : Nat} {l : List AV} (h4 : ∀ i a, c.get i = some a → i < n ∧ oneA a = true ∧ ∃ v, arr[d + i]? = some v ∧ VR ρ m a v) (hc : getN c i k = some l) :
    ∃ vs : List Value, LR ρ m l vs ∧ l.length = k ∧ ∀ (j : Nat) (v : Value), vs[j]? = some v → arr[d + i + j]? = some v := by
  obtain ⟨g1, g2⟩ := getN_get hc
  have hv : ∀ j, ∃ v, j < l.length → arr[d + i + j]? = some v ∧ ∀ x, l[j]? = some x → VR ρ m x v := fun j => by
    by_cases hj : j < l.length
    · obtain ⟨q1, q2, v, q3, q4⟩ := h4 (i + j) l[j] (g2 j _ (List.getElem?_eq_getElem hj))
      exact ⟨v, fun _ => ⟨by rw [← q3, Nat.add_assoc], fun x hx => by rw [List.getElem?_eq_getElem hj] at hx; cases hx; exact q4⟩⟩
    · exact ⟨undef, fun h => absurd h hj⟩
  obtain ⟨f, hf2⟩ := Classical.axiomOfChoice hv
  have hget : ∀ (j : Nat) (v : Value), ((List.range l.length).map f)[j]? = some v → j < l.length ∧ f j = v := fun j v hj => by
    rw [List.getElem?_map] at hj
    rcases Nat.lt_or_ge j l.length with h' | h'
    · simp [h'] at hj; exact ⟨h', hj⟩
    · rw [List.getElem?_eq_none (by simpa using h')] at hj; simp at hj
  refine ⟨(List.range l.length).map f, LR.of_get (by simp) (fun j x v hj hv => ?_), g1, fun j v hj => ?_⟩
  · obtain ⟨hj', rfl⟩ := hget j v hv
    exact (hf2 j hj').2 x hj
  · obtain ⟨hj', rfl⟩ := hget j v hj
    exact (hf2 j hj').1
theorem loadC_ok {m : BMap} {A i k b d z : Nat} (hp : m A = some (b, d, z)) : Ok P ρ w0 base (LRr ρ) m (loadC A i k) (loadCells ⟨b, d + i, none⟩ k) := fun st w l st' h hr hf => by
  obtain ⟨c, n, e, frz, odd, hA, hc, e2, e3⟩ := loadC_eq h
  obtain ⟨arr, lo, hi, h1, h2, h3, h4, h5⟩ := rel_cells hr hA hp
  obtain ⟨vs, g1, g2, g3⟩ := getN_vals h4 hc
  refine ⟨vs.toArray, w, m, run_loadCells (by rw [← g1.length, g2]) (fun j v hj => ?_), Ext.refl m, fun A h1 h2 => absurd h1 h2, by rw [e2]; exact hr, g1⟩
  rw [add_mk', cell_of h1]; exact g3 j v hj
theorem wr_eq {A : Nat} {st st' : ASt} {b : ABlk} {u : Unit} (h : wr A b st = some (u, st')) : st'.heap = st.heap.put A b ∧ st'.next = st.next := by
  unfold wr at h
  cases hb : st.heap.get A with
  | none => rw [hb] at h; cases h
  | some c => rw [hb] at h; cases h; exact ⟨rfl, rfl⟩
theorem storeC_ok {m : BMap} {A i b d z : Nat} {l : List AV} {vs : List Value} (hq : Opq ρ) (hp : m A = some (b, d, z)) (hl : LR ρ m l vs) : Ok P ρ w0 base (fun _ _ (_ : Unit) => True) m (storeC A i l) (storeCells ⟨b, d + i, none⟩ vs) := by
  unfold storeC
  refine Ok.rd (fun blk st w a st' h hA hr hf => ?_)
  cases blk with
  | cells c n e frz odd =>
    simp only at h
    cases hc : (Nat.ble frz i && Nat.ble (i + l.length) n && allOne l) with
    | false => rw [hc] at h; cases h
    | true =>
      rw [hc, cond_true] at h
      simp only [Bool.and_eq_true, Nat.ble_eq] at hc
      obtain ⟨w1, w2⟩ := wr_eq h
      obtain ⟨arr, lo, hi, h1, h2, h3, h4, h5, h6⟩ := rel_cells hr hA hp
      simp only at h1 h2 h3 h4 h5
      have hlen := hl.length
      obtain ⟨w', arr', e1, e2, e3, e4, e5, e6, e7, e8, e9⟩ := run_storeCells (P := P) b (d + i) e lo hi vs 0 w arr h1 (by omega) (hl.one hq hc.2) (fun j g1 g2 => h5 j (by omega) (by omega))
      refine ⟨(), w', m, e1, Ext.refl m, fun A h1 h2 => absurd h1 h2, ?_, trivial⟩
      rw [w1, get_upd]
      refine hr.write hA hp rfl e5 e6 e7 e8 e9 ⟨arr', lo, hi, e2, by rw [e3, h2], h3, fun j x hj => ?_, h5, h6⟩
      rw [putL_get] at hj
      show j < n ∧ oneA x = true ∧ ∃ v, arr'[d + j]? = some v ∧ VR ρ m x v
      by_cases hin : i ≤ j ∧ j < i + l.length
      · rw [if_pos hin] at hj
        obtain ⟨v, g1, g2⟩ := hl.get hj
        refine ⟨by omega, allOne_mem hc.2 x (List.mem_of_getElem? hj), v, ?_, g2⟩
        rw [e4, if_pos (by omega), show d + j - (d + i + 0) = j - i by omega]; exact g1
      · rw [if_neg hin] at hj
        obtain ⟨q1, q2, v, q3, q4⟩ := h4 j x hj
        refine ⟨q1, q2, v, ?_, q4⟩
        rw [e4, if_neg (by omega)]; exact q3
  | _ => cases h
theorem nw_eq {st st' : ASt} {b : ABlk} {A : Nat} (h : nw b st = some (A, st')) : A = st.next ∧ st'.heap = st.heap.put st.next b ∧ st'.next = st.next + 1 := by
  unfold nw at h; cases h; exact ⟨rfl, rfl, rfl⟩
theorem rel_row {m : BMap} {g : Nat → Option ABlk} {w : World} {A : Nat} {e : TypeId} {l : List AV} {arr : Array Value} {frz : Nat} (hr : Rel ρ w0 base m g w) (hm : m A = none) (hl : LR ρ m l (arr.toList.take l.length)) (h1 : allOne l = true) (hle : l.length ≤ arr.size) :
    Rel ρ w0 base (mset m A (w.heap.size, 0, arr.size)) (upd g A (.cells (putL .lf 0 l) l.length e frz true)) (w.alloc (.cells arr e)) := by
  refine hr.new hm ⟨arr, 0, 0, ?_, rfl, by simpa using hle, fun j x hj => ?_, fun j _ _ => by omega, fun q _ => by cases q⟩
  · exact heap_new w _
  · rw [putL_get] at hj
    by_cases hin : 0 ≤ j ∧ j < 0 + l.length
    · rw [if_pos hin] at hj
      obtain ⟨v, g1, g2⟩ := hl.get (i := j - 0) hj
      refine ⟨by omega, allOne_mem h1 x (List.mem_of_getElem? hj), v, ?_, g2.ext (mset_ext hm)⟩
      simp only [Nat.zero_add]
      rw [List.getElem?_take_of_lt (by omega), Array.getElem?_toList] at g1
      exact g1
    · rw [if_neg hin] at hj; cases hj
/-- a new row of cells; its place in the world -/
theorem newRow_ok {m : BMap} {e : TypeId} {l : List AV} {odd : Bool} {arr : Array Value} {frz : Nat} (hl : LR ρ m l (arr.toList.take l.length)) (h1 : allOne l = true) (hle : l.length = arr.size) :
    Ok P ρ w0 base (fun m' A (ad : Addr) => ∃ b, ad = ⟨b, 0, none⟩ ∧ m' A = some (b, 0, arr.size)) m (nw (.cells (putL .lf 0 l) l.length e frz odd)) (newRow e arr) := fun st w A st' h hr hf => by
  obtain ⟨rfl, e2, e3⟩ := nw_eq h
  have hm : m st.next = none := hf _ (Nat.le_refl _) (by omega)
  refine ⟨⟨w.heap.size, 0, none⟩, w.alloc (.cells arr e), mset m st.next (w.heap.size, 0, arr.size), ?_, mset_ext hm, fun A h1 h2 => ?_, ?_, ⟨_, rfl, mset_same _ _ _⟩⟩
  · simp [newRow, newObj, Sem.run, pure]
  · have := mset_dom h1 h2; omega
  · rw [e2, get_upd]
    refine hr.new hm ⟨arr, 0, 0, ?_, rfl, by simp; omega, fun j x hj => ?_, fun j _ _ => by omega, fun _ _ => ⟨⟨rfl, rfl⟩, rfl, hle.symm⟩⟩
    · exact heap_new w _
    · rw [putL_get] at hj
      by_cases hin : 0 ≤ j ∧ j < 0 + l.length
      · rw [if_pos hin] at hj
        obtain ⟨v, g1, g2⟩ := hl.get (i := j - 0) hj
        refine ⟨by omega, allOne_mem h1 x (List.mem_of_getElem? hj), v, ?_, g2.ext (mset_ext hm)⟩
        simp only [Nat.zero_add]
        rw [List.getElem?_take_of_lt (by omega), Array.getElem?_toList] at g1
        exact g1
      · rw [if_neg hin] at hj; cases hj
theorem newRow_get {m : BMap} {e : TypeId} {c : CT} {n : Nat} {l : List AV} {arr : Array Value} (hc : ∀ i a, c.get i = some a → i < n ∧ l[i]? = some a) (hn : n = arr.size) (hl : LR ρ m l arr.toList) (h1 : ∀ a ∈ l, oneA a = true) :
    Ok P ρ w0 base (fun m' A (ad : Addr) => ∃ b, ad = ⟨b, 0, none⟩ ∧ m' A = some (b, 0, arr.size)) m (nw (.cells c n e 0 false)) (newRow e arr) := fun st w A st' h hr hf => by
  obtain ⟨rfl, e2, e3⟩ := nw_eq h
  have hm : m st.next = none := hf _ (Nat.le_refl _) (by omega)
  refine ⟨⟨w.heap.size, 0, none⟩, w.alloc (.cells arr e), mset m st.next (w.heap.size, 0, arr.size), ?_, mset_ext hm, fun A h1 h2 => ?_, ?_, ⟨_, rfl, mset_same _ _ _⟩⟩
  · simp [newRow, newObj, Sem.run, pure]
  · have := mset_dom h1 h2; omega
  · rw [e2, get_upd]
    refine hr.new hm ⟨arr, 0, 0, ?_, rfl, by simp; omega, fun j x hj => ?_, fun j _ _ => by omega, fun _ _ => ⟨⟨rfl, rfl⟩, rfl, hn.symm⟩⟩
    · exact heap_new w _
    · obtain ⟨q1, q2⟩ := hc j x hj
      obtain ⟨v, g1, g2⟩ := hl.get q2
      refine ⟨q1, h1 x (List.mem_of_getElem? q2), v, ?_, g2.ext (mset_ext hm)⟩
      simp only [Nat.zero_add]
      rw [Array.getElem?_toList] at g1
      exact g1
theorem newC_ok {m : BMap} {e : TypeId} {l : List AV} {arr : Array Value} (hl : LR ρ m l arr.toList) :
    Ok P ρ w0 base (fun m' A (ad : Addr) => ∃ b, ad = ⟨b, 0, none⟩ ∧ m' A = some (b, 0, arr.size)) m (newC e l) (newRow e arr) := by
  have hn : l.length = arr.size := by have := hl.length; simpa using this
  unfold newC
  refine Ok.cond (fun h1 => ?_) (fun _ => Ok.fail)
  refine newRow_ok ?_ h1 (by omega)
  rw [List.take_of_length_le (by simp; omega)]; exact hl
end
end Go.Proofs.YtelohloaoocoaaaGreatDoor.Zz
/- The executor: values and types. -/
set_option linter.unusedVariables false
set_option linter.unusedSimpArgs false
set_option linter.deprecated false
namespace Go.Proofs.YtelohloaoocoaaaGreatDoor.Zz
open Go Go.RowKit

section
variable {P : Program} {ρ : Nat → Value} {w0 : World} {base : Nat} {m : BMap}
theorem run_und {t : TypeId} {d : TypeDesc} (h : P.underlying t = some d) (w : World) : (underlying t).run P w = .ok d w := by
  simp [underlying, program, Sem.run, h]
theorem run_info {t : TypeId} {i : TypeInfo} (h : P.info? t = some i) (w : World) : (typeInfo t).run P w = .ok i w := by
  simp [typeInfo, program, Sem.run, h]
theorem run_size {t : TypeId} {n : Nat} (h : sizeT P t = some n) (w : World) : (Go.sizeOf t).run P w = .ok n w := by
  unfold sizeT at h
  cases hi : P.info? t with
  | none => rw [hi] at h; cases h
  | some i =>
    rw [hi] at h; cases h
    simp [Go.sizeOf, run_info hi]
theorem ofCell_ok {v : Value} {a : AV} (h : ofCell v = some a) : VR ρ m a v := by
  unfold ofCell at h
  split at h <;> cases h
  · exact .int _ _
  · exact .bool _
  · rename_i s
    have := VR.str (ρ := ρ) (m := m) s.data.toList
    simpa using this
  · exact .ptr0
  · exact .sl0
  · exact .map0
  · exact .fn0
  · exact .ifc0
theorem ofCells_ok : ∀ {r : List Value} {l : List AV}, ofCells r = some l → LR ρ m l r
  | [], l, h => by cases h; exact .nil
  | v :: r, l, h => by
    unfold ofCells at h
    cases h1 : ofCell v with
    | none => rw [h1] at h; cases h
    | some a =>
      rw [h1] at h
      simp only at h
      cases h2 : ofCells r with
      | none => rw [h2] at h; cases h
      | some l' => rw [h2] at h; cases h; exact .cons _ _ _ _ (ofCell_ok h1) (ofCells_ok h2)
theorem ofV_ok {v : Value} {a : AV} (h : ofV v = some a) : VR ρ m a v := by
  unfold ofV at h
  split at h
  · rename_i u
    cases h2 : ofCells u.toList with
    | none => rw [h2] at h; cases h
    | some l => rw [h2] at h; cases h; exact .agg _ _ (ofCells_ok h2)
  · rename_i u
    cases h2 : ofCells u.toList with
    | none => rw [h2] at h; cases h
    | some l => rw [h2] at h; cases h; exact .tup _ _ (ofCells_ok h2)
  · exact ofCell_ok h
theorem run_zero {t : TypeId} {a : AV} (h : zeroT P t = some a) : ∃ v, (∀ w, (zeroValue t).run P w = .ok v w) ∧ ∀ (ρ : Nat → Value) (m : BMap), VR ρ m a v := by
  unfold zeroT at h
  cases hi : P.info? t with
  | none => rw [hi] at h; cases h
  | some i =>
    rw [hi] at h
    simp only at h
    cases hz : i.zero with
    | none => rw [hz] at h; cases h
    | some v =>
      rw [hz] at h
      exact ⟨v, fun w => by simp [zeroValue, run_info hi, hz], fun ρ m => ofV_ok h⟩
theorem run_isAgg {t : TypeId} {b : Bool} (h : isAggT P t = some b) (w : World) : (isAgg t).run P w = .ok b w := by
  unfold isAggT at h
  cases hd : P.underlying t with
  | none => rw [hd] at h; cases h
  | some d =>
    rw [hd] at h
    cases d <;> (simp at h; subst h; simp [isAgg, run_und hd])
theorem loadT_ok {t : TypeId} {A i b d z : Nat} (hp : m A = some (b, d, z)) : Ok P ρ w0 base (VRr ρ) m (loadT P t A i) (loadVar t ⟨b, d + i, none⟩) := by
  unfold loadT
  cases hb : isAggT P t with
  | none => exact Ok.fail
  | some r =>
    cases r with
    | false => exact Ok.congr (fun w => by simp [loadVar, run_isAgg hb]) (load1_ok hp)
    | true =>
      refine Ok.opt (fun n hn => ?_)
      refine Ok.congr (s' := loadCells ⟨b, d + i, none⟩ n >>= fun x => pure (.agg x)) (fun w => by simp [loadVar, run_isAgg hb, run_size hn]) ?_
      exact Ok.bnd (Fr.loadC _ _ _) (fun _ => Fr.ret _) (loadC_ok hp) (fun l x m' _ hl => Ok.ret (fun w => rfl) (.agg _ _ hl))
theorem storeT_ok {t : TypeId} {A i b d z : Nat} {x : AV} {v : Value} (hq : Opq ρ) (hp : m A = some (b, d, z)) (hv : VR ρ m x v) : Ok P ρ w0 base (fun _ _ (_ : Unit) => True) m (storeT P t A i x) (storeVar t ⟨b, d + i, none⟩ v) := by
  unfold storeT
  refine Ok.opt (fun n hn => ?_)
  refine Ok.cond (fun hc => ?_) (fun _ => Ok.fail)
  have hl := hv.cells hq
  have hs : v.cells.size = n := by
    have := hl.length
    simp only [Nat.beq_eq] at hc
    rw [← hc, this]; simp
  refine Ok.congr (fun w => ?_) (storeC_ok hq hp hl)
  simp [storeVar, run_size hn, hs]
theorem partT_ok {t : TypeId} {l : List AV} {off : Nat} {cs : Array Value} (hl : LR ρ m l cs.toList) : Ok P ρ w0 base (VRr ρ) m (partT P t l off) (part t cs off) := by
  unfold partT
  cases hb : isAggT P t with
  | none => exact Ok.fail
  | some r =>
    cases r with
    | false =>
      refine Ok.optr (fun a ha => ?_)
      obtain ⟨v, h1, h2⟩ := hl.get ha
      rw [Array.getElem?_toList] at h1
      exact Ok.ret (fun w => by simp [part, run_isAgg hb, h1]) h2
    | true =>
      refine Ok.opt (fun n hn => ?_)
      refine Ok.ret (b := .agg (cs.extract off (off + n))) (fun w => by simp [part, run_isAgg hb, run_size hn]) (.agg _ _ ?_)
      have := (hl.drop off).take n
      rw [Array.toList_extract, List.extract_eq_drop_take]
      simpa using this
/-! ### arithmetic -/
theorem wrapA_eq (k : IntKind) (n : Int) : wrapA k n = k.wrap n := by
  unfold wrapA
  cases h : inK k n with
  | false => rfl
  | true =>
    rw [cond_true]
    have e1 : (2 : Int) ^ 64 = 18446744073709551616 := by decide
    have e2 : (2 : Int) ^ 63 = 9223372036854775808 := by decide
    have e3 : (2 : Int) ^ 32 = 4294967296 := by decide
    have e4 : (2 : Int) ^ 31 = 2147483648 := by decide
    have e5 : (2 : Int) ^ 8 = 256 := by decide
    unfold inK at h
    split at h
    all_goals first | (cases h; done) | skip
    all_goals
      rw [Nat.blt_eq] at h
      simp only [IntKind.wrap, IntKind.bits, IntKind.signed, e1, e2, e3, e4, e5, Int.ofNat_eq_natCast, Nat.reduceSub, Bool.true_and, Bool.false_and, Bool.false_eq_true, if_false, decide_eq_true_eq]
      first
        | (split <;> omega)
        | omega
end
end Go.Proofs.YtelohloaoocoaaaGreatDoor.Zz
/- The executor: comparing, arithmetic. -/
set_option linter.unusedVariables false
set_option linter.unusedSimpArgs false
set_option linter.deprecated false
namespace Go.Proofs.YtelohloaoocoaaaGreatDoor.Zz
open Go Go.RowKit

section
variable {P : Program} {ρ : Nat → Value} {w0 : World} {base : Nat}
theorem eqB_iff : ∀ (a b : List UInt8), eqB a b = (a == b)
  | [], [] => rfl
  | [], _ :: _ => rfl
  | _ :: _, [] => rfl
  | x :: a, y :: b => by
    rw [eqB, eqB_iff a b, List.cons_beq_cons]
    congr 1
    rw [Bool.eq_iff_iff]
    simp only [Nat.beq_eq, beq_iff_eq]
    exact ⟨fun h => UInt8.toNat_inj.1 h, fun h => by rw [h]⟩
theorem eqInt_iff (a b : Int) : eqInt a b = (a == b) := by
  rw [Bool.eq_iff_iff]
  cases a <;> cases b <;> simp [eqInt] <;> omega
theorem str_beq (a b : List UInt8) : ((⟨a.toArray⟩ : ByteArray).toList == (⟨b.toArray⟩ : ByteArray).toList) = (a == b) := by
  rw [ByteArray.toList_eq, ByteArray.toList_eq]
theorem str_beq' (a b : List UInt8) : ((⟨a.toArray⟩ : ByteArray) == ⟨b.toArray⟩) = (a == b) := by
  rw [beq_toListBytes, str_beq]
theorem aliveC_eq {A : Nat} {st st' : ASt} {u : Unit} (h : aliveC A st = some (u, st')) : ∃ c n e, st.heap.get A = some (.cells c n e 0 false) ∧ st'.heap = st.heap ∧ st'.next = st.next := by
  unfold aliveC bnd at h
  cases h1 : rd A st with
  | none => rw [h1] at h; cases h
  | some p =>
    obtain ⟨b, st1⟩ := p
    obtain ⟨e1, e2, e3⟩ := rd_eq h1
    rw [h1] at h
    simp only at h
    split at h
    · cases h; exact ⟨_, _, _, e1, e2, e3⟩
    · cases h
theorem ptr_ne {m : BMap} {A i B j b d z b' d' z' : Nat} (hA : m A = some (b, d, z)) (hB : m B = some (b', d', z')) (hne : A ≠ B) :
    Ok P ρ w0 base (fun _ r (r' : Bool) => r = r') m (Zz.bnd (aliveC A) fun _ => Zz.bnd (aliveC B) fun _ => Zz.ret false) (sameAddr ⟨b, d + i, none⟩ ⟨b', d' + j, none⟩) := fun st w a st' h hr hf => by
  unfold Zz.bnd at h
  cases h1 : aliveC A st with
  | none => rw [h1] at h; cases h
  | some p =>
    obtain ⟨u, st1⟩ := p
    rw [h1] at h
    simp only at h
    cases h2 : aliveC B st1 with
    | none => rw [h2] at h; cases h
    | some q =>
      obtain ⟨u2, st2⟩ := q
      rw [h2] at h
      cases h
      obtain ⟨c, n, e, g1, g2, g3⟩ := aliveC_eq h1
      obtain ⟨c', n', e', k1, k2, k3⟩ := aliveC_eq h2
      rw [g2] at k1
      obtain ⟨arr, lo, hi, p1, p2, p3, p4, p5, p6⟩ := rel_cells hr g1 hA
      obtain ⟨arr', lo', hi', q1, q2, q3, q4, q5, q6⟩ := rel_cells hr k1 hB
      obtain ⟨⟨rfl, rfl⟩, _⟩ := p6 rfl rfl
      obtain ⟨⟨rfl, rfl⟩, _⟩ := q6 rfl rfl
      have hs := hr.sep A B _ _ _ _ g1 k1 rfl rfl hne hA hB
      exact ⟨false, w, m, run_sameAddr_other w (by intro e; exact hs (congrArg Addr.block e)) p1 q1, Ext.refl m, fun A h1 h2 => absurd h1 h2, by rw [k2, g2]; exact hr, rfl⟩
theorem Ok.rets {m : BMap} {a : Bool} {b : Bool} {s : Sem Bool} (hs : ∀ w, s.run P w = .ok b w) (h : a = b) : Ok P ρ w0 base (fun _ r (r' : Bool) => r = r') m (Zz.ret a) s := Ok.ret hs h
set_option maxHeartbeats 3200000 in
theorem eqA_ok : ∀ (n : Nat) (m : BMap) (t : TypeId) (x y : AV) (u v : Value), VR ρ m x u → VR ρ m y v → Ok P ρ w0 base (fun _ r (r' : Bool) => r = r') m (eqA P n t x y) (Op.equalIn n t u v) := by
  intro n
  induction n with
  | zero => intro m t x y u v _ _; exact Ok.fail
  | succ n ih =>
    intro m t x y u v hx hy
    unfold eqA
    split
    · rename_i hu; cases hx; cases hy; exact Ok.rets (fun w => by simp [Op.equalIn, run_und hu] <;> rfl) rfl
    · rename_i hu; cases hx; cases hy
      refine Ok.cond (fun h => ?_) (fun _ => Ok.fail)
      rename_i k a k' b
      have hk : k = k' := by revert h; cases k <;> cases k' <;> decide
      subst hk
      exact Ok.rets (fun w => by simp [Op.equalIn, run_und hu] <;> rfl) (eqInt_iff _ _)
    · rename_i hu; cases hx; cases hy; exact Ok.rets (fun w => by simp [Op.equalIn, run_und hu, str_beq'] <;> rfl) (eqB_iff _ _)
    · rename_i hu; cases hx; cases hy; exact Ok.rets (fun w => by simp [Op.equalIn, run_und hu] <;> rfl) rfl
    · rename_i hu; cases hx; cases hy; exact Ok.rets (fun w => by simp [Op.equalIn, run_und hu] <;> rfl) rfl
    · rename_i hu; cases hx; cases hy; exact Ok.rets (fun w => by simp [Op.equalIn, run_und hu] <;> rfl) rfl
    · rename_i e A i B j hu
      cases hx with | ptr _ _ b d z hA => _
      cases hy with | ptr _ _ b' d' z' hB => _
      split
      · rename_i q hq
        refine Ok.congr (s' := sameAddr ⟨b, d + i, none⟩ ⟨b', d' + j, none⟩) (fun w => by simp [Op.equalIn, run_und hu, run_size hq]) ?_
        refine Ok.cond (fun h => ?_) (fun h => ?_)
        · have h' : A = B := by simpa using h
          subst h'
          rw [hA] at hB; cases hB
          by_cases hij : i = j
          · subst hij; exact Ok.rets (fun w => run_sameAddr_same w _) (by simp)
          · exact Ok.rets (b := false) (fun w => by
              simp [sameAddr, hij]) (by rw [Bool.eq_false_iff]; intro h; exact hij (by simpa using h))
        · exact ptr_ne hA hB (by intro e; subst e; simp at h)
      · exact Ok.fail
    · rename_i hu; cases hx; cases hy; exact Ok.rets (fun w => by simp [Op.equalIn, run_und hu] <;> rfl) rfl
    · rename_i hu; cases hx; cases hy; exact Ok.rets (fun w => by simp [Op.equalIn, run_und hu] <;> rfl) rfl
    · rename_i hu; cases hx; cases hy; exact Ok.rets (fun w => by simp [Op.equalIn, run_und hu] <;> rfl) rfl
    · rename_i tx vx ty vy hu
      cases hx with | ifc _ _ u1 h1 => _
      cases hy with | ifc _ _ u2 h2 => _
      refine Ok.cond (fun h => ?_) (fun h => ?_)
      · have h' : tx = ty := by simpa using h
        subst h'
        split
        · rename_i info hi
          refine Ok.cond (fun hc => ?_) (fun _ => Ok.fail)
          exact Ok.congr (fun w => by simp [Op.equalIn, run_und hu, run_info hi, hc]) (ih m tx vx vy u1 u2 h1 h2)
        · exact Ok.fail
      · have h' : tx ≠ ty := by intro e; subst e; simp at h
        exact Ok.rets (b := false) (fun w => by simp [Op.equalIn, run_und hu, h']) rfl
    · rename_i fs xs ys hu
      cases hx with | agg _ us hxs => _
      cases hy with | agg _ vs hys => _
      refine Ok.cond (fun _ => Ok.fail) (fun hp => ?_)
      have hf : P.fieldsOf t = fs := by simp [Program.fieldsOf, hu]
      refine Ok.congr (s' := Op.eqFields n us vs fs.toList) (fun w => by rw [run_equalIn_struct w n t us vs (by rw [hf]; exact hu) hp, hf]) ?_
      generalize fs.toList = l
      clear hf hu
      induction l generalizing m with
      | nil => exact Ok.rets (fun w => rfl) rfl
      | cons f l ihl =>
        simp only [List.foldr_cons, Op.eqFields]
        refine Ok.cond (fun _ => Ok.fail) (fun hn => ?_)
        have hn' : f.name ≠ "_" := by simpa using hn
        have frf : ∀ (l : List Field), Fr (l.foldr (fun f k => bif f.name == "_" then Zz.fail else Zz.bnd (partT P f.type xs f.offset) fun a => Zz.bnd (partT P f.type ys f.offset) fun b => Zz.bnd (eqA P n f.type a b) fun r => bif r then k else Zz.ret false) (Zz.ret true)) := fun l =>
          Fr.foldr _ _ (Fr.ret _) (fun c k hk => Fr.cond Fr.fail (Fr.bnd (Fr.partT _ _ _ _) fun _ => Fr.bnd (Fr.partT _ _ _ _) fun _ => Fr.bnd (Fr.eqA _ _ _ _ _) fun _ => Fr.cond hk (Fr.ret _))) l
        rw [if_pos hn']
        refine Ok.bnd (Fr.partT _ _ _ _) (fun _ => Fr.bnd (Fr.partT _ _ _ _) fun _ => Fr.bnd (Fr.eqA _ _ _ _ _) fun _ => Fr.cond (frf l) (Fr.ret _)) (partT_ok hxs) (fun a u m1 he1 ha => ?_)
        refine Ok.bnd (Fr.partT _ _ _ _) (fun _ => Fr.bnd (Fr.eqA _ _ _ _ _) fun _ => Fr.cond (frf l) (Fr.ret _)) (partT_ok (hys.ext he1)) (fun b v m2 he2 hb => ?_)
        refine Ok.bnd (Fr.eqA _ _ _ _ _) (fun _ => Fr.cond (frf l) (Fr.ret _)) (ih m2 f.type a b u v (ha.ext he2) hb) (fun r r' m3 he3 hr => ?_)
        subst hr
        cases r with
        | false => exact Ok.rets (b := false) (fun w => by simp) rfl
        | true => exact Ok.congr (fun w => by simp) (ihl m3 (hxs.ext (he1.trans (he2.trans he3))) (hys.ext (he1.trans (he2.trans he3))))
    · rename_i hu; cases hx; cases hy; exact Ok.rets (fun w => by simp [Op.equalIn, run_und hu] <;> rfl) rfl
    · rename_i hu; cases hx; cases hy; exact Ok.rets (fun w => by simp [Op.equalIn, run_und hu] <;> rfl) rfl
    · rename_i hu; cases hx; cases hy; exact Ok.rets (fun w => by simp [Op.equalIn, run_und hu] <;> rfl) rfl
    · rename_i hu; cases hx; cases hy; exact Ok.rets (fun w => by simp [Op.equalIn, run_und hu] <;> rfl) rfl
    · rename_i hu; cases hx; cases hy; exact Ok.rets (fun w => by simp [Op.equalIn, run_und hu] <;> rfl) rfl
    · rename_i hu; cases hx; cases hy; exact Ok.rets (fun w => by simp [Op.equalIn, run_und hu] <;> rfl) rfl
    · rename_i hu; cases hx; cases hy; exact Ok.rets (fun w => by simp [Op.equalIn, run_und hu] <;> rfl) rfl
    · rename_i hu; cases hx; cases hy; exact Ok.rets (fun w => by simp [Op.equalIn, run_und hu] <;> rfl) rfl
    · rename_i hu; cases hx; cases hy; exact Ok.rets (fun w => by simp [Op.equalIn, run_und hu] <;> rfl) rfl
    · exact Ok.fail
end
end Go.Proofs.YtelohloaoocoaaaGreatDoor.Zz
/- The executor: operators, conversions. -/
set_option linter.unusedVariables false
set_option linter.unusedSimpArgs false
set_option linter.deprecated false
namespace Go.Proofs.YtelohloaoocoaaaGreatDoor.Zz
open Go Go.RowKit

section
variable {P : Program} {ρ : Nat → Value} {w0 : World} {base : Nat}
theorem guard_run {op : BinOp} {t : TypeId} {x y : Operand} {a b : AV} {u v : Value} {m : BMap} (hg : guardA P op t x y a b = true) (hx : VR ρ m a u) (hy : VR ρ m b v) (w : World) : (eqGuard op t x y u v).run P w = .ok () w := by
  have key : (op = .eql ∨ op = .neq) → (eqGuard op t x y u v).run P w = .ok () w := by
    intro hop
    have hg' : guardB P t x y a b = true := by rcases hop with rfl | rfl <;> exact hg
    clear hg
    have hm : (!(op matches .eql | .neq)) = false := by rcases hop with rfl | rfl <;> rfl
    cases hx <;> cases hy <;> first
      | (simp only [guardB] at hg'; cases hg'; done)
      | (rcases hop with rfl | rfl <;> simp [eqGuard] <;> done)
      | skip
    · simp only [guardB, Bool.or_eq_true] at hg'
      rcases hop with rfl | rfl <;> (rcases hg' with h | h <;> (unfold isConstO at h; split at h <;> first | (cases h; done) | simp [eqGuard]))
    · have h' : P.eqGuardType P.depth t = false := by simpa [guardB] using hg'
      rcases hop with rfl | rfl <;> simp [eqGuard, program, Sem.run, h']
  by_cases hop : op = .eql ∨ op = .neq
  · exact key hop
  · cases op <;> first | exact absurd (.inl rfl) hop | exact absurd (.inr rfl) hop | simp [eqGuard]
theorem int_ok {m : BMap} {op : BinOp} {k : IntKind} {x y : Int} {a : AV} (h : intA op k x y = some a) {t : TypeId} (hs : op ≠ .shl) (hr : op ≠ .shr) : ∃ v, (∀ w, (binOp op t (.int k x) (.int k y)).run P w = .ok v w) ∧ VR ρ m a v := by
  cases op <;> simp only [intA] at h
  case quo =>
    cases hy : eqInt y 0 with
    | true => rw [hy] at h; cases h
    | false =>
      rw [hy] at h; cases h
      have : y ≠ 0 := by rw [eqInt_iff] at hy; simpa using hy
      exact ⟨_, fun w => by first | (simp [binOp, Op.intDiv, this]; done) | (simp [binOp, Op.intDiv, this]; rfl), by rw [wrapA_eq]; exact .int _ _⟩
  case rem =>
    cases hy : eqInt y 0 with
    | true => rw [hy] at h; cases h
    | false =>
      rw [hy] at h; cases h
      have : y ≠ 0 := by rw [eqInt_iff] at hy; simpa using hy
      exact ⟨_, fun w => by first | (simp [binOp, Op.intDiv, this]; done) | (simp [binOp, Op.intDiv, this]; rfl), .int _ _⟩
  case shl => exact absurd rfl hs
  case shr => exact absurd rfl hr
  all_goals
    cases h
    first
      | exact ⟨_, fun w => by first | (simp [binOp, Op.intArith]; done) | (simp [binOp, Op.intArith]; rfl), by rw [wrapA_eq]; exact .int _ _⟩
      | exact ⟨_, fun w => by first | (simp [binOp, Op.intBits]; done) | (simp [binOp, Op.intBits]; rfl), .int _ _⟩
      | exact ⟨_, fun w => by first | (simp [binOp, Op.intCmp]; done) | (simp [binOp, Op.intCmp]; rfl), .bool _⟩
theorem shift_ok {m : BMap} {op : BinOp} {k k' : IntKind} {x y : Int} {a : AV} (h : shiftA op k x y = some a) {t : TypeId} (ho : op = .shl ∨ op = .shr) : ∃ v, (∀ w, (binOp op t (.int k x) (.int k' y)).run P w = .ok v w) ∧ VR ρ m a v := by
  unfold shiftA at h
  cases hd : decide (y < 0) with
  | true => rw [hd] at h; cases h
  | false =>
    rw [hd, cond_false] at h
    have hy : ¬ y < 0 := by simpa using hd
    rcases ho with rfl | rfl <;> cases h
    · exact ⟨_, fun w => by first | (simp [binOp, Op.shift, hy]; done) | (simp [binOp, Op.shift, hy]; rfl), .int _ _⟩
    · exact ⟨_, fun w => by first | (simp [binOp, Op.shift, hy]; done) | (simp [binOp, Op.shift, hy]; rfl), .int _ _⟩
theorem str_ok {m : BMap} {op : BinOp} {x y : List UInt8} {a : AV} (h : strA op x y = some a) {t : TypeId} : ∃ v, (∀ w, (binOp op t (.string ⟨x.toArray⟩) (.string ⟨y.toArray⟩)).run P w = .ok v w) ∧ VR ρ m a v := by
  have hl : (⟨x.toArray⟩ : ByteArray).toList = x := by rw [ByteArray.toList_eq]
  have hr : (⟨y.toArray⟩ : ByteArray).toList = y := by rw [ByteArray.toList_eq]
  cases op <;> simp only [strA] at h
  case add =>
    cases hc : Nat.ble (x.length + y.length) 1000000000 with
    | false => rw [hc] at h; cases h
    | true =>
      rw [hc] at h; cases h
      have hc' : x.length + y.length ≤ 1000000000 := by simpa using hc
      have hsx : (⟨x.toArray⟩ : ByteArray).size = x.length := by simp [ByteArray.size]
      have hsy : (⟨y.toArray⟩ : ByteArray).size = y.length := by simp [ByteArray.size]
      have hcat : (⟨x.toArray⟩ : ByteArray) ++ ⟨y.toArray⟩ = ⟨(x ++ y).toArray⟩ := by apply ByteArray.ext; simp
      have hi : ¬ ((x.length : Int) + (y.length : Int) > IntKind.i64.max) := by
        have : IntKind.i64.max = 9223372036854775807 := by decide
        omega
      refine ⟨.string ⟨(x ++ y).toArray⟩, fun w => ?_, .str _⟩
      simp only [binOp, Op.stringOp, hsx, hsy]
      rw [if_neg (by push_cast; exact hi), hcat]; rfl
  all_goals
    first
      | (cases h; done)
      | (cases h; exact ⟨_, fun w => by simp only [binOp, Op.stringOp, hl, hr]; rfl, by first | exact .bool _ | (rw [eqB_iff]; exact .bool _)⟩)
theorem beq_kind {k k' : IntKind} (h : (k == k') = true) : k = k' := by revert h; cases k <;> cases k' <;> decide
theorem bin_ok {m : BMap} {op : BinOp} {t : TypeId} {x y : Operand} {a b : AV} {u v : Value} (hg : guardA P op t x y a b = true) (hx : VR ρ m a u) (hy : VR ρ m b v) :
    Ok P ρ w0 base (VRr ρ) m (binA P op t a b) (do eqGuard op t x y u v; binOp op t u v) := by
  refine Ok.sem (guard_run hg hx hy) ?_
  unfold binA
  split
  · cases hx; cases hy
    refine Ok.optr (fun r hr => ?_)
    obtain ⟨v, h1, h2⟩ := shift_ok (P := P) (ρ := ρ) (m := m) (t := t) hr (.inl rfl)
    exact Ok.ret h1 h2
  · cases hx; cases hy
    refine Ok.optr (fun r hr => ?_)
    obtain ⟨v, h1, h2⟩ := shift_ok (P := P) (ρ := ρ) (m := m) (t := t) hr (.inr rfl)
    exact Ok.ret h1 h2
  · rename_i op k x k' y h1 h2
    cases hx; cases hy
    refine Ok.cond (fun h => ?_) (fun _ => Ok.fail)
    obtain rfl := beq_kind h
    refine Ok.optr (fun r hr => ?_)
    obtain ⟨v, h3, h4⟩ := int_ok (P := P) (ρ := ρ) (m := m) (t := t) hr (by rintro rfl; exact h1 rfl) (by rintro rfl; exact h2 rfl)
    exact Ok.ret h3 h4
  · cases hx; cases hy
    refine Ok.optr (fun r hr => ?_)
    obtain ⟨v, h1, h2⟩ := str_ok (P := P) (ρ := ρ) (m := m) (t := t) hr
    exact Ok.ret h1 h2
  · rename_i h1 h2
    refine Ok.congr (s' := Op.equal t u v >>= fun r => pure (.bool r)) (fun w => ?_) (Ok.bnd (Fr.eqA _ _ _ _ _) (fun _ => Fr.ret _) (eqA_ok 10000 m t a b u v hx hy) (fun r r' m' _ hr => by subst hr; exact Ok.ret (fun w => rfl) (.bool _)))
    cases hx <;> cases hy <;> first
      | rfl
      | (exact (h1 _ _ _ _ rfl rfl).elim)
      | (exact (h2 _ _ rfl rfl).elim)
      | (cases hg; done)
      | (simp [binOp]; done)
  · rename_i h1 h2
    refine Ok.congr (s' := Op.equal t u v >>= fun r => pure (.bool (!r))) (fun w => ?_) (Ok.bnd (Fr.eqA _ _ _ _ _) (fun _ => Fr.ret _) (eqA_ok 10000 m t a b u v hx hy) (fun r r' m' _ hr => by subst hr; exact Ok.ret (fun w => rfl) (.bool _)))
    cases hx <;> cases hy <;> first
      | rfl
      | (exact (h1 _ _ _ _ rfl rfl).elim)
      | (exact (h2 _ _ rfl rfl).elim)
      | (cases hg; done)
      | (simp [binOp]; done)
  · exact Ok.fail
theorem un_ok {m : BMap} {op : UnOp} {a : AV} {u : Value} (hx : VR ρ m a u) : Ok P ρ w0 base (VRr ρ) m (unA op a) (Op.unary op u) := by
  unfold unA
  split
  · cases hx
    rw [wrapA_eq]
    exact Ok.ret (fun w => by first | (simp [Op.unary, Op.intArith]; done) | (simp [Op.unary, Op.intArith]; rfl)) (.int _ _)
  · cases hx
    exact Ok.ret (fun w => by first | (simp [Op.unary]; done) | (simp [Op.unary]; rfl)) (.bool _)
  · cases hx
    refine Ok.optr (fun r hr => ?_)
    simp only [intA] at hr
    cases hr
    exact Ok.ret (fun w => by first | (simp [Op.unary, Op.intBits]; done) | (simp [Op.unary, Op.intBits]; rfl)) (.int _ _)
  · exact Ok.fail
end
end Go.Proofs.YtelohloaoocoaaaGreatDoor.Zz
