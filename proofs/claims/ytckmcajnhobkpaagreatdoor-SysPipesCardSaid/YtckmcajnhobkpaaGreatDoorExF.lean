/- The executor: what a run hangs on is what it touches. -/
import Derived.Test.YtckmcajnhobkpaaGreatDoorExB
set_option linter.unusedVariables false
set_option linter.unusedSimpArgs false
set_option linter.deprecated false
namespace Go.Proofs.YtckmcajnhobkpaaGreatDoor.Zz
open Go

theorem Tr.get_lf {α : Type} (n : Nat) : (Tr.lf : Tr α).get n = none := rfl
theorem Tr.get_ins {α : Type} (x : α) : ∀ (f : Nat) (t : Tr α) (n k : Nat), n < f → (Tr.ins x f t n).get k = if k = n then some x else t.get k := by
  intro f
  induction f with
  | zero => intro t n k h; omega
  | succ f ih =>
    intro t n k h
    have hb : ∀ a b : Nat, Nat.beq a b = decide (a = b) := fun a b => by
      rw [Bool.eq_iff_iff]; simp
    cases t with
    | lf =>
      simp only [Tr.ins, hb]
      by_cases h0 : n = 0
      · subst h0
        simp only [decide_true, cond_true, Tr.get, hb]
        by_cases hk : k = 0
        · simp [hk]
        · simp [hk, Tr.get]
      · simp only [h0, decide_false, cond_false]
        by_cases h1 : n % 2 = 1
        · simp only [h1, decide_true, cond_true, Tr.get, hb]
          by_cases hk : k = 0
          · simp [hk, Tr.get]; omega
          · simp only [hk, decide_false, cond_false]
            by_cases hk1 : k % 2 = 1
            · simp only [hk1, decide_true, cond_true]
              rw [ih _ _ _ (by omega)]
              by_cases e : k = n
              · simp [e]
              · rw [if_neg (by omega), if_neg e]; rfl
            · simp only [hk1, decide_false, cond_false]
              rw [if_neg (by omega)]
        · simp only [h1, decide_false, cond_false, Tr.get, hb]
          by_cases hk : k = 0
          · simp [hk, Tr.get]; omega
          · simp only [hk, decide_false, cond_false]
            by_cases hk1 : k % 2 = 1
            · simp only [hk1, decide_true, cond_true]
              rw [if_neg (by omega)]
            · simp only [hk1, decide_false, cond_false]
              rw [ih _ _ _ (by omega)]
              by_cases e : k = n
              · simp [e]
              · rw [if_neg (by omega), if_neg e]; rfl
    | nd v l r =>
      simp only [Tr.ins, hb]
      by_cases h0 : n = 0
      · subst h0
        simp only [decide_true, cond_true, Tr.get, hb]
        by_cases hk : k = 0
        · simp [hk]
        · simp [hk]
      · simp only [h0, decide_false, cond_false]
        by_cases h1 : n % 2 = 1
        · simp only [h1, decide_true, cond_true, Tr.get, hb]
          by_cases hk : k = 0
          · simp [hk]; omega
          · simp only [hk, decide_false, cond_false]
            by_cases hk1 : k % 2 = 1
            · simp only [hk1, decide_true, cond_true]
              rw [ih _ _ _ (by omega)]
              by_cases e : k = n
              · simp [e]
              · rw [if_neg (by omega), if_neg e]
            · simp only [hk1, decide_false, cond_false]
              rw [if_neg (by omega)]
        · simp only [h1, decide_false, cond_false, Tr.get, hb]
          by_cases hk : k = 0
          · simp [hk]; omega
          · simp only [hk, decide_false, cond_false]
            by_cases hk1 : k % 2 = 1
            · simp only [hk1, decide_true, cond_true]
              rw [if_neg (by omega)]
            · simp only [hk1, decide_false, cond_false]
              rw [ih _ _ _ (by omega)]
              by_cases e : k = n
              · simp [e]
              · rw [if_neg (by omega), if_neg e]
theorem Tr.get_put {α : Type} (t : Tr α) (n : Nat) (x : α) (k : Nat) : (t.put n x).get k = if k = n then some x else t.get k := Tr.get_ins x (n + 1) t n k (by omega)
theorem CT.get_put (c : CT) (n : Nat) (x : AV) (k : Nat) : (c.put n x).get k = if k = n then some x else c.get k := by
  unfold CT.get CT.put
  simp only [Tr.get_put]
  by_cases h : k = n
  · simp [h]
  · simp [h]
theorem nthL_eq : ∀ (l : List AV) (i : Nat), nthL l i = l[i]?
  | [], i => rfl
  | a :: l, i => by
    cases i with
    | zero => rfl
    | succ i =>
      show (bif Nat.beq (i + 1) 0 then some a else nthL l (i + 1 - 1)) = _
      rw [show Nat.beq (i + 1) 0 = false from rfl, cond_false, Nat.add_sub_cancel, nthL_eq l i]; rfl
theorem Tm.get_put (tm : Tm) (n : Nat) (x : Option AV) (k : Nat) : (tm.put n x).get k = if k = n then some x else tm.get k := Tr.get_put tm.t n x k

def Tch (L : List Nat) (A : Nat) : Prop := 2 * A ∈ L ∨ 2 * A + 1 ∈ L
structure Fro {α : Type} (x : M α) (st : ASt) (a : α) (st' : ASt) (L : List Nat) : Prop where
  log : st'.log = L ++ st.log
  next : st.next ≤ st'.next
  alloc : ∀ A, st.next ≤ A → A < st'.next → 2 * A + 1 ∈ L
  same : ∀ A, 2 * A + 1 ∉ L → ¬ (st.next ≤ A ∧ A < st'.next) → st'.heap.get A = st.heap.get A
  other : ∀ s2 : ASt, s2.next = st.next → (∀ A, Tch L A ∨ (st.next ≤ A ∧ A < st'.next) → s2.heap.get A = st.heap.get A) →
    ∃ s2', x s2 = some (a, s2') ∧ s2'.log = L ++ s2.log ∧ s2'.next = st'.next ∧ (∀ A, (2 * A + 1 ∈ L ∨ (st.next ≤ A ∧ A < st'.next)) → s2'.heap.get A = st'.heap.get A) ∧
      (∀ A, 2 * A + 1 ∉ L → ¬ (st.next ≤ A ∧ A < st'.next) → s2'.heap.get A = s2.heap.get A)
/-- what a step does hangs on nothing but what it touches -/
def Fr {α : Type} (x : M α) : Prop := ∀ st a st', x st = some (a, st') → ∃ L, Fro x st a st' L
theorem Fr.fail {α : Type} : Fr (fail : M α) := fun st a st' h => by cases h
theorem Fr.ret {α : Type} (a : α) : Fr (ret a) := fun st b st' h => by
  cases h
  exact ⟨[], rfl, Nat.le_refl _, fun A h1 h2 => absurd h1 (Nat.not_le.2 h2), fun A _ _ => rfl, fun s2 hn _ => ⟨s2, rfl, rfl, hn, fun A h => by simp at h; omega, fun A _ _ => rfl⟩⟩
theorem Fr.opt {α : Type} (o : Option α) : Fr (opt o) := by
  cases o with
  | none => exact Fr.fail
  | some a => exact Fr.ret a
theorem Fr.rd (A : Nat) : Fr (rd A) := fun st b st' h => by
  unfold Zz.rd at h
  cases hb : st.heap.get A with
  | none => rw [hb] at h; cases h
  | some c =>
    rw [hb] at h
    cases h
    refine ⟨[2 * A], rfl, Nat.le_refl _, fun B h1 h2 => absurd h1 (Nat.not_le.2 h2), fun B _ _ => rfl, fun s2 hn hs => ⟨⟨s2.heap, s2.next, 2 * A :: s2.log⟩, ?_, rfl, hn, fun B h => ?_, fun B _ _ => rfl⟩⟩
    · unfold Zz.rd; rw [hs A (.inl (.inl (by simp))), hb]
    · rcases h with h | h
      · simp at h; omega
      · simp at h; omega
theorem Fr.wr (A : Nat) (b : ABlk) : Fr (wr A b) := fun st u st' h => by
  unfold Zz.wr at h
  cases hb : st.heap.get A with
  | none => rw [hb] at h; cases h
  | some c =>
    rw [hb] at h
    cases h
    refine ⟨[2 * A + 1], rfl, Nat.le_refl _, fun B h1 h2 => absurd h1 (Nat.not_le.2 h2), fun B hB _ => ?_, fun s2 hn hs => ⟨⟨s2.heap.put A b, s2.next, (2 * A + 1) :: s2.log⟩, ?_, rfl, hn, fun B h => ?_, fun B hB _ => ?_⟩⟩
    · show (st.heap.put A b).get B = _
      rw [Tr.get_put, if_neg (by intro e; subst e; simp at hB)]
    · unfold Zz.wr; rw [hs A (.inl (.inr (by simp))), hb]
    · rcases h with h | h
      · have : B = A := by simp at h; omega
        subst this
        show (s2.heap.put B b).get B = (st.heap.put B b).get B
        rw [Tr.get_put, Tr.get_put, if_pos rfl, if_pos rfl]
      · simp at h; omega
    · show (s2.heap.put A b).get B = _
      rw [Tr.get_put, if_neg (by intro e; subst e; simp at hB)]
theorem Fr.nw (b : ABlk) : Fr (nw b) := fun st u st' h => by
  unfold Zz.nw at h
  cases h
  refine ⟨[2 * st.next + 1], rfl, by simp, fun B h1 h2 => ?_, fun B _ hB => ?_, fun s2 hn hs => ⟨⟨s2.heap.put s2.next b, s2.next + 1, (2 * s2.next + 1) :: s2.log⟩, ?_, by rw [hn]; rfl, by simp [hn], fun B h => ?_, fun B _ hB => ?_⟩⟩
  · simp only at h2
    simp; omega
  · show (st.heap.put st.next b).get B = _
    rw [Tr.get_put, if_neg (by intro e; subst e; simp at hB)]
  · unfold Zz.nw; rw [hn]
  · have : B = st.next := by simp at h; omega
    subst this
    show (s2.heap.put s2.next b).get _ = (st.heap.put st.next b).get _
    rw [Tr.get_put, Tr.get_put, hn]
    simp
  · show (s2.heap.put s2.next b).get B = _
    rw [Tr.get_put, if_neg (by intro e; subst e; rw [hn] at hB; simp at hB)]
theorem Fr.bnd {α β : Type} {x : M α} {f : α → M β} (hx : Fr x) (hf : ∀ a, Fr (f a)) : Fr (bnd x f) := fun st b st' h => by
  unfold Zz.bnd at h
  cases h1 : x st with
  | none => rw [h1] at h; cases h
  | some p =>
    obtain ⟨a, st1⟩ := p
    rw [h1] at h
    simp only at h
    obtain ⟨L1, q1⟩ := hx st a st1 h1
    obtain ⟨L2, q2⟩ := hf a st1 b st' h
    have n1 := q1.next
    have n2 := q2.next
    refine ⟨L2 ++ L1, by rw [q2.log, q1.log, List.append_assoc], by omega, fun A e1 e2 => (by
      by_cases h : A < st1.next
      · exact List.mem_append_right _ (q1.alloc A e1 h)
      · exact List.mem_append_left _ (q2.alloc A (by omega) e2)), fun A hA hN => ?_, fun s2 hn hs => ?_⟩
    · rw [q2.same A (fun h => hA (List.mem_append_left _ h)) (by omega), q1.same A (fun h => hA (List.mem_append_right _ h)) (by omega)]
    · obtain ⟨s3, e1, e2, e3, e4, e5⟩ := q1.other s2 hn (fun A hA => hs A (by
        rcases hA with hA | hA
        · exact .inl (hA.imp (List.mem_append_right _) (List.mem_append_right _))
        · exact .inr (by omega)))
      obtain ⟨s4, g1, g2, g3, g4, g5⟩ := q2.other s3 e3 (fun A hA => by
        by_cases hw : 2 * A + 1 ∈ L1 ∨ (st.next ≤ A ∧ A < st1.next)
        · exact e4 A hw
        · rw [e5 A (fun h => hw (.inl h)) (fun h => hw (.inr h)), q1.same A (fun h => hw (.inl h)) (fun h => hw (.inr h))]
          refine hs A ?_
          rcases hA with hA | hA
          · exact .inl (hA.imp (List.mem_append_left _) (List.mem_append_left _))
          · exact .inr (by omega))
      refine ⟨s4, ?_, by rw [g2, e2, List.append_assoc], g3, fun A hA => ?_, fun A hA hN => ?_⟩
      · unfold Zz.bnd; rw [e1]; exact g1
      · by_cases hw : 2 * A + 1 ∈ L2 ∨ (st1.next ≤ A ∧ A < st'.next)
        · exact g4 A hw
        · rw [g5 A (fun h => hw (.inl h)) (fun h => hw (.inr h)), q2.same A (fun h => hw (.inl h)) (fun h => hw (.inr h))]
          refine e4 A ?_
          rcases hA with hA | hA
          · rcases List.mem_append.1 hA with h | h
            · exact absurd (.inl h) hw
            · exact .inl h
          · by_cases h : A < st1.next
            · exact .inr ⟨hA.1, h⟩
            · exact absurd (.inr ⟨by omega, hA.2⟩) hw
      · rw [g5 A (fun h => hA (List.mem_append_left _ h)) (by omega), e5 A (fun h => hA (List.mem_append_right _ h)) (by omega)]
theorem Fr.capt {α : Type} {x : M α} (hx : Fr x) : Fr (capt x) := fun st b st' h => by
  unfold Zz.capt at h
  cases h1 : x ⟨st.heap, st.next, []⟩ with
  | none => rw [h1] at h; cases h
  | some p =>
    obtain ⟨a, s1⟩ := p
    rw [h1] at h
    cases h
    obtain ⟨L, q⟩ := hx _ a s1 h1
    have hl : s1.log = L := by rw [q.log]; simp
    refine ⟨L, by simp [hl], q.next, q.alloc, q.same, fun s2 hn hs => ?_⟩
    obtain ⟨s3, e1, e2, e3, e4, e5⟩ := q.other ⟨s2.heap, s2.next, []⟩ hn hs
    have e2' : s3.log = L := by rw [e2]; simp
    refine ⟨⟨s3.heap, s3.next, s3.log ++ s2.log⟩, ?_, by simp [e2'], e3, e4, e5⟩
    unfold Zz.capt
    rw [e1, hl]
    simp [e2']
/-- its own log is what it touches -/
theorem capt_log {α : Type} {x : M α} (hx : Fr x) {st st' : ASt} {a : α} {l : List Nat} (h : capt x st = some ((a, l), st')) : ∃ s1, x ⟨st.heap, st.next, []⟩ = some (a, s1) ∧ Fro x ⟨st.heap, st.next, []⟩ a s1 l ∧ st'.heap = s1.heap ∧ st'.next = s1.next := by
  unfold Zz.capt at h
  cases h1 : x ⟨st.heap, st.next, []⟩ with
  | none => rw [h1] at h; cases h
  | some p =>
    obtain ⟨b, s1⟩ := p
    rw [h1] at h
    cases h
    obtain ⟨L, q⟩ := hx _ a s1 h1
    have hl : s1.log = L := by rw [q.log]; simp
    exact ⟨s1, rfl, hl ▸ q, rfl, rfl⟩
theorem Fr.cond {α : Type} {c : Bool} {x y : M α} (hx : Fr x) (hy : Fr y) : Fr (bif c then x else y) := by cases c <;> assumption
theorem Fr.loadC (A i k : Nat) : Fr (loadC A i k) := by
  unfold Zz.loadC
  repeat' (first | exact Fr.fail | exact Fr.ret _ | exact Fr.opt _ | exact Fr.rd _ | exact Fr.wr _ _ | exact Fr.nw _ | (refine Fr.bnd ?_ (fun _ => ?_)) | refine Fr.cond ?_ ?_ | split)
theorem Fr.load1 (A i : Nat) : Fr (load1 A i) := by
  unfold Zz.load1
  repeat' (first | exact Fr.fail | exact Fr.ret _ | exact Fr.opt _ | exact Fr.rd _ | exact Fr.wr _ _ | exact Fr.nw _ | (refine Fr.bnd ?_ (fun _ => ?_)) | refine Fr.cond ?_ ?_ | split)
theorem Fr.storeC (A i : Nat) (l : List AV) : Fr (storeC A i l) := by
  unfold Zz.storeC
  repeat' (first | exact Fr.fail | exact Fr.ret _ | exact Fr.opt _ | exact Fr.rd _ | exact Fr.wr _ _ | exact Fr.nw _ | (refine Fr.bnd ?_ (fun _ => ?_)) | refine Fr.cond ?_ ?_ | split)
theorem Fr.newC (e : TypeId) (l : List AV) : Fr (newC e l) := by
  unfold Zz.newC
  repeat' (first | exact Fr.fail | exact Fr.ret _ | exact Fr.opt _ | exact Fr.rd _ | exact Fr.wr _ _ | exact Fr.nw _ | (refine Fr.bnd ?_ (fun _ => ?_)) | refine Fr.cond ?_ ?_ | split)
theorem Fr.newR (e : TypeId) (d : List AV) (k : Nat) : Fr (newR e d k) := by
  unfold Zz.newR
  exact Fr.cond (Fr.nw _) Fr.fail
theorem Fr.newS (e : TypeId) (l : List AV) : Fr (newS e l) := by
  unfold Zz.newS
  repeat' (first | exact Fr.fail | exact Fr.ret _ | exact Fr.opt _ | exact Fr.rd _ | exact Fr.wr _ _ | exact Fr.nw _ | (refine Fr.bnd ?_ (fun _ => ?_)) | refine Fr.cond ?_ ?_ | split)
theorem Fr.loadT (P : Program) (t : TypeId) (A i : Nat) : Fr (loadT P t A i) := by
  unfold Zz.loadT
  repeat' (first | exact Fr.fail | exact Fr.ret _ | exact Fr.opt _ | exact Fr.rd _ | exact Fr.wr _ _ | exact Fr.nw _ | exact Fr.loadC _ _ _ | exact Fr.load1 _ _ | exact Fr.storeC _ _ _ | exact Fr.newC _ _ | exact Fr.newR _ _ _ | exact Fr.newS _ _ | (refine Fr.bnd ?_ (fun _ => ?_)) | refine Fr.cond ?_ ?_ | split)
theorem Fr.storeT (P : Program) (t : TypeId) (A i : Nat) (v : AV) : Fr (storeT P t A i v) := by
  unfold Zz.storeT
  repeat' (first | exact Fr.fail | exact Fr.ret _ | exact Fr.opt _ | exact Fr.rd _ | exact Fr.wr _ _ | exact Fr.nw _ | exact Fr.loadC _ _ _ | exact Fr.load1 _ _ | exact Fr.storeC _ _ _ | exact Fr.newC _ _ | exact Fr.newR _ _ _ | exact Fr.newS _ _ | exact Fr.loadT _ _ _ _ | (refine Fr.bnd ?_ (fun _ => ?_)) | refine Fr.cond ?_ ?_ | split)
theorem Fr.partT (P : Program) (t : TypeId) (l : List AV) (off : Nat) : Fr (partT P t l off) := by
  unfold Zz.partT
  repeat' (first | exact Fr.fail | exact Fr.ret _ | exact Fr.opt _ | exact Fr.rd _ | exact Fr.wr _ _ | exact Fr.nw _ | exact Fr.loadC _ _ _ | exact Fr.load1 _ _ | exact Fr.storeC _ _ _ | exact Fr.newC _ _ | exact Fr.newR _ _ _ | exact Fr.newS _ _ | exact Fr.loadT _ _ _ _ | exact Fr.storeT _ _ _ _ _ | (refine Fr.bnd ?_ (fun _ => ?_)) | refine Fr.cond ?_ ?_ | split)
theorem Fr.aliveC (A : Nat) : Fr (aliveC A) := by
  unfold Zz.aliveC
  repeat' (first | exact Fr.fail | exact Fr.ret _ | exact Fr.opt _ | exact Fr.rd _ | exact Fr.wr _ _ | exact Fr.nw _ | exact Fr.loadC _ _ _ | exact Fr.load1 _ _ | exact Fr.storeC _ _ _ | exact Fr.newC _ _ | exact Fr.newR _ _ _ | exact Fr.newS _ _ | exact Fr.loadT _ _ _ _ | exact Fr.storeT _ _ _ _ _ | exact Fr.partT _ _ _ _ | (refine Fr.bnd ?_ (fun _ => ?_)) | refine Fr.cond ?_ ?_ | split)
theorem Fr.foldr {α : Type} {γ : Type} (f : γ → M α → M α) (z : M α) (hz : Fr z) (hf : ∀ c k, Fr k → Fr (f c k)) : ∀ l : List γ, Fr (l.foldr f z)
  | [] => hz
  | c :: l => hf c _ (Fr.foldr f z hz hf l)
theorem Fr.eqA (P : Program) : ∀ (n : Nat) (t : TypeId) (x y : AV), Fr (eqA P n t x y) := by
  intro n
  induction n with
  | zero => intro t x y; exact Fr.fail
  | succ n ih =>
    intro t x y
    unfold Zz.eqA
    repeat' (first | exact Fr.fail | exact Fr.ret _ | exact Fr.opt _ | exact Fr.rd _ | exact Fr.wr _ _ | exact Fr.nw _ | exact Fr.loadC _ _ _ | exact Fr.load1 _ _ | exact Fr.storeC _ _ _ | exact Fr.newC _ _ | exact Fr.newR _ _ _ | exact Fr.newS _ _ | exact Fr.loadT _ _ _ _ | exact Fr.storeT _ _ _ _ _ | exact Fr.partT _ _ _ _ | exact Fr.aliveC _ | exact ih _ _ _ | (refine Fr.foldr _ _ (Fr.ret _) (fun c k hk => ?_) _) | assumption | (refine Fr.bnd ?_ (fun _ => ?_)) | refine Fr.cond ?_ ?_ | split)
theorem Fr.binA (P : Program) (op : BinOp) (t : TypeId) (a b : AV) : Fr (binA P op t a b) := by
  unfold Zz.binA
  repeat' (first | exact Fr.fail | exact Fr.ret _ | exact Fr.opt _ | exact Fr.rd _ | exact Fr.wr _ _ | exact Fr.nw _ | exact Fr.loadC _ _ _ | exact Fr.load1 _ _ | exact Fr.storeC _ _ _ | exact Fr.newC _ _ | exact Fr.newR _ _ _ | exact Fr.newS _ _ | exact Fr.loadT _ _ _ _ | exact Fr.storeT _ _ _ _ _ | exact Fr.partT _ _ _ _ | exact Fr.aliveC _ | exact Fr.eqA _ _ _ _ _ | (refine Fr.bnd ?_ (fun _ => ?_)) | refine Fr.cond ?_ ?_ | split)
theorem Fr.unA (op : UnOp) (x : AV) : Fr (unA op x) := by
  unfold Zz.unA
  repeat' (first | exact Fr.fail | exact Fr.ret _ | exact Fr.opt _ | exact Fr.rd _ | exact Fr.wr _ _ | exact Fr.nw _ | exact Fr.loadC _ _ _ | exact Fr.load1 _ _ | exact Fr.storeC _ _ _ | exact Fr.newC _ _ | exact Fr.newR _ _ _ | exact Fr.newS _ _ | exact Fr.loadT _ _ _ _ | exact Fr.storeT _ _ _ _ _ | exact Fr.partT _ _ _ _ | exact Fr.aliveC _ | exact Fr.eqA _ _ _ _ _ | exact Fr.binA _ _ _ _ _ | (refine Fr.bnd ?_ (fun _ => ?_)) | refine Fr.cond ?_ ?_ | split)
theorem Fr.asInt (v : AV) : Fr (asInt v) := by
  unfold Zz.asInt
  repeat' (first | exact Fr.fail | exact Fr.ret _ | exact Fr.opt _ | exact Fr.rd _ | exact Fr.wr _ _ | exact Fr.nw _ | exact Fr.loadC _ _ _ | exact Fr.load1 _ _ | exact Fr.storeC _ _ _ | exact Fr.newC _ _ | exact Fr.newR _ _ _ | exact Fr.newS _ _ | exact Fr.loadT _ _ _ _ | exact Fr.storeT _ _ _ _ _ | exact Fr.partT _ _ _ _ | exact Fr.aliveC _ | exact Fr.eqA _ _ _ _ _ | exact Fr.binA _ _ _ _ _ | exact Fr.unA _ _ | (refine Fr.bnd ?_ (fun _ => ?_)) | refine Fr.cond ?_ ?_ | split)
theorem Fr.asNat (v : AV) : Fr (asNat v) := by
  unfold Zz.asNat
  repeat' (first | exact Fr.fail | exact Fr.ret _ | exact Fr.opt _ | exact Fr.rd _ | exact Fr.wr _ _ | exact Fr.nw _ | exact Fr.loadC _ _ _ | exact Fr.load1 _ _ | exact Fr.storeC _ _ _ | exact Fr.newC _ _ | exact Fr.newR _ _ _ | exact Fr.newS _ _ | exact Fr.loadT _ _ _ _ | exact Fr.storeT _ _ _ _ _ | exact Fr.partT _ _ _ _ | exact Fr.aliveC _ | exact Fr.eqA _ _ _ _ _ | exact Fr.binA _ _ _ _ _ | exact Fr.unA _ _ | exact Fr.asInt _ | (refine Fr.bnd ?_ (fun _ => ?_)) | refine Fr.cond ?_ ?_ | split)
theorem Fr.sliceA (P : Program) (t : TypeId) (x : AV) (lo hi mx : Option AV) : Fr (sliceA P t x lo hi mx) := by
  unfold Zz.sliceA
  repeat' (first | exact Fr.fail | exact Fr.ret _ | exact Fr.opt _ | exact Fr.rd _ | exact Fr.wr _ _ | exact Fr.nw _ | exact Fr.loadC _ _ _ | exact Fr.load1 _ _ | exact Fr.storeC _ _ _ | exact Fr.newC _ _ | exact Fr.newR _ _ _ | exact Fr.newS _ _ | exact Fr.loadT _ _ _ _ | exact Fr.storeT _ _ _ _ _ | exact Fr.partT _ _ _ _ | exact Fr.aliveC _ | exact Fr.eqA _ _ _ _ _ | exact Fr.binA _ _ _ _ _ | exact Fr.unA _ _ | exact Fr.asInt _ | exact Fr.asNat _ | (refine Fr.bnd ?_ (fun _ => ?_)) | refine Fr.cond ?_ ?_ | split)
theorem Fr.growA (A j len sz k : Nat) (ex : Bool) (cap : Nat) (e : TypeId) (new : List AV) : Fr (growA A j len sz k ex cap e new) := by
  unfold Zz.growA
  repeat' (first | exact Fr.fail | exact Fr.ret _ | exact Fr.opt _ | exact Fr.rd _ | exact Fr.wr _ _ | exact Fr.nw _ | (refine Fr.bnd ?_ (fun _ => ?_)) | refine Fr.cond ?_ ?_ | split)
theorem Fr.appendA (P : Program) (e : TypeId) (s : AV) (k : Nat) (new : List AV) : Fr (appendA P e s k new) := by
  unfold Zz.appendA
  repeat' (first | exact Fr.fail | exact Fr.ret _ | exact Fr.opt _ | exact Fr.rd _ | exact Fr.wr _ _ | exact Fr.nw _ | exact Fr.growA _ _ _ _ _ _ _ _ _ | exact Fr.loadC _ _ _ | exact Fr.load1 _ _ | exact Fr.storeC _ _ _ | exact Fr.newC _ _ | exact Fr.newR _ _ _ | exact Fr.newS _ _ | exact Fr.loadT _ _ _ _ | exact Fr.storeT _ _ _ _ _ | exact Fr.partT _ _ _ _ | exact Fr.aliveC _ | exact Fr.eqA _ _ _ _ _ | exact Fr.binA _ _ _ _ _ | exact Fr.unA _ _ | exact Fr.asInt _ | exact Fr.asNat _ | exact Fr.sliceA _ _ _ _ _ _ | (refine Fr.bnd ?_ (fun _ => ?_)) | refine Fr.cond ?_ ?_ | split)
theorem Fr.cellsIn (size : Nat) (x : AV) : Fr (cellsIn size x) := by
  unfold Zz.cellsIn
  repeat' (first | exact Fr.fail | exact Fr.ret _ | exact Fr.opt _ | exact Fr.rd _ | exact Fr.wr _ _ | exact Fr.nw _ | exact Fr.loadC _ _ _ | exact Fr.load1 _ _ | exact Fr.storeC _ _ _ | exact Fr.newC _ _ | exact Fr.newR _ _ _ | exact Fr.newS _ _ | exact Fr.loadT _ _ _ _ | exact Fr.storeT _ _ _ _ _ | exact Fr.partT _ _ _ _ | exact Fr.aliveC _ | exact Fr.eqA _ _ _ _ _ | exact Fr.binA _ _ _ _ _ | exact Fr.unA _ _ | exact Fr.asInt _ | exact Fr.asNat _ | exact Fr.sliceA _ _ _ _ _ _ | exact Fr.appendA _ _ _ _ _ | (refine Fr.bnd ?_ (fun _ => ?_)) | refine Fr.cond ?_ ?_ | split)
theorem Fr.lookFin (P : Program) (et : TypeId) (k : AV) (ok : Bool) (es : List (AV × AV × Nat)) : Fr (lookFin P et k ok es) := by
  unfold Zz.lookFin
  repeat' (first | exact Fr.fail | exact Fr.ret _ | split)
theorem Fr.lookA (P : Program) (t : TypeId) (x k : AV) (ok : Bool) : Fr (lookA P t x k ok) := by
  unfold Zz.lookA
  repeat' (first | exact Fr.fail | exact Fr.ret _ | exact Fr.opt _ | exact Fr.rd _ | exact Fr.wr _ _ | exact Fr.nw _ | exact Fr.lookFin _ _ _ _ _ | exact Fr.loadC _ _ _ | exact Fr.load1 _ _ | exact Fr.storeC _ _ _ | exact Fr.newC _ _ | exact Fr.newR _ _ _ | exact Fr.newS _ _ | exact Fr.loadT _ _ _ _ | exact Fr.storeT _ _ _ _ _ | exact Fr.partT _ _ _ _ | exact Fr.aliveC _ | exact Fr.eqA _ _ _ _ _ | exact Fr.binA _ _ _ _ _ | exact Fr.unA _ _ | exact Fr.asInt _ | exact Fr.asNat _ | exact Fr.sliceA _ _ _ _ _ _ | exact Fr.appendA _ _ _ _ _ | exact Fr.cellsIn _ _ | (refine Fr.bnd ?_ (fun _ => ?_)) | refine Fr.cond ?_ ?_ | split)
theorem Fr.mapUpA (P : Program) (t : TypeId) (x k v : AV) : Fr (mapUpA P t x k v) := by
  unfold Zz.mapUpA
  repeat' (first | exact Fr.fail | exact Fr.ret _ | exact Fr.opt _ | exact Fr.rd _ | exact Fr.wr _ _ | exact Fr.nw _ | exact Fr.loadC _ _ _ | exact Fr.load1 _ _ | exact Fr.storeC _ _ _ | exact Fr.newC _ _ | exact Fr.newR _ _ _ | exact Fr.newS _ _ | exact Fr.loadT _ _ _ _ | exact Fr.storeT _ _ _ _ _ | exact Fr.partT _ _ _ _ | exact Fr.aliveC _ | exact Fr.eqA _ _ _ _ _ | exact Fr.binA _ _ _ _ _ | exact Fr.unA _ _ | exact Fr.asInt _ | exact Fr.asNat _ | exact Fr.sliceA _ _ _ _ _ _ | exact Fr.appendA _ _ _ _ _ | exact Fr.cellsIn _ _ | exact Fr.lookA _ _ _ _ _ | (refine Fr.bnd ?_ (fun _ => ?_)) | refine Fr.cond ?_ ?_ | split)
theorem Fr.assertA (P : Program) (x : AV) (t : TypeId) (ok : Bool) : Fr (assertA P x t ok) := by
  unfold Zz.assertA
  repeat' (first | exact Fr.fail | exact Fr.ret _ | exact Fr.opt _ | exact Fr.rd _ | exact Fr.wr _ _ | exact Fr.nw _ | exact Fr.loadC _ _ _ | exact Fr.load1 _ _ | exact Fr.storeC _ _ _ | exact Fr.newC _ _ | exact Fr.newR _ _ _ | exact Fr.newS _ _ | exact Fr.loadT _ _ _ _ | exact Fr.storeT _ _ _ _ _ | exact Fr.partT _ _ _ _ | exact Fr.aliveC _ | exact Fr.eqA _ _ _ _ _ | exact Fr.binA _ _ _ _ _ | exact Fr.unA _ _ | exact Fr.asInt _ | exact Fr.asNat _ | exact Fr.sliceA _ _ _ _ _ _ | exact Fr.appendA _ _ _ _ _ | exact Fr.cellsIn _ _ | exact Fr.lookA _ _ _ _ _ | exact Fr.mapUpA _ _ _ _ _ | (refine Fr.bnd ?_ (fun _ => ?_)) | refine Fr.cond ?_ ?_ | split)
theorem Fr.getP (P : Program) (t : TypeId) (x : Pl) : Fr (getP P t x) := by
  cases x with
  | val v => exact Fr.ret _
  | var A i => exact Fr.loadT _ _ _ _
theorem Fr.followA (P : Program) : ∀ (l : List FieldStep) (t : TypeId) (x : Pl), Fr (followA P l t x)
  | [], t, x => Fr.ret _
  | s :: r, t, x => by
    have ih := Fr.followA P r
    unfold Zz.followA
    repeat' (first | exact ih _ _ | exact Fr.fail | exact Fr.ret _ | exact Fr.getP _ _ _ | exact Fr.partT _ _ _ _ | (refine Fr.bnd ?_ (fun _ => ?_)) | refine Fr.cond ?_ ?_ | split)
theorem Fr.recvA (P : Program) (t : TypeId) (x : Pl) (pr : Bool) : Fr (recvA P t x pr) := by
  unfold Zz.recvA
  repeat' (first | exact Fr.fail | exact Fr.ret _ | exact Fr.getP _ _ _ | exact Fr.loadT _ _ _ _ | (refine Fr.bnd ?_ (fun _ => ?_)) | refine Fr.cond ?_ ?_ | split)
theorem Fr.methN (P : Program) : ∀ (n : Nat) (t : TypeId) (v : AV) (name : String), Fr (methN P n t v name)
  | 0, _, _, _ => Fr.fail
  | n + 1, t, v, name => by
    have ih := Fr.methN P n
    unfold Zz.methN
    repeat' (first | exact ih _ _ _ | exact Fr.fail | exact Fr.ret _ | exact Fr.getP _ _ _ | exact Fr.followA _ _ _ _ | exact Fr.recvA _ _ _ _ | (refine Fr.bnd ?_ (fun _ => ?_)) | refine Fr.cond ?_ ?_ | split)
theorem Fr.methA (P : Program) (t : TypeId) (v : AV) (name : String) : Fr (methA P t v name) := Fr.methN P 4 t v name
def FrH (H : Hooks) : Prop := ∀ f h, H.fn f = some h → ∀ args, Fr (h args)
def FrE (e : Ex) : Prop := (∀ f args, Fr (e.call f args)) ∧ (∀ N b tm, Fr (e.loop N b tm)) ∧ ∀ f l u, Fr (e.callD f l u)
theorem Fr.funcA (P : Program) {H : Hooks} {e : Ex} (hH : FrH H) (he : FrE e) (f : FuncId) (args : List AV) : Fr (funcA P H e f args) := by
  unfold Zz.funcA
  split
  · rename_i h hh; exact hH _ _ hh _
  · repeat' (first | exact Fr.fail | exact Fr.ret _ | exact Fr.opt _ | exact Fr.rd _ | exact Fr.wr _ _ | exact Fr.nw _ | exact he.1 _ _ | (refine Fr.bnd ?_ (fun _ => ?_)) | refine Fr.cond ?_ ?_ | split)
theorem Fr.copyFin (d : AV) (n : Nat) (p : Nat × List AV) : Fr (copyFin d n p) := by
  unfold Zz.copyFin
  repeat' (first | exact Fr.fail | exact Fr.ret _ | exact Fr.opt _ | exact Fr.rd _ | exact Fr.wr _ _ | exact Fr.nw _ | exact Fr.loadC _ _ _ | exact Fr.load1 _ _ | exact Fr.storeC _ _ _ | exact Fr.newC _ _ | exact Fr.newR _ _ _ | exact Fr.newS _ _ | exact Fr.loadT _ _ _ _ | exact Fr.storeT _ _ _ _ _ | exact Fr.partT _ _ _ _ | exact Fr.aliveC _ | exact Fr.eqA _ _ _ _ _ | exact Fr.binA _ _ _ _ _ | exact Fr.unA _ _ | exact Fr.asInt _ | exact Fr.asNat _ | exact Fr.sliceA _ _ _ _ _ _ | exact Fr.appendA _ _ _ _ _ | exact Fr.cellsIn _ _ | exact Fr.lookA _ _ _ _ _ | exact Fr.mapUpA _ _ _ _ _ | exact Fr.assertA _ _ _ _ | exact Fr.methA _ _ _ _ | (refine Fr.bnd ?_ (fun _ => ?_)) | refine Fr.cond ?_ ?_ | split)
theorem Fr.copyA (P : Program) (t : TypeId) (d x : AV) : Fr (copyA P t d x) := by
  unfold Zz.copyA
  repeat' (first | exact Fr.copyFin _ _ _ | exact Fr.fail | exact Fr.ret _ | exact Fr.opt _ | exact Fr.rd _ | exact Fr.wr _ _ | exact Fr.nw _ | exact Fr.loadC _ _ _ | exact Fr.load1 _ _ | exact Fr.storeC _ _ _ | exact Fr.newC _ _ | exact Fr.newR _ _ _ | exact Fr.newS _ _ | exact Fr.loadT _ _ _ _ | exact Fr.storeT _ _ _ _ _ | exact Fr.partT _ _ _ _ | exact Fr.aliveC _ | exact Fr.eqA _ _ _ _ _ | exact Fr.binA _ _ _ _ _ | exact Fr.unA _ _ | exact Fr.asInt _ | exact Fr.asNat _ | exact Fr.sliceA _ _ _ _ _ _ | exact Fr.appendA _ _ _ _ _ | exact Fr.cellsIn _ _ | exact Fr.lookA _ _ _ _ _ | exact Fr.mapUpA _ _ _ _ _ | exact Fr.assertA _ _ _ _ | exact Fr.methA _ _ _ _ | (refine Fr.bnd ?_ (fun _ => ?_)) | refine Fr.cond ?_ ?_ | split)
theorem Fr.deleteA (P : Program) (t : TypeId) (x k : AV) : Fr (deleteA P t x k) := by
  unfold Zz.deleteA
  repeat' (first | exact Fr.fail | exact Fr.ret _ | exact Fr.opt _ | exact Fr.rd _ | exact Fr.wr _ _ | exact Fr.nw _ | exact Fr.loadC _ _ _ | exact Fr.load1 _ _ | exact Fr.storeC _ _ _ | exact Fr.newC _ _ | exact Fr.newR _ _ _ | exact Fr.newS _ _ | exact Fr.loadT _ _ _ _ | exact Fr.storeT _ _ _ _ _ | exact Fr.partT _ _ _ _ | exact Fr.aliveC _ | exact Fr.eqA _ _ _ _ _ | exact Fr.binA _ _ _ _ _ | exact Fr.unA _ _ | exact Fr.asInt _ | exact Fr.asNat _ | exact Fr.sliceA _ _ _ _ _ _ | exact Fr.appendA _ _ _ _ _ | exact Fr.cellsIn _ _ | exact Fr.lookA _ _ _ _ _ | exact Fr.mapUpA _ _ _ _ _ | exact Fr.assertA _ _ _ _ | exact Fr.methA _ _ _ _ | (refine Fr.bnd ?_ (fun _ => ?_)) | refine Fr.cond ?_ ?_ | split)
theorem Fr.builtA (P : Program) (b : Builtin) (ts : List TypeId) (args : List AV) : Fr (builtA P b ts args) := by
  unfold Zz.builtA
  repeat' (first | exact Fr.copyA _ _ _ _ | exact Fr.deleteA _ _ _ _ | exact Fr.fail | exact Fr.ret _ | exact Fr.opt _ | exact Fr.rd _ | exact Fr.wr _ _ | exact Fr.nw _ | exact Fr.loadC _ _ _ | exact Fr.load1 _ _ | exact Fr.storeC _ _ _ | exact Fr.newC _ _ | exact Fr.newR _ _ _ | exact Fr.newS _ _ | exact Fr.loadT _ _ _ _ | exact Fr.storeT _ _ _ _ _ | exact Fr.partT _ _ _ _ | exact Fr.aliveC _ | exact Fr.eqA _ _ _ _ _ | exact Fr.binA _ _ _ _ _ | exact Fr.unA _ _ | exact Fr.asInt _ | exact Fr.asNat _ | exact Fr.sliceA _ _ _ _ _ _ | exact Fr.appendA _ _ _ _ _ | exact Fr.cellsIn _ _ | exact Fr.lookA _ _ _ _ _ | exact Fr.mapUpA _ _ _ _ _ | exact Fr.assertA _ _ _ _ | exact Fr.methA _ _ _ _ | (refine Fr.bnd ?_ (fun _ => ?_)) | refine Fr.cond ?_ ?_ | split)
theorem Fr.cvtA (P : Program) (src dst : TypeId) (x : AV) : Fr (cvtA P src dst x) := by
  unfold Zz.cvtA
  repeat' (first | exact Fr.fail | exact Fr.ret _ | exact Fr.opt _ | exact Fr.rd _ | exact Fr.wr _ _ | exact Fr.nw _ | exact Fr.loadC _ _ _ | exact Fr.load1 _ _ | exact Fr.storeC _ _ _ | exact Fr.newC _ _ | exact Fr.newR _ _ _ | exact Fr.newS _ _ | exact Fr.loadT _ _ _ _ | exact Fr.storeT _ _ _ _ _ | exact Fr.partT _ _ _ _ | exact Fr.aliveC _ | exact Fr.eqA _ _ _ _ _ | exact Fr.binA _ _ _ _ _ | exact Fr.unA _ _ | exact Fr.asInt _ | exact Fr.asNat _ | exact Fr.sliceA _ _ _ _ _ _ | exact Fr.appendA _ _ _ _ _ | exact Fr.cellsIn _ _ | exact Fr.lookA _ _ _ _ _ | exact Fr.mapUpA _ _ _ _ _ | exact Fr.assertA _ _ _ _ | exact Fr.methA _ _ _ _ | exact Fr.builtA _ _ _ _ | (refine Fr.bnd ?_ (fun _ => ?_)) | refine Fr.cond ?_ ?_ | split)
theorem Fr.opA (P : Program) {H : Hooks} {e : Ex} (hH : FrH H) (he : FrE e) (o : Oper) (tm : Tm) : Fr (opA P H e o tm) := by
  unfold Zz.opA
  repeat' (first | exact Fr.fail | exact Fr.ret _ | exact Fr.opt _ | exact Fr.rd _ | exact Fr.wr _ _ | exact Fr.nw _ | exact Fr.loadC _ _ _ | exact Fr.load1 _ _ | exact Fr.storeC _ _ _ | exact Fr.newC _ _ | exact Fr.newR _ _ _ | exact Fr.newS _ _ | exact Fr.loadT _ _ _ _ | exact Fr.storeT _ _ _ _ _ | exact Fr.partT _ _ _ _ | exact Fr.aliveC _ | exact Fr.eqA _ _ _ _ _ | exact Fr.binA _ _ _ _ _ | exact Fr.unA _ _ | exact Fr.asInt _ | exact Fr.asNat _ | exact Fr.sliceA _ _ _ _ _ _ | exact Fr.appendA _ _ _ _ _ | exact Fr.cellsIn _ _ | exact Fr.lookA _ _ _ _ _ | exact Fr.mapUpA _ _ _ _ _ | exact Fr.assertA _ _ _ _ | exact Fr.methA _ _ _ _ | exact Fr.builtA _ _ _ _ | exact Fr.cvtA _ _ _ _ | exact Fr.funcA P hH he _ _ | (refine Fr.bnd ?_ (fun _ => ?_)) | refine Fr.cond ?_ ?_ | split)
theorem Fr.putA (N : Nat) (tm : Tm) (dst : Option Tmp) (v : AV) : Fr (putA N tm dst v) := by
  unfold Zz.putA
  repeat' (first | exact Fr.fail | exact Fr.ret _ | exact Fr.opt _ | exact Fr.rd _ | exact Fr.wr _ _ | exact Fr.nw _ | exact Fr.loadC _ _ _ | exact Fr.load1 _ _ | exact Fr.storeC _ _ _ | exact Fr.newC _ _ | exact Fr.newR _ _ _ | exact Fr.newS _ _ | exact Fr.loadT _ _ _ _ | exact Fr.storeT _ _ _ _ _ | exact Fr.partT _ _ _ _ | exact Fr.aliveC _ | exact Fr.eqA _ _ _ _ _ | exact Fr.binA _ _ _ _ _ | exact Fr.unA _ _ | exact Fr.asInt _ | exact Fr.asNat _ | exact Fr.sliceA _ _ _ _ _ _ | exact Fr.appendA _ _ _ _ _ | exact Fr.cellsIn _ _ | exact Fr.lookA _ _ _ _ _ | exact Fr.mapUpA _ _ _ _ _ | exact Fr.assertA _ _ _ _ | exact Fr.methA _ _ _ _ | exact Fr.builtA _ _ _ _ | exact Fr.cvtA _ _ _ _ | exact Fr.funcA P hH he _ _ | (refine Fr.bnd ?_ (fun _ => ?_)) | refine Fr.cond ?_ ?_ | split)
theorem Fr.askA {H : Hooks} {tm : Tm} {op : Op} {x : M AV} (hx : Fr x) : Fr (askA H tm op x) := by
  unfold Zz.askA
  split
  · exact hx
  · split
    · exact hx
    · exact Fr.ret _
theorem Fr.operA (P : Program) {H : Hooks} {e : Ex} (hH : FrH H) (he : FrE e) (N : Nat) (ops : Array Oper) (o : Oper) (tm : Tm) : Fr (operA P H e N ops o tm) := by
  unfold Zz.operA
  split
  · refine Fr.bnd (Fr.askA (Fr.opA P hH he o tm)) (fun v => ?_)
    split
    · exact Fr.fail
    · exact Fr.putA _ _ _ _
  · exact Fr.putA _ _ _ _
  · exact Fr.fail
theorem Fr.deferA (P : Program) (tm : Tm) (c : Call) : Fr (deferA P tm c) := by
  unfold Zz.deferA
  refine Fr.bnd (Fr.opt _) (fun args => ?_)
  split
  · refine Fr.bnd (Fr.opt _) (fun v => ?_)
    split
    · split
      · exact Fr.cond Fr.fail (Fr.ret _)
      · exact Fr.fail
    · exact Fr.fail
  · exact Fr.fail
theorem Fr.operP (P : Program) {H : Hooks} {e : Ex} (hH : FrH H) (he : FrE e) (N : Nat) (ops : Array Oper) (o : Oper) (tm : Tm) : Fr (operP P H e N ops o tm) := by
  unfold Zz.operP
  split
  · split
    · exact Fr.bnd (Fr.deferA P tm _) (fun x => Fr.bnd (Fr.putA _ _ _ _) (fun _ => Fr.ret _))
    · exact Fr.putA _ _ _ _
    · exact Fr.fail
  · split
    · refine Fr.bnd (Fr.opt _) (fun v => ?_)
      split
      · exact Fr.ret _
      · exact Fr.fail
    · exact Fr.putA _ _ _ _
    · exact Fr.fail
  · split
    · refine Fr.bnd (Fr.askA (Fr.opA P hH he o tm)) (fun v => ?_)
      split
      · exact Fr.ret _
      · exact Fr.putA _ _ _ _
    · exact Fr.putA _ _ _ _
    · exact Fr.fail
  · exact Fr.operA P hH he N ops o tm
theorem Fr.opsP (P : Program) {H : Hooks} {e : Ex} (hH : FrH H) (he : FrE e) (N : Nat) (ops : Array Oper) : ∀ (l : List Oper) (tm : Tm), Fr (opsP P H e N ops l tm)
  | [], tm => Fr.ret _
  | o :: r, tm => Fr.bnd (Fr.operP P hH he N ops o tm) (fun tm' => by
      cases tm'.p with
      | some p => exact Fr.ret _
      | none => exact Fr.opsP P hH he N ops r tm')
theorem Fr.endP (tm : Tm) : Fr (endP tm) := by
  unfold Zz.endP
  split <;> exact Fr.ret _
theorem Fr.drawA (P : Program) {H : Hooks} {e : Ex} (hH : FrH H) (he : FrE e) (N : Nat) (ops : Array Oper) : ∀ (l : List Oper) (tm : Tm), Fr (drawA P H e N ops l tm)
  | [], tm => Fr.ret _
  | o :: r, tm => Fr.bnd (Fr.capt (Fr.operA P hH he N ops o tm)) (fun p => Fr.bnd (Fr.drawA P hH he N ops r p.1) (fun q => Fr.ret _))
theorem bothB_self (o : Option ABlk) : bothB o o = o := by
  cases o with
  | none => rfl
  | some a => show (bif eqBlk a a then some a else none) = _; rw [eqBlk_refl, cond_true]
theorem Fr.join2 {x y : M (Exit × Tm)} (hx : Fr x) (hy : Fr y) : Fr (join2 x y) := fun st r st' h => by
  unfold Zz.join2 at h
  cases h1 : x st with
  | none => rw [h1] at h; cases h
  | some p =>
    obtain ⟨⟨ex, t⟩, s1⟩ := p
    rw [h1] at h
    dsimp only at h
    cases h2 : y ⟨st.heap, st.next, s1.log⟩ with
    | none => rw [h2] at h; cases h
    | some p2 =>
      obtain ⟨⟨ex2, t2⟩, s2⟩ := p2
      rw [h2] at h
      dsimp only at h
      cases he : (exEq ex ex2 && eqAVs t.d t2.d && (t.p.isNone && t2.p.isNone)) with
      | false => rw [he] at h; cases h
      | true =>
        rw [he, cond_true] at h
        cases h
        obtain ⟨L1, q1⟩ := hx _ _ _ h1
        obtain ⟨L2, q2⟩ := hy _ _ _ h2
        have hmx : ∀ a b : Nat, a ≤ (bif Nat.ble a b then b else a) ∧ b ≤ (bif Nat.ble a b then b else a) ∧ ((bif Nat.ble a b then b else a) = a ∨ (bif Nat.ble a b then b else a) = b) := fun a b => by
          cases hb : Nat.ble a b with
          | true => have := Nat.le_of_ble_eq_true hb; simp; omega
          | false =>
            have : ¬ a ≤ b := fun hle => by rw [Nat.ble_eq_true_of_le hle] at hb; cases hb
            simp; omega
        have n1 := q1.next
        have n2 := q2.next
        dsimp only at n2
        obtain ⟨m1, m2, m3⟩ := hmx s1.next s2.next
        generalize hmxe : (bif Nat.ble s1.next s2.next then s2.next else s1.next) = mx at m1 m2 m3
        refine ⟨L2 ++ L1, by show s2.log = _; rw [q2.log, q1.log, List.append_assoc], by show st.next ≤ mx; omega, fun A e1 e2 => ?_, fun A hA hN => ?_, fun u hn hs => ?_⟩
        · have e2' : A < mx := e2
          by_cases hlt : A < s1.next
          · exact List.mem_append_right _ (q1.alloc A e1 hlt)
          · exact List.mem_append_left _ (q2.alloc A e1 (by omega))
        · have hN' : ¬ (st.next ≤ A ∧ A < mx) := hN
          show (Tr.zip bothB s1.heap s2.heap).get A = _
          rw [Tr.get_zip rfl, q1.same A (fun h => hA (List.mem_append_right _ h)) (by omega), q2.same A (fun h => hA (List.mem_append_left _ h)) (by dsimp only; omega)]
          exact bothB_self _
        · have hs' : ∀ A, Tch (L2 ++ L1) A ∨ (st.next ≤ A ∧ A < mx) → u.heap.get A = st.heap.get A := fun A hA => hs A hA
          obtain ⟨u1, e1, e2, e3, e4, e5⟩ := q1.other u hn (fun A hA => hs' A (by
            rcases hA with hA | hA
            · exact .inl (hA.imp (List.mem_append_right _) (List.mem_append_right _))
            · exact .inr (by omega)))
          obtain ⟨u2, g1, g2, g3, g4, g5⟩ := q2.other ⟨u.heap, u.next, u1.log⟩ hn (fun A hA => hs' A (by
            rcases hA with hA | hA
            · exact .inl (hA.imp (List.mem_append_left _) (List.mem_append_left _))
            · exact .inr (by dsimp only at hA; omega)))
          dsimp only at g4 g5
          have c1 : ∀ A, Tch (L2 ++ L1) A ∨ (st.next ≤ A ∧ A < mx) → u1.heap.get A = s1.heap.get A := fun A hA => by
            by_cases hw : 2 * A + 1 ∈ L1 ∨ (st.next ≤ A ∧ A < s1.next)
            · exact e4 A hw
            · rw [e5 A (fun h => hw (.inl h)) (fun h => hw (.inr h)), q1.same A (fun h => hw (.inl h)) (fun h => hw (.inr h))]
              exact hs' A hA
          have c2 : ∀ A, Tch (L2 ++ L1) A ∨ (st.next ≤ A ∧ A < mx) → u2.heap.get A = s2.heap.get A := fun A hA => by
            by_cases hw : 2 * A + 1 ∈ L2 ∨ (st.next ≤ A ∧ A < s2.next)
            · exact g4 A hw
            · rw [g5 A (fun h => hw (.inl h)) (fun h => hw (.inr h)), q2.same A (fun h => hw (.inl h)) (fun h => hw (.inr h))]
              exact hs' A hA
          refine ⟨⟨Tr.zip bothB u1.heap u2.heap, mx, u2.log⟩, ?_, by show u2.log = _; rw [g2, e2, List.append_assoc], rfl, fun A hA => ?_, fun A hA hN => ?_⟩
          · unfold Zz.join2
            rw [e1]
            dsimp only
            rw [g1]
            dsimp only
            rw [he, cond_true, e3, g3, hmxe]
          · have hA' : Tch (L2 ++ L1) A ∨ (st.next ≤ A ∧ A < mx) := by
              rcases hA with hA | hA
              · exact .inl (.inr hA)
              · exact .inr hA
            show (Tr.zip bothB u1.heap u2.heap).get A = (Tr.zip bothB s1.heap s2.heap).get A
            rw [Tr.get_zip rfl, Tr.get_zip rfl, c1 A hA', c2 A hA']
          · have hN' : ¬ (st.next ≤ A ∧ A < mx) := hN
            show (Tr.zip bothB u1.heap u2.heap).get A = u.heap.get A
            rw [Tr.get_zip rfl, e5 A (fun h => hA (List.mem_append_right _ h)) (by omega), g5 A (fun h => hA (List.mem_append_left _ h)) (by omega)]
            exact bothB_self _
theorem Fr.joinAll {x : M (Exit × Tm)} (hx : Fr x) : ∀ {l : List (M (Exit × Tm))}, (∀ y ∈ l, Fr y) → Fr (joinAll x l) := by
  intro l
  induction l generalizing x with
  | nil => exact fun _ => hx
  | cons y l ih => exact fun h => Fr.join2 hx (ih (h y (by simp)) (fun z hz => h z (by simp [hz])))
theorem Fr.rangeA {r : Option Operand} {tm : Tm} {round : M Unit → M (Exit × Tm)} (h : ∀ F, Fr F → Fr (round F)) : Fr (rangeA r tm round) := by
  unfold Zz.rangeA
  cases r with
  | none => exact h _ (Fr.ret _)
  | some x =>
    dsimp only
    refine Fr.bnd (Fr.opt _) (fun v => ?_)
    split
    · refine Fr.bnd (Fr.rd _) (fun b => ?_)
      split
      · exact h _ (Fr.wr _ _)
      · refine Fr.bnd (Fr.rd _) (fun b => ?_)
        split
        · refine Fr.cond ?_ Fr.fail
          split
          · exact h _ (Fr.wr _ _)
          · refine Fr.joinAll (h _ (Fr.wr _ _)) (fun y hy => ?_)
            obtain ⟨c, _, rfl⟩ := List.mem_map.1 hy
            exact h _ (Fr.wr _ _)
        · exact Fr.fail
      · exact Fr.fail
    · exact Fr.fail
theorem Fr.codeA (P : Program) {H : Hooks} {e : Ex} (hH : FrH H) (he : FrE e) (N : Nat) (c : Code) : ∀ tm, Fr (codeA P H e N c tm) := by
  induction c with
  | skip => exact fun _ => Fr.ret _
  | label _ => exact fun _ => Fr.ret _
  | region id ops d =>
    intro tm
    cases d
    · show Fr (match tm.p with | some _ => Zz.fail | none => Zz.bnd (Zz.opsP P H e N ops ops.toList tm) fun tm' => Zz.endP tm')
      split
      · exact Fr.fail
      · exact Fr.bnd (Fr.opsP P hH he N ops _ tm) (fun _ => Fr.endP _)
    · refine Fr.bnd (Fr.drawA P hH he N ops _ tm) (fun p => ?_)
      exact Fr.cond (Fr.ret _) Fr.fail
  | seq a b iha ihb =>
    intro tm
    refine Fr.bnd (iha tm) (fun p => ?_)
    obtain ⟨x, tm'⟩ := p
    cases x <;> first | exact ihb _ | exact Fr.ret _
  | cond c a b iha ihb =>
    intro tm
    refine Fr.bnd (Fr.opt _) (fun v => ?_)
    cases v with
    | bool t => cases t <;> first | exact iha _ | exact ihb _
    | _ => exact Fr.fail
  | block id b ih =>
    intro tm
    refine Fr.bnd (ih tm) (fun p => ?_)
    obtain ⟨x, tm'⟩ := p
    cases x <;> first | exact Fr.cond (Fr.ret _) (Fr.ret _) | exact Fr.ret _
  | loop b ih =>
    intro tm
    refine Fr.rangeA (fun F hF => Fr.bnd hF (fun _ => Fr.bnd (ih tm) (fun p => ?_)))
    obtain ⟨x, tm'⟩ := p
    cases x <;> first | exact he.2.1 _ _ _ | exact Fr.ret _
  | scope b ih =>
    intro tm
    refine Fr.bnd (ih tm) (fun p => ?_)
    obtain ⟨x, tm'⟩ := p
    cases x <;> first | exact Fr.fail | exact Fr.ret _
  | exit id => exact fun _ => Fr.ret _
  | ret => exact fun _ => Fr.ret _
  | _ => exact fun _ => Fr.fail
theorem Fr.resultA (P : Program) (tm : Tm) : ∀ l : List ResultVar, Fr (resultA P tm l)
  | [] => Fr.ret _
  | .tmp t :: r => Fr.bnd (Fr.opt _) (fun _ => Fr.bnd (Fr.resultA P tm r) (fun _ => Fr.ret _))
  | .cell a t :: r => Fr.bnd (Fr.opt _) (fun v => by
      cases v with
      | ptr A i => exact Fr.bnd (Fr.loadT P t A i) (fun _ => Fr.bnd (Fr.resultA P tm r) (fun _ => Fr.ret _))
      | _ => exact Fr.fail)
theorem Fr.leaveA (P : Program) {e : Ex} (he : FrE e) (fn : Func) (tm : Tm) : ∀ (ds : List AV) (u : MA), Fr (leaveA P e fn tm ds u) := by
  intro ds
  induction ds with
  | nil =>
    intro u
    unfold Zz.leaveA
    split <;> first | exact Fr.fail | exact Fr.ret _ | (refine Fr.bnd (Fr.resultA P tm _) (fun l => ?_); split <;> exact Fr.ret _) | (rename_i heq; cases heq)
  | cons d ds ih =>
    intro u
    unfold Zz.leaveA
    split
    · rename_i heq; cases heq
    · rename_i heq; cases heq
    · rename_i heq; cases heq
    · rename_i heq
      cases heq
      exact Fr.bnd (he.2.2 _ _ _) (fun _ => ih _)
    · exact Fr.fail
theorem Fr.callA (P : Program) {H : Hooks} {e : Ex} (hH : FrH H) (he : FrE e) (f : FuncId) (args : List AV) : Fr (callA P H e f args) := by
  unfold Zz.callA
  split
  · exact Fr.fail
  · split
    · exact Fr.fail
    · refine Fr.bnd (Fr.codeA P hH he _ _ _) (fun p => ?_)
      obtain ⟨x, tm⟩ := p
      cases x <;> first | exact Fr.fail | exact Fr.leaveA P he _ tm _ _ | (dsimp only; split <;> first | exact Fr.leaveA P he _ tm _ _ | exact Fr.fail)
theorem Fr.operS (P : Program) {H : Hooks} {e : Ex} (hH : FrH H) (he : FrE e) (N : Nat) (ops : Array Oper) (o : Oper) (tm : Tm) (u : MA) : Fr (operS P H e N ops o tm u) := by
  unfold Zz.operS
  refine Fr.cond ?_ (Fr.bnd (Fr.operA P hH he N ops o tm) (fun _ => Fr.ret _))
  split
  · split <;> exact Fr.bnd (Fr.putA _ _ _ _) (fun _ => Fr.ret _)
  · exact Fr.bnd (Fr.putA _ _ _ _) (fun _ => Fr.ret _)
  · exact Fr.fail
theorem Fr.opsS (P : Program) {H : Hooks} {e : Ex} (hH : FrH H) (he : FrE e) (N : Nat) (ops : Array Oper) : ∀ (l : List Oper) (tm : Tm) (u : MA), Fr (opsS P H e N ops l tm u)
  | [], tm, u => Fr.ret _
  | o :: r, tm, u => Fr.bnd (Fr.operS P hH he N ops o tm u) (fun p => Fr.opsS P hH he N ops r p.1 p.2)
theorem Fr.codeS (P : Program) {H : Hooks} {e : Ex} (hH : FrH H) (he : FrE e) (N : Nat) (c : Code) : ∀ tm u, Fr (codeS P H e N c tm u) := by
  have other : ∀ (c : Code) (tm : Tm) (u : MA), Fr (Zz.bnd (Zz.codeA P H e N c tm) fun (x, tm') => (match x with
    | .panic _ => Zz.fail
    | x => Zz.ret (x, tm', u))) := fun c tm u => Fr.bnd (Fr.codeA P hH he N c tm) (fun p => by
      obtain ⟨x, tm'⟩ := p
      cases x <;> first | exact Fr.fail | exact Fr.ret _)
  induction c with
  | region id ops d =>
    intro tm u
    cases d
    · exact Fr.bnd (Fr.opsS P hH he N ops _ tm u) (fun _ => Fr.ret _)
    · exact other _ tm u
  | seq a b iha ihb =>
    intro tm u
    refine Fr.bnd (iha tm u) (fun p => ?_)
    obtain ⟨x, tm', u'⟩ := p
    cases x <;> first | exact ihb _ _ | exact Fr.ret _
  | cond c a b iha ihb =>
    intro tm u
    refine Fr.bnd (Fr.opt _) (fun v => ?_)
    cases v with
    | bool t => cases t <;> first | exact iha _ _ | exact ihb _ _
    | _ => exact Fr.fail
  | _ => exact fun tm u => other _ tm u
theorem Fr.callDA (P : Program) {H : Hooks} {e : Ex} (hH : FrH H) (he : FrE e) (f : FuncId) (args : List AV) (u : MA) : Fr (callDA P H e f args u) := by
  unfold Zz.callDA
  split
  · exact Fr.fail
  · split
    · exact Fr.fail
    · refine Fr.bnd (Fr.codeS P hH he _ _ _ _) (fun p => ?_)
      obtain ⟨x, tm, u'⟩ := p
      cases x <;> first | exact Fr.fail | (dsimp only; split <;> first | exact Fr.fail | exact Fr.bnd (Fr.resultA P tm _) (fun _ => Fr.ret _))
theorem FrE.exec (P : Program) {H : Hooks} (hH : FrH H) : ∀ n, FrE (exec P H n)
  | 0 => ⟨fun _ _ => Fr.fail, fun _ _ _ => Fr.fail, fun _ _ _ => Fr.fail⟩
  | n + 1 => ⟨fun f args => Fr.callA P hH (FrE.exec P hH n) f args, fun N b tm => Fr.codeA P hH (FrE.exec P hH n) N (.loop b) tm, fun f l u => Fr.callDA P hH (FrE.exec P hH n) f l u⟩
end Go.Proofs.YtckmcajnhobkpaaGreatDoor.Zz
