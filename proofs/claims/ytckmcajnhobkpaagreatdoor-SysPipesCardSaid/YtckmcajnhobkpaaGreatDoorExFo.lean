/- The executor: of a state only what is still wanted; values that stand for objects get other numbers. -/
import Derived.Test.YtckmcajnhobkpaaGreatDoorExZ
set_option linter.unusedVariables false
set_option linter.unusedSimpArgs false
set_option linter.deprecated false
namespace Go.Proofs.YtckmcajnhobkpaaGreatDoor.Zz
open Go Go.RowKit

def inL (A : Nat) : List (Nat × ABlk) → Bool
  | [] => false
  | p :: l => bif Nat.beq p.1 A then true else inL A l
/-- only blocks of the list are named, and nothing that is not known -/
def okV (L : List (Nat × ABlk)) : AV → Bool
  | .int _ _ | .bool _ | .str _ | .ptr0 | .sl0 | .map0 | .ifc0 | .fn0 => true
  | .ptr A _ => inL A L
  | .sl A _ _ _ _ _ => inL A L
  | .map A => inL A L
  | .ifc _ (.ptr A _) => inL A L
  | .ifc _ (.agg [.ptr A _, .bool _]) => inL A L
  | _ => false
def okVs (L : List (Nat × ABlk)) : List AV → Bool
  | [] => true
  | a :: l => bif okV L a then okVs L l else false
def okO (L : List (Nat × ABlk)) : Option AV → Bool
  | none => true
  | some a => okV L a
def okTr (L : List (Nat × ABlk)) : Tr AV → Bool
  | .lf => true
  | .nd v l r => bif okO L v then (bif okTr L l then okTr L r else false) else false
def okEs (L : List (Nat × ABlk)) : List (AV × AV × Nat) → Bool
  | [] => true
  | e :: l => bif okV L e.1 then (bif okV L e.2.1 then okEs L l else false) else false
def okB (L : List (Nat × ABlk)) : ABlk → Bool
  | .cells c _ _ _ _ => bif okTr L c.t then okVs L c.d else false
  | .map es _ => okEs L es
  | .abs k => Nat.beq k 10
  | _ => false
/-- the thing q gets the number 10 -/
def renB (q : Nat) : ABlk → ABlk
  | .abs k => bif Nat.beq k q then .abs 10 else .abs (k + 11)
  | b => b
def allOk2 (L : List (Nat × ABlk)) : List (Nat × ABlk) → Bool
  | [] => true
  | p :: l => bif okB L p.2 then allOk2 L l else false
/-- the list's blocks are the state's -/
def subSt (f : Nat) (st : ASt) : List (Nat × ABlk) → Bool
  | [] => true
  | p :: l => match st.heap.get p.1 with
    | some b => bif eqBlk (renB f b) p.2 then subSt f st l else false
    | none => false
def trOf : List (Nat × ABlk) → Tr ABlk
  | [] => .lf
  | p :: l => (trOf l).put p.1 p.2
def stL (L : List (Nat × ABlk)) (next : Nat) : ASt := ⟨trOf L, next, []⟩
theorem trOf_get : ∀ {L : List (Nat × ABlk)} {A : Nat} {b : ABlk}, (trOf L).get A = some b → (A, b) ∈ L
  | [], A, b, h => by cases h
  | p :: L, A, b, h => by
    unfold trOf at h
    rw [Tr.get_put] at h
    by_cases e : A = p.1
    · rw [if_pos e] at h; cases h; subst e; simp
    · rw [if_neg e] at h; exact List.mem_cons_of_mem _ (trOf_get h)
theorem subSt_get {f : Nat} {st : ASt} : ∀ {L : List (Nat × ABlk)}, subSt f st L = true → ∀ p ∈ L, ∃ b, st.heap.get p.1 = some b ∧ renB f b = p.2
  | [], _, p, hp => by cases hp
  | q :: L, h, p, hp => by
    unfold subSt at h
    split at h
    · rename_i b hb
      cases hc : eqBlk (renB f b) q.2 with
      | false => rw [hc] at h; cases h
      | true =>
        rw [hc, cond_true] at h
        rcases List.mem_cons.1 hp with rfl | hp
        · exact ⟨b, hb, eqBlk_eq hc⟩
        · exact subSt_get h p hp
    · cases h
theorem allOk2_get {L : List (Nat × ABlk)} : ∀ {M : List (Nat × ABlk)}, allOk2 L M = true → ∀ p ∈ M, okB L p.2 = true
  | [], _, p, hp => by cases hp
  | q :: M, h, p, hp => by
    unfold allOk2 at h
    cases hc : okB L q.2 with
    | false => rw [hc] at h; cases h
    | true =>
      rw [hc, cond_true] at h
      rcases List.mem_cons.1 hp with rfl | hp
      · exact hc
      · exact allOk2_get h p hp
theorem okTr_get {L : List (Nat × ABlk)} : ∀ {t : Tr AV} {k : Nat} {a : AV}, okTr L t = true → t.get k = some a → okV L a = true
  | .lf, k, a, _, h => by cases h
  | .nd v l r, k, a, h, hg => by
    unfold okTr at h
    cases h1 : okO L v with
    | false => rw [h1] at h; cases h
    | true =>
      rw [h1, cond_true] at h
      cases h2 : okTr L l with
      | false => rw [h2] at h; cases h
      | true =>
        rw [h2, cond_true] at h
        unfold Tr.get at hg
        cases hb : Nat.beq k 0 with
        | true => rw [hb, cond_true] at hg; subst hg; exact h1
        | false =>
          rw [hb, cond_false] at hg
          cases hc : Nat.beq (k % 2) 1 with
          | true => rw [hc, cond_true] at hg; exact okTr_get h2 hg
          | false => rw [hc, cond_false] at hg; exact okTr_get h hg
theorem okVs_mem {L : List (Nat × ABlk)} : ∀ {l : List AV}, okVs L l = true → ∀ a ∈ l, okV L a = true
  | [], _, a, ha => by cases ha
  | b :: l, h, a, ha => by
    unfold okVs at h
    cases hc : okV L b with
    | false => rw [hc] at h; cases h
    | true =>
      rw [hc, cond_true] at h
      rcases List.mem_cons.1 ha with rfl | ha
      · exact hc
      · exact okVs_mem h a ha
theorem okEs_mem {L : List (Nat × ABlk)} : ∀ {l : List (AV × AV × Nat)}, okEs L l = true → ∀ e ∈ l, okV L e.1 = true ∧ okV L e.2.1 = true
  | [], _, a, ha => by cases ha
  | b :: l, h, a, ha => by
    unfold okEs at h
    cases hc : okV L b.1 with
    | false => rw [hc] at h; cases h
    | true =>
      rw [hc, cond_true] at h
      cases hd : okV L b.2.1 with
      | false => rw [hd] at h; cases h
      | true =>
        rw [hd, cond_true] at h
        rcases List.mem_cons.1 ha with rfl | ha
        · exact ⟨hc, hd⟩
        · exact okEs_mem h a ha
theorem okCT {L : List (Nat × ABlk)} {c : CT} {k : Nat} {a : AV} (h1 : okTr L c.t = true) (h2 : okVs L c.d = true) (h : c.get k = some a) : okV L a = true := by
  unfold CT.get at h
  cases ht : c.t.get k with
  | some v => rw [ht] at h; cases h; exact okTr_get h1 ht
  | none =>
    rw [ht] at h
    dsimp only at h
    cases hb : Nat.blt k c.n with
    | false => rw [hb] at h; cases h
    | true =>
      rw [hb, cond_true, nthL_eq] at h
      exact okVs_mem h2 a (List.mem_of_getElem? h)
section
variable {P : Program} {ρ ρ' : Nat → Value} {w0 : World} {base : Nat} {m : BMap} {w : World}
/-- only these blocks -/
def onlyM (m : BMap) (L : List (Nat × ABlk)) : BMap := fun A => bif inL A L then m A else none
theorem onlyM_in {m : BMap} {L : List (Nat × ABlk)} {A : Nat} {p : Nat × Nat × Nat} (h : inL A L = true) (hm : m A = some p) : onlyM m L A = some p := by
  unfold onlyM; rw [h]; exact hm
theorem inL_mem {A : Nat} {b : ABlk} : ∀ {L : List (Nat × ABlk)}, (A, b) ∈ L → inL A L = true
  | [], h => by cases h
  | p :: L, h => by
    unfold inL
    rcases List.mem_cons.1 h with e | h
    · rw [← e]; simp
    · rw [inL_mem h]; cases Nat.beq p.1 A <;> rfl
theorem VR.only {L : List (Nat × ABlk)} {a : AV} {v : Value} (h : VR ρ m a v) (ho : okV L a = true) : VR ρ' (onlyM m L) a v := by
  cases h with
  | int k n => exact .int k n
  | bool b => exact .bool b
  | str s => exact .str s
  | ptr0 => exact .ptr0
  | ptr A i b d z hm => exact .ptr A i b d z (onlyM_in ho hm)
  | sl0 => exact .sl0
  | sl A i len cap sz ex b d z off cap' hm h1 h2 h3 h4 h5 h6 => exact .sl A i len cap sz ex b d z off cap' (onlyM_in ho hm) h1 h2 h3 h4 h5 h6
  | map0 => exact .map0
  | map A b d z hm => exact .map A b d z (onlyM_in ho hm)
  | fn0 => exact .fn0
  | ifc0 => exact .ifc0
  | ifc t x v h' =>
    cases h' with
    | ptr A i b d z hm => exact .ifc _ _ _ (.ptr A i b d z (onlyM_in ho hm))
    | agg l u hl =>
      refine .ifc _ _ _ (.agg _ _ ?_)
      generalize u.toList = ul at hl
      cases hl with
      | nil => cases ho
      | cons a1 v1 l1 r1 q1 hl1 =>
        cases q1 with
        | ptr A i b d z hm =>
          cases hl1 with
          | nil => cases ho
          | cons a2 v2 l2 r2 q2 hl2 =>
            cases q2 with
            | bool c =>
              cases hl2 with
              | nil => exact .cons _ _ _ _ (.ptr A i b d z (onlyM_in ho hm)) (.cons _ _ _ _ (.bool c) .nil)
              | cons _ _ _ _ _ _ => cases ho
            | _ => cases ho
        | _ => cases ho
    | _ => cases ho
  | _ => cases ho
theorem BR.only {L : List (Nat × ABlk)} {f : Nat} {b : ABlk} {p : Nat × Nat × Nat} (hf : ρ' 10 = ρ f) (h : BR ρ m w b p) (ho : okB L (renB f b) = true) : BR ρ' (onlyM m L) w (renB f b) p := by
  cases b with
  | cells c n e frz odd =>
    obtain ⟨arr, lo, hi, h1, h2, h3, h4, h5, h6⟩ := h
    refine ⟨arr, lo, hi, h1, h2, h3, fun i a hi => ?_, h5, h6⟩
    obtain ⟨q1, q2, v, q3, q4⟩ := h4 i a hi
    have hk : okV L a = true := by
      have ho' : (bif okTr L c.t then okVs L c.d else false) = true := ho
      cases ht : okTr L c.t with
      | false => rw [ht] at ho'; cases ho'
      | true => rw [ht, cond_true] at ho'; exact okCT ht ho' hi
    exact ⟨q1, q2, v, q3, q4.only hk⟩
  | map es clk =>
    obtain ⟨es', h1, h2, h3⟩ := h
    refine ⟨es', h1, h2, fun i k v b hi => ?_⟩
    obtain ⟨en, q1, q2, q3, q4⟩ := h3 i k v b hi
    have hk := okEs_mem (L := L) (l := es) ho _ (List.mem_of_getElem? hi)
    exact ⟨en, q1, q2, q3.only hk.1, q4.only hk.2⟩
  | abs k =>
    obtain ⟨h1, o, h2, h3⟩ := h
    have hr : renB f (.abs k) = bif Nat.beq k f then .abs 10 else .abs (k + 11) := rfl
    rw [hr] at ho ⊢
    cases hk : Nat.beq k f with
    | true =>
      rw [cond_true]
      have hk : k = f := by simpa using hk
      refine ⟨h1, o, h2, ?_⟩
      rw [hf, ← hk]; exact h3
    | false =>
      rw [hk, cond_false] at ho
      simp [okB] at ho
  | siter s pos => cases ho
  | miter a since seen last => cases ho
  | mforce _ _ _ _ _ _ => cases ho
  | dead => cases ho
theorem renB_dead (f : Nat) (b : ABlk) : isDead (renB f b) = isDead b := by
  cases b with
  | abs k =>
    have hr : renB f (.abs k) = bif Nat.beq k f then .abs 10 else .abs (k + 11) := rfl
    rw [hr]; cases Nat.beq k f <;> rfl
  | _ => rfl
/-- the state becomes one of the list's blocks -/
theorem Stands.focus {st : ASt} {L : List (Nat × ABlk)} {f : Nat} {nx : Nat} (hf : ρ' 10 = ρ f) (h : Rel ρ w0 base m st.heap.get w) (hs : subSt f st L = true) (ho : allOk2 L L = true) (hn : ∀ p ∈ L, p.1 < nx) : Stands ρ' w0 base (stL L nx) (onlyM m L) w := by
  refine ⟨⟨fun A b hb => ?_, fun A B a b p q ha hb hda hdb hne hp hq => ?_, h.old, h.le⟩, fun A hA => ?_⟩
  · have hm := trOf_get hb
    obtain ⟨b0, g1, g2⟩ := subSt_get hs _ hm
    simp only at g1 g2
    obtain ⟨p, e1, e2, e3⟩ := h.blk A b0 g1
    refine ⟨p, onlyM_in (inL_mem hm) e1, e2, ?_⟩
    rw [← g2]
    exact e3.only hf (by rw [g2]; exact allOk2_get ho _ hm)
  · obtain ⟨a0, g1, g2⟩ := subSt_get hs _ (trOf_get ha)
    obtain ⟨b0, g3, g4⟩ := subSt_get hs _ (trOf_get hb)
    simp only at g1 g2 g3 g4
    have e1 : m A = some p := by
      unfold onlyM at hp; rw [inL_mem (trOf_get ha)] at hp; exact hp
    have e2 : m B = some q := by
      unfold onlyM at hq; rw [inL_mem (trOf_get hb)] at hq; exact hq
    exact h.sep A B a0 b0 p q g1 g3 (by rw [← renB_dead f, g2]; exact hda) (by rw [← renB_dead f, g4]; exact hdb) hne e1 e2
  · unfold onlyM
    cases hc : inL A L with
    | false => rfl
    | true =>
      have : ∀ {M : List (Nat × ABlk)}, (∀ p ∈ M, p.1 < nx) → inL A M = true → A < nx := by
        intro M
        induction M with
        | nil => intro _ h; cases h
        | cons p M ih =>
          intro hM hi
          unfold inL at hi
          cases hb : Nat.beq p.1 A with
          | true => have := hM p (by simp); have h2 : p.1 = A := by simpa using hb
                    omega
          | false => rw [hb, cond_false] at hi; exact ih (fun q hq => hM q (by simp [hq])) hi
      have h1 := this hn hc
      have h2 : nx ≤ A := hA
      omega
end
end Go.Proofs.YtckmcajnhobkpaaGreatDoor.Zz
