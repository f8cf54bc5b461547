/- The executor: building values, indexing, maps. -/
import Derived.Test.YtckmcajnhobkpaaGreatDoorExK
set_option linter.unusedVariables false
set_option linter.unusedSimpArgs false
set_option linter.deprecated false
namespace Go.Proofs.YtckmcajnhobkpaaGreatDoor.Zz
open Go Go.RowKit

section
variable {P : Program} {ρ : Nat → Value} {w0 : World} {base : Nat} {m : BMap}
/-- the temporaries -/
def TmR (ρ : Nat → Value) (m : BMap) (tm : Tm) (a : Act) : Prop := ∀ t, match tm.get t with
  | some (some x) => ∃ v, a.tmps[t]? = some v ∧ VR ρ m x v
  | some none => True
  | none => a.tmps.getD t undef = undef
theorem TmR.ext {m' : BMap} {tm : Tm} {a : Act} (h : TmR ρ m tm a) (he : Ext m m') : TmR ρ m' tm a := fun t => by
  have := h t
  cases e : tm.get t with
  | none => rw [e] at this; exact this
  | some x =>
    rw [e] at this
    cases x with
    | none => trivial
    | some x => obtain ⟨v, h1, h2⟩ := this; exact ⟨v, h1, h2.ext he⟩
theorem aval_ok {tm : Tm} {a : Act} {x : Operand} {y : AV} (h : aval tm x = some y) (ht : TmR ρ m tm a) : VR ρ m y (a.eval x) := by
  cases x with
  | tmp t =>
    have := ht t
    simp only [aval] at h
    cases e : tm.get t with
    | none =>
      rw [e] at h this
      cases h
      simp only at this
      show VR ρ m undefA (a.tmps.getD t undef)
      rw [this]
      exact .tup _ _ .nil
    | some z =>
      rw [e] at h this
      cases z with
      | none => cases h
      | some z =>
      cases h
      obtain ⟨v, h1, h2⟩ := this
      have : a.tmps.getD t undef = v := by simp [Array.getD_eq_getD_getElem?, h1]
      show VR ρ m y (a.tmps.getD t undef)
      rw [this]; exact h2
  | const v => exact ofV_ok h
  | global g => cases h
  | func f => cases h; exact .fn _ _ _ _ _ .nil .nil
theorem avals_ok {tm : Tm} {a : Act} (ht : TmR ρ m tm a) : ∀ {l : List Operand} {r : List AV}, avals tm l = some r → LR ρ m r (l.map a.eval)
  | [], r, h => by cases h; exact .nil
  | x :: l, r, h => by
    unfold avals at h
    cases h1 : aval tm x with
    | none => rw [h1] at h; cases h
    | some y =>
      rw [h1] at h
      simp only at h
      cases h2 : avals tm l with
      | none => rw [h2] at h; cases h
      | some r' => rw [h2] at h; cases h; exact .cons _ _ _ _ (aval_ok h1 ht) (avals_ok ht h2)
theorem oAval_ok {tm : Tm} {a : Act} {x : Option Operand} {y : Option AV} (h : oAval tm x = some y) (ht : TmR ρ m tm a) : VRo ρ m y (x.map a.eval) := by
  cases x with
  | none => cases h; trivial
  | some x =>
    simp only [oAval] at h
    cases h1 : aval tm x with
    | none => rw [h1] at h; cases h
    | some z => rw [h1] at h; cases h; exact aval_ok h1 ht

/-! ### building -/
theorem foldl_fill : ∀ (l : List Value) (j off : Nat) (cs : Array Value), off + j + l.length ≤ cs.size →
    ((l.zipIdx j).foldl (fun cs (p : Value × Nat) => cs.setIfInBounds (off + p.2) p.1) cs).toList = cs.toList.take (off + j) ++ l ++ cs.toList.drop (off + j + l.length)
  | [], j, off, cs, h => by simp
  | v :: l, j, off, cs, h => by
    simp only [List.length_cons] at h
    rw [List.zipIdx_cons, List.foldl_cons, foldl_fill l (j + 1) off _ (by simp; omega)]
    simp only [Array.toList_setIfInBounds, List.length_cons]
    have h1 : off + (j + 1) = off + j + 1 := by omega
    rw [h1]
    have hlt : off + j < cs.toList.length := by simp; omega
    rw [List.take_add_one, List.getElem?_set_self hlt]
    rw [show (cs.toList.set (off + j) v).take (off + j) = cs.toList.take (off + j) by rw [List.take_set_of_le (Nat.le_refl _)]]
    rw [show (cs.toList.set (off + j) v).drop (off + j + 1 + l.length) = cs.toList.drop (off + j + 1 + l.length) by rw [List.drop_set_of_lt (by omega)]]
    simp
    omega
theorem fill_ok {place : Nat → Option (Nat × Nat)} : ∀ (ps : List (Nat × Value)) (l : List (Nat × List AV)) (cs : Array Value) (as0 rs : List AV), ps.length = l.length →
    (∀ (k i : Nat) (v : Value) (off : Nat) (al : List AV), ps[k]? = some (i, v) → l[k]? = some (off, al) → place i = some (off, al.length) ∧ LR ρ m al v.cells.toList) →
    LR ρ m as0 cs.toList → fillA as0 l = some rs → ∃ r, Instr.fill place cs ps = some r ∧ LR ρ m rs r.toList
  | [], [], cs, as0, rs, _, _, h, hr => by cases hr; exact ⟨cs, rfl, h⟩
  | [], _ :: _, _, _, _, h, _, _, _ => by cases h
  | _ :: _, [], _, _, _, h, _, _, _ => by cases h
  | (i, v) :: ps, (off, al) :: l, cs, as0, rs, hl, hp, h, hr => by
    obtain ⟨h1, h2⟩ := hp 0 i v off al rfl rfl
    unfold fillA at hr
    cases hc : Nat.ble (off + al.length) as0.length with
    | false => rw [hc] at hr; cases hr
    | true =>
      rw [hc, cond_true] at hr
      have hc' : off + al.length ≤ as0.length := by simpa using hc
      have hlen := h.length
      have hal := h2.length
      simp only [Array.length_toList] at hlen hal
      have hfill : Instr.fill place cs ((i, v) :: ps) = Instr.fill place (v.cells.zipIdx.foldl (fun cs (p : Value × Nat) => cs.setIfInBounds (off + p.2) p.1) cs) ps := by
        simp only [Instr.fill, h1]
        rw [if_neg (by simp [← hal]; omega)]
      have hfold : (v.cells.zipIdx.foldl (fun cs (p : Value × Nat) => cs.setIfInBounds (off + p.2) p.1) cs).toList = cs.toList.take off ++ v.cells.toList ++ cs.toList.drop (off + al.length) := by
        have := foldl_fill v.cells.toList 0 off cs (by simp; omega)
        rw [← Array.foldl_toList, Array.toList_zipIdx]
        rw [this, hal]; simp
      obtain ⟨r, e1, e2⟩ := fill_ok ps l _ _ rs (by simpa using hl) (fun k i v off al a b => hp (k + 1) i v off al (by simpa using a) (by simpa using b)) (by rw [hfold]; exact ((h.take off).append h2).append (h.drop _)) hr
      exact ⟨r, by rw [hfill]; exact e1, e2⟩
end
end Go.Proofs.YtckmcajnhobkpaaGreatDoor.Zz
