/- The executor: values and types. -/
import Derived.Test.YtckmcajnhobkpaaGreatDoorExD
set_option linter.unusedVariables false
set_option linter.unusedSimpArgs false
set_option linter.deprecated false
namespace Go.Proofs.YtckmcajnhobkpaaGreatDoor.Zz
open Go Go.RowKit

section
variable {P : Program} {ρ : Nat → Value} {w0 : World} {base : Nat} {m : BMap}
theorem run_und {t : TypeId} {d : TypeDesc} (h : P.underlying t = some d) (w : World) : (underlying t).run P w = .ok d w := by
  simp [underlying, program, Sem.run, h]
theorem run_info {t : TypeId} {i : TypeInfo} (h : P.info? t = some i) (w : World) : (typeInfo t).run P w = .ok i w := by
  simp [typeInfo, program, Sem.run, h]
theorem run_size {t : TypeId} {n : Nat} (h : sizeT P t = some n) (w : World) : (Go.sizeOf t).run P w = .ok n w := by
  unfold sizeT at h
  cases hi : P.info? t with
  | none => rw [hi] at h; cases h
  | some i =>
    rw [hi] at h; cases h
    simp [Go.sizeOf, run_info hi]
theorem ofCell_ok {v : Value} {a : AV} (h : ofCell v = some a) : VR ρ m a v := by
  unfold ofCell at h
  split at h <;> cases h
  · exact .int _ _
  · exact .bool _
  · rename_i s
    have := VR.str (ρ := ρ) (m := m) s.data.toList
    simpa using this
  · exact .ptr0
  · exact .sl0
  · exact .map0
  · exact .fn0
  · exact .ifc0
theorem ofCells_ok : ∀ {r : List Value} {l : List AV}, ofCells r = some l → LR ρ m l r
  | [], l, h => by cases h; exact .nil
  | v :: r, l, h => by
    unfold ofCells at h
    cases h1 : ofCell v with
    | none => rw [h1] at h; cases h
    | some a =>
      rw [h1] at h
      simp only at h
      cases h2 : ofCells r with
      | none => rw [h2] at h; cases h
      | some l' => rw [h2] at h; cases h; exact .cons _ _ _ _ (ofCell_ok h1) (ofCells_ok h2)
theorem ofV_ok {v : Value} {a : AV} (h : ofV v = some a) : VR ρ m a v := by
  unfold ofV at h
  split at h
  · rename_i u
    cases h2 : ofCells u.toList with
    | none => rw [h2] at h; cases h
    | some l => rw [h2] at h; cases h; exact .agg _ _ (ofCells_ok h2)
  · rename_i u
    cases h2 : ofCells u.toList with
    | none => rw [h2] at h; cases h
    | some l => rw [h2] at h; cases h; exact .tup _ _ (ofCells_ok h2)
  · exact ofCell_ok h
theorem run_zero {t : TypeId} {a : AV} (h : zeroT P t = some a) : ∃ v, (∀ w, (zeroValue t).run P w = .ok v w) ∧ ∀ (ρ : Nat → Value) (m : BMap), VR ρ m a v := by
  unfold zeroT at h
  cases hi : P.info? t with
  | none => rw [hi] at h; cases h
  | some i =>
    rw [hi] at h
    simp only at h
    cases hz : i.zero with
    | none => rw [hz] at h; cases h
    | some v =>
      rw [hz] at h
      exact ⟨v, fun w => by simp [zeroValue, run_info hi, hz], fun ρ m => ofV_ok h⟩
theorem run_isAgg {t : TypeId} {b : Bool} (h : isAggT P t = some b) (w : World) : (isAgg t).run P w = .ok b w := by
  unfold isAggT at h
  cases hd : P.underlying t with
  | none => rw [hd] at h; cases h
  | some d =>
    rw [hd] at h
    cases d <;> (simp at h; subst h; simp [isAgg, run_und hd])
theorem loadT_ok {t : TypeId} {A i b d z : Nat} (hp : m A = some (b, d, z)) : Ok P ρ w0 base (VRr ρ) m (loadT P t A i) (loadVar t ⟨b, d + i, none⟩) := by
  unfold loadT
  cases hb : isAggT P t with
  | none => exact Ok.fail
  | some r =>
    cases r with
    | false => exact Ok.congr (fun w => by simp [loadVar, run_isAgg hb]) (load1_ok hp)
    | true =>
      refine Ok.opt (fun n hn => ?_)
      refine Ok.congr (s' := loadCells ⟨b, d + i, none⟩ n >>= fun x => pure (.agg x)) (fun w => by simp [loadVar, run_isAgg hb, run_size hn]) ?_
      exact Ok.bnd (Fr.loadC _ _ _) (fun _ => Fr.ret _) (loadC_ok hp) (fun l x m' _ hl => Ok.ret (fun w => rfl) (.agg _ _ hl))
theorem storeT_ok {t : TypeId} {A i b d z : Nat} {x : AV} {v : Value} (hq : Opq ρ) (hp : m A = some (b, d, z)) (hv : VR ρ m x v) : Ok P ρ w0 base (fun _ _ (_ : Unit) => True) m (storeT P t A i x) (storeVar t ⟨b, d + i, none⟩ v) := by
  unfold storeT
  refine Ok.opt (fun n hn => ?_)
  refine Ok.cond (fun hc => ?_) (fun _ => Ok.fail)
  have hl := hv.cells hq
  have hs : v.cells.size = n := by
    have := hl.length
    simp only [Nat.beq_eq] at hc
    rw [← hc, this]; simp
  refine Ok.congr (fun w => ?_) (storeC_ok hq hp hl)
  simp [storeVar, run_size hn, hs]
theorem partT_ok {t : TypeId} {l : List AV} {off : Nat} {cs : Array Value} (hl : LR ρ m l cs.toList) : Ok P ρ w0 base (VRr ρ) m (partT P t l off) (part t cs off) := by
  unfold partT
  cases hb : isAggT P t with
  | none => exact Ok.fail
  | some r =>
    cases r with
    | false =>
      refine Ok.optr (fun a ha => ?_)
      obtain ⟨v, h1, h2⟩ := hl.get ha
      rw [Array.getElem?_toList] at h1
      exact Ok.ret (fun w => by simp [part, run_isAgg hb, h1]) h2
    | true =>
      refine Ok.opt (fun n hn => ?_)
      refine Ok.ret (b := .agg (cs.extract off (off + n))) (fun w => by simp [part, run_isAgg hb, run_size hn]) (.agg _ _ ?_)
      have := (hl.drop off).take n
      rw [Array.toList_extract, List.extract_eq_drop_take]
      simpa using this
/-! ### arithmetic -/
theorem wrapA_eq (k : IntKind) (n : Int) : wrapA k n = k.wrap n := by
  unfold wrapA
  cases h : inK k n with
  | false => rfl
  | true =>
    rw [cond_true]
    have e1 : (2 : Int) ^ 64 = 18446744073709551616 := by decide
    have e2 : (2 : Int) ^ 63 = 9223372036854775808 := by decide
    have e3 : (2 : Int) ^ 32 = 4294967296 := by decide
    have e4 : (2 : Int) ^ 31 = 2147483648 := by decide
    have e5 : (2 : Int) ^ 8 = 256 := by decide
    unfold inK at h
    split at h
    all_goals first | (cases h; done) | skip
    all_goals
      rw [Nat.blt_eq] at h
      simp only [IntKind.wrap, IntKind.bits, IntKind.signed, e1, e2, e3, e4, e5, Int.ofNat_eq_natCast, Nat.reduceSub, Bool.true_and, Bool.false_and, Bool.false_eq_true, if_false, decide_eq_true_eq]
      first
        | (split <;> omega)
        | omega
end
end Go.Proofs.YtckmcajnhobkpaaGreatDoor.Zz
