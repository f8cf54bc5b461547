/- FdsShare's beginning: a tree, a tape, a file, two sets: what the executor says of them. -/
import Derived.Test.YtgooohccndjjdaaGreatDoorShB
import Derived.Test.YtgooohccndjjdaaGreatDoorExZ
namespace Go.Proofs.YtgooohccndjjdaaGreatDoor
open Go.RowKit IntWalk
set_option linter.unusedVariables false
set_option linter.unusedSimpArgs false

/-- one call behind others -/
def notPan : Zz.AV → Bool
  | .pan _ => false
  | _ => true
/-- the numbers go on -/
def leA (a b : Zz.ASt) : Bool := Nat.ble a.next b.next
theorem stands_call {P : Program} {ρ : Nat → Value} {w0 : World} {base : Nat} {H : Zz.Hooks} (hm : P.follows .mixedOrders = true) (hq : Zz.Opq ρ) (hH : Zz.HookOk P ρ w0 base H) (hFH : Zz.FrH H) (n : Nat) {f : FuncId} {args : List Zz.AV} {us : Array Value} {st st' : Zz.ASt} {m : Zz.BMap} {w : World} {v : Zz.AV}
    (hs : Zz.Stands ρ w0 base st m w) (hc : (Zz.exec P H n).call f args st = some (v, st')) (hle : leA st st' = true) (hl : Zz.LR ρ m args us.toList) (hp : notPan v = true) :
    Calls P f us w fun e w' => ∃ m' v', e = .returned v' ∧ Zz.VR ρ m' v v' ∧ Zz.Ext m m' ∧ Zz.Stands ρ w0 base st' m' w' := by
  have hle' : st.next ≤ st'.next := by simpa [leA] using hle
  refine (Zz.exec_calls hm hq hH hFH n f args us m st w v st' hc hs.rel (fun A h1 _ => hs.new A h1) hl).mono ?_
  rintro e w' ⟨m', hE, hD, hR, he⟩
  rcases he with ⟨v', rfl, hv⟩ | ⟨x, u, rfl, _⟩
  · refine ⟨m', v', rfl, hv, hE, hR, fun A hA => ?_⟩
    cases hmA : m' A with
    | none => rfl
    | some p =>
      have := (hD A (hs.new A (by omega)) (by rw [hmA]; simp)).2
      omega
  · cases hp
theorem stands_zero (ρ : Nat → Value) (w : World) : Zz.Stands ρ w w.heap.size Zz.st0 (fun _ => none) w :=
  ⟨⟨fun A b hb => (by rw [show Zz.st0.heap.get A = none from rfl] at hb; cases hb), fun A B a b p q ha => (by rw [show Zz.st0.heap.get A = none from rfl] at ha; cases ha), Below.refl _ _, Nat.le_refl _⟩, fun _ _ => rfl⟩
theorem stands_drewN {ρ : Nat → Value} {w0 : World} {base : Nat} {st : Zz.ASt} {m : Zz.BMap} {w : World} (h : Zz.Stands ρ w0 base st m w) (n : Nat) : Zz.Stands ρ w0 base st m (w.drewN n) := ⟨h.rel.same_heap rfl rfl rfl rfl, h.new⟩
/-- a pointer that is told -/
theorem vr_ptr {ρ : Nat → Value} {w0 w : World} {base : Nat} {st : Zz.ASt} {m : Zz.BMap} {A : Nat} {v : Value} (h : Zz.Stands ρ w0 base st m w) (hx : Zz.exactB (st.heap.get A) = true) (hv : Zz.VR ρ m (.ptr A 0) v) : v = ptrTo (Zz.bm m A) ∧ ∃ z, m A = some (Zz.bm m A, 0, z) := by
  obtain ⟨z, hz⟩ := h.rel.exact hx
  refine ⟨?_, z, hz⟩
  cases hv with
  | ptr A i b d z' hm =>
    rw [hz] at hm
    cases hm
    rfl
theorem bm_ext {m m' : Zz.BMap} (h : Zz.Ext m m') {A : Nat} {p : Nat × Nat × Nat} (hm : m A = some p) : Zz.bm m' A = Zz.bm m A := by
  unfold Zz.bm
  rw [hm, h _ _ hm]
theorem lr_ptr {ρ : Nat → Value} {m : Zz.BMap} {A b z : Nat} (hm : m A = some (b, 0, z)) : Zz.VR ρ m (.ptr A 0) (ptrTo b) := Zz.VR.ptr A 0 b 0 z hm
/-- a row, a map of the executor's: what it is -/
def rowIs (st : Zz.ASt) (A : Nat) (l : List Zz.AV) (e : TypeId) : Bool := match Zz.rowA st A with
  | some (l', e') => Zz.eqAVs l' l && Nat.beq e' e
  | none => false
def eqEs : List (Zz.AV × Zz.AV × Nat) → List (Zz.AV × Zz.AV × Nat) → Bool
  | [], [] => true
  | (a, b, n) :: l, (c, d, k) :: r => Zz.eqAV a c && (Zz.eqAV b d && (Nat.beq n k && eqEs l r))
  | _, _ => false
def mapIs (st : Zz.ASt) (A : Nat) (l : List (Zz.AV × Zz.AV × Nat)) (c : Nat) : Bool := match Zz.mapA st A with
  | some (l', c') => eqEs l' l && Nat.beq c' c
  | none => false
theorem eqEs_eq : ∀ {l r : List (Zz.AV × Zz.AV × Nat)}, eqEs l r = true → l = r
  | [], [], _ => rfl
  | [], _ :: _, h => by cases h
  | _ :: _, [], h => by cases h
  | (a, b, n) :: l, (c, d, k) :: r, h => by
    simp only [eqEs, Bool.and_eq_true] at h
    obtain ⟨h1, h2, h3, h4⟩ := h
    rw [Zz.eqAV_eq h1, Zz.eqAV_eq h2, Nat.eq_of_beq_eq_true h3, eqEs_eq h4]
theorem row_of {st : Zz.ASt} {A : Nat} {l : List Zz.AV} {e : TypeId} (h : rowIs st A l e = true) : Zz.rowA st A = some (l, e) := by
  unfold rowIs at h
  split at h
  · rename_i l' e' he
    simp only [Bool.and_eq_true] at h
    rw [he, Zz.eqAVs_eq h.1, Nat.eq_of_beq_eq_true h.2]
  · cases h
theorem map_of {st : Zz.ASt} {A : Nat} {l : List (Zz.AV × Zz.AV × Nat)} {c : Nat} (h : mapIs st A l c = true) : Zz.mapA st A = some (l, c) := by
  unfold mapIs at h
  split at h
  · rename_i l' e' he
    simp only [Bool.and_eq_true] at h
    rw [he, eqEs_eq h.1, Nat.eq_of_beq_eq_true h.2]
  · cases h

/-! ### the four calls -/
noncomputable def shH : Zz.Hooks := ⟨Zz.hookOf [(107, Zz.hCount), (129, Zz.hIndexByte)], Zz.noOra⟩
noncomputable def shE := (Zz.exec Tryz.prog shH 400).call
def stOf (r : Option (Zz.AV × Zz.ASt)) : Zz.ASt := match r with
  | some (_, s) => s
  | none => Zz.st0
def isV (r : Option (Zz.AV × Zz.ASt)) (v : Zz.AV) : Bool := match r with
  | some (x, _) => Zz.eqAV x v
  | none => false
theorem isV_eq {r : Option (Zz.AV × Zz.ASt)} {v : Zz.AV} (h : isV r v = true) : r = some (v, stOf r) := by
  unfold isV at h
  split at h
  · rename_i x s
    rw [Zz.eqAV_eq h]; rfl
  · cases h
noncomputable def shR1 := shE 5 [.int .i64 9, .int .i64 64] Zz.st0
noncomputable def shR2 := shE 7 [.ptr 1011 0, .int .i64 0, .opq 0] (stOf shR1)
noncomputable def shR3 := shE 8 [.ptr 1011 0, .int .i64 1, .str [97], .int .i64 10] (stOf shR2)
noncomputable def shR4 := shE 9 [.ptr 1011 0] (stOf shR3)
theorem sh_v1 : (isV shR1 (.tup [.ptr 1005 0, .ptr 1010 0, .ptr 1011 0]) && (Zz.exactB ((stOf shR1).heap.get 1005) && (Zz.exactB ((stOf shR1).heap.get 1010) && (Zz.exactB ((stOf shR1).heap.get 1011) && leA Zz.st0 (stOf shR1))))) = true := by kernel_rfl
theorem sh_v2 : (isV shR2 (.int .i64 0) && leA (stOf shR1) (stOf shR2)) = true := by kernel_rfl
theorem sh_v3 : (isV shR3 (.tup [.int .i64 1, .int .i64 0]) && leA (stOf shR2) (stOf shR3)) = true := by kernel_rfl
theorem sh_v4 : (isV shR4 (.ptr 1026 0) && (leA (stOf shR3) (stOf shR4) && Zz.exactB ((stOf shR4).heap.get 1026))) = true := by kernel_rfl
def ptrs (n : Nat) : List Zz.AV := List.replicate n .ptr0
def b0A : List Zz.AV := (List.replicate 64 (.bool false :: List.replicate 64 (.int .u8 0))).flatten
set_option maxRecDepth 10000000 in
theorem sh_s4a : (rowIs (stOf shR4) 1000 b0A 155 && (rowIs (stOf shR4) 1001 [.sl 1000 0 64 64 65 true, .int .i64 64] 158)) = true := by kernel_rfl
theorem sh_s4b : (rowIs (stOf shR4) 1002 ([.ptr 1007 0, .ptr 1023 0] ++ ptrs 7) 123 && (rowIs (stOf shR4) 1003 [.sl 1002 0 9 9 1 true, .ptr 1001 0] 136 && (rowIs (stOf shR4) 1005 [.ptr 1003 0, .map 1004] 94 && (rowIs (stOf shR4) 1007 [.int .i64 1, .int .i64 0, .int .i64 2, .int .i64 0, .map 1006] 130 && rowIs (stOf shR4) 1023 [.int .i64 1, .int .i64 1, .int .i64 1, .int .i64 0, .map 1022] 130)))) = true := by kernel_rfl
theorem sh_s4c : (mapIs (stOf shR4) 1004 [(.int .i64 1, .ptr 1009 0, 0)] 1 && (mapIs (stOf shR4) 1006 [] 0 && (mapIs (stOf shR4) 1022 [] 0 && (mapIs (stOf shR4) 1008 [(.str [97], .int .i64 2, 0)] 1 && rowIs (stOf shR4) 1009 [.map 1008, .int .i64 1] 103)))) = true := by kernel_rfl
theorem sh_s4d : (rowIs (stOf shR4) 1011 ([.ptr 1010 0, .ptr 1013 0, .ptr 1025 0] ++ ptrs 14) 76 && (rowIs (stOf shR4) 1026 ([.ptr 1010 0, .ptr 1013 0, .ptr 1025 0] ++ ptrs 14) 76 && (rowIs (stOf shR4) 1013 [.ifc 63 (.ptr 1012 0), .int .i64 2] 84 && rowIs (stOf shR4) 1025 [.ifc 67 (.ptr 1024 0), .int .i64 2] 84))) = true := by kernel_rfl
theorem sh_s4e : (rowIs (stOf shR4) 1012 [.opq 0] 65 && rowIs (stOf shR4) 1024 [.ptr 1005 0, .int .i64 2, .int .i64 0, .int .i64 10, .bool false] 119) = true := by kernel_rfl
end Go.Proofs.YtgooohccndjjdaaGreatDoor
