/- Texts of one proof, packed: FeT, FeU -/
import Derived.Test.YtomjjedgmnkciaaGreatDoorP10
import Derived.Test.YtomjjedgmnkciaaGreatDoorP15
set_option linter.unusedVariables false
set_option linter.unusedSimpArgs false
set_option linter.deprecated false
set_option linter.unnecessarySimpa false
/- FdsEnds: its beginning and its awake, by the executor. -/
namespace Go.Proofs.YtomjjedgmnkciaaGreatDoor
open Go.RowKit IntWalk
set_option linter.unusedVariables false
set_option linter.unusedSimpArgs false

/-- one call behind others -/
def notPan : Zz.AV → Bool
  | .pan _ => false
  | _ => true
/-- the numbers go on -/
def leA (a b : Zz.ASt) : Bool := Nat.ble a.next b.next
theorem stands_call {P : Program} {ρ : Nat → Value} {w0 : World} {base : Nat} {H : Zz.Hooks} (hm : P.follows .mixedOrders = true) (hq : Zz.Opq ρ) (hH : Zz.HookOk P ρ w0 base H) (hFH : Zz.FrH H) (n : Nat) {f : FuncId} {args : List Zz.AV} {us : Array Value} {st st' : Zz.ASt} {m : Zz.BMap} {w : World} {v : Zz.AV}
    (hs : Zz.Stands ρ w0 base st m w) (hc : (Zz.exec P H n).call f args st = some (v, st')) (hle : leA st st' = true) (hl : Zz.LR ρ m args us.toList) (hp : notPan v = true) :
    Calls P f us w fun e w' => ∃ m' v', e = .returned v' ∧ Zz.VR ρ m' v v' ∧ Zz.Ext m m' ∧ Zz.Stands ρ w0 base st' m' w' := by
  have hle' : st.next ≤ st'.next := by simpa [leA] using hle
  refine (Zz.exec_calls hm hq hH hFH n f args us m st w v st' hc hs.rel (fun A h1 _ => hs.new A h1) hl).mono ?_
  rintro e w' ⟨m', hE, hD, hR, he⟩
  rcases he with ⟨v', rfl, hv⟩ | ⟨x, u, rfl, _⟩
  · refine ⟨m', v', rfl, hv, hE, hR, fun A hA => ?_⟩
    cases hmA : m' A with
    | none => rfl
    | some p =>
      have := (hD A (hs.new A (by omega)) (by rw [hmA]; simp)).2
      omega
  · cases hp
theorem stands_zero (ρ : Nat → Value) (w : World) : Zz.Stands ρ w w.heap.size Zz.st0 (fun _ => none) w :=
  ⟨⟨fun A b hb => (by rw [show Zz.st0.heap.get A = none from Zz.Hp.get_lf A] at hb; cases hb), fun A B a b p q ha => (by rw [show Zz.st0.heap.get A = none from Zz.Hp.get_lf A] at ha; cases ha), Below.refl _ _, Nat.le_refl _⟩, fun _ _ => rfl⟩
theorem stands_drewN {ρ : Nat → Value} {w0 : World} {base : Nat} {st : Zz.ASt} {m : Zz.BMap} {w : World} (h : Zz.Stands ρ w0 base st m w) (n : Nat) : Zz.Stands ρ w0 base st m (w.drewN n) := ⟨h.rel.same_heap rfl rfl rfl rfl, h.new⟩
/-- a pointer that is told -/
theorem vr_ptr {ρ : Nat → Value} {w0 w : World} {base : Nat} {st : Zz.ASt} {m : Zz.BMap} {A : Nat} {v : Value} (h : Zz.Stands ρ w0 base st m w) (hx : Zz.exactB (st.heap.get A) = true) (hv : Zz.VR ρ m (.ptr A 0) v) : v = ptrTo (Zz.bm m A) ∧ ∃ z, m A = some (Zz.bm m A, 0, z) := by
  obtain ⟨z, hz⟩ := h.rel.exact hx
  refine ⟨?_, z, hz⟩
  cases hv with
  | ptr A i b d z' hm =>
    rw [hz] at hm
    cases hm
    rfl
theorem bm_ext {m m' : Zz.BMap} (h : Zz.Ext m m') {A : Nat} {p : Nat × Nat × Nat} (hm : m A = some p) : Zz.bm m' A = Zz.bm m A := by
  unfold Zz.bm
  rw [hm, h _ _ hm]
theorem lr_ptr {ρ : Nat → Value} {m : Zz.BMap} {A b z : Nat} (hm : m A = some (b, 0, z)) : Zz.VR ρ m (.ptr A 0) (ptrTo b) := Zz.VR.ptr A 0 b 0 z hm
/-- a row, a map of the executor's: what it is -/
def rowIs (st : Zz.ASt) (A : Nat) (l : List Zz.AV) (e : TypeId) : Bool := match Zz.rowA st A with
  | some (l', e') => Zz.eqAVs l' l && Nat.beq e' e
  | none => false
def eqEs : List (Zz.AV × Zz.AV × Nat) → List (Zz.AV × Zz.AV × Nat) → Bool
  | [], [] => true
  | (a, b, n) :: l, (c, d, k) :: r => Zz.eqAV a c && (Zz.eqAV b d && (Nat.beq n k && eqEs l r))
  | _, _ => false
def mapIs (st : Zz.ASt) (A : Nat) (l : List (Zz.AV × Zz.AV × Nat)) (c : Nat) : Bool := match Zz.mapA st A with
  | some (l', c') => eqEs l' l && Nat.beq c' c
  | none => false
theorem eqEs_eq : ∀ {l r : List (Zz.AV × Zz.AV × Nat)}, eqEs l r = true → l = r
  | [], [], _ => rfl
  | [], _ :: _, h => by cases h
  | _ :: _, [], h => by cases h
  | (a, b, n) :: l, (c, d, k) :: r, h => by
    simp only [eqEs, Bool.and_eq_true] at h
    obtain ⟨h1, h2, h3, h4⟩ := h
    rw [Zz.eqAV_eq h1, Zz.eqAV_eq h2, Nat.eq_of_beq_eq_true h3, eqEs_eq h4]
theorem row_of {st : Zz.ASt} {A : Nat} {l : List Zz.AV} {e : TypeId} (h : rowIs st A l e = true) : Zz.rowA st A = some (l, e) := by
  unfold rowIs at h
  split at h
  · rename_i l' e' he
    simp only [Bool.and_eq_true] at h
    rw [he, Zz.eqAVs_eq h.1, Nat.eq_of_beq_eq_true h.2]
  · cases h
theorem map_of {st : Zz.ASt} {A : Nat} {l : List (Zz.AV × Zz.AV × Nat)} {c : Nat} (h : mapIs st A l c = true) : Zz.mapA st A = some (l, c) := by
  unfold mapIs at h
  split at h
  · rename_i l' e' he
    simp only [Bool.and_eq_true] at h
    rw [he, eqEs_eq h.1, Nat.eq_of_beq_eq_true h.2]
  · cases h

/-! ### the two calls -/
noncomputable def shH : Zz.Hooks := ⟨Zz.hookOf [(126, Zz.hCount), (130, Zz.hIndexByte)], Zz.noOra⟩
noncomputable def shE := (Zz.exec Tryz.prog shH 400).call
def stOf (r : Option (Zz.AV × Zz.ASt)) : Zz.ASt := match r with
  | some (_, s) => s
  | none => Zz.st0
def isV (r : Option (Zz.AV × Zz.ASt)) (v : Zz.AV) : Bool := match r with
  | some (x, _) => Zz.eqAV x v
  | none => false
theorem isV_eq {r : Option (Zz.AV × Zz.ASt)} {v : Zz.AV} (h : isV r v = true) : r = some (v, stOf r) := by
  unfold isV at h
  split at h
  · rename_i x s
    rw [Zz.eqAV_eq h]; rfl
  · cases h
noncomputable def fdR := shE 4 [.int .i64 9, .int .i64 20] Zz.st0
noncomputable def awR := shE 6 [] Zz.st0
theorem fd_v : (isV fdR (.tup [.ptr 1005 0, .ptr 1010 0, .ptr 1011 0]) && (Zz.exactB ((stOf fdR).heap.get 1005) && (Zz.exactB ((stOf fdR).heap.get 1010) && (Zz.exactB ((stOf fdR).heap.get 1011) && leA Zz.st0 (stOf fdR))))) = true := by kernel_rfl
theorem aw_v : (isV awR (.bool true) && leA Zz.st0 (stOf awR)) = true := by kernel_rfl
def ptrs (n : Nat) : List Zz.AV := List.replicate n .ptr0
def b0A : List Zz.AV := (List.replicate 20 (.bool false :: List.replicate 64 (.int .u8 0))).flatten
set_option maxRecDepth 10000000 in
theorem fd_s4a : (rowIs (stOf fdR) 1000 b0A 195 && (rowIs (stOf fdR) 1001 [.sl 1000 0 20 20 65 true, .int .i64 20] 137)) = true := by kernel_rfl
theorem fd_s4b : (rowIs (stOf fdR) 1002 ([.ptr 1007 0] ++ ptrs 8) 93 && (rowIs (stOf fdR) 1003 [.sl 1002 0 9 9 1 true, .ptr 1001 0] 92 && (rowIs (stOf fdR) 1005 [.ptr 1003 0, .map 1004] 54 && (rowIs (stOf fdR) 1007 [.int .i64 1, .int .i64 0, .int .i64 2, .int .i64 0, .map 1006] 132)))) = true := by kernel_rfl
theorem fd_s4c : (mapIs (stOf fdR) 1004 [(.int .i64 1, .ptr 1009 0, 0)] 1 && (mapIs (stOf fdR) 1006 [] 0 && (mapIs (stOf fdR) 1008 [] 0 && rowIs (stOf fdR) 1009 [.map 1008, .int .i64 1] 79))) = true := by kernel_rfl
theorem fd_s4d : (rowIs (stOf fdR) 1011 ([.ptr 1010 0] ++ ptrs 16) 64 && rowIs (stOf fdR) 1010 [.ptr 1005 0, .int .i64 0, .sl0] 72) = true := by kernel_rfl
theorem hooks_count : Zz.IsExtern Tryz.prog 126 Extern.BytealgCount.count :=
  ⟨_, Tryz.func126, by kernel_rfl, by kernel_rfl, by kernel_rfl, by kernel_rfl⟩
theorem hooks_index : Zz.IsExtern Tryz.prog 130 Extern.BytealgIndexByte.indexByte :=
  ⟨_, Tryz.func130, by kernel_rfl, by kernel_rfl, by kernel_rfl, by kernel_rfl⟩
theorem follows_mixed : Tryz.prog.follows .mixedOrders = true := by kernel_rfl
theorem sh_hk (ρ : Nat → Value) (W : World) (base : Nat) : ∀ p ∈ ([(126, Zz.hCount), (130, Zz.hIndexByte)] : List (FuncId × (List Zz.AV → Zz.M Zz.AV))), (∀ args, Zz.Fr (p.2 args)) ∧ Zz.HookFn Tryz.prog ρ W base p.1 p.2 := fun p hp => by
  rcases List.mem_cons.1 hp with rfl | hp
  · exact Zz.hCount_ok hooks_count
  · rcases List.mem_cons.1 hp with rfl | hp
    · exact Zz.hIndexByte_ok hooks_index
    · cases hp
theorem sh_hooks (ρ : Nat → Value) (W : World) (base : Nat) : Zz.HookOk Tryz.prog ρ W base shH ∧ Zz.FrH shH := Zz.hooks_ok (sh_hk ρ W base) (fun q r h => by cases h)
def shRho (text : List UInt8) : Nat → Value := fun _ => .string ⟨text.toArray⟩
theorem sh_opq (text : List UInt8) : Zz.Opq (shRho text) := fun k => ⟨(fun _ h => by cases h), (fun _ h => by cases h)⟩
/-- the block lies as it is, from its beginning on -/
def Lay0 (m : Zz.BMap) (A : Nat) : Prop := ∃ z, m A = some (Zz.bm m A, 0, z)
theorem Lay0.ext {m m' : Zz.BMap} {A : Nat} (h : Lay0 m A) (he : Zz.Ext m m') : Lay0 m' A ∧ Zz.bm m' A = Zz.bm m A := by
  obtain ⟨z, hz⟩ := h
  have e := bm_ext he hz
  exact ⟨⟨z, by rw [e]; exact he _ _ hz⟩, e⟩
theorem stands_run {P : Program} {ρ : Nat → Value} {w0 : World} {base : Nat} {H : Zz.Hooks} (hm : P.follows .mixedOrders = true) (hq : Zz.Opq ρ) (hH : Zz.HookOk P ρ w0 base H) (hFH : Zz.FrH H) (n : Nat) {f : FuncId} {args : List Zz.AV} {us : Array Value} {st st' : Zz.ASt} {m : Zz.BMap} {w : World} {v : Zz.AV} {r : Option (Zz.AV × Zz.ASt)}
    (hs : Zz.Stands ρ w0 base st m w) (hr : r = (Zz.exec P H n).call f args st) (hc : r = some (v, st')) (hle : leA st st' = true) (hl : Zz.LR ρ m args us.toList) (hp : notPan v = true) :
    Calls P f us w fun e w' => ∃ m' v', e = .returned v' ∧ Zz.VR ρ m' v v' ∧ Zz.Ext m m' ∧ Zz.Stands ρ w0 base st' m' w' := stands_call hm hq hH hFH n hs (hr.symm.trans hc) hle hl hp
theorem fdR_def : fdR = (Zz.exec Tryz.prog shH 400).call 4 [.int .i64 9, .int .i64 20] Zz.st0 := by delta fdR shE; rfl
theorem awR_def : awR = (Zz.exec Tryz.prog shH 400).call 6 [] Zz.st0 := by delta awR shE; rfl
theorem awake_c (W : World) : Calls Tryz.prog 6 #[] W fun e w' => e = .returned (.bool true) ∧ Below W.heap.size W w' := by
  obtain ⟨hH, hF⟩ := sh_hooks (shRho []) W W.heap.size
  have hv := aw_v
  simp only [Bool.and_eq_true] at hv
  refine (stands_run follows_mixed (sh_opq []) hH hF 400 (stands_zero _ W) awR_def (isV_eq hv.1) hv.2 .nil rfl).mono ?_
  rintro e w' ⟨m', v, rfl, hv, hE, hS'⟩
  cases hv
  exact ⟨rfl, hS'.rel.old⟩
theorem begun_c (W : World) : Calls Tryz.prog 4 #[.int .i64 9, .int .i64 20] W fun e w' => ∃ m, e = .returned (.tuple #[ptrTo (Zz.bm m 1005), ptrTo (Zz.bm m 1010), ptrTo (Zz.bm m 1011)]) ∧
    Zz.Stands (shRho []) W W.heap.size (stOf fdR) m w' := by
  obtain ⟨hH, hF⟩ := sh_hooks (shRho []) W W.heap.size
  have hv := fd_v
  simp only [Bool.and_eq_true] at hv
  obtain ⟨h1, h2, h3, h4, h5⟩ := hv
  refine (stands_run follows_mixed (sh_opq []) hH hF 400 (stands_zero _ W) fdR_def (isV_eq h1) h5 (.cons _ _ _ _ (.int _ _) (.cons _ _ _ _ (.int _ _) .nil)) rfl).mono ?_
  rintro e w' ⟨m, v, rfl, hv, _, hS⟩
  cases hv with
  | tup l u hl =>
    obtain ⟨u⟩ := u
    cases hl with | cons _ a _ r q1 hl => _
    cases hl with | cons _ b _ r q2 hl => _
    cases hl with | cons _ c _ r q3 hl => _
    cases hl
    obtain ⟨rfl, e1⟩ := vr_ptr hS h2 q1
    obtain ⟨rfl, e2⟩ := vr_ptr hS h3 q2
    obtain ⟨rfl, e3⟩ := vr_ptr hS h4 q3
    exact ⟨m, rfl, hS⟩
end Go.Proofs.YtomjjedgmnkciaaGreatDoor
/- FdsEnds: what the world holds when it begins. -/
namespace Go.Proofs.YtomjjedgmnkciaaGreatDoor
open Go.RowKit IntWalk
set_option linter.unusedVariables false
set_option linter.unusedSimpArgs false

def fdNum : FId → Nat
  | .F => 1005
  | .T => 1003
  | .G => 1002
  | .S => 1001
  | .B => 1000
  | .D => 1004
  | .N _ => 1007
  | .P _ => 1006
  | .E _ => 1009
  | .M _ => 1008
def fdIds : List FId := [.F, .T, .G, .S, .B, .D, .N 0, .P 0, .E 1, .M 1]
theorem fd_inj : ∀ i ∈ fdIds, ∀ j ∈ fdIds, fdNum i = fdNum j → i = j := by decide
theorem fd_out : ∀ i ∈ fdIds, ∀ A ∈ [1010, 1011], fdNum i ≠ A := by decide
def fdX0 : Nd := ⟨1, 0, 2, 0, ⟨[], 0⟩⟩
def fdDr : Dr := ⟨⟨[], 0⟩, 1⟩
def fdFs : Fs := ⟨[some fdX0, none, none, none, none, none, none, none, none], List.replicate 20 (false, zeros), 20, [(1, fdDr, 0)], 1⟩
def fdLay (m : Zz.BMap) (i : FId) : Nat := Zz.bm m (fdNum i)
theorem fd_ok : fdFs.Ok := by
  refine ⟨by decide, by decide, ?_, ?_, ?_, ?_⟩
  · intro b hb
    have := List.eq_of_mem_replicate hb
    rw [this]; simp [zeros]
  · intro x hx
    simp only [fdFs, List.mem_cons, Option.some.injEq, reduceCtorEq, List.not_mem_nil, or_false] at hx
    subst hx
    exact ⟨GMap.Good.empty, fun e he => (by cases he)⟩
  · intro e he
    simp only [fdFs, List.mem_singleton] at he
    subst he
    exact ⟨GMap.Good.empty, fun e he => (by cases he)⟩
  · refine ⟨by simp [fdFs], by simp [fdFs], fun e he => ?_⟩
    simp [fdFs] at he; subst he; simp [fdFs]
theorem fd_none (k : Nat) : fdFs.nodes[k + 1]? = none ∨ fdFs.nodes[k + 1]? = some none := by
  match k with
  | 0 | 1 | 2 | 3 | 4 | 5 | 6 | 7 => exact .inr rfl
  | k + 8 => exact .inl rfl
theorem fd_live (m : Zz.BMap) (i : FId) (h : fdFs.obj (fdLay m) i ≠ none) : i ∈ fdIds := by
  cases i with
  | N k =>
    match k with
    | 0 => simp [fdIds]
    | k + 1 =>
      refine absurd ?_ h
      show (match fdFs.nodes[k + 1]? with
        | some (some x) => some (Obj.cells (ndV (fdLay m) (k + 1) x) 132 (0, 0))
        | _ => none) = none
      rcases fd_none k with q | q <;> rw [q]
  | P k =>
    match k with
    | 0 => simp [fdIds]
    | k + 1 =>
      refine absurd ?_ h
      show (match fdFs.nodes[k + 1]? with
        | some (some x) => some x.parts.obj
        | _ => none) = none
      rcases fd_none k with q | q <;> rw [q]
  | E k =>
    by_cases e : k = 1
    · subst e; simp [fdIds]
    · refine absurd ?_ h
      have : fdFs.dr k = none := by simp [Fs.dr, fdFs, dirE, Ne.symm e]
      simp [Fs.obj, this]
  | M k =>
    by_cases e : k = 1
    · subst e; simp [fdIds]
    · refine absurd ?_ h
      have : fdFs.dr k = none := by simp [Fs.dr, fdFs, dirE, Ne.symm e]
      simp [Fs.obj, this]
  | _ => simp [fdIds]
theorem fd_nd {i : Int} (hi : 2 ≤ i) : fdFs.nd i = none := by
  unfold Fs.nd
  rw [if_neg (by omega)]
  obtain ⟨k, hk⟩ : ∃ k : Nat, slotOf i = k + 1 := ⟨(i - 2).toNat, by unfold slotOf; omega⟩
  rw [hk]
  rcases fd_none k with q | q <;> rw [q] <;> rfl
theorem fd_bk (b : Int) : fdFs.bk b = none := by
  unfold Fs.bk
  split
  · rfl
  · have h : ∀ k : Nat, fdFs.bs[k]? = none ∨ fdFs.bs[k]? = some (false, zeros) := fun k => by
      show (List.replicate 20 (false, zeros))[k]? = none ∨ (List.replicate 20 (false, zeros))[k]? = some (false, zeros)
      rw [List.getElem?_replicate]
      split
      · exact .inr rfl
      · exact .inl rfl
    rcases h _ with q | q <;> rw [q]
theorem fd_tidy : Tidy fdFs (users []) := by
  refine ⟨rfl, by simp [fdFs], ⟨fdX0, rfl, ⟨rfl, rfl, rfl, rfl, rfl⟩⟩, ⟨fdDr, 0, rfl, rfl, ⟨fun e he => (by cases he), List.nodup_nil, fun i x hi hx => ?_, List.nodup_nil⟩⟩, fun i x hi hx => ?_, fun _ _ => rfl, ⟨?_, fun b => ?_, ?_⟩, fun x hx => fd_ok.parts x hx⟩
  · rw [fd_nd hi] at hx; cases hx
  · rw [fd_nd hi] at hx; cases hx
  · exact List.nodup_nil
  · rw [fd_bk b]
    show b ∈ ([] : List Int) ↔ _
    simp
  · show (20 : Int) = ((freeN (List.replicate 20 (false, zeros)) : Nat) : Int)
    simp [freeN]
def fdFx (p : Nat) : Fx := ⟨p, 0, .slice none 0 0, fun _ => none, fun j => if 0 ≤ j then [List.replicate 16 (none : Option Nat)][j.toNat]? else none⟩
def fdXl (X Z : Nat) : XId → Nat
  | .X => X
  | .O _ => Z
  | .Z _ => Z
theorem fd_z {p : Nat} {j : Int} {l : List (Option Nat)} (h : (fdFx p).zs j = some l) : j = 0 ∧ l = List.replicate 16 none := by
  have h' : (if 0 ≤ j then [List.replicate 16 (none : Option Nat)][j.toNat]? else none) = some l := h
  split at h'
  · rename_i hj
    obtain ⟨h1, h2⟩ := List.getElem?_eq_some_iff.1 h'
    have h3 : j.toNat = 0 := by simpa using h1
    refine ⟨by omega, ?_⟩
    rw [← h2]
    simp [h3]
  · cases h'
section
variable {W w : World} {m : Zz.BMap}
theorem fd_row (hS : Zz.Stands (shRho []) W W.heap.size (stOf fdR) m w) {A : Nat} {l : List Zz.AV} {e : TypeId} (h : rowIs (stOf fdR) A l e = true) :
    w.heap[Zz.bm m A]? = some (.cells (l.map (Zz.conc (shRho []) (Zz.bm m))).toArray e (0, 0)) ∧ Zz.liveA (stOf fdR) A = true ∧ W.heap.size ≤ Zz.bm m A :=
  have := Zz.rowA_at hS.rel (row_of h)
  ⟨this.1, this.2.2, this.2.1⟩
theorem fd_map (hS : Zz.Stands (shRho []) W W.heap.size (stOf fdR) m w) {A : Nat} {l : List (Zz.AV × Zz.AV × Nat)} {c : Nat} (h : mapIs (stOf fdR) A l c = true) :
    w.heap[Zz.bm m A]? = some (.map (l.map fun e => { key := Zz.conc (shRho []) (Zz.bm m) e.1, val := Zz.conc (shRho []) (Zz.bm m) e.2.1, born := e.2.2 }).toArray c) ∧ Zz.liveA (stOf fdR) A = true ∧ W.heap.size ≤ Zz.bm m A :=
  have := Zz.mapA_at hS.rel (map_of h)
  ⟨this.1, this.2.2, this.2.1⟩
theorem b0_conc (ρ : Nat → Value) (b : Nat → Nat) : b0A.map (Zz.conc ρ b) = fdFs.bs.flatMap blockV := by
  show ((List.replicate 20 (Zz.AV.bool false :: List.replicate 64 (.int .u8 0))).flatten).map _ = (List.replicate 20 (false, zeros)).flatMap blockV
  rw [List.map_flatten, List.map_replicate, List.flatMap_def, List.map_replicate]
  congr 1
theorem fd_start (hS : Zz.Stands (shRho []) W W.heap.size (stOf fdR) m w) : St W [Zz.bm m 1011] (Zz.bm m 1010) (Zz.bm m 1005) 0 [] w ∧ FsIs fdFs (fdLay m) w := by
  have ha := fd_s4a
  have hb := fd_s4b
  have hc := fd_s4c
  have hd := fd_s4d
  simp only [Bool.and_eq_true] at ha hb hc hd
  obtain ⟨a1, a2⟩ := ha
  obtain ⟨b1, b2, b3, b4⟩ := hb
  obtain ⟨c1, c2, c3, c4⟩ := hc
  obtain ⟨d1, d2⟩ := hd
  have hlive : ∀ i ∈ fdIds, Zz.liveA (stOf fdR) (fdNum i) = true ∧ W.heap.size ≤ Zz.bm m (fdNum i) := by
    intro i hi
    simp only [fdIds, List.mem_cons, List.not_mem_nil, or_false] at hi
    rcases hi with rfl | rfl | rfl | rfl | rfl | rfl | rfl | rfl | rfl | rfl
    · exact (fd_row hS b3).2
    · exact (fd_row hS b2).2
    · exact (fd_row hS b1).2
    · exact (fd_row hS a2).2
    · exact (fd_row hS a1).2
    · exact (fd_map hS c1).2
    · exact (fd_row hS b4).2
    · exact (fd_map hS c2).2
    · exact (fd_row hS c4).2
    · exact (fd_map hS c3).2
  have hne : Zz.bm m 1010 ≠ Zz.bm m 1011 := fun q => absurd (Zz.bm_inj hS.rel (fd_row hS d2).2.1 (fd_row hS d1).2.1 q) (by decide)
  have hlies : Lies (fdFs.obj (fdLay m)) (fdLay m) w := by
    refine ⟨fun i o ho => ?_, fun i j hi hj e => ?_⟩
    · have hi := fd_live m i (by rw [ho]; simp)
      simp only [fdIds, List.mem_cons, List.not_mem_nil, or_false] at hi
      rcases hi with rfl | rfl | rfl | rfl | rfl | rfl | rfl | rfl | rfl | rfl
      · exact (fd_row hS b3).1.trans ho
      · exact (fd_row hS b2).1.trans ho
      · exact (fd_row hS b1).1.trans ho
      · exact (fd_row hS a2).1.trans ho
      · have := (fd_row hS a1).1
        rw [b0_conc] at this
        exact this.trans ho
      · exact (fd_map hS c1).1.trans ho
      · exact (fd_row hS b4).1.trans ho
      · exact (fd_map hS c2).1.trans ho
      · exact (fd_row hS c4).1.trans ho
      · exact (fd_map hS c3).1.trans ho
    · have hi' := fd_live m i hi
      have hj' := fd_live m j hj
      exact fd_inj i hi' j hj' (Zz.bm_inj hS.rel (hlive i hi').1 (hlive j hj').1 e)
  have hxobj : ∀ i, (fdFx (Zz.bm m 1005)).obj (fdXl (Zz.bm m 1010) (Zz.bm m 1011)) i ≠ none → i = .X ∨ i = .Z 0 := fun i hi => by
    cases i with
    | X => exact .inl rfl
    | O k => exact absurd rfl hi
    | Z k =>
      right
      cases hz : (fdFx (Zz.bm m 1005)).zs k with
      | none => exact absurd (by simp [Fx.obj, hz]) hi
      | some l => rw [(fd_z hz).1]
  have hxl : Lies ((fdFx (Zz.bm m 1005)).obj (fdXl (Zz.bm m 1010) (Zz.bm m 1011))) (fdXl (Zz.bm m 1010) (Zz.bm m 1011)) w := by
    refine ⟨fun i o ho => ?_, fun i j hi hj e => ?_⟩
    · rcases hxobj i (by rw [ho]; simp) with rfl | rfl
      · exact (fd_row hS d2).1.trans ho
      · exact (fd_row hS d1).1.trans ho
    · rcases hxobj i hi with rfl | rfl <;> rcases hxobj j hj with rfl | rfl
      · rfl
      · exact absurd e hne
      · exact absurd e.symm hne
      · rfl
  have hxok : (fdFx (Zz.bm m 1005)).Ok := ⟨fun i l hi => by rw [(fd_z hi).2]; simp, fun i l j hi hj => by
    rw [(fd_z hi).2] at hj
    have := List.eq_of_mem_replicate hj
    cases this⟩
  have hown : ∀ k, Owns (fdFs.obj (fdLay m)) (fdLay m) k → ∃ i ∈ fdIds, k = Zz.bm m (fdNum i) := fun k ⟨i, hi, e⟩ => ⟨i, fd_live m i hi, e.symm⟩
  have hxown : ∀ k, Owns ((fdFx (Zz.bm m 1005)).obj (fdXl (Zz.bm m 1010) (Zz.bm m 1011))) (fdXl (Zz.bm m 1010) (Zz.bm m 1011)) k → ∃ A ∈ [1010, 1011], k = Zz.bm m A := fun k ⟨i, hi, e⟩ => by
    rcases hxobj i hi with rfl | rfl
    · exact ⟨1010, by simp, e.symm⟩
    · exact ⟨1011, by simp, e.symm⟩
  have hlive2 : ∀ A ∈ [1010, 1011], Zz.liveA (stOf fdR) A = true ∧ W.heap.size ≤ Zz.bm m A := by
    intro A hA
    simp only [List.mem_cons, List.not_mem_nil, or_false] at hA
    rcases hA with rfl | rfl
    · exact (fd_row hS d2).2
    · exact (fd_row hS d1).2
  have hfs : FsIs fdFs (fdLay m) w := ⟨hlies, fd_ok⟩
  refine ⟨⟨⟨[], [List.replicate 16 none], 0⟩, fdFs, fdLay m, fdFx (Zz.bm m 1005), fdXl (Zz.bm m 1010) (Zz.bm m 1011), fun _ => none, 0, ⟨⟨⟨hfs, fun k hk => ?_, hS.rel.old, fd_tidy.whole⟩, ⟨hxl, hxok⟩, fun b o hb => (by cases hb), fun k hk => ?_, fun k hk => absurd rfl hk, fun k hk hq => ?_, fun k hk => absurd rfl hk, fun k hk => absurd rfl hk, rfl, ⟨[], World.ownsRow_nil _ _ _ _, fun g hg => (by cases hg)⟩⟩, ⟨fun j => rfl, fun l hl => (by simp at hl; subst hl; simp), fun p hp => (by cases hp), fun k _ => rfl, fun l hl k hk => ?_, List.nodup_nil, List.nodup_nil, fun p hp => (by cases hp), rfl, fd_tidy, by simp⟩, rfl, rfl, rfl, fun j b hj => ?_, ⟨fun b y r hb => (by cases hb), fun p hp => (by cases hp)⟩, Nat.le_refl _⟩⟩, hfs⟩
  · obtain ⟨i, hi, rfl⟩ := hown k hk
    exact (hlive i hi).2
  · obtain ⟨A, hA, rfl⟩ := hxown k hk
    exact (hlive2 A hA).2
  · obtain ⟨i, hi, rfl⟩ := hown k hk
    obtain ⟨A, hA, e⟩ := hxown _ hq
    exact fd_out i hi A hA (Zz.bm_inj hS.rel (hlive i hi).1 (hlive2 A hA).1 e)
  · simp at hl
    subst hl
    simp at hk
  · have hj0 := (List.getElem?_eq_some_iff.1 hj).1
    have : j = 0 := by simpa using hj0
    subst this
    simpa [fdXl] using hj
end
end Go.Proofs.YtomjjedgmnkciaaGreatDoor
