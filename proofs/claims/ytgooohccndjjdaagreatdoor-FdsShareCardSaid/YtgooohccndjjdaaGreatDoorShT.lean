/- FdsShare's beginning: the four calls' contracts, and what the world holds behind them. -/
import Derived.Test.YtgooohccndjjdaaGreatDoorShS
namespace Go.Proofs.YtgooohccndjjdaaGreatDoor
open Go.RowKit IntWalk
set_option linter.unusedVariables false
set_option linter.unusedSimpArgs false

theorem hooks_count : Zz.IsExtern Tryz.prog 107 Extern.BytealgCount.count :=
  ⟨_, Tryz.func107, by kernel_rfl, by kernel_rfl, by kernel_rfl, by kernel_rfl⟩
theorem hooks_index : Zz.IsExtern Tryz.prog 129 Extern.BytealgIndexByte.indexByte :=
  ⟨_, Tryz.func129, by kernel_rfl, by kernel_rfl, by kernel_rfl, by kernel_rfl⟩
theorem follows_mixed : Tryz.prog.follows .mixedOrders = true := by kernel_rfl
theorem sh_hk (ρ : Nat → Value) (W : World) (base : Nat) : ∀ p ∈ ([(107, Zz.hCount), (129, Zz.hIndexByte)] : List (FuncId × (List Zz.AV → Zz.M Zz.AV))), (∀ args, Zz.Fr (p.2 args)) ∧ Zz.HookFn Tryz.prog ρ W base p.1 p.2 := fun p hp => by
  rcases List.mem_cons.1 hp with rfl | hp
  · exact Zz.hCount_ok hooks_count
  · rcases List.mem_cons.1 hp with rfl | hp
    · exact Zz.hIndexByte_ok hooks_index
    · cases hp
theorem sh_hooks (ρ : Nat → Value) (W : World) (base : Nat) : Zz.HookOk Tryz.prog ρ W base shH ∧ Zz.FrH shH := Zz.hooks_ok (sh_hk ρ W base) (fun q r h => by cases h)
def shRho (text : List UInt8) : Nat → Value := fun _ => .string ⟨text.toArray⟩
theorem sh_opq (text : List UInt8) : Zz.Opq (shRho text) := fun k => ⟨(fun _ h => by cases h), (fun _ h => by cases h)⟩
/-- the block lies as it is, from its beginning on -/
def Lay0 (m : Zz.BMap) (A : Nat) : Prop := ∃ z, m A = some (Zz.bm m A, 0, z)
theorem Lay0.ext {m m' : Zz.BMap} {A : Nat} (h : Lay0 m A) (he : Zz.Ext m m') : Lay0 m' A ∧ Zz.bm m' A = Zz.bm m A := by
  obtain ⟨z, hz⟩ := h
  have e := bm_ext he hz
  exact ⟨⟨z, by rw [e]; exact he _ _ hz⟩, e⟩
section
variable {text : List UInt8} {W w : World} {m : Zz.BMap}
theorem stands_run {P : Program} {ρ : Nat → Value} {w0 : World} {base : Nat} {H : Zz.Hooks} (hm : P.follows .mixedOrders = true) (hq : Zz.Opq ρ) (hH : Zz.HookOk P ρ w0 base H) (hFH : Zz.FrH H) (n : Nat) {f : FuncId} {args : List Zz.AV} {us : Array Value} {st st' : Zz.ASt} {m : Zz.BMap} {w : World} {v : Zz.AV} {r : Option (Zz.AV × Zz.ASt)}
    (hs : Zz.Stands ρ w0 base st m w) (hr : r = (Zz.exec P H n).call f args st) (hc : r = some (v, st')) (hle : leA st st' = true) (hl : Zz.LR ρ m args us.toList) (hp : notPan v = true) :
    Calls P f us w fun e w' => ∃ m' v', e = .returned v' ∧ Zz.VR ρ m' v v' ∧ Zz.Ext m m' ∧ Zz.Stands ρ w0 base st' m' w' := stands_call hm hq hH hFH n hs (hr.symm.trans hc) hle hl hp
theorem shR1_def : shR1 = (Zz.exec Tryz.prog shH 400).call 5 [.int .i64 9, .int .i64 64] Zz.st0 := by delta shR1 shE; rfl
theorem shR2_def : shR2 = (Zz.exec Tryz.prog shH 400).call 7 [.ptr 1011 0, .int .i64 0, .opq 0] (stOf shR1) := by delta shR2 shE; rfl
theorem shR3_def : shR3 = (Zz.exec Tryz.prog shH 400).call 8 [.ptr 1011 0, .int .i64 1, .str [97], .int .i64 10] (stOf shR2) := by delta shR3 shE; rfl
theorem shR4_def : shR4 = (Zz.exec Tryz.prog shH 400).call 9 [.ptr 1011 0] (stOf shR3) := by delta shR4 shE; rfl
theorem begun_c (text : List UInt8) (W : World) : Calls Tryz.prog 5 #[.int .i64 9, .int .i64 64] W fun e w' => ∃ m, e = .returned (.tuple #[ptrTo (Zz.bm m 1005), ptrTo (Zz.bm m 1010), ptrTo (Zz.bm m 1011)]) ∧
    Zz.Stands (shRho text) W W.heap.size (stOf shR1) m w' ∧ Lay0 m 1005 ∧ Lay0 m 1011 := by
  obtain ⟨hH, hF⟩ := sh_hooks (shRho text) W W.heap.size
  have hv := sh_v1
  simp only [Bool.and_eq_true] at hv
  obtain ⟨h1, h2, h3, h4, h5⟩ := hv
  refine (stands_run follows_mixed (sh_opq text) hH hF 400 (stands_zero _ W) shR1_def (isV_eq h1) h5 (.cons _ _ _ _ (.int _ _) (.cons _ _ _ _ (.int _ _) .nil)) rfl).mono ?_
  rintro e w' ⟨m, v, rfl, hv, _, hS⟩
  cases hv with
  | tup l u hl =>
    obtain ⟨u⟩ := u
    cases hl with | cons _ a _ r q1 hl => _
    cases hl with | cons _ b _ r q2 hl => _
    cases hl with | cons _ c _ r q3 hl => _
    cases hl
    obtain ⟨rfl, e1⟩ := vr_ptr hS h2 q1
    obtain ⟨rfl, e2⟩ := vr_ptr hS h3 q2
    obtain ⟨rfl, e3⟩ := vr_ptr hS h4 q3
    exact ⟨m, rfl, hS, e1, e3⟩
theorem tape_c (hS : Zz.Stands (shRho text) W W.heap.size (stOf shR1) m w) (hm : Lay0 m 1011) : Calls Tryz.prog 7 #[ptrTo (Zz.bm m 1011), .int .i64 0, .string ⟨text.toArray⟩] w fun e w' => ∃ m', e = .returned (.int .i64 0) ∧ Zz.Ext m m' ∧
    Zz.Stands (shRho text) W W.heap.size (stOf shR2) m' w' := by
  obtain ⟨hH, hF⟩ := sh_hooks (shRho text) W W.heap.size
  obtain ⟨z, hz⟩ := hm
  have hv := sh_v2
  simp only [Bool.and_eq_true] at hv
  refine (stands_run follows_mixed (sh_opq text) hH hF 400 hS shR2_def (isV_eq hv.1) hv.2 (.cons _ _ _ _ (lr_ptr hz) (.cons _ _ _ _ (.int _ _) (.cons _ _ _ _ (.opq 0) .nil))) rfl).mono ?_
  rintro e w' ⟨m', v, rfl, hv, hE, hS'⟩
  cases hv
  exact ⟨m', rfl, hE, hS'⟩
theorem open_c (hS : Zz.Stands (shRho text) W W.heap.size (stOf shR2) m w) (hm : Lay0 m 1011) : Calls Tryz.prog 8 #[ptrTo (Zz.bm m 1011), .int .i64 1, .string ⟨#[97]⟩, .int .i64 10] w fun e w' => ∃ m', e = .returned (.tuple #[.int .i64 1, .int .i64 0]) ∧ Zz.Ext m m' ∧
    Zz.Stands (shRho text) W W.heap.size (stOf shR3) m' w' := by
  obtain ⟨hH, hF⟩ := sh_hooks (shRho text) W W.heap.size
  obtain ⟨z, hz⟩ := hm
  have hv := sh_v3
  simp only [Bool.and_eq_true] at hv
  refine (stands_run follows_mixed (sh_opq text) hH hF 400 hS shR3_def (isV_eq hv.1) hv.2 (.cons _ _ _ _ (lr_ptr hz) (.cons _ _ _ _ (.int _ _) (.cons _ _ _ _ (.str [97]) (.cons _ _ _ _ (.int _ _) .nil)))) rfl).mono ?_
  rintro e w' ⟨m', v, rfl, hv, hE, hS'⟩
  cases hv with
  | tup l u hl =>
    obtain ⟨u⟩ := u
    cases hl with | cons _ a _ r q1 hl => _
    cases hl with | cons _ b _ r q2 hl => _
    cases hl
    cases q1
    cases q2
    exact ⟨m', rfl, hE, hS'⟩
theorem fork_c (hS : Zz.Stands (shRho text) W W.heap.size (stOf shR3) m w) (hm : Lay0 m 1011) : Calls Tryz.prog 9 #[ptrTo (Zz.bm m 1011)] w fun e w' => ∃ m', e = .returned (ptrTo (Zz.bm m' 1026)) ∧ Zz.Ext m m' ∧
    Zz.Stands (shRho text) W W.heap.size (stOf shR4) m' w' := by
  obtain ⟨hH, hF⟩ := sh_hooks (shRho text) W W.heap.size
  obtain ⟨z, hz⟩ := hm
  have hv := sh_v4
  simp only [Bool.and_eq_true] at hv
  refine (stands_run follows_mixed (sh_opq text) hH hF 400 hS shR4_def (isV_eq hv.1) hv.2.1 (.cons _ _ _ _ (lr_ptr hz) .nil) rfl).mono ?_
  rintro e w' ⟨m', v, rfl, hv', hE, hS'⟩
  obtain ⟨rfl, _⟩ := vr_ptr hS' hv.2.2 hv'
  exact ⟨m', rfl, hE, hS'⟩
end

/-! ### what the world holds then -/
def shNum : FId → Nat
  | .F => 1005
  | .T => 1003
  | .G => 1002
  | .S => 1001
  | .B => 1000
  | .D => 1004
  | .N 0 => 1007
  | .N _ => 1023
  | .P 0 => 1006
  | .P _ => 1022
  | .E _ => 1009
  | .M _ => 1008
def shIds : List FId := [.F, .T, .G, .S, .B, .D, .N 0, .N 1, .P 0, .P 1, .E 1, .M 1]
theorem sh_inj : ∀ i ∈ shIds, ∀ j ∈ shIds, shNum i = shNum j → i = j := by decide
theorem sh_out : ∀ i ∈ shIds, ∀ A ∈ [1011, 1026, 1013, 1025, 1012, 1024], shNum i ≠ A := by decide
def shX0 : Nd := ⟨1, 0, 2, 0, ⟨[], 0⟩⟩
def shX1 : Nd := ⟨1, 1, 1, 0, ⟨[], 0⟩⟩
def shDr : Dr := ⟨⟨[(.str [97], .int .i64 2, 0)], 1⟩, 1⟩
def shFs : Fs := ⟨[some shX0, some shX1, none, none, none, none, none, none, none], List.replicate 64 (false, zeros), 64, [(1, shDr, 0)], 1⟩
def shLay (m : Zz.BMap) (i : FId) : Nat := Zz.bm m (shNum i)
def shPl (m : Zz.BMap) : Pl := ⟨Zz.bm m 1011, Zz.bm m 1026, Zz.bm m 1013, Zz.bm m 1025, Zz.bm m 1012, Zz.bm m 1024⟩
theorem sh_ok : shFs.Ok := by
  refine ⟨by decide, by decide, ?_, ?_, ?_, ?_⟩
  · intro b hb
    have := List.eq_of_mem_replicate hb
    rw [this]; simp [zeros]
  · intro x hx
    simp only [shFs, List.mem_cons, Option.some.injEq, reduceCtorEq, List.not_mem_nil, or_false] at hx
    rcases hx with rfl | rfl
    · exact ⟨GMap.Good.empty, fun e he => by cases he⟩
    · exact ⟨GMap.Good.empty, fun e he => by cases he⟩
  · intro e he
    simp only [shFs, List.mem_singleton] at he
    subst he
    refine ⟨⟨by simp [shDr, kb], by simp [shDr, kb], fun e he => ?_⟩, fun e he => ?_⟩
    · simp [shDr, kb] at he; subst he; simp [shDr]
    · simp [shDr] at he; subst he; exact ⟨_, _, rfl, rfl⟩
  · refine ⟨by simp [shFs], by simp [shFs], fun e he => ?_⟩
    simp [shFs] at he; subst he; simp [shFs]
theorem sh_live (m : Zz.BMap) (i : FId) (h : shFs.obj (shLay m) i ≠ none) : i ∈ shIds := by
  cases i with
  | N k =>
    match k with
    | 0 => simp [shIds]
    | 1 => simp [shIds]
    | k + 2 =>
      refine absurd ?_ h
      show (match shFs.nodes[k + 2]? with
        | some (some x) => some (Obj.cells (ndV (shLay m) (k + 2) x) 130 (0, 0))
        | _ => none) = none
      have : shFs.nodes[k + 2]? = none ∨ shFs.nodes[k + 2]? = some none := by
        match k with
        | 0 | 1 | 2 | 3 | 4 | 5 | 6 => exact .inr rfl
        | k + 7 => exact .inl rfl
      rcases this with q | q <;> rw [q]
  | P k =>
    match k with
    | 0 => simp [shIds]
    | 1 => simp [shIds]
    | k + 2 =>
      refine absurd ?_ h
      show (match shFs.nodes[k + 2]? with
        | some (some x) => some x.parts.obj
        | _ => none) = none
      have : shFs.nodes[k + 2]? = none ∨ shFs.nodes[k + 2]? = some none := by
        match k with
        | 0 | 1 | 2 | 3 | 4 | 5 | 6 => exact .inr rfl
        | k + 7 => exact .inl rfl
      rcases this with q | q <;> rw [q]
  | E k =>
    by_cases e : k = 1
    · subst e; simp [shIds]
    · refine absurd ?_ h
      have : shFs.dr k = none := by simp [Fs.dr, shFs, dirE, Ne.symm e]
      simp [Fs.obj, this]
  | M k =>
    by_cases e : k = 1
    · subst e; simp [shIds]
    · refine absurd ?_ h
      have : shFs.dr k = none := by simp [Fs.dr, shFs, dirE, Ne.symm e]
      simp [Fs.obj, this]
  | _ => simp [shIds]
section
variable {text : List UInt8} {W w : World} {m : Zz.BMap}
theorem sh_row (hS : Zz.Stands (shRho text) W W.heap.size (stOf shR4) m w) {A : Nat} {l : List Zz.AV} {e : TypeId} (h : rowIs (stOf shR4) A l e = true) :
    w.heap[Zz.bm m A]? = some (.cells (l.map (Zz.conc (shRho text) (Zz.bm m))).toArray e (0, 0)) ∧ Zz.liveA (stOf shR4) A = true ∧ W.heap.size ≤ Zz.bm m A :=
  have := Zz.rowA_at hS.rel (row_of h)
  ⟨this.1, this.2.2, this.2.1⟩
theorem sh_map (hS : Zz.Stands (shRho text) W W.heap.size (stOf shR4) m w) {A : Nat} {l : List (Zz.AV × Zz.AV × Nat)} {c : Nat} (h : mapIs (stOf shR4) A l c = true) :
    w.heap[Zz.bm m A]? = some (.map (l.map fun e => { key := Zz.conc (shRho text) (Zz.bm m) e.1, val := Zz.conc (shRho text) (Zz.bm m) e.2.1, born := e.2.2 }).toArray c) ∧ Zz.liveA (stOf shR4) A = true ∧ W.heap.size ≤ Zz.bm m A :=
  have := Zz.mapA_at hS.rel (map_of h)
  ⟨this.1, this.2.2, this.2.1⟩
theorem b0_conc (ρ : Nat → Value) (b : Nat → Nat) : b0A.map (Zz.conc ρ b) = shFs.bs.flatMap blockV := by
  show ((List.replicate 64 (Zz.AV.bool false :: List.replicate 64 (.int .u8 0))).flatten).map _ = (List.replicate 64 (false, zeros)).flatMap blockV
  rw [List.map_flatten, List.map_replicate, List.flatMap_def, List.map_replicate]
  congr 1
theorem sh_start (hS : Zz.Stands (shRho text) W W.heap.size (stOf shR4) m w) : Sh W shFs (shLay m) (shPl m) text 0 w := by
  have ha := sh_s4a
  have hb := sh_s4b
  have hc := sh_s4c
  have hd := sh_s4d
  have he := sh_s4e
  simp only [Bool.and_eq_true] at ha hb hc hd he
  obtain ⟨a1, a2⟩ := ha
  obtain ⟨b1, b2, b3, b4, b5⟩ := hb
  obtain ⟨c1, c2, c3, c4, c5⟩ := hc
  obtain ⟨d1, d2, d3, d4⟩ := hd
  obtain ⟨e1, e2⟩ := he
  have hlive : ∀ i ∈ shIds, Zz.liveA (stOf shR4) (shNum i) = true := by
    intro i hi
    simp only [shIds, List.mem_cons, List.not_mem_nil, or_false] at hi
    rcases hi with rfl | rfl | rfl | rfl | rfl | rfl | rfl | rfl | rfl | rfl | rfl | rfl
    · exact (sh_row hS b3).2.1
    · exact (sh_row hS b2).2.1
    · exact (sh_row hS b1).2.1
    · exact (sh_row hS a2).2.1
    · exact (sh_row hS a1).2.1
    · exact (sh_map hS c1).2.1
    · exact (sh_row hS b4).2.1
    · exact (sh_row hS b5).2.1
    · exact (sh_map hS c2).2.1
    · exact (sh_map hS c3).2.1
    · exact (sh_row hS c5).2.1
    · exact (sh_map hS c4).2.1
  have hl6 : ∀ A ∈ [1011, 1026, 1013, 1025, 1012, 1024], Zz.liveA (stOf shR4) A = true := by
    intro A hA
    simp only [List.mem_cons, List.not_mem_nil, or_false] at hA
    rcases hA with rfl | rfl | rfl | rfl | rfl | rfl
    · exact (sh_row hS d1).2.1
    · exact (sh_row hS d2).2.1
    · exact (sh_row hS d3).2.1
    · exact (sh_row hS d4).2.1
    · exact (sh_row hS e1).2.1
    · exact (sh_row hS e2).2.1
  have hne : ∀ A ∈ [1011, 1026, 1013, 1025, 1012, 1024], ∀ B ∈ [1011, 1026, 1013, 1025, 1012, 1024], A ≠ B → Zz.bm m A ≠ Zz.bm m B := fun A hA B hB h q => h (Zz.bm_inj hS.rel (hl6 A hA) (hl6 B hB) q)
  have hlies : Lies (shFs.obj (shLay m)) (shLay m) w := by
    refine ⟨fun i o ho => ?_, fun i j hi hj e => ?_⟩
    · have hi := sh_live m i (by rw [ho]; simp)
      simp only [shIds, List.mem_cons, List.not_mem_nil, or_false] at hi
      rcases hi with rfl | rfl | rfl | rfl | rfl | rfl | rfl | rfl | rfl | rfl | rfl | rfl
      · exact (sh_row hS b3).1.trans ho
      · exact (sh_row hS b2).1.trans ho
      · exact (sh_row hS b1).1.trans ho
      · exact (sh_row hS a2).1.trans ho
      · have := (sh_row hS a1).1
        rw [b0_conc] at this
        exact this.trans ho
      · exact (sh_map hS c1).1.trans ho
      · exact (sh_row hS b4).1.trans ho
      · exact (sh_row hS b5).1.trans ho
      · exact (sh_map hS c2).1.trans ho
      · exact (sh_map hS c3).1.trans ho
      · exact (sh_row hS c5).1.trans ho
      · exact (sh_map hS c4).1.trans ho
    · have hi' := sh_live m i hi
      have hj' := sh_live m j hj
      exact sh_inj i hi' j hj' (Zz.bm_inj hS.rel (hlive i hi') (hlive j hj') e)
  have hcell : ∀ {A : Nat} {l : List Zz.AV} {e : TypeId}, rowIs (stOf shR4) A l e = true → ∀ (k : Nat) (v : Value), (l.map (Zz.conc (shRho text) (Zz.bm m)))[k]? = some v → w.cell? ⟨Zz.bm m A, k, none⟩ = some v := fun h k v hv => by
    have := (sh_row hS h).1
    simp [World.cell?, this]
    simpa using hv
  have hfz : ∀ {A : Nat} {l : List Zz.AV} {e : TypeId}, rowIs (stOf shR4) A l e = true → ∀ (k : Nat), w.frozen? ⟨Zz.bm m A, k, none⟩ = false := fun h k => by
    have := (sh_row hS h).1
    simp [World.frozen?, this]
  refine ⟨⟨hlies, sh_ok⟩, ?_, hcell d3 0 _ rfl, hcell d4 0 _ rfl, hcell e1 0 _ rfl, hfz e1 0, hcell e2 0 _ rfl, hcell e2 1 _ rfl, hcell e2 2 _ rfl, hcell e2 3 _ rfl, hcell e2 4 _ rfl, hfz e2 2, ?_, ?_, ?_, hS.rel.old, ?_, ?_⟩
  · rintro Z (rfl | rfl)
    · exact ⟨hcell d1 1 _ rfl, hcell d1 2 _ rfl⟩
    · exact ⟨hcell d2 1 _ rfl, hcell d2 2 _ rfl⟩
  · rintro b hb ⟨i, hi, e⟩
    have hi' := sh_live m i hi
    have : ∃ A ∈ [1011, 1026, 1013, 1025, 1012, 1024], b = Zz.bm m A := by
      simp only [Pl.all, shPl, List.mem_cons, List.not_mem_nil, or_false] at hb
      rcases hb with rfl | rfl | rfl | rfl | rfl | rfl
      · exact ⟨1011, by simp, rfl⟩
      · exact ⟨1026, by simp, rfl⟩
      · exact ⟨1013, by simp, rfl⟩
      · exact ⟨1025, by simp, rfl⟩
      · exact ⟨1012, by simp, rfl⟩
      · exact ⟨1024, by simp, rfl⟩
    obtain ⟨A, hA, rfl⟩ := this
    exact sh_out i hi' A hA (Zz.bm_inj hS.rel (hlive i hi') (hl6 A hA) e)
  · exact ⟨hne 1012 (by simp) 1011 (by simp) (by decide), hne 1012 (by simp) 1026 (by simp) (by decide), hne 1012 (by simp) 1013 (by simp) (by decide), hne 1012 (by simp) 1025 (by simp) (by decide), hne 1012 (by simp) 1024 (by simp) (by decide)⟩
  · exact ⟨hne 1024 (by simp) 1011 (by simp) (by decide), hne 1024 (by simp) 1026 (by simp) (by decide), hne 1024 (by simp) 1013 (by simp) (by decide), hne 1024 (by simp) 1025 (by simp) (by decide), hne 1024 (by simp) 1012 (by simp) (by decide)⟩
  · intro b hb
    simp only [Pl.all, shPl, List.mem_cons, List.not_mem_nil, or_false] at hb
    rcases hb with rfl | rfl | rfl | rfl | rfl | rfl
    · exact (sh_row hS d1).2.2
    · exact (sh_row hS d2).2.2
    · exact (sh_row hS d3).2.2
    · exact (sh_row hS d4).2.2
    · exact (sh_row hS e1).2.2
    · exact (sh_row hS e2).2.2
  · rintro b ⟨i, hi, rfl⟩
    have hi := sh_live m i hi
    simp only [shIds, List.mem_cons, List.not_mem_nil, or_false] at hi
    rcases hi with rfl | rfl | rfl | rfl | rfl | rfl | rfl | rfl | rfl | rfl | rfl | rfl
    · exact (sh_row hS b3).2.2
    · exact (sh_row hS b2).2.2
    · exact (sh_row hS b1).2.2
    · exact (sh_row hS a2).2.2
    · exact (sh_row hS a1).2.2
    · exact (sh_map hS c1).2.2
    · exact (sh_row hS b4).2.2
    · exact (sh_row hS b5).2.2
    · exact (sh_map hS c2).2.2
    · exact (sh_map hS c3).2.2
    · exact (sh_row hS c5).2.2
    · exact (sh_map hS c4).2.2
end
theorem sh_filed : Filed shFs 1 shX1 [] := by
  refine ⟨rfl, rfl, by simp [shFs], by simp, fun p => ?_, fun p hp => rfl, fun p hp => ?_, fun p hp hp2 => ?_, fun j hj => by simp at hj⟩
  · rw [if_neg (by simp [manyB])]; rfl
  · simp [manyB] at hp
  · exact ⟨zeros, by show (List.replicate 64 (false, zeros))[p]? = _; rw [List.getElem?_replicate, if_pos hp2]⟩
end Go.Proofs.YtgooohccndjjdaaGreatDoor
