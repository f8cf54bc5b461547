/- SysPipes: the beginning, by the executor. -/
import Derived.Test.YtckmcajnhobkpaaGreatDoorSpD
namespace Go.Proofs.YtckmcajnhobkpaaGreatDoor
open Go.RowKit
set_option linter.unusedVariables false
set_option linter.unusedSimpArgs false
set_option maxRecDepth 1000000

noncomputable def s0E (f : FuncId) (args : List Zz.AV) (st : Zz.ASt) := (Zz.exec Tryz.prog ⟨Zz.hookOf [], Zz.noOra⟩ 400).call f args st
def stOf (r : Option (Zz.AV × Zz.ASt)) : Zz.ASt := match r with
  | some (_, s) => s
  | none => Zz.st0
def isV (r : Option (Zz.AV × Zz.ASt)) (v : Zz.AV) : Bool := match r with
  | some (x, _) => Zz.eqAV x v
  | none => false
theorem isV_eq {r : Option (Zz.AV × Zz.ASt)} {v : Zz.AV} (h : isV r v = true) : r = some (v, stOf r) := by
  unfold isV at h
  split at h
  · rename_i x s
    rw [Zz.eqAV_eq h]; rfl
  · cases h
def cE (kind fd n : Int) : Zz.AV := .agg [.int .i64 kind, .int .i64 fd, .int .i64 n, .str [], .str []]
def putSt (st : Zz.ASt) (A n : Nat) (b : Zz.ABlk) : Zz.ASt := ⟨st.heap.put A b, n, []⟩
noncomputable def sr1 := s0E 5 [.int .i64 3, .str []] Zz.st0
noncomputable def sr2 := s0E 6 [.ptr 1014 0, .int .i64 1, cE 5 0 0] (stOf sr1)
noncomputable def st2p : Zz.ASt := putSt (stOf sr2) 1900 1901 pBlk
noncomputable def sr3 := s0E 6 [.ptr 1014 0, .int .i64 1, cE 7 0 0] st2p
noncomputable def sr4 := s0E 6 [.ptr 1014 0, .int .i64 1, cE 4 4 0] (stOf sr3)
noncomputable def sr5 := s0E 6 [.ptr 1014 0, .int .i64 2, cE 4 3 0] (stOf sr4)
def ble (a b : Zz.ASt) : Bool := Nat.ble a.next b.next
theorem sv1 : (isV sr1 (.tup [.ptr 1014 0, .int .i64 0]) && (ble Zz.st0 (stOf sr1) && Zz.exactB ((stOf sr1).heap.get 1014))) = true := by kernel_rfl
theorem sv2 : (isV sr2 (rep 0 (.int .i64 3) 4 (.str [])) && (ble (stOf sr1) (stOf sr2) && Nat.blt (stOf sr2).next 1900)) = true := by kernel_rfl
theorem sv3 : (isV sr3 (rep 0 (.int .i64 2) 0 (.str [])) && ble st2p (stOf sr3)) = true := by kernel_rfl
theorem sv4 : (isV sr4 (rep 0 (.int .i64 0) 0 (.str [])) && ble (stOf sr3) (stOf sr4)) = true := by kernel_rfl
theorem sv5 : (isV sr5 (rep 0 (.int .i64 0) 0 (.str [])) && (ble (stOf sr4) (stOf sr5) && Zz.subSt 10 (stOf sr5) spRaw)) = true := by kernel_rfl
theorem ok_Raw : okS spRaw spRaw = true := by kernel_rfl
def pipe0 : List Zz.AV := List.replicate 64 (.int .u8 0) ++ [.int .i64 0, .int .i64 0, .int .i64 1, .int .i64 1]
def rowIs (st : Zz.ASt) (A : Nat) (l : List Zz.AV) (e : TypeId) : Bool := match Zz.rowA st A with
  | some (l', e') => Zz.eqAVs l' l && Nat.beq e' e
  | none => false
theorem row_of {st : Zz.ASt} {A : Nat} {l : List Zz.AV} {e : TypeId} (h : rowIs st A l e = true) : Zz.rowA st A = some (l, e) := by
  unfold rowIs at h
  split at h
  · rename_i l' e' he
    simp only [Bool.and_eq_true] at h
    rw [he, Zz.eqAVs_eq h.1, Nat.eq_of_beq_eq_true h.2]
  · cases h
theorem raw_pipe : rowIs (Zz.stL spRaw 2000) 1037 pipe0 152 = true := by kernel_rfl
theorem raw_A : Zz.subSt 10 (putSt (Zz.stL spRaw 2000) 1037 2000 (.abs 10)) spA = true := by kernel_rfl

theorem sr1_eq : s0E 5 [.int .i64 3, .str []] Zz.st0 = sr1 := by kernel_rfl
theorem sr2_eq : s0E 6 [.ptr 1014 0, .int .i64 1, cE 5 0 0] (stOf sr1) = sr2 := by kernel_rfl
theorem sr3_eq : s0E 6 [.ptr 1014 0, .int .i64 1, cE 7 0 0] st2p = sr3 := by kernel_rfl
theorem sr4_eq : s0E 6 [.ptr 1014 0, .int .i64 1, cE 4 4 0] (stOf sr3) = sr4 := by kernel_rfl
theorem sr5_eq : s0E 6 [.ptr 1014 0, .int .i64 2, cE 4 3 0] (stOf sr4) = sr5 := by kernel_rfl
def rz : Nat → Value := rho (Zz.pipeV [] 1 1) (Zz.pipeV [] 1 1) (.int .i64 0) (.int .i64 0)
theorem rz_opq : Zz.Opq rz := rho_opq (cellV_pipe _ _ _) (cellV_pipe _ _ _) (cellV_int _ _) (cellV_int _ _)
def St (W0 : World) (st : Zz.ASt) (K : Nat) (w : World) : Prop := ∃ m z, Zz.Stands rz W0 W0.heap.size st m w ∧ m 1014 = some (K, 0, z)
def StP (W0 : World) (st : Zz.ASt) (K Pb : Nat) (w : World) : Prop := ∃ m z z', Zz.Stands rz W0 W0.heap.size st m w ∧ m 1014 = some (K, 0, z) ∧ m 1900 = some (Pb, 0, z')
theorem no_hooks (W0 : World) : Zz.HookOk Tryz.prog rz W0 W0.heap.size ⟨Zz.hookOf [], Zz.noOra⟩ ∧ Zz.FrH ⟨Zz.hookOf [], Zz.noOra⟩ := Zz.hooks_ok (P := Tryz.prog) (ρ := rz) (w0 := W0) (base := W0.heap.size) (l := []) (or := Zz.noOra) (fun p hp => by cases hp) (fun _ _ e => by cases e)
theorem begun_gen {r : Option (Zz.AV × Zz.ASt)} (hr : s0E 5 [.int .i64 3, .str []] Zz.st0 = r) (h1 : isV r (.tup [.ptr 1014 0, .int .i64 0]) = true) (h2 : ble Zz.st0 (stOf r) = true) (h3 : Zz.exactB ((stOf r).heap.get 1014) = true) (w : World) :
    Calls Tryz.prog 5 #[.int .i64 3, .string ByteArray.empty] w fun e w' => ∃ K, e = .returned (.tuple #[ptrK K, .int .i64 0]) ∧ St w (stOf r) K w' := by
  obtain ⟨hH, hF⟩ := no_hooks w
  have h0 : Zz.Stands rz w w.heap.size Zz.st0 (fun _ => none) w := ⟨⟨fun A b hb => (by rw [show Zz.st0.heap.get A = none from rfl] at hb; cases hb), fun A B a b p q ha => (by rw [show Zz.st0.heap.get A = none from rfl] at ha; cases ha), Below.refl _ _, Nat.le_refl _⟩, fun _ _ => rfl⟩
  have hc := hr.trans (isV_eq h1)
  refine (stands_call (us := #[.int .i64 3, .string ByteArray.empty]) follows_mixed rz_opq hH hF 400 h0 hc (Nat.le_of_ble_eq_true h2) ?_ rfl).mono ?_
  · exact .cons _ _ _ _ (.int _ _) (.cons _ _ _ _ (.str []) .nil)
  · rintro e w' ⟨m', v', rfl, hvr, hE, hs⟩
    obtain ⟨z, hz⟩ := hs.rel.exact h3
    cases hvr with
    | tup l u hl =>
      obtain ⟨u⟩ := u
      cases hl with | cons _ v1 _ r1 q1 hl => _
      cases hl with | cons _ v2 _ r2 q2 hl => _
      cases hl
      cases q2
      cases q1 with
      | ptr _ _ b d z' hm =>
        rw [hz] at hm
        cases hm
        exact ⟨_, rfl, m', _, hs, hz⟩
theorem do_gen {W0 : World} {st : Zz.ASt} {r : Option (Zz.AV × Zz.ASt)} {K Pb : Nat} {pid kind fd n a b : Int} {w : World} (hr : s0E 6 [.ptr 1014 0, .int .i64 pid, cE kind fd n] st = r) (h1 : isV r (rep 0 (.int .i64 a) b (.str [])) = true) (h2 : ble st (stOf r) = true) :
    (St W0 st K w → Calls Tryz.prog 6 #[ptrK K, .int .i64 pid, callV kind fd n [] []] w fun e w' => e = .returned (repV 0 a b []) ∧ St W0 (stOf r) K w') ∧
    (StP W0 st K Pb w → Calls Tryz.prog 6 #[ptrK K, .int .i64 pid, callV kind fd n [] []] w fun e w' => e = .returned (repV 0 a b []) ∧ StP W0 (stOf r) K Pb w') := by
  obtain ⟨hH, hF⟩ := no_hooks W0
  have hc := hr.trans (isV_eq h1)
  have key : ∀ m z, Zz.Stands rz W0 W0.heap.size st m w → m 1014 = some (K, 0, z) → Calls Tryz.prog 6 #[ptrK K, .int .i64 pid, callV kind fd n [] []] w fun e w' => e = .returned (repV 0 a b []) ∧ ∃ m', Zz.Ext m m' ∧ Zz.Stands rz W0 W0.heap.size (stOf r) m' w' := by
    intro m z hs hm
    refine (stands_call (us := #[ptrK K, .int .i64 pid, callV kind fd n [] []]) follows_mixed rz_opq hH hF 400 hs hc (Nat.le_of_ble_eq_true h2) ?_ rfl).mono ?_
    · exact .cons _ _ _ _ (.ptr _ _ _ _ _ hm) (.cons _ _ _ _ (.int _ _) (.cons _ _ _ _ (.agg _ _ (.cons _ _ _ _ (.int _ _) (.cons _ _ _ _ (.int _ _) (.cons _ _ _ _ (.int _ _) (.cons _ _ _ _ (.str _) (.cons _ _ _ _ (.str _) .nil)))))) .nil))
    · rintro e w' ⟨m', v', rfl, hvr, hE, hs'⟩
      obtain ⟨vx, vy, q1, q2, rfl⟩ := rep_inv hvr
      cases q1
      cases q2
      exact ⟨rfl, m', hE, hs'⟩
  refine ⟨?_, ?_⟩
  · rintro ⟨m, z, hs, hm⟩
    refine (key m z hs hm).mono ?_
    rintro e w' ⟨rfl, m', hE, hs'⟩
    exact ⟨rfl, m', z, hs', hE _ _ hm⟩
  · rintro ⟨m, z, z', hs, hm, hp⟩
    refine (key m z hs hm).mono ?_
    rintro e w' ⟨rfl, m', hE, hs'⟩
    exact ⟨rfl, m', z, z', hs', hE _ _ hm, hE _ _ hp⟩
def pCells : Array Value := #[.int .i64 0, .int .i64 3, .int .i64 4, .string ByteArray.empty, .slice none 0 0, .int .i64 0, .int .i64 0, .int .i64 0]
theorem pBlk_get {i : Nat} {a : Zz.AV} (h : (Zz.CT.get ⟨putP pList, [], 0, 0⟩ i) = some a) : i < 8 ∧ Zz.oneA a = true ∧ ∃ v, pCells[0 + i]? = some v ∧ ∀ ρ m, Zz.VR ρ m a v := by
  have h' : (Zz.putL .lf 0 pList).get i = some a := h
  rw [Zz.putL_get, show pList.length = 8 from rfl] at h'
  by_cases hi : 0 ≤ i ∧ i < 0 + 8
  · rw [if_pos hi] at h'
    have hi8 : i < 8 := by omega
    rw [Nat.zero_add]
    have : i = 0 ∨ i = 1 ∨ i = 2 ∨ i = 3 ∨ i = 4 ∨ i = 5 ∨ i = 6 ∨ i = 7 := by omega
    rcases this with rfl | rfl | rfl | rfl | rfl | rfl | rfl | rfl <;> (cases h'; exact ⟨by omega, rfl, _, rfl, fun ρ m => by first | exact .int _ _ | exact .str _ | exact .sl0⟩)
  · rw [if_neg hi] at h'; cases h'
/-- the reply is laid -/
theorem StP.gen {W0 : World} {st : Zz.ASt} {K Pb : Nat} {w w2 : World} (hn : Nat.blt st.next 1900 = true) (h : St W0 st K w) (hB : Below w.heap.size w w2) (hP : w.heap.size ≤ Pb)
    (hc : w2.heap[Pb]? = some (.cells pCells 32 (0, 0))) : StP W0 (putSt st 1900 1901 pBlk) K Pb w2 := by
  obtain ⟨m, z, hs, hm⟩ := h
  have hn1 : st.next < 1900 := by simpa using hn
  have hno : m 1900 = none := hs.new _ (by omega)
  have hr := Rel_grow hs.rel hB
  have hf := hr.fresh (A := 1900) (new := pBlk) (p := (Pb, 0, 8)) hno (Nat.le_trans hs.rel.le hP) (fun B b q hB' hd hq => by
    obtain ⟨p, e1, _, e3⟩ := hs.rel.blk B b hB'
    rw [hq] at e1; cases e1
    exact Nat.ne_of_lt (Nat.lt_of_lt_of_le (e3.lt hd) hP)) ⟨pCells, 0, 0, hc, rfl, Nat.le_refl _, fun i a hi => by
      obtain ⟨q1, q2, v, q3, q4⟩ := pBlk_get hi
      exact ⟨q1, q2, v, q3, q4 _ _⟩, fun j _ _ => by omega, fun _ _ => ⟨⟨rfl, rfl⟩, rfl, rfl⟩⟩
  refine ⟨Zz.mset m 1900 (Pb, 0, 8), z, 8, ⟨?_, fun A hA => ?_⟩, Zz.mset_ext hno _ _ hm, Zz.mset_same _ _ _⟩
  · show Zz.Rel rz W0 W0.heap.size _ (st.heap.put 1900 pBlk).get w2
    rw [Zz.get_upd]; exact hf
  · have hA' : 1901 ≤ A := hA
    unfold Zz.mset
    rw [if_neg (by omega)]
    exact hs.new A (by omega)
/-- the pipe becomes one thing -/
theorem Ker.of {W0 : World} {st : Zz.ASt} {K Pb : Nat} {w : World} (hsub : Zz.subSt 10 st spRaw = true) (h : StP W0 st K Pb w) : Ker W0 spA [] 1 K Pb w := by
  obtain ⟨m, z, z', hs, hm, hp⟩ := h
  obtain ⟨o1, o2⟩ := okS_all ok_Raw
  have f1 := Zz.Stands.focus (ρ' := rz) (f := 10) rfl hs.rel hsub o1 o2
  obtain ⟨g1, g2, g3⟩ := Zz.rowA_at f1.rel (row_of raw_pipe)
  have hx : Zz.exactB ((Zz.stL spRaw 2000).heap.get 1037) = true := by kernel_rfl
  obtain ⟨z3, hz3⟩ := f1.rel.exact hx
  generalize hb : Zz.bm (Zz.onlyM m spRaw) 1037 = b at g1 g2 hz3
  have hcell : ∀ i v, (pipe0.map (Zz.conc rz (Zz.bm (Zz.onlyM m spRaw))))[i]? = some v → w.cell? ⟨b, i, none⟩ = some v := fun i v hi => by
    rw [Zz.cell_of g1]; simpa using hi
  have hp0 : ∀ f, pipe0.map (Zz.conc rz f) = List.replicate 64 (Value.int .u8 0) ++ [.int .i64 0, .int .i64 0, .int .i64 1, .int .i64 1] := fun f => rfl
  rw [hp0] at hcell
  have hP : PipeSt w b [] 1 1 := by
    refine ⟨by simp, fun _ => 0, 0, by omega, ⟨fun i hi => ?_, ?_, ?_, ?_, ?_, fun i => ?_⟩, rfl⟩
    · exact hcell i _ (by rw [List.getElem?_append_left (by simpa using hi), List.getElem?_replicate, if_pos hi]; rfl)
    · exact hcell 64 _ rfl
    · exact hcell 65 _ rfl
    · exact hcell 66 _ rfl
    · exact hcell 67 _ rfl
    · simp [World.frozen?, g1]
  obtain ⟨o, ho, hR⟩ := absR_of hP
  have hold : ∃ old, (Zz.stL spRaw 2000).heap.get 1037 = some old ∧ Zz.isDead old = false := by
    unfold Zz.exactB at hx
    split at hx
    · rename_i c n e hg
      exact ⟨_, hg, rfl⟩
    · cases hx
  obtain ⟨old, ho1, ho2⟩ := hold
  have hW := f1.rel.write (A := 1037) (new := .abs 10) (w' := w) ho1 hz3 ho2 (fun k _ => rfl) rfl rfl rfl rfl ⟨rfl, o, ho, hR⟩
  have hW2 : Zz.Rel rz W0 W0.heap.size (Zz.onlyM m spRaw) (putSt (Zz.stL spRaw 2000) 1037 2000 (.abs 10)).heap.get w := by
    show Zz.Rel rz W0 W0.heap.size _ ((Zz.stL spRaw 2000).heap.put 1037 (.abs 10)).get w
    rw [Zz.get_upd]; exact hW
  obtain ⟨p1, p2⟩ := okS_all ok_A
  have f2 := Zz.Stands.focus (ρ' := rz) (f := 10) rfl hW2 raw_A p1 p2
  exact ⟨rz, _, z, z', rfl, f2, Zz.onlyM_in (by kernel_rfl) (Zz.onlyM_in (by kernel_rfl) hm), Zz.onlyM_in (by kernel_rfl) (Zz.onlyM_in (by kernel_rfl) hp)⟩
/-- what the reply says -/
theorem Ker.p1 {W0 : World} {S : List (Nat × Zz.ABlk)} {l : List UInt8} {wr K Pb : Nat} {w : World} (hrow : rowIs (Zz.stL S 2000) 1900 pList 32 = true) (h : Ker W0 S l wr K Pb w) : w.cell? ⟨Pb, 1, none⟩ = some (.int .i64 3) ∧ w.cell? ⟨Pb, 2, none⟩ = some (.int .i64 4) := by
  obtain ⟨ρ, m, z, z', _, hs, _, hp⟩ := h
  obtain ⟨g1, _, _⟩ := Zz.rowA_at hs.rel (row_of hrow)
  have hb : Zz.bm m 1900 = Pb := by unfold Zz.bm; rw [hp]
  rw [hb] at g1
  exact ⟨by rw [Zz.cell_of g1]; rfl, by rw [Zz.cell_of g1]; rfl⟩
/-- the beginning's five calls -/
theorem sp_begun (w : World) : Calls Tryz.prog 5 #[.int .i64 3, .string ByteArray.empty] w fun e w' => ∃ K, e = .returned (.tuple #[ptrK K, .int .i64 0]) ∧ St w (stOf sr1) K w' := by
  have hv := sv1
  simp only [Bool.and_eq_true] at hv
  exact begun_gen (r := sr1) sr1_eq hv.1 hv.2.1 hv.2.2 w
theorem sp_pipe {W0 : World} {K : Nat} {w : World} (h : St W0 (stOf sr1) K w) : Calls Tryz.prog 6 #[ptrK K, .int .i64 1, callV 5 0 0 [] []] w fun e w' => e = .returned (repV 0 3 4 []) ∧ St W0 (stOf sr2) K w' := by
  have hv := sv2
  simp only [Bool.and_eq_true] at hv
  exact (do_gen (st := stOf sr1) (r := sr2) (Pb := 0) sr2_eq hv.1 hv.2.1).1 h
theorem sp_reply {W0 : World} {K Pb : Nat} {w w2 : World} (h : St W0 (stOf sr2) K w) (hB : Below w.heap.size w w2) (hP : w.heap.size ≤ Pb) (hc : w2.heap[Pb]? = some (.cells pCells 32 (0, 0))) : StP W0 st2p K Pb w2 := by
  have hv := sv2
  simp only [Bool.and_eq_true] at hv
  exact StP.gen (st := stOf sr2) hv.2.2 h hB hP hc
theorem sp_fork {W0 : World} {K Pb : Nat} {w : World} (h : StP W0 st2p K Pb w) : Calls Tryz.prog 6 #[ptrK K, .int .i64 1, callV 7 0 0 [] []] w fun e w' => e = .returned (repV 0 2 0 []) ∧ StP W0 (stOf sr3) K Pb w' := by
  have hv := sv3
  simp only [Bool.and_eq_true] at hv
  exact (do_gen (st := st2p) (r := sr3) (Pb := Pb) sr3_eq hv.1 hv.2).2 h
theorem sp_close4 {W0 : World} {K Pb : Nat} {w : World} (h : StP W0 (stOf sr3) K Pb w) : Calls Tryz.prog 6 #[ptrK K, .int .i64 1, callV 4 4 0 [] []] w fun e w' => e = .returned (repV 0 0 0 []) ∧ StP W0 (stOf sr4) K Pb w' := by
  have hv := sv4
  simp only [Bool.and_eq_true] at hv
  exact (do_gen (st := stOf sr3) (r := sr4) (Pb := Pb) sr4_eq hv.1 hv.2).2 h
theorem sp_close3 {W0 : World} {K Pb : Nat} {w : World} (h : StP W0 (stOf sr4) K Pb w) : Calls Tryz.prog 6 #[ptrK K, .int .i64 2, callV 4 3 0 [] []] w fun e w' => e = .returned (repV 0 0 0 []) ∧ Ker W0 spA [] 1 K Pb w' := by
  have hv := sv5
  simp only [Bool.and_eq_true] at hv
  refine ((do_gen (st := stOf sr4) (r := sr5) (Pb := Pb) sr5_eq hv.1 hv.2.1).2 h).mono ?_
  rintro e w' ⟨rfl, hP⟩
  exact ⟨rfl, Ker.of (st := stOf sr5) hv.2.2 hP⟩
end Go.Proofs.YtckmcajnhobkpaaGreatDoor
