/- conchlaw18.SysPipes: it returns true at every text and every row of numbers, in every world that holds them, and changes nothing that was there. No other condition. -/
import Derived.Test.YtckmcajnhobkpaaGreatDoorSpL
import Derived.Test.YtckmcajnhobkpaaGreatDoorOpen
namespace Go.Proofs.YtckmcajnhobkpaaGreatDoor
open Go.RowKit Go.WideShapes IntWalk
set_option linter.unusedVariables false
set_option linter.unusedSimpArgs false

/-- a list of n numbers of the caller's -/
def Nums (W : World) (v : Value) (n : Nat) (zs : Nat → Int) : Prop :=
  ∃ p c, v = .slice p n c ∧ ∃ b off, (0 < n → p = some ⟨b, off, none⟩ ∧ b < W.heap.size) ∧ ∀ j, j < n → W.cell? ⟨b, off + j, none⟩ = some (.int .i64 (zs j)) ∧ -9223372036854775808 ≤ zs j ∧ zs j ≤ 9223372036854775807
theorem open_nums {H : Type} {enc : TypeId × Value → H} {P : Program} {W : World} {base : Nat} {t e : TypeId} {v : Value} {d : DataW H} {ps : List MemPlace} {r : Reach}
    (ht : P.underlying t = some (.slice e)) (he : P.underlying e = some (.int .i64)) (hc : P.cellsOf e = 1)
    (hval : Value.okWide P W r base t v) (h : DataW.Trod enc P W 0 (fun _ => true) true t v d ps) : ∃ n zs, Nums W v n zs := by
  obtain ⟨a0, len, cap, rfl⟩ := okWide_slice ht hval
  obtain ⟨fuel, hf⟩ := h
  rcases Go.Deep.open_slice ht hf with ⟨hcs, _⟩ | ⟨a, l, c, m, k, D, Pl, hcs, _, hl, hm, hmm, _, hx⟩
  · simp [Value.cells] at hcs
    obtain ⟨rfl, rfl, rfl⟩ := hcs
    exact ⟨0, fun _ => 0, none, 0, rfl, 0, 0, fun h => absurd h (by omega), fun j hj => absurd hj (by omega)⟩
  · simp [Value.cells] at hcs
    obtain ⟨rfl, rfl, rfl⟩ := hcs
    simp only [if_true] at hmm
    have each : ∀ i, i < len → ∃ o : Int, W.cell? (a.add i) = some (.int .i64 o) ∧ -9223372036854775808 ≤ o ∧ o ≤ 9223372036854775807 := by
      intro i hi
      obtain ⟨cs, h1, h2⟩ := hx i (by omega)
      rw [hc] at h1
      obtain ⟨_, hlen, hcell⟩ := World.cells?_some h1
      match cs, hlen with
      | [c0], _ =>
        obtain ⟨z0, e0, _, w0⟩ := DataW.trod_int he h2
        simp at e0
        subst e0
        refine ⟨z0, ?_, (wf_i64 w0).1, (wf_i64 w0).2⟩
        have := hcell 0 (by omega)
        simpa [Addr.add] using this
    obtain ⟨f, hf⟩ := Go.Deep.choose_lt (α := Int) (p := fun i o => W.cell? (a.add i) = some (.int .i64 o) ∧ -9223372036854775808 ≤ o ∧ o ≤ 9223372036854775807) each
    by_cases h0 : 0 < len
    · have h1 := (hf 0 h0).1
      have ha : a = ⟨a.block, a.off, none⟩ := cell_plain (by simpa [Addr.add] using h1)
      refine ⟨len, f, some a, cap, rfl, a.block, a.off, fun _ => ⟨by rw [← ha], World.block_lt_of_cell? W a (by simpa [Addr.add] using h1)⟩, fun j hj => ?_⟩
      have h2 := hf j hj
      rw [ha, add_mk] at h2
      exact h2
    · exact ⟨len, f, some a, cap, rfl, 0, 0, fun h => absurd h h0, fun j hj => absurd hj (by omega)⟩
set_option maxRecDepth 1000000
theorem StP.p {W0 : World} {st : Zz.ASt} {K Pb : Nat} {w : World} (hrow : rowIs st 1900 pList 32 = true) (h : StP W0 st K Pb w) : w.cell? ⟨Pb, 1, none⟩ = some (.int .i64 3) ∧ w.cell? ⟨Pb, 2, none⟩ = some (.int .i64 4) := by
  obtain ⟨m, z, z', hs, _, hp⟩ := h
  obtain ⟨g1, _, _⟩ := Zz.rowA_at hs.rel (row_of hrow)
  have hb : Zz.bm m 1900 = Pb := by unfold Zz.bm; rw [hp]
  rw [hb] at g1
  exact ⟨by rw [Zz.cell_of g1]; rfl, by rw [Zz.cell_of g1]; rfl⟩
theorem row_3 : rowIs (stOf sr3) 1900 pList 32 = true := by kernel_rfl
theorem row_4 : rowIs (stOf sr4) 1900 pList 32 = true := by kernel_rfl
theorem sp_awake_run : Zz.saysTrue ((Zz.exec Tryz.prog ⟨Zz.hookOf [], Zz.noOra⟩ 400).call 4 [] Zz.st0) = true := by kernel_rfl
theorem sp_awake (W : World) : Calls Tryz.prog 4 #[] W fun e w' => e = .returned (.bool true) ∧ Below W.heap.size W w' :=
  Zz.exec_top (ρ := fun _ => .int .i64 0) follows_mixed (fun k => ⟨(fun _ h => by cases h), (fun _ h => by cases h)⟩) W (l := []) (fun p hp => by cases hp) 400 .nil sp_awake_run
end Go.Proofs.YtckmcajnhobkpaaGreatDoor
