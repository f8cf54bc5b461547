/- Texts of one proof, packed: UtO -/
import Derived.Test.YtbecmcjibpamoaaGreatDoorU14
import Derived.Test.YtbecmcjibpamoaaGreatDoorOpen
set_option linter.unusedVariables false
set_option linter.unusedSimpArgs false
set_option linter.deprecated false
set_option linter.unnecessarySimpa false
/- UtilsCp: its arguments, opened; the one variable of the library's that the walk reads. -/
namespace Go.Proofs.YtbecmcjibpamoaaGreatDoor
open Go.RowKit Go.WideShapes Go.ChangeShapes Go.ChangeAt IntWalk
set_option linter.unusedVariables false
set_option linter.unusedSimpArgs false

/-- two bytes in an array -/
def Two (v : Value) (a : Int × Int) : Prop := v = .agg #[.int .u8 a.1, .int .u8 a.2] ∧ (0 ≤ a.1 ∧ a.1 ≤ 255) ∧ (0 ≤ a.2 ∧ a.2 ≤ 255)
theorem open_two {H : Type} {enc : TypeId × Value → H} {P : Program} {W : World} {base : Nat} {t e : TypeId} {v : Value} {d : DataW H} {ps : List MemPlace} {r : Reach}
    (ht : P.underlying t = some (.array 2 e)) (he : P.underlying e = some (.int .u8)) (hc : P.cellsOf e = 1) (hct : P.cellsOf t = 2)
    (hval : Value.okWide P W r base t v) (h : DataW.Trod enc P W 0 (fun _ => true) true t v d ps) : ∃ a, Two v a := by
  simp only [Value.okWide, ht] at hval
  obtain ⟨cs, rfl, hsz, _⟩ := hval
  obtain ⟨fuel, hf⟩ := h
  obtain ⟨xs, m, _, _, hl, hx, hi⟩ := DataW.trod_array ht hf
  simp only [Value.cells] at hl hi
  rw [hct] at hsz
  match cs, hsz with
  | ⟨[c0, c1]⟩, _ =>
    have h0 := hi 0 (by omega)
    have h1 := hi 1 (by omega)
    rw [hc, List.getElem?_eq_getElem (by omega)] at h0 h1
    obtain ⟨z0, e0, _, w0⟩ := DataW.trod_int he h0
    obtain ⟨z1, e1, _, w1⟩ := DataW.trod_int he h1
    simp at e0 e1
    subst e0 e1
    exact ⟨(z0, z1), rfl, wf_u8 w0, wf_u8 w1⟩
theorem envG_of {W : World} (hsh : W.ShapedOpen Tryz.prog) : EnvG W :=
  ⟨Go.Proofs.cell_of_shapedOpen_int (zero := #[.int .i64 0]) (t := 3) hsh (of_decide_eq_true (by kernel_rfl)) (by kernel_rfl) rfl (by kernel_rfl) (by kernel_rfl) Tryz.underlying3⟩
theorem cp_law2 (data : List UInt8) (hd : data.length ≤ maxLen) (v : Value) (a : Int × Int) (ha : Two v a) (W : World) (hE : EnvG W) :
    Calls Tryz.prog 3 #[.string ⟨data.toArray⟩, v] W fun e w' => e = .returned (.bool true) ∧ Below W.heap.size W w' := by
  obtain ⟨rfl, h1, h2⟩ := ha
  exact cp_law data hd a.1 a.2 h1 h2 W hE
end Go.Proofs.YtbecmcjibpamoaaGreatDoor
