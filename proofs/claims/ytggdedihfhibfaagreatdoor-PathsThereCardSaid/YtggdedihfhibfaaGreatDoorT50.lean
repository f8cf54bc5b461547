/- Texts of one proof, packed: PtQ, ThD, ThE -/
import Derived.Test.YtggdedihfhibfaaGreatDoorR45
import Derived.Test.YtggdedihfhibfaaGreatDoorOpen
import Derived.Test.YtggdedihfhibfaaGreatDoorT48
import Derived.Test.YtggdedihfhibfaaGreatDoorRows
import Derived.ProofKit
import Derived.OpenShut
import Derived.Lay
import Derived.LaidLaws
import Derived.LaidMore
import Derived.MakeChecks
import Derived.Lib.LaidTab
import Derived.Deep.DeepHandedRow
set_option linter.unusedVariables false
set_option linter.unusedSimpArgs false
set_option linter.deprecated false
set_option linter.unnecessarySimpa false
/- The laws' arguments: a row of what is made; the one variable of the library's that the walk reads. -/
namespace Go.Proofs.YtggdedihfhibfaaGreatDoor
open Go.RowKit Go.WideShapes Go.ChangeShapes Go.ChangeAt IntWalk
set_option linter.unusedVariables false
set_option linter.unusedSimpArgs false

theorem open_made {H : Type} {enc : TypeId × Value → H} {P : Program} {W : World} {base : Nat} {t e : TypeId} {f0 f1 f2 : Field} {v : Value} {d : DataW H} {ps : List MemPlace} {r : Reach}
    (ht : P.underlying t = some (.slice e)) (he : P.underlying e = some (.struct #[f0, f1, f2])) (hs0 : P.underlying f0.type = some .string) (hb1 : P.underlying f1.type = some .bool) (hs2 : P.underlying f2.type = some .string)
    (ho0 : f0.offset = 0) (ho1 : f1.offset = 1) (ho2 : f2.offset = 2) (hc0 : P.cellsOf f0.type = 1) (hc1 : P.cellsOf f1.type = 1) (hc2 : P.cellsOf f2.type = 1) (hc : P.cellsOf e = 3)
    (hval : Value.okWide P W r base t v) (h : DataW.Trod enc P W 0 (fun _ => true) true t v d ps) : ∃ L, Mades W v L := by
  obtain ⟨a0, len, cap, rfl⟩ := okWide_slice ht hval
  obtain ⟨fuel, hf⟩ := h
  rcases Go.Deep.open_slice ht hf with ⟨hcs, _⟩ | ⟨a, l, c, m, k, D, Pl, hcs, _, hl, hm, hmm, _, hx⟩
  · simp [Value.cells] at hcs
    obtain ⟨rfl, rfl, rfl⟩ := hcs
    exact ⟨[], by simp, ⟨none, 0, rfl, fun h => by simp at h⟩, fun i o h => by simp at h⟩
  · simp [Value.cells] at hcs
    obtain ⟨rfl, rfl, rfl⟩ := hcs
    simp only [if_true] at hmm
    have each : ∀ i, i < len → ∃ o : MadeR, (o.path.length ≤ maxLen ∧ o.to.length ≤ maxLen) ∧ W.cell? (a.add (i * 3)) = some (.string ⟨o.path.toArray⟩) ∧ W.cell? ((a.add (i * 3)).add 1) = some (.bool o.dir) ∧ W.cell? ((a.add (i * 3)).add 2) = some (.string ⟨o.to.toArray⟩) := by
      intro i hi
      obtain ⟨cs, h1, h2⟩ := hx i (by omega)
      rw [hc] at h1
      obtain ⟨_, hlen, hcell⟩ := World.cells?_some h1
      obtain ⟨y0, y1, y2, n, _, _, g0, g1, g2⟩ := Go.Deep.trod_struct3 he h2
      rw [ho0, hc0] at g0; rw [ho1, hc1] at g1; rw [ho2, hc2] at g2
      match cs, hlen with
      | [c0, c1, c2], _ =>
        obtain ⟨z0, e0, _, w0⟩ := DataW.trod_string hs0 g0
        obtain ⟨z1, e1, _⟩ := DataW.trod_bool hb1 g1
        obtain ⟨z2, e2, _, w2⟩ := DataW.trod_string hs2 g2
        simp at e0 e1 e2
        subst e0 e1 e2
        obtain ⟨l0, rfl, hl0⟩ := str_list z0 w0
        obtain ⟨l2, rfl, hl2⟩ := str_list z2 w2
        refine ⟨⟨l0, z1, l2⟩, ⟨hl0, hl2⟩, ?_, hcell 1 (by omega), hcell 2 (by omega)⟩
        have := hcell 0 (by omega)
        simpa [Addr.add] using this
    haveI : Inhabited MadeR := ⟨⟨[], false, []⟩⟩
    obtain ⟨f, hf⟩ := Go.Deep.choose_lt (α := MadeR) (p := fun i o => (o.path.length ≤ maxLen ∧ o.to.length ≤ maxLen) ∧ W.cell? (a.add (i * 3)) = some (.string ⟨o.path.toArray⟩) ∧ W.cell? ((a.add (i * 3)).add 1) = some (.bool o.dir) ∧ W.cell? ((a.add (i * 3)).add 2) = some (.string ⟨o.to.toArray⟩)) each
    have hget : ∀ i o, ((List.range len).map f)[i]? = some o → i < len ∧ f i = o := by
      intro i o h
      rw [List.getElem?_map] at h
      rcases Nat.lt_or_ge i len with h' | h'
      · simp [h'] at h; exact ⟨h', h⟩
      · rw [List.getElem?_eq_none (by simpa using h')] at h; simp at h
    refine ⟨(List.range len).map f, by simp; omega, ⟨some a, cap, by simp, fun hpos => ?_⟩, fun i o h => ?_⟩
    · have hpos' : 0 < len := by simpa using hpos
      have h0 := (hf 0 hpos').2.1
      have ha : a = ⟨a.block, a.off, none⟩ := cell_plain (by simpa [Addr.add] using h0)
      refine ⟨a.block, a.off, by rw [← ha], World.block_lt_of_cell? W a (by simpa [Addr.add] using h0), fun i o h => ?_⟩
      obtain ⟨hi, rfl⟩ := hget i o h
      obtain ⟨_, h1, h2, h3⟩ := hf i hi
      rw [ha, add_mk] at h1 h2 h3
      rw [add_mk] at h2 h3
      exact ⟨h1, h2, h3⟩
    · obtain ⟨hi, rfl⟩ := hget i o h
      exact (hf i hi).1
theorem envG_of {W : World} (hsh : W.ShapedOpen Tryz.prog) : EnvG W :=
  ⟨Go.Proofs.cell_of_shapedOpen_int (zero := #[.int .i64 0]) (t := 3) hsh (of_decide_eq_true (by kernel_rfl)) (by kernel_rfl) rfl (by kernel_rfl) (by kernel_rfl) Tryz.underlying3⟩
end Go.Proofs.YtggdedihfhibfaaGreatDoor
/- A field as a law's argument: opened. -/
namespace Go.Proofs.YtggdedihfhibfaaGreatDoor
open Go.RowKit Go.WideShapes Go.ChangeShapes Go.ChangeAt IntWalk
set_option linter.unusedVariables false
set_option linter.unusedSimpArgs false

theorem open_field {H : Type} {enc : TypeId × Value → H} {P : Program} {W : World} {base : Nat} {t e : TypeId} {f0 f1 : Field} {v : Value} {d : DataW H} {ps : List MemPlace} {r : Reach}
    (ht : P.underlying t = some (.struct #[f0, f1])) (h0 : P.underlying f0.type = some .string) (h1 : P.underlying f1.type = some (.slice e)) (he : P.underlying e = some .bool) (hce : P.cellsOf e = 1)
    (ho : (f0.offset, f1.offset) = (0, 1)) (hc : (P.cellsOf f0.type, P.cellsOf f1.type, P.cellsOf t) = (1, 1, 2))
    (hval : Value.okWide P W r base t v) (h : DataW.Trod enc P W 0 (fun _ => true) true t v d ps) : ∃ a, FieldArg W v a := by
  obtain ⟨cs, rfl, hsz⟩ := okWide_struct ht hval
  obtain ⟨fuel, hf⟩ := h
  obtain ⟨xs, n, _, _, hl, hlen, hx⟩ := DataW.trod_struct ht hf
  simp only [Prod.mk.injEq] at ho hc
  obtain ⟨o0, o1⟩ := ho
  obtain ⟨c0, c1, ct⟩ := hc
  simp only [Value.cells] at hl hx
  rw [ct] at hsz
  match xs, hlen with
  | [y0, y1], _ =>
    match cs, hsz with
    | ⟨[z0, z1]⟩, _ =>
      have g0 := hx 0 f0 rfl
      have g1 := hx 1 f1 rfl
      rw [o0, c0] at g0; rw [o1, c1] at g1
      simp only [List.getElem?_cons_zero, List.getElem?_cons_succ] at g0 g1
      obtain ⟨u0, e0, _, w0⟩ := DataW.trod_string h0 g0
      simp at e0
      subst e0
      obtain ⟨l0, rfl, hl0⟩ := str_list u0 w0
      rcases Go.Deep.open_slice1 h1 hce g1 with ⟨hcs, _⟩ | ⟨a, len, cap, m, k, V, D, Pl, hcs, _, hlc, hm, hmm, _, hxx⟩
      · simp at hcs
        subst hcs
        exact ⟨(l0, []), _, rfl, no_bools W, hl0, by simp⟩
      · simp at hcs
        subst hcs
        simp only [if_true] at hmm
        have each : ∀ i, i < len → ∃ o : Bool, W.cell? (a.add i) = some (.bool o) := by
          intro i hi
          obtain ⟨q1, q2⟩ := hxx i (by omega)
          obtain ⟨z, e1, _⟩ := DataW.trod_bool he q2
          simp at e1
          exact ⟨z, by rw [q1, e1]⟩
        obtain ⟨f, hf2⟩ := Go.Deep.choose_lt (α := Bool) (p := fun i o => W.cell? (a.add i) = some (.bool o)) each
        have hget : ∀ i o, ((List.range len).map f)[i]? = some o → i < len ∧ f i = o := by
          intro i o h
          rw [List.getElem?_map] at h
          rcases Nat.lt_or_ge i len with h' | h'
          · simp [h'] at h; exact ⟨h', h⟩
          · rw [List.getElem?_eq_none (by simpa using h')] at h; simp at h
        refine ⟨(l0, (List.range len).map f), .slice (some a) len cap, rfl, ⟨⟨some a, cap, by simp, fun hpos => ?_⟩, fun a' n' c' e' => by cases e'; exact hlc⟩, hl0, by simp; omega⟩
        have hpos' : 0 < len := by simpa using hpos
        have hh0 := hf2 0 hpos'
        have ha : a = ⟨a.block, a.off, none⟩ := cell_plain (by simpa [Addr.add] using hh0)
        refine ⟨a.block, a.off, by rw [← ha], World.block_lt_of_cell? W a (by simpa [Addr.add] using hh0), fun i o h => ?_⟩
        obtain ⟨hi, rfl⟩ := hget i o h
        have q1 := hf2 i hi
        rw [ha, add_mk] at q1
        exact q1
end Go.Proofs.YtggdedihfhibfaaGreatDoor
/- From what the rows list (the library's variables) to the facts that the walks ask. -/
namespace Go.Proofs.YtggdedihfhibfaaGreatDoor
open Go.ChangeShapes Go.WideShapes Go.ChangeAt Go.RowKit

theorem laid_get {P : Program} {W : World} : ∀ {l : List (String × DataW Unit)} {ps : List MemPlace}, DataW.LaidVars P W l ps → ∀ x ∈ l,
    ∃ g t cs fuel p, P.globalNamed x.1 = some g ∧ (P.globals[g]?).map (·.type) = some t ∧ W.var? P x.1 = some cs ∧ DataW.trod (fun _ => ()) P W 0 (fun _ => true) false fuel t cs.toList = some (x.2, p)
  | [], _, _, x, hx => by cases hx
  | (n, d) :: r, ps, h, x, hx => by
    obtain ⟨g, t, cs, fuel, p, q, h1, h2, h3, h4, h5, _⟩ := h
    rcases List.mem_cons.1 hx with rfl | hx
    · exact ⟨g, t, cs, fuel, p, h1, h2, h3, h4⟩
    · exact laid_get h5 x hx
theorem laid_tab {P : Program} {W : World} {l : List (String × DataW Unit)} {ps : List MemPlace} (h : DataW.LaidVars P W l ps) {name : String} {k : IntKind} {zs : List Int} {g : Nat} {t e : TypeId} {n : Nat}
    (hx : (name, Lib.tabData k zs) ∈ l) (hg : P.globalNamed name = some g) (hty : (P.globals[g]?).map (·.type) = some t) (ht : P.underlying t = some (.array n e)) (he : P.underlying e = some (.int k)) (hce : P.cellsOf e = 1) (hct : P.cellsOf t = n) :
    Lib.TabIs P W name k zs := by
  obtain ⟨g', t', cs, fuel, p, hg', ht', hvar, hd⟩ := laid_get h _ hx
  obtain rfl := Option.some.inj (hg.symm.trans hg')
  obtain rfl := Option.some.inj (hty.symm.trans ht')
  unfold Lib.TabIs
  rw [hvar, ← Lib.cells_of_tab ht he hce hct hd]
theorem pow10_data : (Rows.laid_internal_strconv_uint64pow10 : DataW Unit) = Lib.tabData .u64 Lib.pow10Tab := by kernel_rfl
theorem envT_of {W : World} {l : List (String × DataW Unit)} (h : laidMetH Tryz.prog l W) (hp : (l.all fun x => x.2.handleName?.isNone) = true) (hsh : W.ShapedOpen Tryz.prog)
    (h1 : ("internal/strconv.uint64pow10", Rows.laid_internal_strconv_uint64pow10) ∈ l) : EnvT W := by
  rw [MakeChecks.laidMetH_plain _ _ _ hp] at h
  obtain ⟨ps, hv, _⟩ := h
  rw [pow10_data] at h1
  exact ⟨envG_of hsh, laid_tab hv h1 gPow10 (by kernel_rfl) (t := 264) (e := 184) (n := 20) (by kernel_rfl) (by kernel_rfl) (by kernel_rfl) (by kernel_rfl)⟩
end Go.Proofs.YtggdedihfhibfaaGreatDoor
