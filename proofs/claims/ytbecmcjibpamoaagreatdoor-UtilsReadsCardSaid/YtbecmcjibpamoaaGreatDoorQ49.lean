/- UrU Door -/
import Derived.Test.YtbecmcjibpamoaaGreatDoorQ44
import Derived.Test.YtbecmcjibpamoaaGreatDoorQ47
import Derived.Test.YtbecmcjibpamoaaGreatDoorQ48
import Derived.Test.YtbecmcjibpamoaaGreatDoorQ40
import Derived.Test.YtbecmcjibpamoaaGreatDoorRows
import Derived.ProofKit
import Derived.OpenShut
import Derived.Lay
import Derived.LaidLaws
import Derived.LaidMore
import Derived.MakeChecks
import Derived.Lib.LaidTab
import Derived.Deep.DeepHandedRow
set_option linter.unusedVariables false
set_option linter.unusedSimpArgs false
set_option linter.deprecated false
set_option linter.unnecessarySimpa false
namespace Go.Proofs.YtbecmcjibpamoaaGreatDoor
open Go.RowKit IntWalk
theorem StrsN.below {w w' : World} {v : Value} {L : List (List UInt8)} (h : StrsN w v L) (hb : Below w.heap.size w w') : StrsN w' v L := ⟨h.1.below hb, h.2⟩
def doneO2 (out err : List UInt8) (st : Int) : Obj := .cells #[.string ⟨out.toArray⟩, .string ⟨err.toArray⟩, .int .i64 st] 32 (0, 0)
def namesO : Obj := .cells (rdL.map fun y => Value.string ⟨y.toArray⟩).toArray 9 (0, 0)
theorem which_ok (z : Int) : ∃ k : Nat, k < 13 ∧ Int.tmod (wrap64 (Int.tmod z 13 + 13)) 13 = (k : Int) := by
  have h1 := Int.tmod_lt_of_pos z (b := 13) (by omega)
  have h2 : -13 < Int.tmod z 13 := by
    have := Int.lt_tmod_of_pos z (b := 13) (by omega)
    omega
  have h3 : 0 ≤ Int.tmod z 13 + 13 := by omega
  have h4 := Int.tmod_nonneg 13 h3
  have h5 := Int.tmod_lt_of_pos (Int.tmod z 13 + 13) (b := 13) (by omega)
  rw [wrap64_in _ ⟨by omega, by omega⟩]
  exact ⟨(Int.tmod (Int.tmod z 13 + 13) 13).toNat, by omega, by omega⟩
theorem name_at {w : World} {b k : Nat} (h : w.heap[b]? = some namesO) (hk : k < 13) : ∃ x, x ∈ rdL ∧ x.length ≤ 100 ∧ w.cell? ⟨b, k, none⟩ = some (.string ⟨x.toArray⟩) := by
  have hl : rdL.length = 13 := rfl
  obtain ⟨x, hx⟩ : ∃ x, rdL[k]? = some x := ⟨_, List.getElem?_eq_getElem (by rw [hl]; exact hk)⟩
  have hm := List.mem_of_getElem? hx
  refine ⟨x, hm, ?_, ?_⟩
  · have : ∀ y ∈ rdL, y.length ≤ 100 := by decide
    exact this x hm
  · unfold World.cell?
    dsimp only
    rw [h]
    unfold namesO
    simp [hx]
set_option maxRecDepth 100000 in
set_option maxHeartbeats 8000000 in
theorem reads_law (W : World) (a0 : Int) (l0 : -9223372036854775808 ≤ a0 ∧ a0 ≤ 9223372036854775807) (v : Value) (L : List (List UInt8)) (hv : StrsN W v L) (t : List UInt8) (ht : t.length ≤ maxLen) (hE : Env W) :
    Calls Tryz.prog 4 #[.int .i64 a0, v, .string ⟨t.toArray⟩] W fun e w' => e = .returned (.bool true) ∧ Below W.heap.size W w' := by
  have HAw := Lib.hid (fun V : World => awake_any V)
  obtain ⟨k, hk13, hidx⟩ := which_ok a0
  unfold maxLen at ht
  obtain ⟨a, cap, hv0, hcap, hat⟩ := hv.1.shape
  obtain ⟨n, hn⟩ : ∃ n, L.length = n := ⟨_, rfl⟩
  by_cases h1 : 500 < t.length
  · have h1i : (500 : Int) < (t.length : Int) := by omega
    subst hv0
    rw [hn]
    clear hat hv
    go_enter Tryz.func4, Tryz.ntmps4
    go_wp2_with (go_at_call 5; (refine (HAw.out _).mono ?_); rintro e w9 ⟨rfl, hb9⟩)
    go_ret
    exact ⟨rfl, hb9⟩
  have h1i : ¬ (500 : Int) < (t.length : Int) := by omega
  by_cases h2 : 9 < n
  · have h2i : (9 : Int) < (n : Int) := by omega
    subst hv0
    rw [hn]
    clear hat hv
    go_enter Tryz.func4, Tryz.ntmps4
    go_wp2_with (go_at_call 5; (refine (HAw.out _).mono ?_); rintro e w9 ⟨rfl, hb9⟩)
    go_ret
    exact ⟨rfl, hb9⟩
  have h2i : ¬ (9 : Int) < (n : Int) := by omega
  have HFw := Lib.hid (few_rd v L W hv.1 (by omega))
  have HV := Lib.hid hv
  have HE := Lib.hid hE
  have hL9 : L.length ≤ 9 := by omega
  subst hv0
  rw [hn] at HFw ⊢
  have HN := Lib.hid hn
  clear hat hv hE hn
  go_enter Tryz.func4, Tryz.ntmps4
  go_wp2_with fail
  refine HFw.out.mono ?_
  intro e w' hfw
  obtain ⟨⟨b, rfl, hb⟩, rfl⟩ := hfw
  cases b with
  | false =>
    go_wp2_with (go_at_call 5; (refine (HAw.out _).mono ?_); rintro e w9 ⟨rfl, hb9⟩)
    go_ret
    exact ⟨rfl, hb9⟩
  | true =>
    have H5 := Lib.hid (hb.out rfl)
    have hB1 : Below W.heap.size W (W.alloc namesO) := (Below.refl _ W).alloc (Nat.le_refl _) _
    have hN1 : (W.alloc namesO).heap[W.heap.size]? = some namesO := alloc_at _ _
    have hE1 := HE.out.below hB1
    obtain ⟨W1, hW1⟩ : ∃ W1, W.alloc namesO = W1 := ⟨_, rfl⟩
    rw [hW1] at hB1 hN1 hE1
    have HB := Lib.hid (begun_t W1 ⟨hE1.maxlen⟩)
    have HB1 := Lib.hid hB1
    have HN1 := Lib.hid hN1
    have HE1 := Lib.hid hE1
    unfold namesO rdL catRN wcN headN tailN grepN sortN uniqN trN lsN echoN printfN trueN falseN at hW1
    simp only [List.map_cons, List.map_nil] at hW1
    have HW1 := Lib.hid hW1
    clear hB1 hN1 hE1 hb hW1 HFw
    go_wp2_with fail
    rw [HW1.out]
    refine HB.out.mono ?_
    rintro e w2 ⟨F, rfl, lay, hF, hfs, hgen⟩
    have hmild := begin_mild hgen
    have htrn := begin_trn hgen
    have htr := htrn.tr (by decide)
    have hroot := htrn.root
    have hrk := begin_rk
    clear htrn
    generalize beginS = s at hfs hgen hmild htr hroot hrk
    have hbw2 := hfs.below
    have hE2 := HE1.out.below hbw2
    have HP := Lib.hid (print_ft (W0 := W1) (F := F) ⟨⟨hE2.maxlen⟩, hE2.pow10⟩ ⟨lay, hF, hfs, hgen⟩ htr hrk hroot)
    obtain ⟨pr, hpr⟩ : ∃ pr, s.printS 30 1 [] = pr := ⟨_, rfl⟩
    have HPR := Lib.hid hpr
    rw [hpr] at HP
    have HIN := Lib.hid hfs
    have HM := Lib.hid hmild
    have HT := Lib.hid htr
    have HRk := Lib.hid hrk
    have HRo := Lib.hid hroot
    have HF := Lib.hid hF
    have HGe := Lib.hid hgen
    clear hfs hgen hmild htr hroot hrk hpr hE2 hbw2 HB hF
    unfold ptrTo at *
    go_wp2_with first
      | (go_at_call 12; (with_reducible refine HP.out.mono ?_); rintro e w3 ⟨rfl, hb3⟩; have HIN3 := Lib.hid (HIN.out.kept1 hb3); have HFr := nfree_any w3 HIN3.out.is; rw [HF.out] at HFr; obtain ⟨fm, hfm⟩ : ∃ fm, gapsN s.nodes = fm := ⟨_, rfl⟩; obtain ⟨fn, hfn⟩ : ∃ fn, s.free = fn := ⟨_, rfl⟩; rw [hfm, hfn] at HFr; have HFree := Lib.hid HFr; have HFM := Lib.hid hfm; have HFN := Lib.hid hfn; unfold ptrTo at HFree; obtain ⟨x, hxm, hxl, hck⟩ := name_at ((HIN3.out.below.block W.heap.size (Array.getElem?_eq_some_iff.1 HN1.out).1).trans HN1.out) hk13; have HXM := Lib.hid hxm; have hv3 := HV.out.below (HB1.out.trans (HIN3.out.below.mono HB1.out.size)); rw [HN.out] at hv3; have HV3 := Lib.hid hv3; clear HFr hfm hfn hb3 hxm hv3)
      | (go_at_call 13; (with_reducible refine HFree.out.mono ?_); rintro e w' ⟨rfl, rfl⟩)
      | (at_builtin; refine append_name rfl _ _ rfl x _ L (by rfl) (by rfl) HV3.out (by omega) hxl ?_; intro g c w4 hrow hg hcg hb4; have HIN4 := Lib.hid (HIN3.out.kept1 hb4); have HDi := direct_rd HXM.out HE1.out HIN4.out hrow hg hcg hL9 H5.out (by omega : t.length ≤ 500) (fun V D d M hx h => runs_rd ⟨HE1.out.maxlen⟩ HE1.out HM.out HT.out (by rw [hx]; exact HXM.out) h); rw [HF.out] at HDi; unfold ptrTo at HDi; have HDir := Lib.hid HDi; have HB4 := Lib.hid hb4; clear hrow hb4 HDi)
    refine HDir.out.mono ?_
    rintro e w5 ⟨⟨out, err, st, rfl, hs0, hs2⟩, lay5, hk5⟩
    have hin5 := hk5.fsIn HIN4.out HGe.out.whole
    have hF5 : lay5 .F = F := hk5.F.trans HF.out
    have hb6 : Below w5.heap.size w5 (w5.alloc (doneO2 out err st)) := (Below.refl _ w5).alloc (Nat.le_refl _) _
    have hD6 : (w5.alloc (doneO2 out err st)).heap[w5.heap.size]? = some (doneO2 out err st) := alloc_at _ _
    obtain ⟨w6, hw6⟩ : ∃ w6, w5.alloc (doneO2 out err st) = w6 := ⟨_, rfl⟩
    rw [hw6] at hb6 hD6
    have hin6 := hin5.kept1 hb6
    have hE6 := HE1.out.below hin6.below
    have HFr2 := nfree_any w6 hin6.is
    rw [hF5, HFM.out, HFN.out] at HFr2
    have HP2 := print_ft (W0 := W1) (F := F) ⟨⟨hE6.maxlen⟩, hE6.pow10⟩ ⟨lay5, hF5, hin6, HGe.out⟩ HT.out HRk.out HRo.out
    rw [HPR.out] at HP2
    unfold ptrTo at HFr2 HP2
    have HFree2 := Lib.hid HFr2
    have HPr2 := Lib.hid HP2
    have HIN6 := Lib.hid hin6
    have HD6 := Lib.hid hD6
    have hlt6 := (Array.getElem?_eq_some_iff.1 hD6).1
    have e2 : w6.cell? ⟨w5.heap.size, 2, none⟩ = some (.int .i64 st) := by unfold doneO2 at hD6; exact cell_of_row w6 _ 2 _ _ _ hD6
    unfold doneO2 at hw6
    have HW6 := Lib.hid hw6
    clear hk5 hin5 hF5 hb6 hD6 hw6 hin6 hE6 HFr2 HP2 HDir HP HFree hck hidx
    go_wp2_with fail
    rw [HW6.out]
    go_wp2_with first
      | (go_at_call 13; (with_reducible refine HFree2.out.mono ?_); rintro e w' ⟨rfl, rfl⟩)
      | (go_at_call 12; (with_reducible refine HPr2.out.mono ?_); rintro e w7 ⟨rfl, hb7⟩; have f2 := keep_cell e2 hb7; have HB7 := Lib.hid hb7; clear hb7)
      | (go_at_call 5; (refine (HAw.out _).mono ?_); rintro e w9 ⟨rfl, hb9⟩; have HB9 := Lib.hid hb9; clear hb9)
    go_ret
    have h1 := HB1.out.trans (HIN6.out.below.mono HB1.out.size)
    have h2 := h1.trans (HB7.out.mono h1.size)
    exact ⟨rfl, h2.trans (HB9.out.mono h2.size)⟩
end Go.Proofs.YtbecmcjibpamoaaGreatDoor
namespace Go.Proofs.YtbecmcjibpamoaaGreatDoor
open Go.ChangeShapes Go.WideShapes Go.ChangeAt Go.RowKit
theorem laid_get {P : Program} {W : World} : ∀ {l : List (String × DataW Unit)} {ps : List MemPlace}, DataW.LaidVars P W l ps → ∀ x ∈ l,
    ∃ g t cs fuel p, P.globalNamed x.1 = some g ∧ (P.globals[g]?).map (·.type) = some t ∧ W.var? P x.1 = some cs ∧ DataW.trod (fun _ => ()) P W 0 (fun _ => true) false fuel t cs.toList = some (x.2, p)
  | [], _, _, x, hx => by cases hx
  | (n, d) :: r, ps, h, x, hx => by
    obtain ⟨g, t, cs, fuel, p, q, h1, h2, h3, h4, h5, _⟩ := h
    rcases List.mem_cons.1 hx with rfl | hx
    · exact ⟨g, t, cs, fuel, p, h1, h2, h3, h4⟩
    · exact laid_get h5 x hx
theorem laid_tab {P : Program} {W : World} {l : List (String × DataW Unit)} {ps : List MemPlace} (h : DataW.LaidVars P W l ps) {name : String} {k : IntKind} {zs : List Int} {g : Nat} {t e : TypeId} {n : Nat}
    (hx : (name, Lib.tabData k zs) ∈ l) (hg : P.globalNamed name = some g) (hty : (P.globals[g]?).map (·.type) = some t) (ht : P.underlying t = some (.array n e)) (he : P.underlying e = some (.int k)) (hce : P.cellsOf e = 1) (hct : P.cellsOf t = n) :
    Lib.TabIs P W name k zs := by
  obtain ⟨g', t', cs, fuel, p, hg', ht', hvar, hd⟩ := laid_get h _ hx
  obtain rfl := Option.some.inj (hg.symm.trans hg')
  obtain rfl := Option.some.inj (hty.symm.trans ht')
  unfold Lib.TabIs
  rw [hvar, ← Lib.cells_of_tab ht he hce hct hd]
theorem laid_err {P : Program} {W : World} {l : List (String × DataW Unit)} {ps : List MemPlace} (h : DataW.LaidVars P W l ps) {name tn : String} {d : DataW Unit} {g : Nat} {t : TypeId} {ms : Array (String × TypeId)}
    (hx : (name, DataW.iface tn d) ∈ l) (hg : P.globalNamed name = some g) (hty : (P.globals[g]?).map (·.type) = some t) (ht : P.underlying t = some (.interface ms)) :
    ∃ te pe, W.cell? ⟨g, 0, none⟩ = some (.iface te pe) := by
  obtain ⟨g', t', cs, fuel, p, hg', ht', hvar, hd⟩ := laid_get h _ hx
  obtain rfl := Option.some.inj (hg.symm.trans hg')
  obtain rfl := Option.some.inj (hty.symm.trans ht')
  obtain ⟨_, u, v, hcs, _⟩ := iface_of_trod ht hd
  refine ⟨u, v, ?_⟩
  rw [World.var?_cell hg hvar 0]
  have : cs.toList[0]? = some (.iface u v) := by rw [hcs]; rfl
  simpa using this
theorem pow10_data : (Rows.laid_internal_strconv_uint64pow10 : DataW Unit) = Lib.tabData .u64 Lib.pow10Tab := by kernel_rfl
theorem env_of {W : World} {l : List (String × DataW Unit)} (h : laidMetH Tryz.prog l W) (hp : (l.all fun x => x.2.handleName?.isNone) = true) (hsh : W.ShapedOpen Tryz.prog)
    (h1 : ("internal/strconv.uint64pow10", Rows.laid_internal_strconv_uint64pow10) ∈ l) (h2 : ("strconv.ErrSyntax", Rows.laid_strconv_ErrSyntax) ∈ l) (h3 : ("strconv.ErrRange", Rows.laid_strconv_ErrRange) ∈ l) : Env W := by
  rw [MakeChecks.laidMetH_plain _ _ _ hp] at h
  obtain ⟨ps, hv, _⟩ := h
  rw [pow10_data] at h1
  exact ⟨Go.Proofs.cell_of_shapedOpen_int (zero := #[.int .i64 0]) (t := 3) hsh (of_decide_eq_true (by kernel_rfl)) (by kernel_rfl) rfl (by kernel_rfl) (by kernel_rfl) Tryz.underlying3,
    laid_tab hv h1 gPow10 (by kernel_rfl) (t := 234) (e := 206) (n := 20) (by kernel_rfl) (by kernel_rfl) (by kernel_rfl) (by kernel_rfl),
    laid_err hv h2 (by kernel_rfl) (t := 114) (by kernel_rfl) Tryz.underlying114, laid_err hv h3 (by kernel_rfl) (t := 114) (by kernel_rfl) Tryz.underlying114⟩
end Go.Proofs.YtbecmcjibpamoaaGreatDoor
