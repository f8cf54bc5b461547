/- Walking to the file 'a' of the root. -/
import Derived.Test.YtgooohccndjjdaaGreatDoorShT
import Derived.BigQuiet
namespace Go.Proofs.YtgooohccndjjdaaGreatDoor
open Go.RowKit IntWalk
set_option linter.unusedVariables false
set_option linter.unusedSimpArgs false

noncomputable def cutR := shE 53 [.str [97], .str [47]] Zz.st0
noncomputable def splitR := shE 54 [.str [97], .str [47]] Zz.st0
theorem cutR_def : cutR = (Zz.exec Tryz.prog shH 400).call 53 [.str [97], .str [47]] Zz.st0 := by delta cutR shE; rfl
theorem splitR_def : splitR = (Zz.exec Tryz.prog shH 400).call 54 [.str [97], .str [47]] Zz.st0 := by delta splitR shE; rfl
theorem cut_v : (isV cutR (.tup [.str [97], .bool false]) && leA Zz.st0 (stOf cutR)) = true := by kernel_rfl
theorem split_v : (isV splitR (.sl 1000 0 1 1 1 true) && (leA Zz.st0 (stOf splitR) && rowIs (stOf splitR) 1000 [.str [97]] 9)) = true := by kernel_rfl
theorem cut_c (W : World) : Calls Tryz.prog 53 #[.string ⟨#[97]⟩, .string ⟨#[47]⟩] W fun e w' => e = .returned (.tuple #[.string ⟨#[97]⟩, .bool false]) ∧ Below W.heap.size W w' := by
  obtain ⟨hH, hF⟩ := sh_hooks (shRho []) W W.heap.size
  have hv := cut_v
  simp only [Bool.and_eq_true] at hv
  refine (stands_run follows_mixed (sh_opq []) hH hF 400 (stands_zero _ W) cutR_def (isV_eq hv.1) hv.2 (.cons _ _ _ _ (.str [97]) (.cons _ _ _ _ (.str [47]) .nil)) rfl).mono ?_
  rintro e w' ⟨m', v, rfl, hv, hE, hS'⟩
  cases hv with
  | tup l u hl =>
    obtain ⟨u⟩ := u
    cases hl with | cons _ a _ r q1 hl => _
    cases hl with | cons _ b _ r q2 hl => _
    cases hl
    cases q1
    cases q2
    exact ⟨rfl, hS'.rel.old⟩
theorem split_c (W : World) : Calls Tryz.prog 54 #[.string ⟨#[97]⟩, .string ⟨#[47]⟩] W fun e w' => ∃ b, e = .returned (.slice (some ⟨b, 0, none⟩) 1 1) ∧ Below W.heap.size W w' ∧ w'.cell? ⟨b, 0, none⟩ = some (.string ⟨#[97]⟩) := by
  obtain ⟨hH, hF⟩ := sh_hooks (shRho []) W W.heap.size
  have hv := split_v
  simp only [Bool.and_eq_true] at hv
  refine (stands_run follows_mixed (sh_opq []) hH hF 400 (stands_zero _ W) splitR_def (isV_eq hv.1) hv.2.1 (.cons _ _ _ _ (.str [97]) (.cons _ _ _ _ (.str [47]) .nil)) rfl).mono ?_
  rintro e w' ⟨m', v, rfl, hv', hE, hS'⟩
  have hrow := Zz.rowA_at hS'.rel (row_of hv.2.2)
  have hcell : w'.cell? ⟨Zz.bm m' 1000, 0, none⟩ = some (.string ⟨#[97]⟩) := by
    simp [World.cell?, hrow.1, Zz.conc]
  cases hv' with
  | sl A i len cap sz ex b d z off cap' h hc hex ho hz hl hd =>
    have h1 := hex rfl
    subst h1
    have h2 := ho (by omega)
    have hx : Zz.exactB ((stOf splitR).heap.get 1000) = true := by
      have := hrow.2.2
      have hr := row_of hv.2.2
      unfold Zz.rowA at hr
      split at hr
      · rename_i c n e' hg
        rw [hg]; rfl
      · cases hr
    obtain ⟨z', e'⟩ := hS'.rel.exact hx
    rw [e'] at h
    cases h
    subst h2
    exact ⟨_, rfl, hS'.rel.old, hcell⟩

/-! ### directories -/
theorem dirE_get (lay : FId → Nat) (i : Int) : ∀ l : List (Int × Dr × Nat), getE (.int i) (l.map fun e => (Key.int e.1, ptrTo (lay (.E e.1)), e.2.2)) = (dirE i l).map fun _ => ptrTo (lay (.E i))
  | [] => rfl
  | e :: l => by
    show (if Key.int e.1 = Key.int i then some (ptrTo (lay (.E e.1))) else getE (.int i) (l.map _)) = Option.map _ (if e.1 = i then some e.2.1 else dirE i l)
    by_cases h : e.1 = i
    · rw [if_pos (by rw [h]), if_pos h, h]; rfl
    · rw [if_neg (by intro q; cases q; exact h rfl), if_neg h]; exact dirE_get lay i l
theorem zero_dirp (w : World) : (zeroValue 86).run Tryz.prog w = .ok (.pointer none) w := by kernel_rfl
theorem dir_look {s lay} {w : World} (h : FsIs s lay w) (i : Int) : (Instr.lookup 92 (.map (some (lay .D))) (.int .i64 i) false).run Tryz.prog w = .ok ((((s.dr i).map fun _ => ptrTo (lay (.E i)))).getD (.pointer none)) w := by
  have hD := h.lies.at_ .D _ rfl
  have hof : (s.dmap lay).Of (.int .i64) := fun e he => by
    simp only [Fs.dmap, List.mem_map] at he
    obtain ⟨x, _, rfl⟩ := he
    rfl
  have := (GMap.look (P := Tryz.prog) (k := .int i) Tryz.underlying92 Tryz.underlying3 hof hD (zero_dirp w)).1
  simp only [Key.val] at this
  rw [this]
  have hg : (s.dmap lay).get (.int i) = (s.dr i).map fun _ => ptrTo (lay (.E i)) := dirE_get lay i s.dirs
  rw [hg]
/-- a directory -/
theorem dir_some {s lay} (i : Int) (d : Dr) (w : World) (h : FsIs s lay w) (hk : s.fld Nd.kind i = 2) (hd : s.dr i = some d) : Calls Tryz.prog 31 #[ptrTo (lay .F), .int .i64 i] w fun e w' => e = .returned (ptrTo (lay (.E i))) ∧ w = w' := by
  have c0 := h.f0
  have c1 := h.f1
  have hl := dir_look h i
  rw [hd] at hl
  simp only [Option.map_some, Option.getD_some] at hl
  unfold ptrTo at *
  go_enter Tryz.func31, Tryz.ntmps31
  go_wp2_with (go_at_call 50; refine (kind_any i w h).mono ?_; rintro e w' ⟨rfl, rfl⟩; rw [hk])
  go_ret
  exact ⟨rfl, rfl⟩
theorem FsIs.e0 {s lay w} (h : FsIs s lay w) {i : Int} {d : Dr} (hd : s.dr i = some d) : w.cell? ⟨lay (.E i), 0, none⟩ = some (.map (some (lay (.M i)))) :=
  h.lies.cell (i := .E i) (cs := #[.map (some (lay (.M i))), .int .i64 d.parent]) (ty := 103) (fz := (0, 0)) (by simp [Fs.obj, hd]) rfl
theorem dirE_mem {i : Int} {d : Dr} : ∀ {l : List (Int × Dr × Nat)}, dirE i l = some d → ∃ n, (i, d, n) ∈ l
  | [], h => by cases h
  | e :: l, h => by
    unfold dirE at h
    by_cases q : e.1 = i
    · rw [if_pos q] at h; cases h
      exact ⟨e.2.2, by rw [← q]; simp⟩
    · rw [if_neg q] at h
      obtain ⟨n, hn⟩ := dirE_mem h
      exact ⟨n, by simp [hn]⟩
theorem name_look {s lay} {w : World} (h : FsIs s lay w) {i : Int} {d : Dr} (hd : s.dr i = some d) (nm : List UInt8) {nx : Int} (hg : d.names.get (.str nm) = some (.int .i64 nx)) :
    (Instr.lookup 101 (.map (some (lay (.M i)))) (.string ⟨nm.toArray⟩) true).run Tryz.prog w = .ok (.tuple #[.int .i64 nx, .bool true]) w := by
  obtain ⟨n, hn⟩ := dirE_mem hd
  have hno := h.ok.names _ hn
  have hM := h.lies.at_ (.M i) d.names.obj (by simp [Fs.obj, hd])
  have := (GMap.look (P := Tryz.prog) (k := .str nm) Tryz.underlying101 Tryz.underlying9 hno.of hM (zero_int w)).2
  simp only [Key.val] at this
  rw [this, hg]; rfl
set_option maxRecDepth 100000 in
theorem part_a {s lay} (K : Nat) (i : Int) (d : Dr) (nx : Int) (fol : Bool) (w : World) (h : FsIs s lay w) (hK : w.cell? ⟨K, 0, none⟩ = some (ptrTo (lay .F))) (hk : s.fld Nd.kind i = 2) (hd : s.dr i = some d) (hg : d.names.get (.str [97]) = some (.int .i64 nx)) (hl : s.fld Nd.kind nx = 1) :
    Calls Tryz.prog 55 #[ptrTo K, .int .i64 i, .string ⟨#[97]⟩, .bool fol] w fun e w' => e = .returned (.tuple #[.int .i64 nx, .int .i64 0]) ∧ ∃ n, w' = w.drewN n := by
  have c0 := h.f0
  have e0 := h.e0 hd
  have hn := name_look h hd [97] hg
  have hne : ((⟨#[97]⟩ : ByteArray) == ⟨#[46, 46]⟩) = false := by rw [str_beq2 [97] [46, 46]]; decide
  unfold ptrTo at *
  go_enter Tryz.func55, Tryz.ntmps55
  go_wp2_with (go_at_call 31; refine (dir_some i d w h hk hd).mono ?_; rintro e w' ⟨rfl, rfl⟩; unfold ptrTo)
  go_quiet (fail)
  have hq := h.drewN nq
  have d0 := hq.f0
  have d1 := hq.e0 hd
  have d2 := name_look hq hd [97] hg
  have d3 : (w.drewN nq).cell? ⟨K, 0, none⟩ = some (.pointer (some ⟨lay .F, 0, none⟩)) := hK
  unfold ptrTo at d0
  generalize hw2 : w.drewN nq = w2 at hq d0 d1 d2 d3 ⊢
  go_wp2_with (go_at_call 50; refine (kind_any nx w2 hq).mono ?_; rintro e w' ⟨rfl, rfl⟩; rw [hl])
  go_ret2
  exact ⟨rfl, nq, hw2.symm⟩
set_option maxRecDepth 100000 in
theorem goes_a {s lay} (K : Nat) (i : Int) (d : Dr) (nx : Int) (w : World) (h : FsIs s lay w) (hK : w.cell? ⟨K, 0, none⟩ = some (ptrTo (lay .F))) (hk : s.fld Nd.kind i = 2) (hd : s.dr i = some d) (hg : d.names.get (.str [97]) = some (.int .i64 nx)) (hl : s.fld Nd.kind nx = 1) :
    Calls Tryz.prog 32 #[ptrTo K, .int .i64 i, .string ⟨#[97]⟩, .bool true] w fun e w' => e = .returned (.tuple #[.int .i64 nx, .int .i64 0]) ∧ Below w.heap.size w w' := by
  have HP := Lib.hid (part_a (s := s) (lay := lay) K i d nx true)
  unfold ptrTo at *
  go_enter Tryz.func32, Tryz.ntmps32
  go_wp2_with first
    | (go_at_call 53; refine (cut_c _).mono ?_; rintro e w1 ⟨rfl, hB1⟩)
    | (go_at_call 54; refine (split_c _).mono ?_; rintro e w2 ⟨b, rfl, hB2, hcb⟩)
  have hB := hB1.trans (hB2.mono hB1.size)
  have hs2 := hB.size
  go_loopw [1, 34] (fun a k W => ((a = .int .i64 i ∧ k = .int .i64 0) ∨ (a = .int .i64 nx ∧ k = .int .i64 1)) ∧ Below w.heap.size w W ∧ W.cell? ⟨b, 0, none⟩ = some (.string ⟨#[97]⟩)) (fun _ k _ => 1 - (intOf k).toNat)
  case atStart => exact ⟨.inl ⟨rfl, rfl⟩, hB, hcb⟩
  case round =>
    obtain ⟨hh, hBr, hcr⟩ := hrel
    rcases hh with ⟨rfl, rfl⟩ | ⟨rfl, rfl⟩
    · have hr := h.below hBr
      have hKr : wr.cell? ⟨K, 0, none⟩ = some (.pointer (some ⟨lay .F, 0, none⟩)) := by rw [World.cell?_of_block (hBr.block K (cell_lt hK))]; exact hK
      go_wp2_with (go_at_call 55; refine (HP.out wr hr hKr hk hd hg hl).mono ?_; rintro e w3 ⟨rfl, n3, rfl⟩)
      exact ⟨⟨.inr ⟨rfl, rfl⟩, ⟨hBr.os, hBr.tape, hBr.output, hBr.size, hBr.block⟩, hcr⟩, by simp [intOf]⟩
    · go_wp2_with fail
      go_ret2
      exact ⟨rfl, hBr⟩
set_option maxRecDepth 100000 in
theorem walk_a {s lay} (d : Dr) (nx : Int) (w : World) (h : FsIs s lay w) (hk : s.fld Nd.kind 1 = 2) (hd : s.dr 1 = some d) (hg : d.names.get (.str [97]) = some (.int .i64 nx)) (hl : s.fld Nd.kind nx = 1) :
    Calls Tryz.prog 12 #[ptrTo (lay .F), .int .i64 1, .string ⟨#[97]⟩, .bool true] w fun e w' => e = .returned (.tuple #[.int .i64 nx, .int .i64 0]) ∧ Below w.heap.size w w' := by
  have HD := Lib.hid (dir_some 1 d w h hk hd)
  have HG := Lib.hid (goes_a (s := s) (lay := lay) w.heap.size 1 d nx (w.alloc (.cells #[ptrTo (lay .F), .int .i64 0] 90)) (h.alloc _) (by rw [World.cell?_alloc_new]; rfl) hk hd hg hl)
  unfold ptrTo at *
  go_enter Tryz.func12, Tryz.ntmps12
  go_wp2_with first
    | (go_at_call 31; refine HD.out.mono ?_; rintro e w' ⟨rfl, rfl⟩)
    | (go_at_call 32; refine HG.out.mono ?_; rintro e w2 ⟨rfl, hB⟩)
  go_ret2
  exact ⟨rfl, ((Below.refl _ _).alloc (Nat.le_refl _) _).trans (hB.mono (by simp))⟩
end Go.Proofs.YtgooohccndjjdaaGreatDoor
