/- Texts of one proof, packed: NmX, NmY, NmZ, NoA, NoC, NoD, NoI -/
import Derived.Test.YtggdedihfhibfaaGreatDoorR21
import Derived.Laws.ResultCell
import Derived.Laws.Rows
set_option linter.unusedVariables false
set_option linter.unusedSimpArgs false
set_option linter.deprecated false
set_option linter.unnecessarySimpa false
/- names: the place of a path. -/
namespace Go.Proofs.YtggdedihfhibfaaGreatDoor
open Go.RowKit IntWalk
set_option linter.unusedVariables false
set_option linter.unusedSimpArgs false

section
variable {W0 : World} {s : Fs} {lay : FId → Nat}
theorem place_ret (w : World) (g : Nat) (a b c e : Value) (hg : w.heap[g]? = some (.cells #[a, b, c] 160 (0, 0))) {fn : Func} {p u : Tmp} (h : fn.results = #[.cell p 160, .tmp u]) (tmps : Array Value) (hp : tmps.getD p undef = .pointer (some ⟨g, 0, none⟩)) (hu : tmps.getD u undef = e) :
    (results fn tmps).run Tryz.prog w = .ok (.tuple #[.agg #[a, b, c], e]) w := by
  have hl : (loadVar 160 ⟨g, 0, none⟩).run Tryz.prog w = .ok (.agg #[a, b, c]) w := run_loadVar_row w g _ _ #[a, b, c] _ _ hg Tryz.underlying160 rfl (by kernel_rfl)
  rw [results_cell_tmp h, hp, hu]
  simp [asAddr, Result.andThen, hl]
theorem alloc_at (w : World) (o : Obj) : (w.alloc o).heap[w.heap.size]? = some o := by show (w.heap.push o)[w.heap.size]? = some o; simp
theorem Step.outC {s s' : Fs} {lay lay' : FId → Nat} {w w' : World} (h : Step s lay w s' lay' w') (a : Addr) (v : Value) (h1 : w.heap.size ≤ a.block) (h2 : ¬ Owns (s'.obj lay') lay' a.block) : Step s lay w s' lay' (w'.setCell a v) :=
  ⟨is_setL h.is a v h2, h.turned.set a v (fun q => by omega), h.own⟩
theorem set_rowN {w : World} {b k : Nat} {cs : Array Value} {ty : TypeId} {fz : Nat × Nat} {v : Value} (h : w.heap[b]? = some (.cells cs ty fz)) : (w.setCell ⟨b, k, none⟩ v).heap[b]? = some (.cells (cs.setIfInBounds k v) ty fz) := by
  simp [World.setCell, Array.getElem?_modify, h]
theorem three_set {w : World} {b : Nat} {v0 v1 v2 : Value} {ty : TypeId} (h : w.heap[b]? = some (.cells #[v0, v1, v2] ty (0, 0))) (u0 u1 u2 : Value) :
    (((w.setCell ⟨b, 0, none⟩ u0).setCell ⟨b, 1, none⟩ u1).setCell ⟨b, 2, none⟩ u2).heap[b]? = some (.cells #[u0, u1, u2] ty (0, 0)) := by
  have h0 := set_rowN (k := 0) (v := u0) h
  simp only [List.setIfInBounds_toArray, List.set_cons_zero, List.set_cons_succ] at h0
  have h1 := set_rowN (k := 1) (v := u1) h0
  simp only [List.setIfInBounds_toArray, List.set_cons_zero, List.set_cons_succ] at h1
  have h2 := set_rowN (k := 2) (v := u2) h1
  simp only [List.setIfInBounds_toArray, List.set_cons_zero, List.set_cons_succ] at h2
  exact h2
/-- a path without the strokes at its end -/
def trimS (path : List UInt8) : List UInt8 := Lib.trimRightB path 47
/-- where its last part begins -/
def atS (path : List UInt8) : Nat := (Lib.lastIndexByte ⟨(trimS path).toArray⟩ 47 + 1).toNat
def lastS (path : List UInt8) : List UInt8 := (trimS path).drop (atS path)
def upS (path : List UInt8) : List UInt8 := (trimS path).take (atS path)
/-- the directory, the name, and what is wrong -/
def Fs.placeS (s : Fs) (dir : Int) (path : List UInt8) : Int × List UInt8 × Int := match s.dirOf dir with
  | none => (0, [], 25)
  | some _ =>
    if path = [] then (0, [], 23)
    else if lastS path = [] ∨ lastS path = dotL ∨ lastS path = dotsL then (0, [], 1)
    else if 256 < path.length ∨ 32 < (lastS path).length then (0, [], 3)
    else
      let r := if atS path = 0 then (dir, 0) else s.walkS dir (upS path) true
      if r.2 ≠ 0 then (0, [], r.2)
      else match s.dirOf r.1 with
        | none => (0, [], 25)
        | some _ => (r.1, lastS path, 0)
def placeV (lay : FId → Nat) (p : Int × List UInt8 × Int) : Value := if p.2.2 = 0 then .agg #[.int .i64 p.1, ptrTo (lay (.E p.1)), .string ⟨p.2.1.toArray⟩] else .agg #[.int .i64 0, .pointer none, .string ByteArray.empty]
theorem atS_eq (path : List UInt8) : Lib.lastIndexByte ⟨(trimS path).toArray⟩ 47 + 1 = (atS path : Int) ∧ atS path ≤ (trimS path).length ∧ Lib.lastIndexByte ⟨(trimS path).toArray⟩ 47 = (atS path : Int) - 1 := by
  unfold atS
  have hsz : (ByteArray.mk (trimS path).toArray).size = (trimS path).length := by simp [ByteArray.size]
  rcases Lib.lastIndexByte_spec ⟨(trimS path).toArray⟩ 47 with ⟨h, _⟩ | ⟨i, h1, h2, _⟩
  · rw [h]; simp
  · rw [h2]; rw [hsz] at h1; omega
theorem trimS_len (path : List UInt8) : (trimS path).length ≤ path.length := by
  unfold trimS Lib.trimRightB
  rw [List.length_reverse]
  have := (List.dropWhile_sublist (· == (47 : UInt8)) (l := path.reverse)).length_le
  simpa using this
theorem trim_any (path : List UInt8) (hp : path.length ≤ 100000) (w : World) : Calls Tryz.prog 153 #[.string ⟨path.toArray⟩, .string ⟨#[47]⟩] w fun e w' => e = .returned (.string ⟨(trimS path).toArray⟩) ∧ w' = w :=
  Tryz.strings_TrimRight_one ⟨path.toArray⟩ 47 (by decide) w (by show path.length ≤ _; omega)
theorem last_any (path : List UInt8) (hp : path.length ≤ 100000) (w : World) : Calls Tryz.prog 154 #[.string ⟨(trimS path).toArray⟩, .int .u8 47] w fun e w' => e = .returned (.int .i64 ((atS path : Int) - 1)) ∧ w' = w := by
  have := Tryz.strings_LastIndexByte ⟨(trimS path).toArray⟩ 47 (by have := trimS_len path; show (trimS path).length < _; omega) w
  rw [(atS_eq path).2.2] at this
  exact this
set_option maxRecDepth 100000 in
set_option maxHeartbeats 1000000 in
theorem place_any (hE : EnvG W0) (dir : Int) (path : List UInt8) (hpl : path.length ≤ 100000) (w : World) (h : FsIn W0 s lay w) :
    Calls Tryz.prog 131 #[ptrTo (lay .F), .int .i64 dir, .string ⟨path.toArray⟩] w fun e w' => e = .returned (.tuple #[placeV lay (s.placeS dir path), .int .i64 (s.placeS dir path).2.2]) ∧ Step s lay w s lay w' := by
  have HD := Lib.hid (fun (W : World) (hW : FsIs s lay W) => dir_any dir W hW)
  have HT := Lib.hid (fun W => trim_any path hpl W)
  have HL := Lib.hid (fun W => last_any path hpl W)
  have hat := (atS_eq path).2.1
  have HI := Lib.hid h
  generalize hr : s.placeS dir path = r
  unfold Fs.placeS at hr
  cases hd : s.dirOf dir with
  | none =>
    rw [hd] at hr
    subst hr
    have hp := dirPtr_none (lay := lay) hd
    have hf := HI.out.is
    unfold ptrTo at *
    go_enter Tryz.func131, Tryz.ntmps131
    go_wp2_with (go_at_call 38; (with_reducible refine (HD.out _ (HI.out.is.alloc _)).mono ?_); rintro e w' ⟨rfl, rfl⟩; rw [hp])
    (try simp only [Exit.inBlock, Exit.then]); refine bodyPost_ret (place_ret _ _ _ _ _ _ (alloc_at _ _) rfl _ rfl rfl) rfl ?_
    exact ⟨rfl, (Step.refl hf).alloc _⟩
  | some d =>
    rw [hd] at hr
    dsimp only at hr
    have hp := dirPtr_some (lay := lay) hd
    by_cases h0 : path = []
    · rw [if_pos h0] at hr
      subst hr
      subst h0
      unfold ptrTo at *
      go_enter Tryz.func131, Tryz.ntmps131
      go_wp2_with (go_at_call 38; (with_reducible refine (HD.out _ (HI.out.is.alloc _)).mono ?_); rintro e w' ⟨rfl, rfl⟩; rw [hp])
      (try simp only [Exit.inBlock, Exit.then]); refine bodyPost_ret (place_ret _ _ _ _ _ _ (alloc_at _ _) rfl _ rfl rfl) rfl ?_
      exact ⟨rfl, (Step.refl HI.out.is).alloc _⟩
    · rw [if_neg h0] at hr
      have b0 : path.isEmpty = false := by cases path with | nil => exact absurd rfl h0 | cons _ _ => rfl
      have hat2 : ((atS path : Int) - 1 + 1) = atS path := by omega
      have hat3 : (atS path : Int) ≤ (trimS path).length := by omega
      have htl := trimS_len path
      have HLT : (trimS path).drop (atS path) = lastS path := rfl
      have HUT : (trimS path).take (atS path) = upS path := rfl
      have hll : (lastS path).length ≤ 100000 := by rw [← HLT, List.length_drop]; omega
      have hW2 := HI.out.step ((Step.refl HI.out.is).alloc (Obj.cells #[Value.int IntKind.i64 0, Value.pointer none, Value.string { data := #[] }] 160)) HI.out.whole
      have HW := Lib.hid (walk_any hE dir (upS path) true _ hW2)
      clear hW2
      generalize lastS path = la at *
      generalize upS path = up at *
      generalize trimS path = tr at *
      generalize atS path = at_ at *
      by_cases hl : la = [] ∨ la = dotL ∨ la = dotsL
      · rw [if_pos hl] at hr
        subst hr
        unfold ptrTo at *
        rcases hl with rfl | hl | hl
        · 
          go_enter Tryz.func131, Tryz.ntmps131
          go_wp2_with first
            | (go_at_call 38; (with_reducible refine (HD.out _ (HI.out.is.alloc _)).mono ?_); rintro e w' ⟨rfl, rfl⟩; rw [hp])
            | (go_at_call 153; (with_reducible refine (HT.out _).mono ?_); rintro e w' ⟨rfl, rfl⟩)
            | (go_at_call 154; (with_reducible refine (HL.out _).mono ?_); rintro e w' ⟨rfl, rfl⟩)
          (try simp only [Exit.inBlock, Exit.then]); refine bodyPost_ret (place_ret _ _ _ _ _ _ (alloc_at _ _) rfl _ rfl rfl) rfl ?_
          exact ⟨rfl, (Step.refl HI.out.is).alloc _⟩
        · obtain rfl : la = [46] := hl
          go_enter Tryz.func131, Tryz.ntmps131
          go_wp2_with first
            | (go_at_call 38; (with_reducible refine (HD.out _ (HI.out.is.alloc _)).mono ?_); rintro e w' ⟨rfl, rfl⟩; rw [hp])
            | (go_at_call 153; (with_reducible refine (HT.out _).mono ?_); rintro e w' ⟨rfl, rfl⟩)
            | (go_at_call 154; (with_reducible refine (HL.out _).mono ?_); rintro e w' ⟨rfl, rfl⟩)
          (try simp only [Exit.inBlock, Exit.then]); refine bodyPost_ret (place_ret _ _ _ _ _ _ (alloc_at _ _) rfl _ rfl rfl) rfl ?_
          exact ⟨rfl, (Step.refl HI.out.is).alloc _⟩
        · obtain rfl : la = [46, 46] := hl
          go_enter Tryz.func131, Tryz.ntmps131
          go_wp2_with first
            | (go_at_call 38; (with_reducible refine (HD.out _ (HI.out.is.alloc _)).mono ?_); rintro e w' ⟨rfl, rfl⟩; rw [hp])
            | (go_at_call 153; (with_reducible refine (HT.out _).mono ?_); rintro e w' ⟨rfl, rfl⟩)
            | (go_at_call 154; (with_reducible refine (HL.out _).mono ?_); rintro e w' ⟨rfl, rfl⟩)
          (try simp only [Exit.inBlock, Exit.then]); refine bodyPost_ret (place_ret _ _ _ _ _ _ (alloc_at _ _) rfl _ rfl rfl) rfl ?_
          exact ⟨rfl, (Step.refl HI.out.is).alloc _⟩
      · rw [if_neg hl] at hr
        have c0 : la.isEmpty = false := by cases la with | nil => exact absurd (.inl rfl) hl | cons _ _ => rfl
        have c1 : (la == [46]) = false := by rw [beq_eq_false_iff_ne]; exact fun q => hl (.inr (.inl q))
        have c2 : (la == [46, 46]) = false := by rw [beq_eq_false_iff_ne]; exact fun q => hl (.inr (.inr q))
        clear hl
        by_cases hb : 256 < path.length ∨ 32 < la.length
        · rw [if_pos hb] at hr
          subst hr
          unfold ptrTo at *
          by_cases hb1 : 256 < path.length
          · have hb1' : (256 : Int) < path.length := by omega
            clear hb
            go_enter Tryz.func131, Tryz.ntmps131
            go_wp2_with first
              | (go_at_call 38; (with_reducible refine (HD.out _ (HI.out.is.alloc _)).mono ?_); rintro e w' ⟨rfl, rfl⟩; rw [hp])
              | (go_at_call 153; (with_reducible refine (HT.out _).mono ?_); rintro e w' ⟨rfl, rfl⟩)
              | (go_at_call 154; (with_reducible refine (HL.out _).mono ?_); rintro e w' ⟨rfl, rfl⟩)
            (try simp only [Exit.inBlock, Exit.then]); refine bodyPost_ret (place_ret _ _ _ _ _ _ (alloc_at _ _) rfl _ rfl rfl) rfl ?_
            exact ⟨rfl, (Step.refl HI.out.is).alloc _⟩
          · have hb1' : ¬ (256 : Int) < path.length := by omega
            have hb2' : (32 : Int) < la.length := by omega
            clear hb
            go_enter Tryz.func131, Tryz.ntmps131
            go_wp2_with first
              | (go_at_call 38; (with_reducible refine (HD.out _ (HI.out.is.alloc _)).mono ?_); rintro e w' ⟨rfl, rfl⟩; rw [hp])
              | (go_at_call 153; (with_reducible refine (HT.out _).mono ?_); rintro e w' ⟨rfl, rfl⟩)
              | (go_at_call 154; (with_reducible refine (HL.out _).mono ?_); rintro e w' ⟨rfl, rfl⟩)
            (try simp only [Exit.inBlock, Exit.then]); refine bodyPost_ret (place_ret _ _ _ _ _ _ (alloc_at _ _) rfl _ rfl rfl) rfl ?_
            exact ⟨rfl, (Step.refl HI.out.is).alloc _⟩
        · rw [if_neg hb] at hr
          have hb1' : ¬ (256 : Int) < path.length := by omega
          have hb2' : ¬ (32 : Int) < la.length := by omega
          clear hb
          by_cases ha : at_ = 0
          · subst ha
            rw [if_pos rfl] at hr
            dsimp only at hr
            rw [if_neg (by simp), hd] at hr
            dsimp only at hr
            subst hr
            unfold ptrTo at *
            go_enter Tryz.func131, Tryz.ntmps131
            go_wp2_with first
            | (go_at_call 38; (with_reducible refine (HD.out _ (HI.out.is.alloc _)).mono ?_); rintro e w' ⟨rfl, rfl⟩; rw [hp])
            | (go_at_call 153; (with_reducible refine (HT.out _).mono ?_); rintro e w' ⟨rfl, rfl⟩)
            | (go_at_call 154; (with_reducible refine (HL.out _).mono ?_); rintro e w' ⟨rfl, rfl⟩)
            (try simp only [Exit.inBlock, Exit.then]); refine bodyPost_ret (place_ret _ _ _ _ _ _ (alloc_at _ _) rfl _ rfl rfl) rfl ?_
            exact ⟨rfl, (Step.refl HI.out.is).alloc _⟩
          · rw [if_neg ha] at hr
            have ha' : (0 : Int) < at_ := by omega
            have hout : ¬ Owns (s.obj lay) lay w.heap.size := fun q => by have := HI.out.is.lies.owns_lt q; omega
            generalize s.walkS dir up true = wr at *
            obtain ⟨n2, e2⟩ := wr
            dsimp only at hr
            have HD2 := Lib.hid (fun (W : World) (hW : FsIs s lay W) => dir_any n2 W hW)
            by_cases he : e2 = 0
            · subst he
              rw [if_neg (by simp)] at hr
              cases hd2 : s.dirOf n2 with
              | none =>
                have hp2 := dirPtr_none (lay := lay) hd2
                rw [hd2] at hr
                dsimp only at hr
                subst hr
                unfold ptrTo at *
                go_enter Tryz.func131, Tryz.ntmps131
                go_wp2_with first
                  | (go_at_call 38; (with_reducible refine (HD.out _ (HI.out.is.alloc _)).mono ?_); rintro e w' ⟨rfl, rfl⟩; rw [hp])
                  | (go_at_call 153; (with_reducible refine (HT.out _).mono ?_); rintro e w' ⟨rfl, rfl⟩)
                  | (go_at_call 154; (with_reducible refine (HL.out _).mono ?_); rintro e w' ⟨rfl, rfl⟩)
                  | (go_at_call 14; (with_reducible refine HW.out.mono ?_); rintro e w2 ⟨rfl, hst⟩; have hblk := (hst.turned.block _ (by simp) hout).trans (alloc_at _ _); have k0 : w2.cell? ⟨w.heap.size, 0, none⟩ = some (.int .i64 0) := cell_of_row w2 _ 0 _ _ _ hblk; have k1 : w2.cell? ⟨w.heap.size, 1, none⟩ = some (.pointer none) := cell_of_row w2 _ 1 _ _ _ hblk; have k2 : w2.cell? ⟨w.heap.size, 2, none⟩ = some (.string ByteArray.empty) := cell_of_row w2 _ 2 _ _ _ hblk; have z0 : ∀ j, w2.frozen? ⟨w.heap.size, j, none⟩ = false := (fun j => by simp [World.frozen?, hblk]); have hst2 := ((Step.refl HI.out.is).alloc (Obj.cells #[Value.int IntKind.i64 0, Value.pointer none, Value.string { data := #[] }] 160)).trans hst)
                  | (go_at_call 38; (with_reducible refine (HD2.out _ hst.is).mono ?_); rintro e w' ⟨rfl, rfl⟩; rw [hp2])
                (try simp only [Exit.inBlock, Exit.then]); refine bodyPost_ret (place_ret _ _ _ _ _ _ (three_set hblk _ _ _) rfl _ rfl rfl) rfl ?_
                exact ⟨rfl, ((hst2.outC _ _ (Nat.le_refl _) hout).outC _ _ (Nat.le_refl _) hout).outC _ _ (Nat.le_refl _) hout⟩
              | some d2 =>
                have hp2 := dirPtr_some (lay := lay) hd2
                rw [hd2] at hr
                dsimp only at hr
                subst hr
                unfold ptrTo at *
                go_enter Tryz.func131, Tryz.ntmps131
                go_wp2_with first
                  | (go_at_call 38; (with_reducible refine (HD.out _ (HI.out.is.alloc _)).mono ?_); rintro e w' ⟨rfl, rfl⟩; rw [hp])
                  | (go_at_call 153; (with_reducible refine (HT.out _).mono ?_); rintro e w' ⟨rfl, rfl⟩)
                  | (go_at_call 154; (with_reducible refine (HL.out _).mono ?_); rintro e w' ⟨rfl, rfl⟩)
                  | (go_at_call 14; (with_reducible refine HW.out.mono ?_); rintro e w2 ⟨rfl, hst⟩; have hblk := (hst.turned.block _ (by simp) hout).trans (alloc_at _ _); have k0 : w2.cell? ⟨w.heap.size, 0, none⟩ = some (.int .i64 0) := cell_of_row w2 _ 0 _ _ _ hblk; have k1 : w2.cell? ⟨w.heap.size, 1, none⟩ = some (.pointer none) := cell_of_row w2 _ 1 _ _ _ hblk; have k2 : w2.cell? ⟨w.heap.size, 2, none⟩ = some (.string ByteArray.empty) := cell_of_row w2 _ 2 _ _ _ hblk; have z0 : ∀ j, w2.frozen? ⟨w.heap.size, j, none⟩ = false := (fun j => by simp [World.frozen?, hblk]); have hst2 := ((Step.refl HI.out.is).alloc (Obj.cells #[Value.int IntKind.i64 0, Value.pointer none, Value.string { data := #[] }] 160)).trans hst)
                  | (go_at_call 38; (with_reducible refine (HD2.out _ hst.is).mono ?_); rintro e w' ⟨rfl, rfl⟩; rw [hp2])
                (try simp only [Exit.inBlock, Exit.then]); refine bodyPost_ret (place_ret _ _ _ _ _ _ (three_set hblk _ _ _) rfl _ rfl rfl) rfl ?_
                exact ⟨rfl, ((hst2.outC _ _ (Nat.le_refl _) hout).outC _ _ (Nat.le_refl _) hout).outC _ _ (Nat.le_refl _) hout⟩
            · rw [if_pos (by simpa using he)] at hr
              subst hr
              unfold ptrTo at *
              go_enter Tryz.func131, Tryz.ntmps131
              go_wp2_with first
                | (go_at_call 38; (with_reducible refine (HD.out _ (HI.out.is.alloc _)).mono ?_); rintro e w' ⟨rfl, rfl⟩; rw [hp])
                | (go_at_call 153; (with_reducible refine (HT.out _).mono ?_); rintro e w' ⟨rfl, rfl⟩)
                | (go_at_call 154; (with_reducible refine (HL.out _).mono ?_); rintro e w' ⟨rfl, rfl⟩)
                | (go_at_call 14; (with_reducible refine HW.out.mono ?_); rintro e w2 ⟨rfl, hst⟩; have hblk := (hst.turned.block _ (by simp) hout).trans (alloc_at _ _); have k0 : w2.cell? ⟨w.heap.size, 0, none⟩ = some (.int .i64 0) := cell_of_row w2 _ 0 _ _ _ hblk; have k1 : w2.cell? ⟨w.heap.size, 1, none⟩ = some (.pointer none) := cell_of_row w2 _ 1 _ _ _ hblk; have k2 : w2.cell? ⟨w.heap.size, 2, none⟩ = some (.string ByteArray.empty) := cell_of_row w2 _ 2 _ _ _ hblk; have z0 : ∀ j, w2.frozen? ⟨w.heap.size, j, none⟩ = false := (fun j => by simp [World.frozen?, hblk]); have hst2 := ((Step.refl HI.out.is).alloc (Obj.cells #[Value.int IntKind.i64 0, Value.pointer none, Value.string { data := #[] }] 160)).trans hst)
              (try simp only [Exit.inBlock, Exit.then]); refine bodyPost_ret (place_ret _ _ _ _ _ _ (three_set hblk _ _ _) rfl _ rfl rfl) rfl ?_
              refine ⟨?_, ((hst2.outC _ _ (Nat.le_refl _) hout).outC _ _ (Nat.le_refl _) hout).outC _ _ (Nat.le_refl _) hout⟩
              unfold placeV; rw [if_neg he]; rfl
end
end Go.Proofs.YtggdedihfhibfaaGreatDoor
/- names: a place that is free, and one at which something is. -/
namespace Go.Proofs.YtggdedihfhibfaaGreatDoor
open Go.RowKit IntWalk
set_option linter.unusedVariables false
set_option linter.unusedSimpArgs false

section
variable {W0 : World} {s : Fs} {lay : FId → Nat}
/-- what is wrong with a place at which something is to be made -/
def Fs.freeS (s : Fs) (dir : Int) (path : List UInt8) : Int :=
  let r := s.placeS dir path
  if r.2.2 ≠ 0 then r.2.2
  else match s.dr r.1 with
    | none => 0
    | some d => if (d.name r.2.1).isSome then 22 else if s.fld Nd.names r.1 = 0 then 23 else 0
/-- a place that is one is in a directory -/
theorem placeS_dir {dir : Int} {path : List UInt8} (h : (s.placeS dir path).2.2 = 0) : ∃ d, s.dirOf (s.placeS dir path).1 = some d ∧ (s.placeS dir path).2.1.length ≤ 32 ∧ (s.placeS dir path).2.1 ≠ [] := by
  generalize hr : s.placeS dir path = r at *
  unfold Fs.placeS at hr
  cases hd : s.dirOf dir with
  | none => rw [hd] at hr; subst hr; simp at h
  | some d =>
    rw [hd] at hr
    dsimp only at hr
    split at hr
    · subst hr; simp at h
    · split at hr
      · subst hr; simp at h
      · split at hr
        · subst hr; simp at h
        · rename_i h1 h2 h3
          generalize (if atS path = 0 then (dir, 0) else s.walkS dir (upS path) true) = q at hr
          split at hr
          · subst hr; rename_i h4; exact absurd h h4
          · cases hd2 : s.dirOf q.1 with
            | none => rw [hd2] at hr; subst hr; simp at h
            | some d2 =>
              rw [hd2] at hr
              dsimp only at hr
              subst hr
              exact ⟨d2, hd2, by dsimp only; omega, fun q => h2 (.inl q)⟩
set_option maxRecDepth 100000 in
set_option maxHeartbeats 1000000 in
theorem free_any (hE : EnvG W0) (dir : Int) (path : List UInt8) (hpl : path.length ≤ 100000) (w : World) (h : FsIn W0 s lay w) :
    Calls Tryz.prog 94 #[ptrTo (lay .F), .int .i64 dir, .string ⟨path.toArray⟩] w fun e w' => e = .returned (.tuple #[placeV lay (s.placeS dir path), .int .i64 (s.freeS dir path)]) ∧ Step s lay w s lay w' := by
  have hst1 : Step s lay w s lay (w.alloc (Obj.cells #[Value.int IntKind.i64 0, Value.pointer none, Value.string { data := #[] }] 160)) := (Step.refl h.is).alloc _
  have HP := Lib.hid (place_any hE dir path hpl _ (h.step hst1 h.whole))
  have HST1 := Lib.hid hst1
  clear hst1
  have hpd := placeS_dir (s := s) (dir := dir) (path := path)
  have HI := Lib.hid h
  unfold Fs.freeS
  generalize s.placeS dir path = r at *
  obtain ⟨n, nm, e⟩ := r
  dsimp only at *
  have hout : ¬ Owns (s.obj lay) lay w.heap.size := fun q => by have := HI.out.is.lies.owns_lt q; omega
  by_cases he : e = 0
  · subst he
    obtain ⟨d, hd, hl32, hne⟩ := hpd rfl
    have hdr := dirOf_dr hd
    rw [if_neg (by simp), hdr]
    dsimp only
    have HLI := Lib.hid (fun (W : World) (hW : FsIs s lay W) => links_any n W hW)
    have HLK := Lib.hid (fun (W : World) (hW : FsIs s lay W) => name_look hW hdr nm)
    have hpv : placeV lay (n, nm, 0) = .agg #[.int .i64 n, ptrTo (lay (.E n)), .string ⟨nm.toArray⟩] := rfl
    rw [hpv] at HP ⊢
    clear hpd h hpv hd
    generalize (d.name nm).isSome = gb at *
    generalize (d.name nm).getD 0 = gn at *
    generalize s.fld Nd.names n = ln at *
    unfold ptrTo at *
    by_cases hgb : gb = true
    · subst hgb
      rw [if_pos rfl]
      go_enter Tryz.func94, Tryz.ntmps94
      go_wp2_with first
        | (go_at_call 131; (with_reducible refine HP.out.mono ?_); rintro e w2 ⟨rfl, hst⟩; have hblk := (hst.turned.block _ (by simp) hout).trans (alloc_at _ _); have hst2 := HST1.out.trans hst)
      have hlt2 : w.heap.size < w2.heap.size := (Array.getElem?_eq_some_iff.1 hblk).1
      have hst3 := hst2.alloc (Obj.cells #[Value.int IntKind.i64 n, Value.pointer (some ⟨lay (FId.E n), 0, none⟩), Value.string { data := nm.toArray }] 160)
      have hpb := alloc_at w2 (Obj.cells #[Value.int IntKind.i64 n, Value.pointer (some ⟨lay (FId.E n), 0, none⟩), Value.string { data := nm.toArray }] 160)
      have hrb := (Below.heap_alloc w2 (Obj.cells #[Value.int IntKind.i64 n, Value.pointer (some ⟨lay (FId.E n), 0, none⟩), Value.string { data := nm.toArray }] 160) w.heap.size hlt2).trans hblk
      clear hst hst2 hblk
      generalize w2.alloc _ = w3 at *
      generalize w2.heap.size = pb at *
      have p0 : w3.cell? ⟨pb, 0, none⟩ = some (.int .i64 n) := cell_of_row w3 _ 0 _ _ _ hpb
      have p1 : w3.cell? ⟨pb, 1, none⟩ = some (.pointer (some ⟨lay (.E n), 0, none⟩)) := cell_of_row w3 _ 1 _ _ _ hpb
      have p2 : w3.cell? ⟨pb, 2, none⟩ = some (.string ⟨nm.toArray⟩) := cell_of_row w3 _ 2 _ _ _ hpb
      have r0 : w3.cell? ⟨w.heap.size, 0, none⟩ = some (.int .i64 0) := cell_of_row w3 _ 0 _ _ _ hrb
      have r1 : w3.cell? ⟨w.heap.size, 1, none⟩ = some (.pointer none) := cell_of_row w3 _ 1 _ _ _ hrb
      have r2 : w3.cell? ⟨w.heap.size, 2, none⟩ = some (.string ByteArray.empty) := cell_of_row w3 _ 2 _ _ _ hrb
      have z0 : ∀ j, w3.frozen? ⟨w.heap.size, j, none⟩ = false := (fun j => by simp [World.frozen?, hrb])
      have e0 := hst3.is.e0 hdr
      have hlk := fun m : Nat => HLK.out _ (hst3.is.drewN m)
      go_quiet (fail)
      have hst4 := hst3.drewN nq
      have hpb4 : (w3.drewN nq).heap[pb]? = _ := hpb
      have hrb4 : (w3.drewN nq).heap[w.heap.size]? = _ := hrb
      have p0 : (w3.drewN nq).cell? ⟨pb, 0, none⟩ = _ := p0
      have p1 : (w3.drewN nq).cell? ⟨pb, 1, none⟩ = _ := p1
      have p2 : (w3.drewN nq).cell? ⟨pb, 2, none⟩ = _ := p2
      have r0 : (w3.drewN nq).cell? ⟨w.heap.size, 0, none⟩ = _ := r0
      have r1 : (w3.drewN nq).cell? ⟨w.heap.size, 1, none⟩ = _ := r1
      have r2 : (w3.drewN nq).cell? ⟨w.heap.size, 2, none⟩ = _ := r2
      have z0 : ∀ j, (w3.drewN nq).frozen? ⟨w.heap.size, j, none⟩ = false := z0
      clear hst3 hpb hrb e0 hlk
      generalize w3.drewN nq = w4 at *
      have f0 := hst4.is.f0
      unfold ptrTo at f0
      go_wp2_with fail
      (try simp only [Exit.inBlock, Exit.then]); refine bodyPost_ret (place_ret _ _ _ _ _ _ (three_set hrb4 _ _ _) rfl _ rfl rfl) rfl ?_
      exact ⟨rfl, ((hst4.outC _ _ (Nat.le_refl _) hout).outC _ _ (Nat.le_refl _) hout).outC _ _ (Nat.le_refl _) hout⟩
    · obtain rfl : gb = false := by simpa using hgb
      rw [if_neg (by simp)]
      clear hgb
      by_cases hz : ln = 0
      · rw [if_pos hz]
        subst hz
        go_enter Tryz.func94, Tryz.ntmps94
        go_wp2_with first
          | (go_at_call 131; (with_reducible refine HP.out.mono ?_); rintro e w2 ⟨rfl, hst⟩; have hblk := (hst.turned.block _ (by simp) hout).trans (alloc_at _ _); have hst2 := HST1.out.trans hst)
        have hlt2 : w.heap.size < w2.heap.size := (Array.getElem?_eq_some_iff.1 hblk).1
        have hst3 := hst2.alloc (Obj.cells #[Value.int IntKind.i64 n, Value.pointer (some ⟨lay (FId.E n), 0, none⟩), Value.string { data := nm.toArray }] 160)
        have hpb := alloc_at w2 (Obj.cells #[Value.int IntKind.i64 n, Value.pointer (some ⟨lay (FId.E n), 0, none⟩), Value.string { data := nm.toArray }] 160)
        have hrb := (Below.heap_alloc w2 (Obj.cells #[Value.int IntKind.i64 n, Value.pointer (some ⟨lay (FId.E n), 0, none⟩), Value.string { data := nm.toArray }] 160) w.heap.size hlt2).trans hblk
        clear hst hst2 hblk
        generalize w2.alloc _ = w3 at *
        generalize w2.heap.size = pb at *
        have p0 : w3.cell? ⟨pb, 0, none⟩ = some (.int .i64 n) := cell_of_row w3 _ 0 _ _ _ hpb
        have p1 : w3.cell? ⟨pb, 1, none⟩ = some (.pointer (some ⟨lay (.E n), 0, none⟩)) := cell_of_row w3 _ 1 _ _ _ hpb
        have p2 : w3.cell? ⟨pb, 2, none⟩ = some (.string ⟨nm.toArray⟩) := cell_of_row w3 _ 2 _ _ _ hpb
        have r0 : w3.cell? ⟨w.heap.size, 0, none⟩ = some (.int .i64 0) := cell_of_row w3 _ 0 _ _ _ hrb
        have r1 : w3.cell? ⟨w.heap.size, 1, none⟩ = some (.pointer none) := cell_of_row w3 _ 1 _ _ _ hrb
        have r2 : w3.cell? ⟨w.heap.size, 2, none⟩ = some (.string ByteArray.empty) := cell_of_row w3 _ 2 _ _ _ hrb
        have z0 : ∀ j, w3.frozen? ⟨w.heap.size, j, none⟩ = false := (fun j => by simp [World.frozen?, hrb])
        have e0 := hst3.is.e0 hdr
        have hlk := fun m : Nat => HLK.out _ (hst3.is.drewN m)
        go_quiet (fail)
        have hst4 := hst3.drewN nq
        have hpb4 : (w3.drewN nq).heap[pb]? = _ := hpb
        have hrb4 : (w3.drewN nq).heap[w.heap.size]? = _ := hrb
        have p0 : (w3.drewN nq).cell? ⟨pb, 0, none⟩ = _ := p0
        have p1 : (w3.drewN nq).cell? ⟨pb, 1, none⟩ = _ := p1
        have p2 : (w3.drewN nq).cell? ⟨pb, 2, none⟩ = _ := p2
        have r0 : (w3.drewN nq).cell? ⟨w.heap.size, 0, none⟩ = _ := r0
        have r1 : (w3.drewN nq).cell? ⟨w.heap.size, 1, none⟩ = _ := r1
        have r2 : (w3.drewN nq).cell? ⟨w.heap.size, 2, none⟩ = _ := r2
        have z0 : ∀ j, (w3.drewN nq).frozen? ⟨w.heap.size, j, none⟩ = false := z0
        clear hst3 hpb hrb e0 hlk
        generalize w3.drewN nq = w4 at *
        have f0 := hst4.is.f0
        unfold ptrTo at f0
        go_wp2_with fail
        go_quiet ((go_at_call 132; exact Calls.quiet_of_same ((HLI.out _ (hst4.is.drewN _)).mono fun _ _ h => ⟨h.1, h.2.symm⟩)))
        have hst5 := hst4.drewN nq
        have hpb5 : (w4.drewN nq).heap[pb]? = _ := hpb4
        have hrb5 : (w4.drewN nq).heap[w.heap.size]? = _ := hrb4
        have p0 : (w4.drewN nq).cell? ⟨pb, 0, none⟩ = _ := p0
        have p1 : (w4.drewN nq).cell? ⟨pb, 1, none⟩ = _ := p1
        have p2 : (w4.drewN nq).cell? ⟨pb, 2, none⟩ = _ := p2
        have r0 : (w4.drewN nq).cell? ⟨w.heap.size, 0, none⟩ = _ := r0
        have r1 : (w4.drewN nq).cell? ⟨w.heap.size, 1, none⟩ = _ := r1
        have r2 : (w4.drewN nq).cell? ⟨w.heap.size, 2, none⟩ = _ := r2
        have z0 : ∀ j, (w4.drewN nq).frozen? ⟨w.heap.size, j, none⟩ = false := z0
        clear hst4 hpb4 hrb4 f0
        generalize w4.drewN nq = w5 at *
        go_wp2_with fail
        (try simp only [Exit.inBlock, Exit.then]); refine bodyPost_ret (place_ret _ _ _ _ _ _ (three_set hrb5 _ _ _) rfl _ rfl rfl) rfl ?_
        exact ⟨rfl, ((hst5.outC _ _ (Nat.le_refl _) hout).outC _ _ (Nat.le_refl _) hout).outC _ _ (Nat.le_refl _) hout⟩
      · rw [if_neg hz]
        have hzb : (ln == 0) = false := by simpa using hz
        clear hz
        go_enter Tryz.func94, Tryz.ntmps94
        go_wp2_with first
          | (go_at_call 131; (with_reducible refine HP.out.mono ?_); rintro e w2 ⟨rfl, hst⟩; have hblk := (hst.turned.block _ (by simp) hout).trans (alloc_at _ _); have hst2 := HST1.out.trans hst)
        have hlt2 : w.heap.size < w2.heap.size := (Array.getElem?_eq_some_iff.1 hblk).1
        have hst3 := hst2.alloc (Obj.cells #[Value.int IntKind.i64 n, Value.pointer (some ⟨lay (FId.E n), 0, none⟩), Value.string { data := nm.toArray }] 160)
        have hpb := alloc_at w2 (Obj.cells #[Value.int IntKind.i64 n, Value.pointer (some ⟨lay (FId.E n), 0, none⟩), Value.string { data := nm.toArray }] 160)
        have hrb := (Below.heap_alloc w2 (Obj.cells #[Value.int IntKind.i64 n, Value.pointer (some ⟨lay (FId.E n), 0, none⟩), Value.string { data := nm.toArray }] 160) w.heap.size hlt2).trans hblk
        clear hst hst2 hblk
        generalize w2.alloc _ = w3 at *
        generalize w2.heap.size = pb at *
        have p0 : w3.cell? ⟨pb, 0, none⟩ = some (.int .i64 n) := cell_of_row w3 _ 0 _ _ _ hpb
        have p1 : w3.cell? ⟨pb, 1, none⟩ = some (.pointer (some ⟨lay (.E n), 0, none⟩)) := cell_of_row w3 _ 1 _ _ _ hpb
        have p2 : w3.cell? ⟨pb, 2, none⟩ = some (.string ⟨nm.toArray⟩) := cell_of_row w3 _ 2 _ _ _ hpb
        have r0 : w3.cell? ⟨w.heap.size, 0, none⟩ = some (.int .i64 0) := cell_of_row w3 _ 0 _ _ _ hrb
        have r1 : w3.cell? ⟨w.heap.size, 1, none⟩ = some (.pointer none) := cell_of_row w3 _ 1 _ _ _ hrb
        have r2 : w3.cell? ⟨w.heap.size, 2, none⟩ = some (.string ByteArray.empty) := cell_of_row w3 _ 2 _ _ _ hrb
        have z0 : ∀ j, w3.frozen? ⟨w.heap.size, j, none⟩ = false := (fun j => by simp [World.frozen?, hrb])
        have e0 := hst3.is.e0 hdr
        have hlk := fun m : Nat => HLK.out _ (hst3.is.drewN m)
        go_quiet (fail)
        have hst4 := hst3.drewN nq
        have hpb4 : (w3.drewN nq).heap[pb]? = _ := hpb
        have hrb4 : (w3.drewN nq).heap[w.heap.size]? = _ := hrb
        have p0 : (w3.drewN nq).cell? ⟨pb, 0, none⟩ = _ := p0
        have p1 : (w3.drewN nq).cell? ⟨pb, 1, none⟩ = _ := p1
        have p2 : (w3.drewN nq).cell? ⟨pb, 2, none⟩ = _ := p2
        have r0 : (w3.drewN nq).cell? ⟨w.heap.size, 0, none⟩ = _ := r0
        have r1 : (w3.drewN nq).cell? ⟨w.heap.size, 1, none⟩ = _ := r1
        have r2 : (w3.drewN nq).cell? ⟨w.heap.size, 2, none⟩ = _ := r2
        have z0 : ∀ j, (w3.drewN nq).frozen? ⟨w.heap.size, j, none⟩ = false := z0
        clear hst3 hpb hrb e0 hlk
        generalize w3.drewN nq = w4 at *
        have f0 := hst4.is.f0
        unfold ptrTo at f0
        go_wp2_with fail
        go_quiet ((go_at_call 132; exact Calls.quiet_of_same ((HLI.out _ (hst4.is.drewN _)).mono fun _ _ h => ⟨h.1, h.2.symm⟩)))
        have hst5 := hst4.drewN nq
        have hpb5 : (w4.drewN nq).heap[pb]? = _ := hpb4
        have hrb5 : (w4.drewN nq).heap[w.heap.size]? = _ := hrb4
        have p0 : (w4.drewN nq).cell? ⟨pb, 0, none⟩ = _ := p0
        have p1 : (w4.drewN nq).cell? ⟨pb, 1, none⟩ = _ := p1
        have p2 : (w4.drewN nq).cell? ⟨pb, 2, none⟩ = _ := p2
        have r0 : (w4.drewN nq).cell? ⟨w.heap.size, 0, none⟩ = _ := r0
        have r1 : (w4.drewN nq).cell? ⟨w.heap.size, 1, none⟩ = _ := r1
        have r2 : (w4.drewN nq).cell? ⟨w.heap.size, 2, none⟩ = _ := r2
        have z0 : ∀ j, (w4.drewN nq).frozen? ⟨w.heap.size, j, none⟩ = false := z0
        clear hst4 hpb4 hrb4 f0
        generalize w4.drewN nq = w5 at *
        go_wp2_with fail
        (try simp only [Exit.inBlock, Exit.then]); refine bodyPost_ret (place_ret _ _ _ _ _ _ (three_set hrb5 _ _ _) rfl _ rfl rfl) rfl ?_
        exact ⟨rfl, ((hst5.outC _ _ (Nat.le_refl _) hout).outC _ _ (Nat.le_refl _) hout).outC _ _ (Nat.le_refl _) hout⟩
  · rw [if_pos (by simpa using he)]
    have hpv : placeV lay (n, nm, e) = .agg #[.int .i64 0, .pointer none, .string ByteArray.empty] := by unfold placeV; rw [if_neg he]
    rw [hpv] at HP ⊢
    unfold ptrTo at *
    clear h hpd
    go_enter Tryz.func94, Tryz.ntmps94
    go_wp2_with first
      | (go_at_call 131; (with_reducible refine HP.out.mono ?_); rintro e w2 ⟨rfl, hst⟩; have hblk := (hst.turned.block _ (by simp) hout).trans (alloc_at _ _); have k0 := cell_of_row w2 _ 0 _ _ _ hblk; have k1 := cell_of_row w2 _ 1 _ _ _ hblk; have k2 := cell_of_row w2 _ 2 _ _ _ hblk; simp only [List.getElem?_toArray, List.getElem?_cons_zero, List.getElem?_cons_succ] at k0 k1 k2; have z0 : ∀ j, w2.frozen? ⟨w.heap.size, j, none⟩ = false := (fun j => by simp [World.frozen?, hblk]); have hlt2 : w.heap.size < w2.heap.size := (Array.getElem?_eq_some_iff.1 hblk).1; have z1 : ∀ j o, (w2.alloc o).frozen? ⟨w.heap.size, j, none⟩ = false := (fun j o => (World.frozen?_of_block (Below.heap_alloc w2 o _ hlt2)).trans (z0 j)); have z2 : ∀ j o v, ((w2.setCell ⟨w.heap.size, 0, none⟩ v).alloc o).frozen? ⟨w.heap.size, j, none⟩ = false := (fun j o v => (World.frozen?_of_block (w := w2.setCell ⟨w.heap.size, 0, none⟩ v) (Below.heap_alloc _ o _ (by simpa using hlt2))).trans (by rw [fz_set]; exact z0 j)); have z3 : ∀ j o v u, (((w2.setCell ⟨w.heap.size, 0, none⟩ v).setCell ⟨w.heap.size, 1, none⟩ u).alloc o).frozen? ⟨w.heap.size, j, none⟩ = false := (fun j o v u => (World.frozen?_of_block (w := (w2.setCell ⟨w.heap.size, 0, none⟩ v).setCell ⟨w.heap.size, 1, none⟩ u) (Below.heap_alloc _ o _ (by simpa using hlt2))).trans (by rw [fz_set, fz_set]; exact z0 j)); have hst2 := HST1.out.trans hst)
    have hb3 := (Below.heap_alloc _ (Obj.cells #[.int .i64 0, .pointer none, .string ByteArray.empty] 160) w.heap.size (by simpa using hlt2)).trans (three_set hblk (.int .i64 0) (.pointer none) (.string ByteArray.empty))
    (try simp only [Exit.inBlock, Exit.then]); refine bodyPost_ret (place_ret _ _ _ _ _ _ hb3 rfl _ rfl rfl) rfl ?_
    exact ⟨rfl, (((hst2.outC _ _ (Nat.le_refl _) hout).outC _ _ (Nat.le_refl _) hout).outC _ _ (Nat.le_refl _) hout).alloc _⟩
end
end Go.Proofs.YtggdedihfhibfaaGreatDoor
/- inodes: a new node. -/
namespace Go.Proofs.YtggdedihfhibfaaGreatDoor
open Go.RowKit IntWalk
set_option linter.unusedVariables false
set_option linter.unusedSimpArgs false

section
variable {s s' : Fs} {lay lay' : FId → Nat} {w w' : World}
/-- the first place without a node -/
def gapAt : List (Option Nd) → Option Nat
  | [] => none
  | none :: _ => some 0
  | some _ :: l => (gapAt l).map (· + 1)
theorem gapAt_some : ∀ (l : List (Option Nd)) (k : Nat), gapAt l = some k → l[k]? = some none ∧ ∀ j, j < k → ∃ x, l[j]? = some (some x)
  | [], k, h => by cases h
  | none :: l, k, h => by cases h; exact ⟨rfl, fun j hj => absurd hj (by omega)⟩
  | some y :: l, k, h => by
    unfold gapAt at h
    cases hg : gapAt l with
    | none => rw [hg] at h; cases h
    | some m =>
      rw [hg] at h; cases h
      obtain ⟨h1, h2⟩ := gapAt_some l m hg
      exact ⟨by simpa using h1, fun j hj => by
        cases j with
        | zero => exact ⟨y, rfl⟩
        | succ j => obtain ⟨x, hx⟩ := h2 j (by have hj' : j + 1 < m + 1 := hj; omega); exact ⟨x, by simpa using hx⟩⟩
theorem gapAt_none : ∀ (l : List (Option Nd)), gapAt l = none → ∀ j, j < l.length → ∃ x, l[j]? = some (some x)
  | [], _, j, hj => by simp at hj
  | none :: l, h, j, hj => by cases h
  | some y :: l, h, j, hj => by
    unfold gapAt at h
    have hg : gapAt l = none := by cases q : gapAt l with | none => rfl | some m => rw [q] at h; cases h
    cases j with
    | zero => exact ⟨y, rfl⟩
    | succ j => obtain ⟨x, hx⟩ := gapAt_none l hg j (by simp at hj; omega); exact ⟨x, by simpa using hx⟩
def newNd (kind : Int) : Nd := ⟨0, 0, kind, 0, GMap.empty⟩
/-- where things lie behind the making of a node -/
def layN (lay : FId → Nat) (k p n : Nat) : FId → Nat
  | .P i => if i = k then p else lay (.P i)
  | .N i => if i = k then n else lay (.N i)
  | j => lay j
theorem Fs.Ok.setNd0 {k : Nat} {x : Nd} (h : s.Ok) (hk : s.nodes[k]? = some none) (hx : PartsOk x.parts) : (s.setNd k x).Ok :=
  ⟨by simpa [Fs.setNd] using h.nodes, h.blocks, h.bytes, fun z hz => by
    rcases List.mem_or_eq_of_mem_set hz with q | q
    · exact h.parts z q
    · cases q; exact hx, h.names, h.dirs⟩
theorem rowN_eq (k p n : Nat) (x : Nd) (hk : k < s.nodes.length) :
    (((s.nodes.set k (some x)).mapIdx fun i o => match o with | some _ => ptrTo (layN lay k p n (.N i)) | none => Value.pointer none).toArray) = ((s.nodes.mapIdx fun i o => match o with | some _ => ptrTo (lay (.N i)) | none => Value.pointer none).toArray).setIfInBounds k (ptrTo n) := by
  rw [List.setIfInBounds_toArray]
  congr 1
  apply List.ext_getElem?
  intro j
  rw [List.getElem?_mapIdx, List.getElem?_set, List.getElem?_set, List.getElem?_mapIdx, List.length_mapIdx]
  by_cases q : k = j
  · subst q
    rw [if_pos rfl, if_pos rfl, if_pos hk, if_pos hk]
    simp [layN]
  · rw [if_neg q, if_neg q]
    cases ho : s.nodes[j]? with
    | none => rfl
    | some o =>
      cases o with
      | none => rfl
      | some y => simp [layN, Ne.symm q]
theorem Step.newN {k : Nat} {x : Nd} (h : FsIs s lay w) (hk : s.nodes[k]? = some none) (hx : x.parts = GMap.empty) :
    Step s lay w (s.setNd k x) (layN lay k w.heap.size (w.heap.size + 1)) (((w.alloc (.map #[] 0)).alloc (.cells (ndV (layN lay k w.heap.size (w.heap.size + 1)) k x) 191 (0, 0))).setCell ⟨lay .G, k, none⟩ (ptrTo (w.heap.size + 1))) := by
  have hlt := (List.getElem?_eq_some_iff.1 hk).1
  generalize hL : layN lay k w.heap.size (w.heap.size + 1) = L
  have h1 := h.lies.new (.P k) GMap.empty.obj (c' := fun j => if j = .P k then some GMap.empty.obj else s.obj lay j) (lay' := fun j => if j = .P k then w.heap.size else lay j) (fun _ => rfl) (fun _ => rfl)
  have h2 := h1.new (.N k) (.cells (ndV L k x) 191 (0, 0)) (c' := fun j => if j = .N k then some (.cells (ndV L k x) 191 (0, 0)) else if j = .P k then some GMap.empty.obj else s.obj lay j) (lay' := L) (fun _ => rfl) (fun j => by
    subst hL
    cases j with
    | N i => by_cases q : i = k <;> simp [layN, q]
    | P i => by_cases q : i = k <;> simp [layN, q]
    | _ => simp [layN])
  have hG : L .G = lay .G := by subst hL; rfl
  have hobj : ∀ j, (s.setNd k x).obj L j = if j = .G then some (.cells (((s.nodes.mapIdx fun i o => match o with | some _ => ptrTo (lay (.N i)) | none => Value.pointer none).toArray).setIfInBounds k (ptrTo (w.heap.size + 1))) 185 (0, 0)) else if j = .N k then some (.cells (ndV L k x) 191 (0, 0)) else if j = .P k then some GMap.empty.obj else s.obj lay j := fun j => by
    cases j with
    | G =>
      rw [if_pos rfl]
      have := rowN_eq (s := s) (lay := lay) k w.heap.size (w.heap.size + 1) x hlt
      rw [hL] at this
      show some (Obj.cells ((s.nodes.set k (some x)).mapIdx fun i o => match o with | some _ => ptrTo (L (.N i)) | none => Value.pointer none).toArray _ _) = _
      rw [this]
    | N i =>
      rw [if_neg (by simp)]
      by_cases q : i = k
      · subst q; simp [Fs.obj, Fs.setNd, List.getElem?_set, hlt]
      · simp only [Fs.obj, Fs.setNd_get, FId.N.injEq, q, if_false, reduceCtorEq, Ne.symm q]
        cases s.nodes[i]? with
        | none => rfl
        | some o => cases o with
          | none => rfl
          | some y => subst hL; simp [ndV, layN, q]
    | P i =>
      rw [if_neg (by simp)]
      by_cases q : i = k
      · subst q; simp [Fs.obj, Fs.setNd, List.getElem?_set, hlt, hx]
      · simp only [Fs.obj, Fs.setNd_get, FId.P.injEq, q, if_false, reduceCtorEq, Ne.symm q]
    | _ => subst hL; simp [Fs.obj, Fs.setNd, layN, Fs.dmap, Fs.dr]
  have h3 := h2.set (i := .G) (cs := (s.nodes.mapIdx fun i o => match o with | some _ => ptrTo (lay (.N i)) | none => Value.pointer none).toArray) (ty := 185) (fz := (0, 0)) (by rw [if_neg (by simp), if_neg (by simp)]; rfl) k (ptrTo (w.heap.size + 1)) (c' := (s.setNd k x).obj L) hobj
  rw [hG] at h3
  have hsz : (w.alloc (.map #[] 0)).heap.size = w.heap.size + 1 := by simp
  refine ⟨⟨h3, h.ok.setNd0 hk (by rw [hx]; exact ⟨GMap.Good.empty, fun e he => by cases he⟩)⟩, ?_, fun b hb => ?_⟩
  · exact (((Turned.refl _ w).alloc _).alloc _).set _ _ (fun _ => ⟨.G, by simp [Fs.obj], rfl⟩)
  · obtain ⟨j, hj, rfl⟩ := hb
    by_cases q : j = .N k ∨ j = .P k
    · refine .inr ?_
      subst hL
      rcases q with rfl | rfl <;> simp [layN]
    · refine .inl ⟨j, fun e => hj ?_, ?_⟩
      · rw [hobj, if_neg (fun q2 => by rw [q2] at e; simp [Fs.obj] at e), if_neg (fun q2 => q (.inl q2)), if_neg (fun q2 => q (.inr q2)), e]
      · subst hL
        cases j with
        | N i => have : i ≠ k := fun e => q (.inl (by rw [e])); simp [layN, this]
        | P i => have : i ≠ k := fun e => q (.inr (by rw [e])); simp [layN, this]
        | _ => rfl
set_option maxRecDepth 100000 in
theorem make_none (kind : Int) (h1 : 1 ≤ kind) (h3 : kind ≤ 3) (w : World) (h : FsIs s lay w) (hg : gapAt s.nodes = none) :
    Calls Tryz.prog 85 #[ptrTo (lay .T), .int .i64 kind] w fun e w' => e = .returned (.tuple #[.int .i64 0, .int .i64 21]) ∧ w = w' := by
  have t0 := h.t0
  have hk1 : ¬ kind < 1 := by omega
  have hk3 : ¬ 3 < kind := by omega
  have hlen := h.ok.nodes
  unfold ptrTo at *
  go_enter Tryz.func85, Tryz.ntmps85
  go_wp2_with fail
  go_loopw [23] (fun v W => ∃ k : Nat, v = .int .i64 k ∧ k ≤ s.nodes.length ∧ W = w) (fun v _ => s.nodes.length - (intOf v).toNat)
  case atStart => exact ⟨0, rfl, by omega, rfl⟩
  case round =>
    obtain ⟨k, rfl, hk, rfl⟩ := hrel
    by_cases hlt : k < s.nodes.length
    · have hltI : (k : Int) < s.nodes.length := by omega
      obtain ⟨x, hn⟩ := gapAt_none _ hg k hlt
      have gN := h.gN hn
      unfold ptrTo at gN
      have hkI : (k : Int) ≤ 1024 := by omega
      go_wp2_with fail
      exact ⟨⟨k + 1, by go_num, by omega, by first | rfl | trivial⟩, by simp [intOf]; omega⟩
    · have hltI : (s.nodes.length : Int) ≤ k := by omega
      go_wp2_with fail
      go_ret2
      exact ⟨rfl, rfl⟩
set_option maxRecDepth 100000 in
theorem make_some (kind : Int) (h1 : 1 ≤ kind) (h3 : kind ≤ 3) (w : World) (h : FsIs s lay w) (k0 : Nat) (hg : gapAt s.nodes = some k0) :
    Calls Tryz.prog 85 #[ptrTo (lay .T), .int .i64 kind] w fun e w' => e = .returned (.tuple #[.int .i64 (k0 + 1), .int .i64 0]) ∧ ∃ p n, Step s lay w (s.setNd k0 (newNd kind)) (layN lay k0 p n) w' := by
  have t0 := h.t0
  have hk1 : ¬ kind < 1 := by omega
  have hk3 : ¬ 3 < kind := by omega
  have hlen := h.ok.nodes
  obtain ⟨hn0, hfull⟩ := gapAt_some _ _ hg
  have hk0 := (List.getElem?_eq_some_iff.1 hn0).1
  unfold ptrTo at *
  go_enter Tryz.func85, Tryz.ntmps85
  go_wp2_with fail
  go_loopw [23] (fun v W => ∃ k : Nat, v = .int .i64 k ∧ k ≤ k0 ∧ W = w) (fun v _ => s.nodes.length - (intOf v).toNat)
  case atStart => exact ⟨0, rfl, by omega, rfl⟩
  case round =>
    obtain ⟨k, rfl, hk, rfl⟩ := hrel
    by_cases hlt : k < k0
    · have hltI : (k : Int) < s.nodes.length := by omega
      obtain ⟨x, hn⟩ := hfull k hlt
      have gN := h.gN hn
      unfold ptrTo at gN
      have hkI : (k : Int) ≤ 1024 := by omega
      go_wp2_with fail
      exact ⟨⟨k + 1, by go_num, by omega, by first | rfl | trivial⟩, by simp [intOf]; omega⟩
    · obtain rfl : k = k0 := by omega
      have hltI : (k : Int) < s.nodes.length := by omega
      have g0 := h.g0 hn0
      have hkI : (k : Int) ≤ 1024 := by omega
      have HF := Lib.hid h
      have zG : wr.frozen? ⟨lay .G, k, none⟩ = false := h.lies.fz (i := .G) rfl k
      clear h hfull
      have hmk := fun W => run_makeMap (P := Tryz.prog) 189 W
      have hh : lay .G < wr.heap.size := World.block_lt_of_cell? wr ⟨lay .G, k, none⟩ g0
      have hA : ∀ o o', ((wr.alloc o).alloc o').heap[lay .G]? = wr.heap[lay .G]? := fun o o' => (Below.heap_alloc _ o' _ (by simp; omega)).trans (Below.heap_alloc _ o _ hh)
      have zA : ∀ o o', ((wr.alloc o).alloc o').frozen? ⟨lay .G, k, none⟩ = false := fun o o' => (World.frozen?_of_block (w := wr) (hA o o')).trans zG
      have cA : ∀ o o', ((wr.alloc o).alloc o').cell? ⟨lay .G, k, none⟩ = some (.pointer none) := fun o o' => (World.cell?_of_block (w := wr) (hA o o')).trans g0
      have hfin0 := Step.newN (x := newNd kind) HF.out hn0 rfl
      rw [World.setCell_alloc_past _ _ _ _ (by simp; omega), World.setCell_alloc_past _ _ _ _ hh] at hfin0
      have hfin := Lib.hid hfin0
      clear hfin0
      clear hA
      go_wp2_with fail
      go_ret2
      refine ⟨rfl, wr.heap.size, wr.heap.size + 1, ?_⟩
      have := hfin.out
      unfold ndV newNd at this
      rw [show layN lay k wr.heap.size (wr.heap.size + 1) (.P k) = wr.heap.size from by simp [layN]] at this
      exact this
end
end Go.Proofs.YtggdedihfhibfaaGreatDoor
/- names: a file is made. -/
namespace Go.Proofs.YtggdedihfhibfaaGreatDoor
open Go.RowKit IntWalk
set_option linter.unusedVariables false
set_option linter.unusedSimpArgs false

section
variable {W0 : World} {s s' : Fs} {lay lay' : FId → Nat} {w w' : World}
/-- a directory is another -/
def Fs.setDr (s : Fs) (i : Int) (d : Dr) : Fs := { s with dirs := s.dirs.map fun e => if e.1 = i then (e.1, d, e.2.2) else e }
theorem dirE_set (i : Int) (d : Dr) : ∀ (l : List (Int × Dr × Nat)) (j : Int), dirE j (l.map fun e => if e.1 = i then (e.1, d, e.2.2) else e) = if j = i then (dirE j l).map (fun _ => d) else dirE j l
  | [], j => by simp [dirE]
  | e :: l, j => by
    have ih := dirE_set i d l j
    rw [List.map_cons]
    by_cases h : e.1 = i
    · rw [if_pos h]
      unfold dirE
      by_cases q : e.1 = j
      · rw [if_pos q, if_pos (by rw [← q, h]), if_pos q]; rfl
      · rw [if_neg q, if_neg q, ih]
    · rw [if_neg h]
      unfold dirE
      by_cases q : e.1 = j
      · rw [if_pos q, if_neg (by rw [← q]; exact h), if_pos q]
      · rw [if_neg q, if_neg q, ih]
theorem setDr_dr (i : Int) (d : Dr) (j : Int) : (s.setDr i d).dr j = if j = i then (s.dr j).map (fun _ => d) else s.dr j := dirE_set i d s.dirs j
theorem setDr_dmap (i : Int) (d : Dr) : (s.setDr i d).dmap lay = s.dmap lay := by
  unfold Fs.dmap Fs.setDr
  simp only [List.map_map]
  congr 1
  apply List.map_congr_left
  intro e _
  show (fun e => (Key.int e.1, ptrTo (lay (.E e.1)), e.2.2)) (if e.1 = i then (e.1, d, e.2.2) else e) = _
  split <;> rfl
theorem setDr_obj {i : Int} {d d0 : Dr} (hd : s.dr i = some d0) (hp : d.parent = d0.parent) (j : FId) : (s.setDr i d).obj lay j = if j = .M i then some d.names.obj else s.obj lay j := by
  cases j with
  | D => rw [if_neg (by simp)]; show some ((s.setDr i d).dmap lay).obj = _; rw [setDr_dmap]; rfl
  | E k =>
    rw [if_neg (by simp)]
    simp only [Fs.obj, setDr_dr]
    by_cases q : k = i
    · subst q; rw [if_pos rfl, hd]; simp [hp]
    · rw [if_neg q]
  | M k =>
    simp only [Fs.obj, setDr_dr, FId.M.injEq]
    by_cases q : k = i
    · subst q; rw [if_pos rfl, if_pos rfl, hd]; rfl
    · rw [if_neg q, if_neg q]
  | _ => rw [if_neg (by simp)]; rfl
theorem Fs.Ok.setDr (h : s.Ok) (i : Int) {d : Dr} (hd : NamesOk d.names) : (s.setDr i d).Ok :=
  ⟨h.nodes, h.blocks, h.bytes, h.parts, fun e he => by
    obtain ⟨x, hx, rfl⟩ := List.mem_map.1 he
    split
    · exact hd
    · exact h.names x hx, by
    have : (s.setDr i d).dirs.map (fun e => (Key.int e.1, e.2.2)) = s.dirs.map (fun e => (Key.int e.1, e.2.2)) := by
      unfold Fs.setDr
      rw [List.map_map]
      apply List.map_congr_left
      intro e _
      show (fun e : Int × Dr × Nat => (Key.int e.1, e.2.2)) (if e.1 = i then (e.1, d, e.2.2) else e) = _
      split <;> rfl
    show GoodE ((s.setDr i d).dirs.map (fun e => (Key.int e.1, e.2.2))) s.clk
    rw [this]; exact h.dirs⟩
theorem Step.names (h : Step s lay w s' lay' w') {i : Int} {d0 : Dr} (hd : s'.dr i = some d0) {m : GMap} (hm : NamesOk m) :
    Step s lay w (s'.setDr i ⟨m, d0.parent⟩) lay' { w' with heap := w'.heap.setIfInBounds (lay' (.M i)) m.obj } := by
  have hn : s'.obj lay' (.M i) = some d0.names.obj := by simp [Fs.obj, hd]
  have hown : Owns (s'.obj lay') lay' (lay' (.M i)) := ⟨.M i, by rw [hn]; simp, rfl⟩
  have hobj := fun j => setDr_obj (s := s') (lay := lay') (d := ⟨m, d0.parent⟩) hd rfl j
  refine ⟨⟨h.is.lies.put hn hobj, h.is.ok.setDr i hm⟩, h.turned.put _ _ (fun hlt => (h.own _ hown).resolve_right (by simpa using hlt)), fun b hb => ?_⟩
  obtain ⟨j, hj, rfl⟩ := hb
  refine h.own _ ⟨j, fun e => hj ?_, rfl⟩
  rw [hobj]
  by_cases q : j = .M i
  · rw [q, hn] at e; cases e
  · rw [if_neg q, e]
theorem NamesOk.put {m : GMap} (h : NamesOk m) (t : List UInt8) (b : Int) : NamesOk (m.put (.str t) (.int .i64 b)) :=
  ⟨h.good.put _ _, fun e he => by
    rcases setE_mem he with q | ⟨q1, q2⟩
    · exact h.ints e q
    · exact ⟨t, b, q1, q2⟩⟩
theorem NamesOk.del {m : GMap} (h : NamesOk m) (k : Key) : NamesOk (m.del k) := ⟨h.good.del k, fun e he => h.ints e (delE_sub e he)⟩
/-- a file that is new -/
def freshNd (kind : Int) : Nd := ⟨1, 0, kind, 0, GMap.empty⟩
/-- what the making of a file answers, and leaves -/
def Fs.makeS (s : Fs) (dir : Int) (path : List UInt8) : Int × Int × Fs :=
  if s.freeS dir path ≠ 0 then (0, s.freeS dir path, s)
  else match gapAt s.nodes with
    | none => (0, 21, s)
    | some k => match s.dr (s.placeS dir path).1 with
      | none => (0, 0, s)
      | some d => (k + 1, 0, (s.setNd k (freshNd 1)).setDr (s.placeS dir path).1 ⟨d.names.put (.str (s.placeS dir path).2.1) (.int .i64 (k + 1)), d.parent⟩)
theorem make_fail (hE : EnvG W0) (dir : Int) (path : List UInt8) (hpl : path.length ≤ 100000) (w : World) (h : FsIn W0 s lay w) (he : s.freeS dir path ≠ 0) :
    Calls Tryz.prog 56 #[ptrTo (lay .F), .int .i64 dir, .string ⟨path.toArray⟩, .int .i64 1, .string ByteArray.empty] w fun e w' => e = .returned (.tuple #[.int .i64 0, .int .i64 (s.freeS dir path)]) ∧ Step s lay w s lay w' := by
  have HP := Lib.hid (free_any hE dir path hpl w h)
  have HI := Lib.hid h
  clear h
  generalize s.freeS dir path = er at *
  have hpv : ∃ a b c, placeV lay (s.placeS dir path) = .agg #[.int .i64 a, .pointer b, .string c] := by
    unfold placeV ptrTo; split <;> exact ⟨_, _, _, rfl⟩
  obtain ⟨a, b, c, hpv⟩ := hpv
  rw [hpv] at HP
  clear hpv
  unfold ptrTo at *
  go_enter Tryz.func56, Tryz.ntmps56
  go_wp2_with (go_at_call 94; (with_reducible refine HP.out.mono ?_); rintro e w2 ⟨rfl, hst⟩; have her : (er == 0) = false := (by simpa using he))
  go_ret2
  exact ⟨rfl, hst.alloc _⟩
theorem make_full (hE : EnvG W0) (dir : Int) (path : List UInt8) (hpl : path.length ≤ 100000) (w : World) (h : FsIn W0 s lay w) (he : s.freeS dir path = 0) (hg : gapAt s.nodes = none) :
    Calls Tryz.prog 56 #[ptrTo (lay .F), .int .i64 dir, .string ⟨path.toArray⟩, .int .i64 1, .string ByteArray.empty] w fun e w' => e = .returned (.tuple #[.int .i64 0, .int .i64 21]) ∧ Step s lay w s lay w' := by
  have HP := Lib.hid (free_any hE dir path hpl w h)
  rw [he] at HP
  have HM := Lib.hid (fun (W : World) (hW : FsIs s lay W) => make_none 1 (by omega) (by omega) W hW hg)
  clear h he
  have hpv : ∃ a b c, placeV lay (s.placeS dir path) = .agg #[.int .i64 a, .pointer b, .string c] := by
    unfold placeV ptrTo; split <;> exact ⟨_, _, _, rfl⟩
  obtain ⟨a, b, c, hpv⟩ := hpv
  rw [hpv] at HP
  clear hpv
  unfold ptrTo at *
  go_enter Tryz.func56, Tryz.ntmps56
  go_wp2_with first
    | (go_at_call 94; (with_reducible refine HP.out.mono ?_); rintro e w2 ⟨rfl, hst⟩; have hst3 := hst.alloc (Obj.cells #[.int .i64 a, .pointer b, .string c] 160); have f0 := hst3.is.f0; unfold ptrTo at f0)
    | (go_at_call 85; (with_reducible refine (HM.out _ hst3.is).mono ?_); rintro e w' ⟨rfl, rfl⟩)
  go_ret2
  exact ⟨rfl, hst3⟩
theorem make_ok (hE : EnvG W0) (dir : Int) (path : List UInt8) (hpl : path.length ≤ 100000) (w : World) (h : FsIn W0 s lay w) (he : s.freeS dir path = 0) (k : Nat) (hg : gapAt s.nodes = some k) (n : Int) (nm : List UInt8) (hpp : s.placeS dir path = (n, nm, 0)) (d : Dr) (hd : s.dr n = some d) :
    Calls Tryz.prog 56 #[ptrTo (lay .F), .int .i64 dir, .string ⟨path.toArray⟩, .int .i64 1, .string ByteArray.empty] w fun e w' => e = .returned (.tuple #[.int .i64 (k + 1), .int .i64 0]) ∧ ∃ lay', lay' .F = lay .F ∧ Step s lay w ((s.setNd k (freshNd 1)).setDr n ⟨d.names.put (.str nm) (.int .i64 (k + 1)), d.parent⟩) lay' w' := by
  have HP := Lib.hid (free_any hE dir path hpl w h)
  rw [he, hpp] at HP
  have HM := Lib.hid (fun (W : World) (hW : FsIs s lay W) => make_some 1 (by omega) (by omega) W hW k hg)
  have hnd := (gapAt_some _ _ hg).1
  have hlt := (List.getElem?_eq_some_iff.1 hnd).1
  have hnd1 : (s.setNd k (newNd 1)).nd ((k : Int) + 1) = some (newNd 1) := by
    unfold Fs.nd
    rw [if_neg (by omega), slotOf_eq, Fs.setNd_get, if_pos rfl, if_pos hlt]; rfl
  have hnd2 : (s.setNd k (freshNd 1)).nd ((k : Int) + 1) = some (freshNd 1) := by
    unfold Fs.nd
    rw [if_neg (by omega), slotOf_eq, Fs.setNd_get, if_pos rfl, if_pos hlt]; rfl
  have hs2 : (s.setNd k (newNd 1)).setNd (slotOf ((k : Int) + 1)) { newNd 1 with names := incW (newNd 1).names } = s.setNd k (freshNd 1) := by
    rw [slotOf_eq, setNd_setNd, show incW (newNd 1).names = 1 from by simp [incW, newNd, wrap64]]; rfl
  have HT := Lib.hid (fun (p m : Nat) (W : World) (hW : FsIs (s.setNd k (newNd 1)) (layN lay k p m) W) => show Calls Tryz.prog 86 #[.pointer (some ⟨lay .T, 0, none⟩), .int .i64 ((k : Int) + 1)] W fun e w' => e = .returned (.int .i64 0) ∧ Step (s.setNd k (newNd 1)) (layN lay k p m) W (s.setNd k (freshNd 1)) (layN lay k p m) w' from by
    have := tie_some ((k : Int) + 1) (newNd 1) W hW hnd1
    rw [hs2] at this
    exact this)
  have HW := Lib.hid (fun (p m : Nat) (W : World) (hW : FsIs (s.setNd k (freshNd 1)) (layN lay k p m) W) => show Calls Tryz.prog 88 #[.pointer (some ⟨lay .T, 0, none⟩), .int .i64 ((k : Int) + 1), .int .i64 0, .string ByteArray.empty] W fun e w' => e = .returned (.tuple #[.int .i64 0, .int .i64 0]) ∧ Step (s.setNd k (freshNd 1)) (layN lay k p m) W (s.setNd k (freshNd 1)) (layN lay k p m) w' from by
    refine (write_some ((k : Int) + 1) (freshNd 1) 0 [] W hW hnd2 (by intro p b hb; cases hb) ⟨by decide, by decide⟩ (by omega)).mono ?_
    rintro e w' ⟨n6, s6, h6, rfl, hst6⟩
    have h7 : (n6, s6) = (0, s.setNd k (freshNd 1)) := by rw [h6, List.take_nil]; rfl
    cases h7
    exact ⟨rfl, hst6⟩)
  have hd2 : (s.setNd k (freshNd 1)).dr n = some d := hd
  have hno := names_of h.is hd
  have hkk : (k : Int) ≤ 1024 := by have := h.is.ok.nodes; omega
  clear h he hnd hnd1 hnd2 hs2 hpp
  rw [show placeV lay (n, nm, 0) = .agg #[.int .i64 n, ptrTo (lay (.E n)), .string ⟨nm.toArray⟩] from rfl] at HP
  unfold ptrTo at *
  go_enter Tryz.func56, Tryz.ntmps56
  go_wp2_with first
    | (go_at_call 94; (with_reducible refine HP.out.mono ?_); rintro e w2 ⟨rfl, hst⟩; have hst3 := hst.alloc (Obj.cells #[.int .i64 n, .pointer (some ⟨lay (.E n), 0, none⟩), .string ⟨nm.toArray⟩] 160); have f0 := hst3.is.f0; unfold ptrTo at f0)
    | (go_at_call 85; (with_reducible refine (HM.out _ hst3.is).mono ?_); rintro e w4 ⟨rfl, p4, n4, hst4⟩; have f4 : w4.cell? ⟨lay .F, 0, none⟩ = some (.pointer (some ⟨lay .T, 0, none⟩)) := hst4.is.f0)
    | (go_at_call 86; (with_reducible refine (HT.out p4 n4 _ hst4.is).mono ?_); rintro e w5 ⟨rfl, hst5⟩; have hst35 := hst4.trans hst5; have f5 : w5.cell? ⟨lay .F, 0, none⟩ = some (.pointer (some ⟨lay .T, 0, none⟩)) := hst5.is.f0)
    | (go_at_call 88; (with_reducible refine (HW.out p4 n4 _ hst35.is).mono ?_); rintro e w6 ⟨rfl, hst6⟩; have hst36 := hst35.trans hst6)
  have hpb3 := alloc_at w2 (Obj.cells #[.int .i64 n, .pointer (some ⟨lay (.E n), 0, none⟩), .string ⟨nm.toArray⟩] 160)
  have hown : ¬ Owns (s.obj lay) lay w2.heap.size := fun q => by have := hst.is.lies.owns_lt q; omega
  have hpb6 := (hst36.turned.block w2.heap.size (by simp) hown).trans hpb3
  have hall := (hst3.trans hst36).drewN 1
  have p1 : w6.drew.cell? ⟨w2.heap.size, 1, none⟩ = some (.pointer (some ⟨lay (.E n), 0, none⟩)) := cell_of_row w6 _ 1 _ _ _ hpb6
  have p2 : w6.drew.cell? ⟨w2.heap.size, 2, none⟩ = some (.string ⟨nm.toArray⟩) := cell_of_row w6 _ 2 _ _ _ hpb6
  have e0 : w6.drew.cell? ⟨lay (.E n), 0, none⟩ = some (.map (some (lay (.M n)))) := hall.is.e0 hd2
  have hM : w6.drew.heap[lay (.M n)]? = some d.names.obj := hall.is.lies.at_ (.M n) d.names.obj (by simp [Fs.obj, hd2])
  have hmu := GMap.store (P := Tryz.prog) (k := .str nm) (v := .int .i64 ((k : Int) + 1)) Tryz.underlying93 Tryz.underlying9 hno.of hM
  simp only [Key.val] at hmu
  have HF := Lib.hid (hall.names hd2 (hno.put nm ((k : Int) + 1)))
  have hMlt : lay (.M n) < w2.heap.size := hst.is.lies.owns_lt ⟨.M n, by simp [Fs.obj, hd], rfl⟩
  have hMne : lay (.M n) ≠ w2.heap.size := by omega
  have hMEne : lay (.M n) ≠ lay (.E n) := hst.is.lies.ne (i := .M n) (j := .E n) (o := d.names.obj) (p := .cells #[.map (some (lay (.M n))), .int .i64 d.parent] 95 (0, 0)) (by simp [Fs.obj, hd]) (by simp [Fs.obj, hd]) (by simp)
  have hother : ∀ (b j : Nat) (v : Value) (o : Obj), lay (.M n) ≠ b → w6.drew.cell? ⟨b, j, none⟩ = some v → ({ w6.drew with heap := w6.drew.heap.setIfInBounds (lay (.M n)) o } : World).cell? ⟨b, j, none⟩ = some v := fun b j v o hne hc => by
    rw [World.cell?_of_block (w := w6.drew) (by show (w6.drew.heap.setIfInBounds (lay (.M n)) o)[b]? = _; rw [Array.getElem?_setIfInBounds, if_neg hne])]
    exact hc
  have q1 : ({ w6.drew with heap := w6.drew.heap.setIfInBounds (lay (.M n)) (d.names.put (.str nm) (.int .i64 ((k : Int) + 1))).obj } : World).cell? ⟨w2.heap.size, 1, none⟩ = some (.pointer (some ⟨lay (.E n), 0, none⟩)) := hother _ _ _ _ hMne p1
  have q2 : ({ w6.drew with heap := w6.drew.heap.setIfInBounds (lay (.M n)) (d.names.put (.str nm) (.int .i64 ((k : Int) + 1))).obj } : World).cell? ⟨w2.heap.size, 2, none⟩ = some (.string ⟨nm.toArray⟩) := hother _ _ _ _ hMne p2
  have q0 : ({ w6.drew with heap := w6.drew.heap.setIfInBounds (lay (.M n)) (d.names.put (.str nm) (.int .i64 ((k : Int) + 1))).obj } : World).cell? ⟨lay (.E n), 0, none⟩ = some (.map (some (lay (.M n)))) := hother _ _ _ _ hMEne e0
  clear hother hst hst3 hst4 hst5 hst6 hst35 hst36 f0 f4 f5 hpb3 hpb6 hall hM HT HW HM HP
  go_region_held3 (fun W => W.cell? ⟨w2.heap.size, 1, none⟩ = some (.pointer (some ⟨lay (.E n), 0, none⟩)) ∧ W.cell? ⟨w2.heap.size, 2, none⟩ = some (.string ⟨nm.toArray⟩) ∧ W.cell? ⟨lay (.E n), 0, none⟩ = some (.map (some (lay (.M n))))) (first | exact ⟨p1, p2, e0⟩ | exact ⟨q1, q2, q0⟩ | go_keep) (fail)
  go_wp2_with fail
  go_ret2
  exact ⟨rfl, layN lay k p4 n4, rfl, HF.out⟩
/-- Make, whatever the path -/
theorem made_any (hE : EnvG W0) (dir : Int) (path : List UInt8) (hpl : path.length ≤ 100000) (w : World) (h : FsIn W0 s lay w) :
    Calls Tryz.prog 56 #[ptrTo (lay .F), .int .i64 dir, .string ⟨path.toArray⟩, .int .i64 1, .string ByteArray.empty] w fun e w' => e = .returned (.tuple #[.int .i64 (s.makeS dir path).1, .int .i64 (s.makeS dir path).2.1]) ∧ ∃ lay', lay' .F = lay .F ∧ Step s lay w (s.makeS dir path).2.2 lay' w' := by
  unfold Fs.makeS
  by_cases he : s.freeS dir path = 0
  · rw [if_neg (by simpa using he)]
    cases hg : gapAt s.nodes with
    | none => exact (make_full hE dir path hpl w h he hg).mono (by rintro e w' ⟨rfl, hs⟩; exact ⟨rfl, lay, rfl, hs⟩)
    | some k =>
      obtain ⟨n, nm, e, hr⟩ : ∃ n nm e, s.placeS dir path = (n, nm, e) := ⟨_, _, _, rfl⟩
      have he0 : e = 0 := by
        unfold Fs.freeS at he
        rw [hr] at he
        dsimp only at he
        by_cases q : e = 0
        · exact q
        · rw [if_pos q] at he; exact absurd he q
      subst he0
      obtain ⟨d, hd, _, _⟩ := placeS_dir (s := s) (dir := dir) (path := path) (by rw [hr])
      rw [hr] at hd
      have hdr := dirOf_dr hd
      dsimp only at hdr ⊢
      rw [hr]
      dsimp only
      rw [hdr]
      exact make_ok hE dir path hpl w h he k hg n nm hr d hdr
  · rw [if_pos he]
    exact (make_fail hE dir path hpl w h he).mono (by rintro e w' ⟨rfl, hs⟩; exact ⟨rfl, lay, rfl, hs⟩)
theorem make_any (hE : EnvG W0) (dir : Int) (path : List UInt8) (hpl : path.length ≤ 100000) (w : World) (h : FsIn W0 s lay w) :
    Calls Tryz.prog 27 #[ptrTo (lay .F), .int .i64 dir, .string ⟨path.toArray⟩] w fun e w' => e = .returned (.tuple #[.int .i64 (s.makeS dir path).1, .int .i64 (s.makeS dir path).2.1]) ∧ ∃ lay', lay' .F = lay .F ∧ Step s lay w (s.makeS dir path).2.2 lay' w' := by
  have HM := Lib.hid (made_any hE dir path hpl w h)
  clear h
  generalize s.makeS dir path = r at *
  unfold ptrTo at *
  go_enter Tryz.func27, Tryz.ntmps27
  go_wp2_with (go_at_call 56; refine HM.out.mono ?_; rintro e w' ⟨rfl, hs⟩)
  go_ret2
  exact ⟨rfl, hs⟩
end
end Go.Proofs.YtggdedihfhibfaaGreatDoor
/- names: a name is taken away. -/
namespace Go.Proofs.YtggdedihfhibfaaGreatDoor
open Go.RowKit IntWalk
set_option linter.unusedVariables false
set_option linter.unusedSimpArgs false

section
variable {W0 : World} {s : Fs} {lay : FId → Nat}
/-- a name less -/
def Fs.untieS (s : Fs) (i : Int) : Fs := match s.nd i with
  | none => s
  | some x => if x.names = 0 then s else s.lessS i { x with names := decW x.names }
theorem untie_any (i : Int) (w : World) (h : FsIs s lay w) : Calls Tryz.prog 95 #[ptrTo (lay .T), .int .i64 i] w fun e w' => (∃ c, e = .returned (.int .i64 c)) ∧ Step s lay w (s.untieS i) lay w' := by
  unfold Fs.untieS
  cases hn : s.nd i with
  | none => exact (untie_none i w h hn).mono (by rintro e w' ⟨rfl, rfl⟩; exact ⟨⟨_, rfl⟩, Step.refl h⟩)
  | some x =>
    dsimp only
    by_cases hx : x.names = 0
    · rw [if_pos hx]; exact (untie_zero i x w h hn hx).mono (by rintro e w' ⟨rfl, rfl⟩; exact ⟨⟨_, rfl⟩, Step.refl h⟩)
    · rw [if_neg hx]; exact (untie_some i x w h hn hx).mono (by rintro e w' ⟨rfl, hs⟩; exact ⟨⟨_, rfl⟩, hs⟩)
/-- a name less in a directory -/
def Fs.unnameS (s : Fs) (n : Int) (nm : List UInt8) (i : Int) : Fs := match s.dr n with
  | none => s
  | some d => (s.setDr n ⟨d.names.del (.str nm), d.parent⟩).untieS i
end
end Go.Proofs.YtggdedihfhibfaaGreatDoor
/- names: nodes that are held. -/
namespace Go.Proofs.YtggdedihfhibfaaGreatDoor
open Go.RowKit IntWalk
set_option linter.unusedVariables false
set_option linter.unusedSimpArgs false

section
variable {W0 : World} {s : Fs} {lay : FId → Nat}
def Fs.holdS (s : Fs) (i : Int) : Int × Fs := match s.nd i with
  | none => (23, s)
  | some x => (0, s.setNd (slotOf i) { x with users := incW x.users })
def Fs.looseS (s : Fs) (i : Int) : Int × Fs := match s.nd i with
  | none => (23, s)
  | some x => if x.users = 0 then (23, s) else (0, s.lessS i { x with users := decW x.users })
/-- a node without bytes -/
def Fs.cutS (s : Fs) (i : Int) (x : Nd) : Fs := (s.dropS (slotOf i) x 0).setNd (slotOf i) { x with size := 0, parts := ⟨x.parts.es.filter (fun e => !goes (fun _ => true) 0 e), x.parts.clk⟩ }
/-- the kind of a node, or what is wrong -/
theorem nkind_any (i : Int) (w : World) (h : FsIs s lay w) : Calls Tryz.prog 41 #[ptrTo (lay .F), .int .i64 i] w fun e w' => e = .returned (.tuple #[.int .i64 (s.fld Nd.kind i), .int .i64 (if s.fld Nd.kind i = 0 then 23 else 0)]) ∧ w = w' := by
  have HK := Lib.hid (kind_any i w h)
  have f0 := h.f0
  clear h
  generalize s.fld Nd.kind i = kk at *
  unfold ptrTo at *
  by_cases hk : kk = 0
  · subst hk
    rw [if_pos rfl]
    go_enter Tryz.func41, Tryz.ntmps41
    go_wp2_with (go_at_call 65; (with_reducible refine HK.out.mono ?_); rintro e w' ⟨rfl, rfl⟩)
    go_ret2
    exact ⟨rfl, rfl⟩
  · rw [if_neg hk]
    have hkb : (kk == 0) = false := by simpa using hk
    go_enter Tryz.func41, Tryz.ntmps41
    go_wp2_with (go_at_call 65; (with_reducible refine HK.out.mono ?_); rintro e w' ⟨rfl, rfl⟩)
    go_ret2
    exact ⟨rfl, rfl⟩
/-- what is wrong with a node as a file -/
def fileE (k : Int) : Int := if k = 0 then 23 else if k = 2 then 24 else if k = 3 then 1 else 0
theorem nfile_any (i : Int) (w : World) (h : FsIs s lay w) : Calls Tryz.prog 87 #[ptrTo (lay .F), .int .i64 i] w fun e w' => e = .returned (.int .i64 (fileE (s.fld Nd.kind i))) ∧ w = w' := by
  have HK := Lib.hid (nkind_any i w h)
  clear h
  generalize s.fld Nd.kind i = kk at *
  unfold ptrTo at *
  by_cases h0 : kk = 0
  · subst h0
    rw [if_pos rfl] at HK
    go_enter Tryz.func87, Tryz.ntmps87
    go_wp2_with (go_at_call 41; (with_reducible refine HK.out.mono ?_); rintro e w' ⟨rfl, rfl⟩)
    go_ret
    exact ⟨rfl, rfl⟩
  · rw [if_neg h0] at HK
    by_cases h2 : kk = 2
    · subst h2
      go_enter Tryz.func87, Tryz.ntmps87
      go_wp2_with (go_at_call 41; (with_reducible refine HK.out.mono ?_); rintro e w' ⟨rfl, rfl⟩)
      go_ret
      exact ⟨rfl, rfl⟩
    · by_cases h3 : kk = 3
      · subst h3
        go_enter Tryz.func87, Tryz.ntmps87
        go_wp2_with (go_at_call 41; (with_reducible refine HK.out.mono ?_); rintro e w' ⟨rfl, rfl⟩)
        go_ret
        exact ⟨rfl, rfl⟩
      · have hf : fileE kk = 0 := by unfold fileE; rw [if_neg h0, if_neg h2, if_neg h3]
        rw [hf]
        have b2 : (kk == 2) = false := by simpa using h2
        have b3 : (kk == 3) = false := by simpa using h3
        go_enter Tryz.func87, Tryz.ntmps87
        go_wp2_with (go_at_call 41; (with_reducible refine HK.out.mono ?_); rintro e w' ⟨rfl, rfl⟩)
        go_ret
        exact ⟨rfl, rfl⟩
end
end Go.Proofs.YtggdedihfhibfaaGreatDoor
/- names: bytes are put into a file. -/
namespace Go.Proofs.YtggdedihfhibfaaGreatDoor
open Go.RowKit IntWalk
set_option linter.unusedVariables false
set_option linter.unusedSimpArgs false

section
variable {W0 : World} {s : Fs} {lay : FId → Nat}
/-- writing into what is no file -/
theorem nwrite_nofile (i at_ : Int) (d : ByteArray) (w : World) (h : FsIs s lay w) (hk : fileE (s.fld Nd.kind i) ≠ 0) : Calls Tryz.prog 53 #[ptrTo (lay .F), .int .i64 i, .int .i64 at_, .string d] w fun e w' => e = .returned (.tuple #[.int .i64 0, .int .i64 (fileE (s.fld Nd.kind i))]) ∧ w = w' := by
  have HF := Lib.hid (nfile_any i w h)
  clear h
  generalize fileE (s.fld Nd.kind i) = fe at *
  have hfe : (fe == 0) = false := by simpa using hk
  unfold ptrTo at *
  go_enter Tryz.func53, Tryz.ntmps53
  go_wp2_with (go_at_call 87; (with_reducible refine HF.out.mono ?_); rintro e w' ⟨rfl, rfl⟩)
  go_ret2
  exact ⟨rfl, rfl⟩
/-- writing into a file -/
theorem nwrite_file (i : Int) (x : Nd) (at_ : Nat) (d : List UInt8) (w : World) (h : FsIs s lay w) (hn : s.nd i = some x) (hk : fileE (s.fld Nd.kind i) = 0) (ht : x.taken s) (hs : 0 ≤ x.size ∧ x.size ≤ 4096) (hat : at_ < 4096) :
    Calls Tryz.prog 53 #[ptrTo (lay .F), .int .i64 i, .int .i64 at_, .string ⟨d.toArray⟩] w fun e w' => ∃ n s', (n, s') = s.writeS (slotOf i) x at_ (d.take (4096 - at_)) ∧
      e = .returned (.tuple #[.int .i64 n, .int .i64 (if n = 0 ∧ d ≠ [] then 20 else 0)]) ∧ Step s lay w s' lay w' := by
  have HF := Lib.hid (nfile_any i w h)
  rw [hk] at HF
  have HW := Lib.hid (show Calls Tryz.prog 88 #[ptrTo (lay .T), .int .i64 i, .int .i64 at_, .string ⟨d.toArray⟩] w fun e w' => ∃ (n : Nat) (s' : Fs) (er : Int), ((n, s') = s.writeS (slotOf i) x at_ (d.take (4096 - at_)) ∧ er = if n = 0 ∧ d ≠ [] then 20 else 0) ∧ e = .returned (.tuple #[.int .i64 n, .int .i64 er]) ∧ Step s lay w s' lay w' from (write_some i x at_ d w h hn ht hs hat).mono (by rintro e w' ⟨n, s', h1, rfl, h3⟩; exact ⟨n, s', _, ⟨h1, rfl⟩, rfl, h3⟩))
  have f0 := h.f0
  clear h
  unfold ptrTo at *
  go_enter Tryz.func53, Tryz.ntmps53
  go_wp2_with first
    | (go_at_call 87; (with_reducible refine HF.out.mono ?_); rintro e w' ⟨rfl, rfl⟩)
    | (go_at_call 88; (with_reducible refine HW.out.mono ?_); rintro e w' ⟨n, s', er, h1, rfl, h2⟩; have H1 := Lib.hid h1; clear h1)
  go_ret2
  refine ⟨n, s', H1.out.1, ?_, h2⟩
  rw [← H1.out.2]; rfl
theorem nread_nofile (i at_ n : Int) (w : World) (h : FsIs s lay w) (hk : fileE (s.fld Nd.kind i) ≠ 0) : Calls Tryz.prog 68 #[ptrTo (lay .F), .int .i64 i, .int .i64 at_, .int .i64 n] w fun e w' => e = .returned (.tuple #[.string ByteArray.empty, .int .i64 (fileE (s.fld Nd.kind i))]) ∧ w = w' := by
  have HF := Lib.hid (nfile_any i w h)
  clear h
  generalize fileE (s.fld Nd.kind i) = fe at *
  have hfe : (fe == 0) = false := by simpa using hk
  unfold ptrTo at *
  go_enter Tryz.func68, Tryz.ntmps68
  go_wp2_with (go_at_call 87; (with_reducible refine HF.out.mono ?_); rintro e w' ⟨rfl, rfl⟩)
  go_ret2
  exact ⟨rfl, rfl⟩
/-- reading from a file: whatever the table answers -/
theorem nread_file (i at_ n : Int) (w : World) (h : FsIs s lay w) (hk : fileE (s.fld Nd.kind i) = 0) {t : ByteArray} {c : Int} {R : World → Prop} (hR : Calls Tryz.prog 114 #[ptrTo (lay .T), .int .i64 i, .int .i64 at_, .int .i64 n] w fun e w' => e = .returned (.tuple #[.string t, .int .i64 c]) ∧ R w') :
    Calls Tryz.prog 68 #[ptrTo (lay .F), .int .i64 i, .int .i64 at_, .int .i64 n] w fun e w' => e = .returned (.tuple #[.string t, .int .i64 c]) ∧ R w' := by
  have HF := Lib.hid (nfile_any i w h)
  rw [hk] at HF
  have HW := Lib.hid hR
  have f0 := h.f0
  clear h hR
  unfold ptrTo at *
  go_enter Tryz.func68, Tryz.ntmps68
  go_wp2_with first
    | (go_at_call 87; (with_reducible refine HF.out.mono ?_); rintro e w' ⟨rfl, rfl⟩)
    | (go_at_call 114; (with_reducible refine HW.out.mono ?_); rintro e w' ⟨rfl, h2⟩)
  go_ret2
  exact ⟨rfl, h2⟩
end
end Go.Proofs.YtggdedihfhibfaaGreatDoor
