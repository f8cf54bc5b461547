/- NmX -/
import Derived.Test.YtbecmcjibpamoaaGreatDoorQ23
import Derived.Laws.ResultCell
import Derived.Laws.Rows
set_option linter.unusedVariables false
set_option linter.unusedSimpArgs false
set_option linter.deprecated false
set_option linter.unnecessarySimpa false
namespace Go.Proofs.YtbecmcjibpamoaaGreatDoor
open Go.RowKit IntWalk
section
variable {W0 : World} {s : Fs} {lay : FId → Nat}
theorem place_ret (w : World) (g : Nat) (a b c e : Value) (hg : w.heap[g]? = some (.cells #[a, b, c] 80 (0, 0))) {fn : Func} {p u : Tmp} (h : fn.results = #[.cell p 80, .tmp u]) (tmps : Array Value) (hp : tmps.getD p undef = .pointer (some ⟨g, 0, none⟩)) (hu : tmps.getD u undef = e) :
    (results fn tmps).run Tryz.prog w = .ok (.tuple #[.agg #[a, b, c], e]) w := by
  have hl : (loadVar 80 ⟨g, 0, none⟩).run Tryz.prog w = .ok (.agg #[a, b, c]) w := run_loadVar_row w g _ _ #[a, b, c] _ _ hg Tryz.underlying80 rfl (by kernel_rfl)
  rw [results_cell_tmp h, hp, hu]
  simp [asAddr, Result.andThen, hl]
theorem alloc_at (w : World) (o : Obj) : (w.alloc o).heap[w.heap.size]? = some o := by show (w.heap.push o)[w.heap.size]? = some o; simp
theorem Step.outC {s s' : Fs} {lay lay' : FId → Nat} {w w' : World} (h : Step s lay w s' lay' w') (a : Addr) (v : Value) (h1 : w.heap.size ≤ a.block) (h2 : ¬ Owns (s'.obj lay') lay' a.block) : Step s lay w s' lay' (w'.setCell a v) :=
  ⟨is_setL h.is a v h2, h.turned.set a v (fun q => by omega), h.own⟩
theorem set_rowN {w : World} {b k : Nat} {cs : Array Value} {ty : TypeId} {fz : Nat × Nat} {v : Value} (h : w.heap[b]? = some (.cells cs ty fz)) : (w.setCell ⟨b, k, none⟩ v).heap[b]? = some (.cells (cs.setIfInBounds k v) ty fz) := by
  simp [World.setCell, Array.getElem?_modify, h]
theorem three_set {w : World} {b : Nat} {v0 v1 v2 : Value} {ty : TypeId} (h : w.heap[b]? = some (.cells #[v0, v1, v2] ty (0, 0))) (u0 u1 u2 : Value) :
    (((w.setCell ⟨b, 0, none⟩ u0).setCell ⟨b, 1, none⟩ u1).setCell ⟨b, 2, none⟩ u2).heap[b]? = some (.cells #[u0, u1, u2] ty (0, 0)) := by
  have h0 := set_rowN (k := 0) (v := u0) h
  simp only [List.setIfInBounds_toArray, List.set_cons_zero, List.set_cons_succ] at h0
  have h1 := set_rowN (k := 1) (v := u1) h0
  simp only [List.setIfInBounds_toArray, List.set_cons_zero, List.set_cons_succ] at h1
  have h2 := set_rowN (k := 2) (v := u2) h1
  simp only [List.setIfInBounds_toArray, List.set_cons_zero, List.set_cons_succ] at h2
  exact h2
def trimS (path : List UInt8) : List UInt8 := Lib.trimRightB path 47
def atS (path : List UInt8) : Nat := (Lib.lastIndexByte ⟨(trimS path).toArray⟩ 47 + 1).toNat
def lastS (path : List UInt8) : List UInt8 := (trimS path).drop (atS path)
def upS (path : List UInt8) : List UInt8 := (trimS path).take (atS path)
def Fs.placeS (s : Fs) (dir : Int) (path : List UInt8) : Int × List UInt8 × Int := match s.dirOf dir with
  | none => (0, [], 25)
  | some _ =>
    if path = [] then (0, [], 23)
    else if lastS path = [] ∨ lastS path = dotL ∨ lastS path = dotsL then (0, [], 1)
    else if 256 < path.length ∨ 32 < (lastS path).length then (0, [], 3)
    else
      let r := if atS path = 0 then (dir, 0) else s.walkS dir (upS path) true
      if r.2 ≠ 0 then (0, [], r.2)
      else match s.dirOf r.1 with
        | none => (0, [], 25)
        | some _ => (r.1, lastS path, 0)
def placeV (lay : FId → Nat) (p : Int × List UInt8 × Int) : Value := if p.2.2 = 0 then .agg #[.int .i64 p.1, ptrTo (lay (.E p.1)), .string ⟨p.2.1.toArray⟩] else .agg #[.int .i64 0, .pointer none, .string ByteArray.empty]
theorem atS_eq (path : List UInt8) : Lib.lastIndexByte ⟨(trimS path).toArray⟩ 47 + 1 = (atS path : Int) ∧ atS path ≤ (trimS path).length ∧ Lib.lastIndexByte ⟨(trimS path).toArray⟩ 47 = (atS path : Int) - 1 := by
  unfold atS
  have hsz : (ByteArray.mk (trimS path).toArray).size = (trimS path).length := by simp [ByteArray.size]
  rcases Lib.lastIndexByte_spec ⟨(trimS path).toArray⟩ 47 with ⟨h, _⟩ | ⟨i, h1, h2, _⟩
  · rw [h]; simp
  · rw [h2]; rw [hsz] at h1; omega
theorem trimS_len (path : List UInt8) : (trimS path).length ≤ path.length := by
  unfold trimS Lib.trimRightB
  rw [List.length_reverse]
  have := (List.dropWhile_sublist (· == (47 : UInt8)) (l := path.reverse)).length_le
  simpa using this
theorem trim_any (path : List UInt8) (hp : path.length ≤ 100000) (w : World) : Calls Tryz.prog 107 #[.string ⟨path.toArray⟩, .string ⟨#[47]⟩] w fun e w' => e = .returned (.string ⟨(trimS path).toArray⟩) ∧ w' = w :=
  Tryz.strings_TrimRight_one ⟨path.toArray⟩ 47 (by decide) w (by show path.length ≤ _; omega)
theorem last_any (path : List UInt8) (hp : path.length ≤ 100000) (w : World) : Calls Tryz.prog 108 #[.string ⟨(trimS path).toArray⟩, .int .u8 47] w fun e w' => e = .returned (.int .i64 ((atS path : Int) - 1)) ∧ w' = w := by
  have := Tryz.strings_LastIndexByte ⟨(trimS path).toArray⟩ 47 (by have := trimS_len path; show (trimS path).length < _; omega) w
  rw [(atS_eq path).2.2] at this
  exact this
set_option maxRecDepth 100000 in
set_option maxHeartbeats 1000000 in
theorem place_any (hE : EnvG W0) (dir : Int) (path : List UInt8) (hpl : path.length ≤ 100000) (w : World) (h : FsIn W0 s lay w) :
    Calls Tryz.prog 65 #[ptrTo (lay .F), .int .i64 dir, .string ⟨path.toArray⟩] w fun e w' => e = .returned (.tuple #[placeV lay (s.placeS dir path), .int .i64 (s.placeS dir path).2.2]) ∧ Step s lay w s lay w' := by
  have HD := Lib.hid (fun (W : World) (hW : FsIs s lay W) => dir_any dir W hW)
  have HT := Lib.hid (fun W => trim_any path hpl W)
  have HL := Lib.hid (fun W => last_any path hpl W)
  have hat := (atS_eq path).2.1
  have HI := Lib.hid h
  generalize hr : s.placeS dir path = r
  unfold Fs.placeS at hr
  cases hd : s.dirOf dir with
  | none =>
    rw [hd] at hr
    subst hr
    have hp := dirPtr_none (lay := lay) hd
    have hf := HI.out.is
    unfold ptrTo at *
    go_enter Tryz.func65, Tryz.ntmps65
    go_wp2_with (go_at_call 26; (with_reducible refine (HD.out _ (HI.out.is.alloc _)).mono ?_); rintro e w' ⟨rfl, rfl⟩; rw [hp])
    (try simp only [Exit.inBlock, Exit.then]); refine bodyPost_ret (place_ret _ _ _ _ _ _ (alloc_at _ _) rfl _ rfl rfl) rfl ?_
    exact ⟨rfl, (Step.refl hf).alloc _⟩
  | some d =>
    rw [hd] at hr
    dsimp only at hr
    have hp := dirPtr_some (lay := lay) hd
    by_cases h0 : path = []
    · rw [if_pos h0] at hr
      subst hr
      subst h0
      unfold ptrTo at *
      go_enter Tryz.func65, Tryz.ntmps65
      go_wp2_with (go_at_call 26; (with_reducible refine (HD.out _ (HI.out.is.alloc _)).mono ?_); rintro e w' ⟨rfl, rfl⟩; rw [hp])
      (try simp only [Exit.inBlock, Exit.then]); refine bodyPost_ret (place_ret _ _ _ _ _ _ (alloc_at _ _) rfl _ rfl rfl) rfl ?_
      exact ⟨rfl, (Step.refl HI.out.is).alloc _⟩
    · rw [if_neg h0] at hr
      have b0 : path.isEmpty = false := by cases path with | nil => exact absurd rfl h0 | cons _ _ => rfl
      have hat2 : ((atS path : Int) - 1 + 1) = atS path := by omega
      have hat3 : (atS path : Int) ≤ (trimS path).length := by omega
      have htl := trimS_len path
      have HLT : (trimS path).drop (atS path) = lastS path := rfl
      have HUT : (trimS path).take (atS path) = upS path := rfl
      have hll : (lastS path).length ≤ 100000 := by rw [← HLT, List.length_drop]; omega
      have hW2 := HI.out.step ((Step.refl HI.out.is).alloc (Obj.cells #[Value.int IntKind.i64 0, Value.pointer none, Value.string { data := #[] }] 80)) HI.out.whole
      have HW := Lib.hid (walk_any hE dir (upS path) true _ hW2)
      clear hW2
      generalize lastS path = la at *
      generalize upS path = up at *
      generalize trimS path = tr at *
      generalize atS path = at_ at *
      by_cases hl : la = [] ∨ la = dotL ∨ la = dotsL
      · rw [if_pos hl] at hr
        subst hr
        unfold ptrTo at *
        rcases hl with rfl | hl | hl
        ·
          go_enter Tryz.func65, Tryz.ntmps65
          go_wp2_with first
            | (go_at_call 26; (with_reducible refine (HD.out _ (HI.out.is.alloc _)).mono ?_); rintro e w' ⟨rfl, rfl⟩; rw [hp])
            | (go_at_call 107; (with_reducible refine (HT.out _).mono ?_); rintro e w' ⟨rfl, rfl⟩)
            | (go_at_call 108; (with_reducible refine (HL.out _).mono ?_); rintro e w' ⟨rfl, rfl⟩)
          (try simp only [Exit.inBlock, Exit.then]); refine bodyPost_ret (place_ret _ _ _ _ _ _ (alloc_at _ _) rfl _ rfl rfl) rfl ?_
          exact ⟨rfl, (Step.refl HI.out.is).alloc _⟩
        · obtain rfl : la = [46] := hl
          go_enter Tryz.func65, Tryz.ntmps65
          go_wp2_with first
            | (go_at_call 26; (with_reducible refine (HD.out _ (HI.out.is.alloc _)).mono ?_); rintro e w' ⟨rfl, rfl⟩; rw [hp])
            | (go_at_call 107; (with_reducible refine (HT.out _).mono ?_); rintro e w' ⟨rfl, rfl⟩)
            | (go_at_call 108; (with_reducible refine (HL.out _).mono ?_); rintro e w' ⟨rfl, rfl⟩)
          (try simp only [Exit.inBlock, Exit.then]); refine bodyPost_ret (place_ret _ _ _ _ _ _ (alloc_at _ _) rfl _ rfl rfl) rfl ?_
          exact ⟨rfl, (Step.refl HI.out.is).alloc _⟩
        · obtain rfl : la = [46, 46] := hl
          go_enter Tryz.func65, Tryz.ntmps65
          go_wp2_with first
            | (go_at_call 26; (with_reducible refine (HD.out _ (HI.out.is.alloc _)).mono ?_); rintro e w' ⟨rfl, rfl⟩; rw [hp])
            | (go_at_call 107; (with_reducible refine (HT.out _).mono ?_); rintro e w' ⟨rfl, rfl⟩)
            | (go_at_call 108; (with_reducible refine (HL.out _).mono ?_); rintro e w' ⟨rfl, rfl⟩)
          (try simp only [Exit.inBlock, Exit.then]); refine bodyPost_ret (place_ret _ _ _ _ _ _ (alloc_at _ _) rfl _ rfl rfl) rfl ?_
          exact ⟨rfl, (Step.refl HI.out.is).alloc _⟩
      · rw [if_neg hl] at hr
        have c0 : la.isEmpty = false := by cases la with | nil => exact absurd (.inl rfl) hl | cons _ _ => rfl
        have c1 : (la == [46]) = false := by rw [beq_eq_false_iff_ne]; exact fun q => hl (.inr (.inl q))
        have c2 : (la == [46, 46]) = false := by rw [beq_eq_false_iff_ne]; exact fun q => hl (.inr (.inr q))
        clear hl
        by_cases hb : 256 < path.length ∨ 32 < la.length
        · rw [if_pos hb] at hr
          subst hr
          unfold ptrTo at *
          by_cases hb1 : 256 < path.length
          · have hb1' : (256 : Int) < path.length := by omega
            clear hb
            go_enter Tryz.func65, Tryz.ntmps65
            go_wp2_with first
              | (go_at_call 26; (with_reducible refine (HD.out _ (HI.out.is.alloc _)).mono ?_); rintro e w' ⟨rfl, rfl⟩; rw [hp])
              | (go_at_call 107; (with_reducible refine (HT.out _).mono ?_); rintro e w' ⟨rfl, rfl⟩)
              | (go_at_call 108; (with_reducible refine (HL.out _).mono ?_); rintro e w' ⟨rfl, rfl⟩)
            (try simp only [Exit.inBlock, Exit.then]); refine bodyPost_ret (place_ret _ _ _ _ _ _ (alloc_at _ _) rfl _ rfl rfl) rfl ?_
            exact ⟨rfl, (Step.refl HI.out.is).alloc _⟩
          · have hb1' : ¬ (256 : Int) < path.length := by omega
            have hb2' : (32 : Int) < la.length := by omega
            clear hb
            go_enter Tryz.func65, Tryz.ntmps65
            go_wp2_with first
              | (go_at_call 26; (with_reducible refine (HD.out _ (HI.out.is.alloc _)).mono ?_); rintro e w' ⟨rfl, rfl⟩; rw [hp])
              | (go_at_call 107; (with_reducible refine (HT.out _).mono ?_); rintro e w' ⟨rfl, rfl⟩)
              | (go_at_call 108; (with_reducible refine (HL.out _).mono ?_); rintro e w' ⟨rfl, rfl⟩)
            (try simp only [Exit.inBlock, Exit.then]); refine bodyPost_ret (place_ret _ _ _ _ _ _ (alloc_at _ _) rfl _ rfl rfl) rfl ?_
            exact ⟨rfl, (Step.refl HI.out.is).alloc _⟩
        · rw [if_neg hb] at hr
          have hb1' : ¬ (256 : Int) < path.length := by omega
          have hb2' : ¬ (32 : Int) < la.length := by omega
          clear hb
          by_cases ha : at_ = 0
          · subst ha
            rw [if_pos rfl] at hr
            dsimp only at hr
            rw [if_neg (by simp), hd] at hr
            dsimp only at hr
            subst hr
            unfold ptrTo at *
            go_enter Tryz.func65, Tryz.ntmps65
            go_wp2_with first
            | (go_at_call 26; (with_reducible refine (HD.out _ (HI.out.is.alloc _)).mono ?_); rintro e w' ⟨rfl, rfl⟩; rw [hp])
            | (go_at_call 107; (with_reducible refine (HT.out _).mono ?_); rintro e w' ⟨rfl, rfl⟩)
            | (go_at_call 108; (with_reducible refine (HL.out _).mono ?_); rintro e w' ⟨rfl, rfl⟩)
            (try simp only [Exit.inBlock, Exit.then]); refine bodyPost_ret (place_ret _ _ _ _ _ _ (alloc_at _ _) rfl _ rfl rfl) rfl ?_
            exact ⟨rfl, (Step.refl HI.out.is).alloc _⟩
          · rw [if_neg ha] at hr
            have ha' : (0 : Int) < at_ := by omega
            have hout : ¬ Owns (s.obj lay) lay w.heap.size := fun q => by have := HI.out.is.lies.owns_lt q; omega
            generalize s.walkS dir up true = wr at *
            obtain ⟨n2, e2⟩ := wr
            dsimp only at hr
            have HD2 := Lib.hid (fun (W : World) (hW : FsIs s lay W) => dir_any n2 W hW)
            by_cases he : e2 = 0
            · subst he
              rw [if_neg (by simp)] at hr
              cases hd2 : s.dirOf n2 with
              | none =>
                have hp2 := dirPtr_none (lay := lay) hd2
                rw [hd2] at hr
                dsimp only at hr
                subst hr
                unfold ptrTo at *
                go_enter Tryz.func65, Tryz.ntmps65
                go_wp2_with first
                  | (go_at_call 26; (with_reducible refine (HD.out _ (HI.out.is.alloc _)).mono ?_); rintro e w' ⟨rfl, rfl⟩; rw [hp])
                  | (go_at_call 107; (with_reducible refine (HT.out _).mono ?_); rintro e w' ⟨rfl, rfl⟩)
                  | (go_at_call 108; (with_reducible refine (HL.out _).mono ?_); rintro e w' ⟨rfl, rfl⟩)
                  | (go_at_call 10; (with_reducible refine HW.out.mono ?_); rintro e w2 ⟨rfl, hst⟩; have hblk := (hst.turned.block _ (by simp) hout).trans (alloc_at _ _); have k0 : w2.cell? ⟨w.heap.size, 0, none⟩ = some (.int .i64 0) := cell_of_row w2 _ 0 _ _ _ hblk; have k1 : w2.cell? ⟨w.heap.size, 1, none⟩ = some (.pointer none) := cell_of_row w2 _ 1 _ _ _ hblk; have k2 : w2.cell? ⟨w.heap.size, 2, none⟩ = some (.string ByteArray.empty) := cell_of_row w2 _ 2 _ _ _ hblk; have z0 : ∀ j, w2.frozen? ⟨w.heap.size, j, none⟩ = false := (fun j => by simp [World.frozen?, hblk]); have hst2 := ((Step.refl HI.out.is).alloc (Obj.cells #[Value.int IntKind.i64 0, Value.pointer none, Value.string { data := #[] }] 80)).trans hst)
                  | (go_at_call 26; (with_reducible refine (HD2.out _ hst.is).mono ?_); rintro e w' ⟨rfl, rfl⟩; rw [hp2])
                (try simp only [Exit.inBlock, Exit.then]); refine bodyPost_ret (place_ret _ _ _ _ _ _ (three_set hblk _ _ _) rfl _ rfl rfl) rfl ?_
                exact ⟨rfl, ((hst2.outC _ _ (Nat.le_refl _) hout).outC _ _ (Nat.le_refl _) hout).outC _ _ (Nat.le_refl _) hout⟩
              | some d2 =>
                have hp2 := dirPtr_some (lay := lay) hd2
                rw [hd2] at hr
                dsimp only at hr
                subst hr
                unfold ptrTo at *
                go_enter Tryz.func65, Tryz.ntmps65
                go_wp2_with first
                  | (go_at_call 26; (with_reducible refine (HD.out _ (HI.out.is.alloc _)).mono ?_); rintro e w' ⟨rfl, rfl⟩; rw [hp])
                  | (go_at_call 107; (with_reducible refine (HT.out _).mono ?_); rintro e w' ⟨rfl, rfl⟩)
                  | (go_at_call 108; (with_reducible refine (HL.out _).mono ?_); rintro e w' ⟨rfl, rfl⟩)
                  | (go_at_call 10; (with_reducible refine HW.out.mono ?_); rintro e w2 ⟨rfl, hst⟩; have hblk := (hst.turned.block _ (by simp) hout).trans (alloc_at _ _); have k0 : w2.cell? ⟨w.heap.size, 0, none⟩ = some (.int .i64 0) := cell_of_row w2 _ 0 _ _ _ hblk; have k1 : w2.cell? ⟨w.heap.size, 1, none⟩ = some (.pointer none) := cell_of_row w2 _ 1 _ _ _ hblk; have k2 : w2.cell? ⟨w.heap.size, 2, none⟩ = some (.string ByteArray.empty) := cell_of_row w2 _ 2 _ _ _ hblk; have z0 : ∀ j, w2.frozen? ⟨w.heap.size, j, none⟩ = false := (fun j => by simp [World.frozen?, hblk]); have hst2 := ((Step.refl HI.out.is).alloc (Obj.cells #[Value.int IntKind.i64 0, Value.pointer none, Value.string { data := #[] }] 80)).trans hst)
                  | (go_at_call 26; (with_reducible refine (HD2.out _ hst.is).mono ?_); rintro e w' ⟨rfl, rfl⟩; rw [hp2])
                (try simp only [Exit.inBlock, Exit.then]); refine bodyPost_ret (place_ret _ _ _ _ _ _ (three_set hblk _ _ _) rfl _ rfl rfl) rfl ?_
                exact ⟨rfl, ((hst2.outC _ _ (Nat.le_refl _) hout).outC _ _ (Nat.le_refl _) hout).outC _ _ (Nat.le_refl _) hout⟩
            · rw [if_pos (by simpa using he)] at hr
              subst hr
              unfold ptrTo at *
              go_enter Tryz.func65, Tryz.ntmps65
              go_wp2_with first
                | (go_at_call 26; (with_reducible refine (HD.out _ (HI.out.is.alloc _)).mono ?_); rintro e w' ⟨rfl, rfl⟩; rw [hp])
                | (go_at_call 107; (with_reducible refine (HT.out _).mono ?_); rintro e w' ⟨rfl, rfl⟩)
                | (go_at_call 108; (with_reducible refine (HL.out _).mono ?_); rintro e w' ⟨rfl, rfl⟩)
                | (go_at_call 10; (with_reducible refine HW.out.mono ?_); rintro e w2 ⟨rfl, hst⟩; have hblk := (hst.turned.block _ (by simp) hout).trans (alloc_at _ _); have k0 : w2.cell? ⟨w.heap.size, 0, none⟩ = some (.int .i64 0) := cell_of_row w2 _ 0 _ _ _ hblk; have k1 : w2.cell? ⟨w.heap.size, 1, none⟩ = some (.pointer none) := cell_of_row w2 _ 1 _ _ _ hblk; have k2 : w2.cell? ⟨w.heap.size, 2, none⟩ = some (.string ByteArray.empty) := cell_of_row w2 _ 2 _ _ _ hblk; have z0 : ∀ j, w2.frozen? ⟨w.heap.size, j, none⟩ = false := (fun j => by simp [World.frozen?, hblk]); have hst2 := ((Step.refl HI.out.is).alloc (Obj.cells #[Value.int IntKind.i64 0, Value.pointer none, Value.string { data := #[] }] 80)).trans hst)
              (try simp only [Exit.inBlock, Exit.then]); refine bodyPost_ret (place_ret _ _ _ _ _ _ (three_set hblk _ _ _) rfl _ rfl rfl) rfl ?_
              refine ⟨?_, ((hst2.outC _ _ (Nat.le_refl _) hout).outC _ _ (Nat.le_refl _) hout).outC _ _ (Nat.le_refl _) hout⟩
              unfold placeV; rw [if_neg he]; rfl
end
end Go.Proofs.YtbecmcjibpamoaaGreatDoor
