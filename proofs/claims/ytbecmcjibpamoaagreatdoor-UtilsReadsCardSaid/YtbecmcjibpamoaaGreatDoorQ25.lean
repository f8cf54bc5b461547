/- NmY -/
import Derived.Test.YtbecmcjibpamoaaGreatDoorQ24
set_option linter.unusedVariables false
set_option linter.unusedSimpArgs false
set_option linter.deprecated false
set_option linter.unnecessarySimpa false
namespace Go.Proofs.YtbecmcjibpamoaaGreatDoor
open Go.RowKit IntWalk
section
variable {W0 : World} {s : Fs} {lay : FId → Nat}
def Fs.freeS (s : Fs) (dir : Int) (path : List UInt8) : Int :=
  let r := s.placeS dir path
  if r.2.2 ≠ 0 then r.2.2
  else match s.dr r.1 with
    | none => 0
    | some d => if (d.name r.2.1).isSome then 22 else if s.fld Nd.names r.1 = 0 then 23 else 0
theorem placeS_dir {dir : Int} {path : List UInt8} (h : (s.placeS dir path).2.2 = 0) : ∃ d, s.dirOf (s.placeS dir path).1 = some d ∧ (s.placeS dir path).2.1.length ≤ 32 ∧ (s.placeS dir path).2.1 ≠ [] := by
  generalize hr : s.placeS dir path = r at *
  unfold Fs.placeS at hr
  cases hd : s.dirOf dir with
  | none => rw [hd] at hr; subst hr; simp at h
  | some d =>
    rw [hd] at hr
    dsimp only at hr
    split at hr
    · subst hr; simp at h
    · split at hr
      · subst hr; simp at h
      · split at hr
        · subst hr; simp at h
        · rename_i h1 h2 h3
          generalize (if atS path = 0 then (dir, 0) else s.walkS dir (upS path) true) = q at hr
          split at hr
          · subst hr; rename_i h4; exact absurd h h4
          · cases hd2 : s.dirOf q.1 with
            | none => rw [hd2] at hr; subst hr; simp at h
            | some d2 =>
              rw [hd2] at hr
              dsimp only at hr
              subst hr
              exact ⟨d2, hd2, by dsimp only; omega, fun q => h2 (.inl q)⟩
set_option maxRecDepth 100000 in
set_option maxHeartbeats 1000000 in
theorem free_any (hE : EnvG W0) (dir : Int) (path : List UInt8) (hpl : path.length ≤ 100000) (w : World) (h : FsIn W0 s lay w) :
    Calls Tryz.prog 34 #[ptrTo (lay .F), .int .i64 dir, .string ⟨path.toArray⟩] w fun e w' => e = .returned (.tuple #[placeV lay (s.placeS dir path), .int .i64 (s.freeS dir path)]) ∧ Step s lay w s lay w' := by
  have hst1 : Step s lay w s lay (w.alloc (Obj.cells #[Value.int IntKind.i64 0, Value.pointer none, Value.string { data := #[] }] 80)) := (Step.refl h.is).alloc _
  have HP := Lib.hid (place_any hE dir path hpl _ (h.step hst1 h.whole))
  have HST1 := Lib.hid hst1
  clear hst1
  have hpd := placeS_dir (s := s) (dir := dir) (path := path)
  have HI := Lib.hid h
  unfold Fs.freeS
  generalize s.placeS dir path = r at *
  obtain ⟨n, nm, e⟩ := r
  dsimp only at *
  have hout : ¬ Owns (s.obj lay) lay w.heap.size := fun q => by have := HI.out.is.lies.owns_lt q; omega
  by_cases he : e = 0
  · subst he
    obtain ⟨d, hd, hl32, hne⟩ := hpd rfl
    have hdr := dirOf_dr hd
    rw [if_neg (by simp), hdr]
    dsimp only
    have HLI := Lib.hid (fun (W : World) (hW : FsIs s lay W) => links_any n W hW)
    have HLK := Lib.hid (fun (W : World) (hW : FsIs s lay W) => name_look hW hdr nm)
    have hpv : placeV lay (n, nm, 0) = .agg #[.int .i64 n, ptrTo (lay (.E n)), .string ⟨nm.toArray⟩] := rfl
    rw [hpv] at HP ⊢
    clear hpd h hpv hd
    generalize (d.name nm).isSome = gb at *
    generalize (d.name nm).getD 0 = gn at *
    generalize s.fld Nd.names n = ln at *
    unfold ptrTo at *
    by_cases hgb : gb = true
    · subst hgb
      rw [if_pos rfl]
      go_enter Tryz.func34, Tryz.ntmps34
      go_wp2_with first
        | (go_at_call 65; (with_reducible refine HP.out.mono ?_); rintro e w2 ⟨rfl, hst⟩; have hblk := (hst.turned.block _ (by simp) hout).trans (alloc_at _ _); have hst2 := HST1.out.trans hst)
      have hlt2 : w.heap.size < w2.heap.size := (Array.getElem?_eq_some_iff.1 hblk).1
      have hst3 := hst2.alloc (Obj.cells #[Value.int IntKind.i64 n, Value.pointer (some ⟨lay (FId.E n), 0, none⟩), Value.string { data := nm.toArray }] 80)
      have hpb := alloc_at w2 (Obj.cells #[Value.int IntKind.i64 n, Value.pointer (some ⟨lay (FId.E n), 0, none⟩), Value.string { data := nm.toArray }] 80)
      have hrb := (Below.heap_alloc w2 (Obj.cells #[Value.int IntKind.i64 n, Value.pointer (some ⟨lay (FId.E n), 0, none⟩), Value.string { data := nm.toArray }] 80) w.heap.size hlt2).trans hblk
      clear hst hst2 hblk
      generalize w2.alloc _ = w3 at *
      generalize w2.heap.size = pb at *
      have p0 : w3.cell? ⟨pb, 0, none⟩ = some (.int .i64 n) := cell_of_row w3 _ 0 _ _ _ hpb
      have p1 : w3.cell? ⟨pb, 1, none⟩ = some (.pointer (some ⟨lay (.E n), 0, none⟩)) := cell_of_row w3 _ 1 _ _ _ hpb
      have p2 : w3.cell? ⟨pb, 2, none⟩ = some (.string ⟨nm.toArray⟩) := cell_of_row w3 _ 2 _ _ _ hpb
      have r0 : w3.cell? ⟨w.heap.size, 0, none⟩ = some (.int .i64 0) := cell_of_row w3 _ 0 _ _ _ hrb
      have r1 : w3.cell? ⟨w.heap.size, 1, none⟩ = some (.pointer none) := cell_of_row w3 _ 1 _ _ _ hrb
      have r2 : w3.cell? ⟨w.heap.size, 2, none⟩ = some (.string ByteArray.empty) := cell_of_row w3 _ 2 _ _ _ hrb
      have z0 : ∀ j, w3.frozen? ⟨w.heap.size, j, none⟩ = false := (fun j => by simp [World.frozen?, hrb])
      have e0 := hst3.is.e0 hdr
      have hlk := fun m : Nat => HLK.out _ (hst3.is.drewN m)
      go_quiet (fail)
      have hst4 := hst3.drewN nq
      have hpb4 : (w3.drewN nq).heap[pb]? = _ := hpb
      have hrb4 : (w3.drewN nq).heap[w.heap.size]? = _ := hrb
      have p0 : (w3.drewN nq).cell? ⟨pb, 0, none⟩ = _ := p0
      have p1 : (w3.drewN nq).cell? ⟨pb, 1, none⟩ = _ := p1
      have p2 : (w3.drewN nq).cell? ⟨pb, 2, none⟩ = _ := p2
      have r0 : (w3.drewN nq).cell? ⟨w.heap.size, 0, none⟩ = _ := r0
      have r1 : (w3.drewN nq).cell? ⟨w.heap.size, 1, none⟩ = _ := r1
      have r2 : (w3.drewN nq).cell? ⟨w.heap.size, 2, none⟩ = _ := r2
      have z0 : ∀ j, (w3.drewN nq).frozen? ⟨w.heap.size, j, none⟩ = false := z0
      clear hst3 hpb hrb e0 hlk
      generalize w3.drewN nq = w4 at *
      have f0 := hst4.is.f0
      unfold ptrTo at f0
      go_wp2_with fail
      (try simp only [Exit.inBlock, Exit.then]); refine bodyPost_ret (place_ret _ _ _ _ _ _ (three_set hrb4 _ _ _) rfl _ rfl rfl) rfl ?_
      exact ⟨rfl, ((hst4.outC _ _ (Nat.le_refl _) hout).outC _ _ (Nat.le_refl _) hout).outC _ _ (Nat.le_refl _) hout⟩
    · obtain rfl : gb = false := by simpa using hgb
      rw [if_neg (by simp)]
      clear hgb
      by_cases hz : ln = 0
      · rw [if_pos hz]
        subst hz
        go_enter Tryz.func34, Tryz.ntmps34
        go_wp2_with first
          | (go_at_call 65; (with_reducible refine HP.out.mono ?_); rintro e w2 ⟨rfl, hst⟩; have hblk := (hst.turned.block _ (by simp) hout).trans (alloc_at _ _); have hst2 := HST1.out.trans hst)
        have hlt2 : w.heap.size < w2.heap.size := (Array.getElem?_eq_some_iff.1 hblk).1
        have hst3 := hst2.alloc (Obj.cells #[Value.int IntKind.i64 n, Value.pointer (some ⟨lay (FId.E n), 0, none⟩), Value.string { data := nm.toArray }] 80)
        have hpb := alloc_at w2 (Obj.cells #[Value.int IntKind.i64 n, Value.pointer (some ⟨lay (FId.E n), 0, none⟩), Value.string { data := nm.toArray }] 80)
        have hrb := (Below.heap_alloc w2 (Obj.cells #[Value.int IntKind.i64 n, Value.pointer (some ⟨lay (FId.E n), 0, none⟩), Value.string { data := nm.toArray }] 80) w.heap.size hlt2).trans hblk
        clear hst hst2 hblk
        generalize w2.alloc _ = w3 at *
        generalize w2.heap.size = pb at *
        have p0 : w3.cell? ⟨pb, 0, none⟩ = some (.int .i64 n) := cell_of_row w3 _ 0 _ _ _ hpb
        have p1 : w3.cell? ⟨pb, 1, none⟩ = some (.pointer (some ⟨lay (.E n), 0, none⟩)) := cell_of_row w3 _ 1 _ _ _ hpb
        have p2 : w3.cell? ⟨pb, 2, none⟩ = some (.string ⟨nm.toArray⟩) := cell_of_row w3 _ 2 _ _ _ hpb
        have r0 : w3.cell? ⟨w.heap.size, 0, none⟩ = some (.int .i64 0) := cell_of_row w3 _ 0 _ _ _ hrb
        have r1 : w3.cell? ⟨w.heap.size, 1, none⟩ = some (.pointer none) := cell_of_row w3 _ 1 _ _ _ hrb
        have r2 : w3.cell? ⟨w.heap.size, 2, none⟩ = some (.string ByteArray.empty) := cell_of_row w3 _ 2 _ _ _ hrb
        have z0 : ∀ j, w3.frozen? ⟨w.heap.size, j, none⟩ = false := (fun j => by simp [World.frozen?, hrb])
        have e0 := hst3.is.e0 hdr
        have hlk := fun m : Nat => HLK.out _ (hst3.is.drewN m)
        go_quiet (fail)
        have hst4 := hst3.drewN nq
        have hpb4 : (w3.drewN nq).heap[pb]? = _ := hpb
        have hrb4 : (w3.drewN nq).heap[w.heap.size]? = _ := hrb
        have p0 : (w3.drewN nq).cell? ⟨pb, 0, none⟩ = _ := p0
        have p1 : (w3.drewN nq).cell? ⟨pb, 1, none⟩ = _ := p1
        have p2 : (w3.drewN nq).cell? ⟨pb, 2, none⟩ = _ := p2
        have r0 : (w3.drewN nq).cell? ⟨w.heap.size, 0, none⟩ = _ := r0
        have r1 : (w3.drewN nq).cell? ⟨w.heap.size, 1, none⟩ = _ := r1
        have r2 : (w3.drewN nq).cell? ⟨w.heap.size, 2, none⟩ = _ := r2
        have z0 : ∀ j, (w3.drewN nq).frozen? ⟨w.heap.size, j, none⟩ = false := z0
        clear hst3 hpb hrb e0 hlk
        generalize w3.drewN nq = w4 at *
        have f0 := hst4.is.f0
        unfold ptrTo at f0
        go_wp2_with fail
        go_quiet ((go_at_call 66; exact Calls.quiet_of_same ((HLI.out _ (hst4.is.drewN _)).mono fun _ _ h => ⟨h.1, h.2.symm⟩)))
        have hst5 := hst4.drewN nq
        have hpb5 : (w4.drewN nq).heap[pb]? = _ := hpb4
        have hrb5 : (w4.drewN nq).heap[w.heap.size]? = _ := hrb4
        have p0 : (w4.drewN nq).cell? ⟨pb, 0, none⟩ = _ := p0
        have p1 : (w4.drewN nq).cell? ⟨pb, 1, none⟩ = _ := p1
        have p2 : (w4.drewN nq).cell? ⟨pb, 2, none⟩ = _ := p2
        have r0 : (w4.drewN nq).cell? ⟨w.heap.size, 0, none⟩ = _ := r0
        have r1 : (w4.drewN nq).cell? ⟨w.heap.size, 1, none⟩ = _ := r1
        have r2 : (w4.drewN nq).cell? ⟨w.heap.size, 2, none⟩ = _ := r2
        have z0 : ∀ j, (w4.drewN nq).frozen? ⟨w.heap.size, j, none⟩ = false := z0
        clear hst4 hpb4 hrb4 f0
        generalize w4.drewN nq = w5 at *
        go_wp2_with fail
        (try simp only [Exit.inBlock, Exit.then]); refine bodyPost_ret (place_ret _ _ _ _ _ _ (three_set hrb5 _ _ _) rfl _ rfl rfl) rfl ?_
        exact ⟨rfl, ((hst5.outC _ _ (Nat.le_refl _) hout).outC _ _ (Nat.le_refl _) hout).outC _ _ (Nat.le_refl _) hout⟩
      · rw [if_neg hz]
        have hzb : (ln == 0) = false := by simpa using hz
        clear hz
        go_enter Tryz.func34, Tryz.ntmps34
        go_wp2_with first
          | (go_at_call 65; (with_reducible refine HP.out.mono ?_); rintro e w2 ⟨rfl, hst⟩; have hblk := (hst.turned.block _ (by simp) hout).trans (alloc_at _ _); have hst2 := HST1.out.trans hst)
        have hlt2 : w.heap.size < w2.heap.size := (Array.getElem?_eq_some_iff.1 hblk).1
        have hst3 := hst2.alloc (Obj.cells #[Value.int IntKind.i64 n, Value.pointer (some ⟨lay (FId.E n), 0, none⟩), Value.string { data := nm.toArray }] 80)
        have hpb := alloc_at w2 (Obj.cells #[Value.int IntKind.i64 n, Value.pointer (some ⟨lay (FId.E n), 0, none⟩), Value.string { data := nm.toArray }] 80)
        have hrb := (Below.heap_alloc w2 (Obj.cells #[Value.int IntKind.i64 n, Value.pointer (some ⟨lay (FId.E n), 0, none⟩), Value.string { data := nm.toArray }] 80) w.heap.size hlt2).trans hblk
        clear hst hst2 hblk
        generalize w2.alloc _ = w3 at *
        generalize w2.heap.size = pb at *
        have p0 : w3.cell? ⟨pb, 0, none⟩ = some (.int .i64 n) := cell_of_row w3 _ 0 _ _ _ hpb
        have p1 : w3.cell? ⟨pb, 1, none⟩ = some (.pointer (some ⟨lay (.E n), 0, none⟩)) := cell_of_row w3 _ 1 _ _ _ hpb
        have p2 : w3.cell? ⟨pb, 2, none⟩ = some (.string ⟨nm.toArray⟩) := cell_of_row w3 _ 2 _ _ _ hpb
        have r0 : w3.cell? ⟨w.heap.size, 0, none⟩ = some (.int .i64 0) := cell_of_row w3 _ 0 _ _ _ hrb
        have r1 : w3.cell? ⟨w.heap.size, 1, none⟩ = some (.pointer none) := cell_of_row w3 _ 1 _ _ _ hrb
        have r2 : w3.cell? ⟨w.heap.size, 2, none⟩ = some (.string ByteArray.empty) := cell_of_row w3 _ 2 _ _ _ hrb
        have z0 : ∀ j, w3.frozen? ⟨w.heap.size, j, none⟩ = false := (fun j => by simp [World.frozen?, hrb])
        have e0 := hst3.is.e0 hdr
        have hlk := fun m : Nat => HLK.out _ (hst3.is.drewN m)
        go_quiet (fail)
        have hst4 := hst3.drewN nq
        have hpb4 : (w3.drewN nq).heap[pb]? = _ := hpb
        have hrb4 : (w3.drewN nq).heap[w.heap.size]? = _ := hrb
        have p0 : (w3.drewN nq).cell? ⟨pb, 0, none⟩ = _ := p0
        have p1 : (w3.drewN nq).cell? ⟨pb, 1, none⟩ = _ := p1
        have p2 : (w3.drewN nq).cell? ⟨pb, 2, none⟩ = _ := p2
        have r0 : (w3.drewN nq).cell? ⟨w.heap.size, 0, none⟩ = _ := r0
        have r1 : (w3.drewN nq).cell? ⟨w.heap.size, 1, none⟩ = _ := r1
        have r2 : (w3.drewN nq).cell? ⟨w.heap.size, 2, none⟩ = _ := r2
        have z0 : ∀ j, (w3.drewN nq).frozen? ⟨w.heap.size, j, none⟩ = false := z0
        clear hst3 hpb hrb e0 hlk
        generalize w3.drewN nq = w4 at *
        have f0 := hst4.is.f0
        unfold ptrTo at f0
        go_wp2_with fail
        go_quiet ((go_at_call 66; exact Calls.quiet_of_same ((HLI.out _ (hst4.is.drewN _)).mono fun _ _ h => ⟨h.1, h.2.symm⟩)))
        have hst5 := hst4.drewN nq
        have hpb5 : (w4.drewN nq).heap[pb]? = _ := hpb4
        have hrb5 : (w4.drewN nq).heap[w.heap.size]? = _ := hrb4
        have p0 : (w4.drewN nq).cell? ⟨pb, 0, none⟩ = _ := p0
        have p1 : (w4.drewN nq).cell? ⟨pb, 1, none⟩ = _ := p1
        have p2 : (w4.drewN nq).cell? ⟨pb, 2, none⟩ = _ := p2
        have r0 : (w4.drewN nq).cell? ⟨w.heap.size, 0, none⟩ = _ := r0
        have r1 : (w4.drewN nq).cell? ⟨w.heap.size, 1, none⟩ = _ := r1
        have r2 : (w4.drewN nq).cell? ⟨w.heap.size, 2, none⟩ = _ := r2
        have z0 : ∀ j, (w4.drewN nq).frozen? ⟨w.heap.size, j, none⟩ = false := z0
        clear hst4 hpb4 hrb4 f0
        generalize w4.drewN nq = w5 at *
        go_wp2_with fail
        (try simp only [Exit.inBlock, Exit.then]); refine bodyPost_ret (place_ret _ _ _ _ _ _ (three_set hrb5 _ _ _) rfl _ rfl rfl) rfl ?_
        exact ⟨rfl, ((hst5.outC _ _ (Nat.le_refl _) hout).outC _ _ (Nat.le_refl _) hout).outC _ _ (Nat.le_refl _) hout⟩
  · rw [if_pos (by simpa using he)]
    have hpv : placeV lay (n, nm, e) = .agg #[.int .i64 0, .pointer none, .string ByteArray.empty] := by unfold placeV; rw [if_neg he]
    rw [hpv] at HP ⊢
    unfold ptrTo at *
    clear h hpd
    go_enter Tryz.func34, Tryz.ntmps34
    go_wp2_with first
      | (go_at_call 65; (with_reducible refine HP.out.mono ?_); rintro e w2 ⟨rfl, hst⟩; have hblk := (hst.turned.block _ (by simp) hout).trans (alloc_at _ _); have k0 := cell_of_row w2 _ 0 _ _ _ hblk; have k1 := cell_of_row w2 _ 1 _ _ _ hblk; have k2 := cell_of_row w2 _ 2 _ _ _ hblk; simp only [List.getElem?_toArray, List.getElem?_cons_zero, List.getElem?_cons_succ] at k0 k1 k2; have z0 : ∀ j, w2.frozen? ⟨w.heap.size, j, none⟩ = false := (fun j => by simp [World.frozen?, hblk]); have hlt2 : w.heap.size < w2.heap.size := (Array.getElem?_eq_some_iff.1 hblk).1; have z1 : ∀ j o, (w2.alloc o).frozen? ⟨w.heap.size, j, none⟩ = false := (fun j o => (World.frozen?_of_block (Below.heap_alloc w2 o _ hlt2)).trans (z0 j)); have z2 : ∀ j o v, ((w2.setCell ⟨w.heap.size, 0, none⟩ v).alloc o).frozen? ⟨w.heap.size, j, none⟩ = false := (fun j o v => (World.frozen?_of_block (w := w2.setCell ⟨w.heap.size, 0, none⟩ v) (Below.heap_alloc _ o _ (by simpa using hlt2))).trans (by rw [fz_set]; exact z0 j)); have z3 : ∀ j o v u, (((w2.setCell ⟨w.heap.size, 0, none⟩ v).setCell ⟨w.heap.size, 1, none⟩ u).alloc o).frozen? ⟨w.heap.size, j, none⟩ = false := (fun j o v u => (World.frozen?_of_block (w := (w2.setCell ⟨w.heap.size, 0, none⟩ v).setCell ⟨w.heap.size, 1, none⟩ u) (Below.heap_alloc _ o _ (by simpa using hlt2))).trans (by rw [fz_set, fz_set]; exact z0 j)); have hst2 := HST1.out.trans hst)
    have hb3 := (Below.heap_alloc _ (Obj.cells #[.int .i64 0, .pointer none, .string ByteArray.empty] 80) w.heap.size (by simpa using hlt2)).trans (three_set hblk (.int .i64 0) (.pointer none) (.string ByteArray.empty))
    (try simp only [Exit.inBlock, Exit.then]); refine bodyPost_ret (place_ret _ _ _ _ _ _ hb3 rfl _ rfl rfl) rfl ?_
    exact ⟨rfl, (((hst2.outC _ _ (Nat.le_refl _) hout).outC _ _ (Nat.le_refl _) hout).outC _ _ (Nat.le_refl _) hout).alloc _⟩
end
end Go.Proofs.YtbecmcjibpamoaaGreatDoor
