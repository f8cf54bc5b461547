/- MkA MkB WgA MkC MkD TdA -/
import Derived.Test.YtbecmcjibpamoaaGreatDoorQ34
import Derived.Test.YtbecmcjibpamoaaGreatDoorQ03
set_option linter.unusedVariables false
set_option linter.unusedSimpArgs false
set_option linter.deprecated false
set_option linter.unnecessarySimpa false
namespace Go.Proofs.YtbecmcjibpamoaaGreatDoor
open Go.RowKit IntWalk
section
variable {W0 : World} {s : Fs} {lay : FId → Nat}
theorem mk_fail (kind : Int) (text : ByteArray) (hE : EnvG W0) (dir : Int) (path : List UInt8) (hpl : path.length ≤ 100000) (w : World) (h : FsIn W0 s lay w) (he : s.freeS dir path ≠ 0) :
    Calls Tryz.prog 17 #[ptrTo (lay .F), .int .i64 dir, .string ⟨path.toArray⟩, .int .i64 kind, .string text] w fun e w' => e = .returned (.tuple #[.int .i64 0, .int .i64 (s.freeS dir path)]) ∧ Step s lay w s lay w' := by
  have HP := Lib.hid (free_any hE dir path hpl w h)
  have HI := Lib.hid h
  clear h
  generalize s.freeS dir path = er at *
  have hpv : ∃ a b c, placeV lay (s.placeS dir path) = .agg #[.int .i64 a, .pointer b, .string c] := by
    unfold placeV ptrTo; split <;> exact ⟨_, _, _, rfl⟩
  obtain ⟨a, b, c, hpv⟩ := hpv
  rw [hpv] at HP
  clear hpv
  unfold ptrTo at *
  go_enter Tryz.func17, Tryz.ntmps17
  go_wp2_with (go_at_call 34; (with_reducible refine HP.out.mono ?_); rintro e w2 ⟨rfl, hst⟩; have her : (er == 0) = false := (by simpa using he))
  go_ret2
  exact ⟨rfl, hst.alloc _⟩
theorem mk_full (kind : Int) (text : ByteArray) (hk1 : 1 ≤ kind) (hk3 : kind ≤ 3) (hE : EnvG W0) (dir : Int) (path : List UInt8) (hpl : path.length ≤ 100000) (w : World) (h : FsIn W0 s lay w) (he : s.freeS dir path = 0) (hg : gapAt s.nodes = none) :
    Calls Tryz.prog 17 #[ptrTo (lay .F), .int .i64 dir, .string ⟨path.toArray⟩, .int .i64 kind, .string text] w fun e w' => e = .returned (.tuple #[.int .i64 0, .int .i64 21]) ∧ Step s lay w s lay w' := by
  have HP := Lib.hid (free_any hE dir path hpl w h)
  rw [he] at HP
  have HM := Lib.hid (fun (W : World) (hW : FsIs s lay W) => make_none kind hk1 hk3 W hW hg)
  clear h he
  have hpv : ∃ a b c, placeV lay (s.placeS dir path) = .agg #[.int .i64 a, .pointer b, .string c] := by
    unfold placeV ptrTo; split <;> exact ⟨_, _, _, rfl⟩
  obtain ⟨a, b, c, hpv⟩ := hpv
  rw [hpv] at HP
  clear hpv
  unfold ptrTo at *
  go_enter Tryz.func17, Tryz.ntmps17
  go_wp2_with first
    | (go_at_call 34; (with_reducible refine HP.out.mono ?_); rintro e w2 ⟨rfl, hst⟩; have hst3 := hst.alloc (Obj.cells #[.int .i64 a, .pointer b, .string c] 80); have f0 := hst3.is.f0; unfold ptrTo at f0)
    | (go_at_call 32; (with_reducible refine (HM.out _ hst3.is).mono ?_); rintro e w' ⟨rfl, rfl⟩)
  go_ret2
  exact ⟨rfl, hst3⟩
end
end Go.Proofs.YtbecmcjibpamoaaGreatDoor
namespace Go.Proofs.YtbecmcjibpamoaaGreatDoor
open Go.RowKit IntWalk
section
variable {W0 : World} {s : Fs} {lay : FId → Nat}
theorem into_dirs {s s2 : Fs} {k pos : Nat} {x x2 : Nd} {d : List UInt8} (h : s.into k x pos d = some (s2, x2)) : s2.dirs = s.dirs := by
  unfold Fs.into at h
  split at h
  · cases h; rfl
  · split at h
    · cases h; rfl
    · cases h
theorem writeL_dirs {k at_ : Nat} {d : List UInt8} : ∀ (fuel done : Nat) (s : Fs) (x : Nd), (Fs.writeL k at_ d fuel done s x).2.1.dirs = s.dirs
  | 0, _, _, _ => rfl
  | fuel + 1, done, s, x => by
    unfold Fs.writeL
    split
    · split
      · rename_i r hr
        rw [writeL_dirs fuel]
        exact into_dirs hr
      · rfl
    · rfl
theorem writeS_dirs (s : Fs) (k : Nat) (x : Nd) (at_ : Nat) (d : List UInt8) : (s.writeS k x at_ d).2.dirs = s.dirs := by
  have h := writeL_dirs (k := k) (at_ := at_) (d := d) (d.length + 1) 0 s x
  unfold Fs.writeS
  dsimp only
  split
  · exact h
  · exact h
theorem mk_link (t : List UInt8) (ht : t ≠ []) (ht2 : t.length ≤ 256) (hE : EnvG W0) (dir : Int) (path : List UInt8) (hpl : path.length ≤ 100000) (w : World) (h : FsIn W0 s lay w) (he : s.freeS dir path = 0) (k : Nat) (hg : gapAt s.nodes = some k) (n : Int) (nm : List UInt8) (hpp : s.placeS dir path = (n, nm, 0)) (d : Dr) (hd : s.dr n = some d) :
    Calls Tryz.prog 17 #[ptrTo (lay .F), .int .i64 dir, .string ⟨path.toArray⟩, .int .i64 3, .string ⟨t.toArray⟩] w fun e w' => ∃ m s2 lay', (m, s2) = (s.setNd k (freshNd 3)).writeS k (freshNd 3) 0 t ∧ lay' .F = lay .F ∧ ((m < t.length ∧ e = .returned (.tuple #[.int .i64 0, .int .i64 20]) ∧ Step s lay w (s2.untieS (k + 1)) lay' w') ∨ (t.length ≤ m ∧ e = .returned (.tuple #[.int .i64 (k + 1), .int .i64 0]) ∧ Step s lay w (s2.setDr n ⟨d.names.put (.str nm) (.int .i64 (k + 1)), d.parent⟩) lay' w')) := by
  have HP := Lib.hid (free_any hE dir path hpl w h)
  rw [he, hpp] at HP
  have HM := Lib.hid (fun (W : World) (hW : FsIs s lay W) => make_some 3 (by omega) (by omega) W hW k hg)
  have hnd := (gapAt_some _ _ hg).1
  have hlt := (List.getElem?_eq_some_iff.1 hnd).1
  have hnd1 : (s.setNd k (newNd 3)).nd ((k : Int) + 1) = some (newNd 3) := by
    unfold Fs.nd
    rw [if_neg (by omega), slotOf_eq, Fs.setNd_get, if_pos rfl, if_pos hlt]; rfl
  have hnd2 : (s.setNd k (freshNd 3)).nd ((k : Int) + 1) = some (freshNd 3) := by
    unfold Fs.nd
    rw [if_neg (by omega), slotOf_eq, Fs.setNd_get, if_pos rfl, if_pos hlt]; rfl
  have hs2 : (s.setNd k (newNd 3)).setNd (slotOf ((k : Int) + 1)) { newNd 3 with names := incW (newNd 3).names } = s.setNd k (freshNd 3) := by
    rw [slotOf_eq, setNd_setNd, show incW (newNd 3).names = 1 from by simp [incW, newNd, wrap64]]; rfl
  have HT := Lib.hid (fun (p m : Nat) (W : World) (hW : FsIs (s.setNd k (newNd 3)) (layN lay k p m) W) => show Calls Tryz.prog 33 #[.pointer (some ⟨lay .T, 0, none⟩), .int .i64 ((k : Int) + 1)] W fun e w' => e = .returned (.int .i64 0) ∧ Step (s.setNd k (newNd 3)) (layN lay k p m) W (s.setNd k (freshNd 3)) (layN lay k p m) w' from by
    have := tie_some ((k : Int) + 1) (newNd 3) W hW hnd1
    rw [hs2] at this
    exact this)
  obtain ⟨m, s2, hms⟩ : ∃ m s2, (m, s2) = (s.setNd k (freshNd 3)).writeS k (freshNd 3) 0 t := ⟨_, _, rfl⟩
  have HW := Lib.hid (fun (p q : Nat) (W : World) (hW : FsIs (s.setNd k (freshNd 3)) (layN lay k p q) W) => show Calls Tryz.prog 19 #[.pointer (some ⟨lay .T, 0, none⟩), .int .i64 ((k : Int) + 1), .int .i64 0, .string ⟨t.toArray⟩] W fun e w' => ∃ er : Int, e = .returned (.tuple #[.int .i64 m, .int .i64 er]) ∧ Step (s.setNd k (freshNd 3)) (layN lay k p q) W s2 (layN lay k p q) w' from by
    refine (write_some ((k : Int) + 1) (freshNd 3) 0 t W hW hnd2 (by intro p b hb; cases hb) ⟨by decide, by decide⟩ (by omega)).mono ?_
    rintro e w' ⟨n6, s6, h6, rfl, hst6⟩
    have h7 : (n6, s6) = (m, s2) := by
      rw [h6, hms, slotOf_eq, List.take_of_length_le (by omega)]
    cases h7
    exact ⟨_, rfl, hst6⟩)
  have hdirs : s2.dirs = s.dirs := by
    have := writeS_dirs (s.setNd k (freshNd 3)) k (freshNd 3) 0 t
    rw [← hms] at this
    exact this
  have hd2 : s2.dr n = some d := by unfold Fs.dr at hd ⊢; rw [hdirs]; exact hd
  have hno := names_of h.is hd
  have hkk : (k : Int) ≤ 1024 := by have := h.is.ok.nodes; omega
  clear h he hnd hnd1 hnd2 hs2 hpp
  have HMS := Lib.hid hms
  have HU := Lib.hid (fun (p q : Nat) (W : World) (hW : FsIs s2 (layN lay k p q) W) => show Calls Tryz.prog 35 #[.pointer (some ⟨lay .T, 0, none⟩), .int .i64 ((k : Int) + 1)] W fun e w' => (∃ c, e = .returned (.int .i64 c)) ∧ Step s2 (layN lay k p q) W (s2.untieS ((k : Int) + 1)) (layN lay k p q) w' from untie_any ((k : Int) + 1) W hW)
  have htl : (⟨t.toArray⟩ : ByteArray).size = t.length := rfl
  have htl2 : (t.length : Int) ≤ 256 := by omega
  by_cases hm : t.length ≤ m
  · have hm1 : ¬ (m : Int) < t.length := by omega
    clear hms hdirs
    rw [show placeV lay (n, nm, 0) = .agg #[.int .i64 n, ptrTo (lay (.E n)), .string ⟨nm.toArray⟩] from rfl] at HP
    unfold ptrTo at *
    go_enter Tryz.func17, Tryz.ntmps17
    go_wp2_with first
      | (go_at_call 34; (with_reducible refine HP.out.mono ?_); rintro e w2 ⟨rfl, hst⟩; have hst3 := hst.alloc (Obj.cells #[.int .i64 n, .pointer (some ⟨lay (.E n), 0, none⟩), .string ⟨nm.toArray⟩] 80); have f0 := hst3.is.f0; unfold ptrTo at f0)
      | (go_at_call 32; (with_reducible refine (HM.out _ hst3.is).mono ?_); rintro e w4 ⟨rfl, p4, n4, hst4⟩; have f4 : w4.cell? ⟨lay .F, 0, none⟩ = some (.pointer (some ⟨lay .T, 0, none⟩)) := hst4.is.f0)
      | (go_at_call 33; (with_reducible refine (HT.out p4 n4 _ hst4.is).mono ?_); rintro e w5 ⟨rfl, hst5⟩; have hst35 := hst4.trans hst5; have f5 : w5.cell? ⟨lay .F, 0, none⟩ = some (.pointer (some ⟨lay .T, 0, none⟩)) := hst5.is.f0)
      | (go_at_call 19; (with_reducible refine (HW.out p4 n4 _ hst35.is).mono ?_); rintro e w6 ⟨er6, rfl, hst6⟩; have f6 : w6.cell? ⟨lay .F, 0, none⟩ = some (.pointer (some ⟨lay .T, 0, none⟩)) := hst6.is.f0; have hst36 := hst35.trans hst6)
    have hpb3 := alloc_at w2 (Obj.cells #[.int .i64 n, .pointer (some ⟨lay (.E n), 0, none⟩), .string ⟨nm.toArray⟩] 80)
    have hown : ¬ Owns (s.obj lay) lay w2.heap.size := fun q => by have := hst.is.lies.owns_lt q; omega
    have hpb6 := (hst36.turned.block w2.heap.size (by simp) hown).trans hpb3
    have hall := (hst3.trans hst36).drewN 1
    have p1 : w6.drew.cell? ⟨w2.heap.size, 1, none⟩ = some (.pointer (some ⟨lay (.E n), 0, none⟩)) := cell_of_row w6 _ 1 _ _ _ hpb6
    have p2 : w6.drew.cell? ⟨w2.heap.size, 2, none⟩ = some (.string ⟨nm.toArray⟩) := cell_of_row w6 _ 2 _ _ _ hpb6
    have e0 : w6.drew.cell? ⟨lay (.E n), 0, none⟩ = some (.map (some (lay (.M n)))) := hall.is.e0 hd2
    have hM : w6.drew.heap[lay (.M n)]? = some d.names.obj := hall.is.lies.at_ (.M n) d.names.obj (by simp [Fs.obj, hd2])
    have hmu := GMap.store (P := Tryz.prog) (k := .str nm) (v := .int .i64 ((k : Int) + 1)) Tryz.underlying76 Tryz.underlying9 hno.of hM
    simp only [Key.val] at hmu
    have HF := Lib.hid (hall.names hd2 (hno.put nm ((k : Int) + 1)))
    have hMlt : lay (.M n) < w2.heap.size := hst.is.lies.owns_lt ⟨.M n, by simp [Fs.obj, hd], rfl⟩
    have hMne : lay (.M n) ≠ w2.heap.size := by omega
    have hMEne : lay (.M n) ≠ lay (.E n) := hst.is.lies.ne (i := .M n) (j := .E n) (o := d.names.obj) (p := .cells #[.map (some (lay (.M n))), .int .i64 d.parent] 78 (0, 0)) (by simp [Fs.obj, hd]) (by simp [Fs.obj, hd]) (by simp)
    have hother : ∀ (b j : Nat) (v : Value) (o : Obj), lay (.M n) ≠ b → w6.drew.cell? ⟨b, j, none⟩ = some v → ({ w6.drew with heap := w6.drew.heap.setIfInBounds (lay (.M n)) o } : World).cell? ⟨b, j, none⟩ = some v := fun b j v o hne hc => by
      rw [World.cell?_of_block (w := w6.drew) (by show (w6.drew.heap.setIfInBounds (lay (.M n)) o)[b]? = _; rw [Array.getElem?_setIfInBounds, if_neg hne])]
      exact hc
    have q1 : ({ w6.drew with heap := w6.drew.heap.setIfInBounds (lay (.M n)) (d.names.put (.str nm) (.int .i64 ((k : Int) + 1))).obj } : World).cell? ⟨w2.heap.size, 1, none⟩ = some (.pointer (some ⟨lay (.E n), 0, none⟩)) := hother _ _ _ _ hMne p1
    have q2 : ({ w6.drew with heap := w6.drew.heap.setIfInBounds (lay (.M n)) (d.names.put (.str nm) (.int .i64 ((k : Int) + 1))).obj } : World).cell? ⟨w2.heap.size, 2, none⟩ = some (.string ⟨nm.toArray⟩) := hother _ _ _ _ hMne p2
    have q0 : ({ w6.drew with heap := w6.drew.heap.setIfInBounds (lay (.M n)) (d.names.put (.str nm) (.int .i64 ((k : Int) + 1))).obj } : World).cell? ⟨lay (.E n), 0, none⟩ = some (.map (some (lay (.M n)))) := hother _ _ _ _ hMEne e0
    clear hother hst hst3 hst4 hst5 hst6 hst35 hst36 f0 f4 f5 hpb3 hpb6 hall hM HT HW HM HP
    go_region_held3 (fun W => W.cell? ⟨w2.heap.size, 1, none⟩ = some (.pointer (some ⟨lay (.E n), 0, none⟩)) ∧ W.cell? ⟨w2.heap.size, 2, none⟩ = some (.string ⟨nm.toArray⟩) ∧ W.cell? ⟨lay (.E n), 0, none⟩ = some (.map (some (lay (.M n))))) (first | exact ⟨p1, p2, e0⟩ | exact ⟨q1, q2, q0⟩ | go_keep) (fail)
    go_wp2_with fail
    go_ret2
    first | exact ⟨m, s2, layN lay k p4 n4, HMS.out, rfl, .inr ⟨hm, rfl, HF.out⟩⟩ | exact ⟨m, s2, HMS.out, layN lay k p4 n4, rfl, .inr ⟨hm, rfl, HF.out⟩⟩
  · have hm1 : (m : Int) < t.length := by omega
    clear hms hdirs
    rw [show placeV lay (n, nm, 0) = .agg #[.int .i64 n, ptrTo (lay (.E n)), .string ⟨nm.toArray⟩] from rfl] at HP
    unfold ptrTo at *
    go_enter Tryz.func17, Tryz.ntmps17
    go_wp2_with first
      | (go_at_call 34; (with_reducible refine HP.out.mono ?_); rintro e w2 ⟨rfl, hst⟩; have hst3 := hst.alloc (Obj.cells #[.int .i64 n, .pointer (some ⟨lay (.E n), 0, none⟩), .string ⟨nm.toArray⟩] 80); have f0 := hst3.is.f0; unfold ptrTo at f0)
      | (go_at_call 32; (with_reducible refine (HM.out _ hst3.is).mono ?_); rintro e w4 ⟨rfl, p4, n4, hst4⟩; have f4 : w4.cell? ⟨lay .F, 0, none⟩ = some (.pointer (some ⟨lay .T, 0, none⟩)) := hst4.is.f0)
      | (go_at_call 33; (with_reducible refine (HT.out p4 n4 _ hst4.is).mono ?_); rintro e w5 ⟨rfl, hst5⟩; have hst35 := hst4.trans hst5; have f5 : w5.cell? ⟨lay .F, 0, none⟩ = some (.pointer (some ⟨lay .T, 0, none⟩)) := hst5.is.f0)
      | (go_at_call 19; (with_reducible refine (HW.out p4 n4 _ hst35.is).mono ?_); rintro e w6 ⟨er6, rfl, hst6⟩; have f6 : w6.cell? ⟨lay .F, 0, none⟩ = some (.pointer (some ⟨lay .T, 0, none⟩)) := hst6.is.f0; have hst36 := hst35.trans hst6)
      | (go_at_call 35; (with_reducible refine (HU.out p4 n4 _ hst36.is).mono ?_); rintro e w7 ⟨⟨c7, rfl⟩, hst7⟩; have hst37 := (hst3.trans hst36).trans hst7)
    go_ret2
    first | exact ⟨m, s2, layN lay k p4 n4, HMS.out, rfl, .inl ⟨by omega, rfl, hst37⟩⟩ | exact ⟨m, s2, HMS.out, layN lay k p4 n4, rfl, .inl ⟨by omega, rfl, hst37⟩⟩
end
end Go.Proofs.YtbecmcjibpamoaaGreatDoor
namespace Go.Proofs.YtbecmcjibpamoaaGreatDoor
open Go.RowKit
structure GStep {I I' : Type} (c : I → Option Obj) (lay : I → Nat) (w : World) (c' : I' → Option Obj) (lay' : I' → Nat) (w' : World) : Prop where
  lies : Lies c' lay' w'
  turned : Turned (Owns c lay) w w'
  own : ∀ k, Owns c' lay' k → Owns c lay k ∨ w.heap.size ≤ k
section
variable {I I' I'' : Type} {c : I → Option Obj} {lay : I → Nat} {w w' w'' : World} {c' : I' → Option Obj} {lay' : I' → Nat} {c'' : I'' → Option Obj} {lay'' : I'' → Nat}
theorem GStep.refl (h : Lies c lay w) : GStep c lay w c lay w := ⟨h, Turned.refl _ _, fun _ hk => .inl hk⟩
theorem GStep.trans (h : GStep c lay w c' lay' w') (k : GStep c' lay' w' c'' lay'' w'') : GStep c lay w c'' lay'' w'' :=
  ⟨k.lies, h.turned.trans k.turned (fun b hb hlt => (h.own b hb).resolve_right (by omega)), fun b hb => by
    rcases k.own b hb with q | q
    · exact h.own b q
    · exact .inr (Nat.le_trans h.turned.size q)⟩
theorem GStep.alloc (h : GStep c lay w c' lay' w') (o : Obj) : GStep c lay w c' lay' (w'.alloc o) := ⟨h.lies.alloc o, h.turned.alloc o, h.own⟩
theorem GStep.drewN (h : GStep c lay w c' lay' w') (n : Nat) : GStep c lay w c' lay' (w'.drewN n) := ⟨h.lies.drewN n, h.turned.drewN n, h.own⟩
theorem GStep.drew (h : GStep c lay w c' lay' w') : GStep c lay w c' lay' w'.drew := ⟨h.lies.drew, h.turned.drew, h.own⟩
theorem GStep.below (h : GStep c lay w c' lay' w') (hb : Below w'.heap.size w' w'') : GStep c lay w c' lay' w'' :=
  ⟨h.lies.kept fun i hi => hb.block _ (h.lies.owns_lt ⟨i, hi, rfl⟩),
   h.turned.trans (Turned.of_below hb : Turned (fun _ => False) w' w'') (fun _ q => q.elim), h.own⟩
theorem GStep.set [DecidableEq I'] {c3 : I' → Option Obj} (h : GStep c lay w c' lay' w') {i : I'} {cs : Array Value} {ty : TypeId} {fz : Nat × Nat} (hc : c' i = some (.cells cs ty fz)) (k : Nat) (v : Value) (hc' : ∀ j, c3 j = if j = i then some (.cells (cs.setIfInBounds k v) ty fz) else c' j) :
    GStep c lay w c3 lay' (w'.setCell ⟨lay' i, k, none⟩ v) := by
  have hown : Owns c' lay' (lay' i) := ⟨i, by rw [hc]; simp, rfl⟩
  refine ⟨h.lies.set hc k v hc', h.turned.set _ _ (fun hlt => (h.own _ hown).resolve_right (by simpa using hlt)), fun b hb => ?_⟩
  obtain ⟨j, hj, rfl⟩ := hb
  refine h.own _ ⟨j, fun e => hj ?_, rfl⟩
  rw [hc']
  by_cases q : j = i
  · rw [q, hc] at e; cases e
  · rw [if_neg q, e]
theorem GStep.put [DecidableEq I'] {c3 : I' → Option Obj} (h : GStep c lay w c' lay' w') {i : I'} {o o' : Obj} (hc : c' i = some o) (hc' : ∀ j, c3 j = if j = i then some o' else c' j) :
    GStep c lay w c3 lay' { w' with heap := w'.heap.setIfInBounds (lay' i) o' } := by
  have hown : Owns c' lay' (lay' i) := ⟨i, by rw [hc]; simp, rfl⟩
  refine ⟨h.lies.put hc hc', h.turned.put _ _ (fun hlt => (h.own _ hown).resolve_right (by omega)), fun b hb => ?_⟩
  obtain ⟨j, hj, rfl⟩ := hb
  refine h.own _ ⟨j, fun e => hj ?_, rfl⟩
  rw [hc']
  by_cases q : j = i
  · rw [q, hc] at e; cases e
  · rw [if_neg q, e]
theorem GStep.new [DecidableEq I'] {c3 : I' → Option Obj} {lay3 : I' → Nat} (h : GStep c lay w c' lay' w') (i : I') (o : Obj) (hc' : ∀ j, c3 j = if j = i then some o else c' j) (hl : ∀ j, lay3 j = if j = i then w'.heap.size else lay' j) :
    GStep c lay w c3 lay3 (w'.alloc o) := by
  refine ⟨h.lies.new i o hc' hl, h.turned.alloc o, fun b hb => ?_⟩
  obtain ⟨j, hj, rfl⟩ := hb
  by_cases q : j = i
  · right; rw [hl, if_pos q]; exact h.turned.size
  · rw [hl, if_neg q]
    exact h.own _ ⟨j, fun e => hj (by rw [hc', if_neg q]; exact e), rfl⟩
theorem GStep.less {c3 : I' → Option Obj} (h : GStep c lay w c' lay' w') (hc' : ∀ j o, c3 j = some o → c' j = some o) : GStep c lay w c3 lay' w' :=
  ⟨h.lies.less hc', h.turned, fun b ⟨j, hj, e⟩ => h.own b ⟨j, (by
    intro q
    cases h3 : c3 j with
    | none => exact hj h3
    | some o => have := hc' j o h3; rw [q] at this; cases this), e⟩⟩
theorem GStep.congr {c3 : I' → Option Obj} (h : GStep c lay w c' lay' w') (hc' : ∀ j, c3 j = c' j) : GStep c lay w c3 lay' w' := by
  obtain rfl : c3 = c' := funext hc'
  exact h
end
section
variable {I J I' : Type} {c : I → Option Obj} {d : J → Option Obj} {lay : I → Nat} {lay2 : J → Nat} {w w' : World} {c' : I' → Option Obj} {lay' : I' → Nat}
theorem Lies.inl (h : Lies (Sum.elim c d) (Sum.elim lay lay2) w) : Lies c lay w :=
  ⟨fun i o ho => h.at_ (.inl i) o ho, fun i j hi hj e => by have := h.inj (.inl i) (.inl j) hi hj e; cases this; rfl⟩
theorem Lies.inr (h : Lies (Sum.elim c d) (Sum.elim lay lay2) w) : Lies d lay2 w :=
  ⟨fun i o ho => h.at_ (.inr i) o ho, fun i j hi hj e => by have := h.inj (.inr i) (.inr j) hi hj e; cases this; rfl⟩
theorem Lies.apart (h : Lies (Sum.elim c d) (Sum.elim lay lay2) w) : ∀ k, Owns c lay k → ¬ Owns d lay2 k := by
  rintro k ⟨i, hi, rfl⟩ ⟨j, hj, e⟩
  have := h.inj (.inr j) (.inl i) hj hi e
  cases this
theorem Lies.both (h : Lies c lay w) (k : Lies d lay2 w) (ha : ∀ b, Owns c lay b → ¬ Owns d lay2 b) : Lies (Sum.elim c d) (Sum.elim lay lay2) w := by
  refine ⟨fun i o ho => ?_, fun i j hi hj e => ?_⟩
  · cases i with
    | inl i => exact h.at_ i o ho
    | inr i => exact k.at_ i o ho
  · cases i with
    | inl i => cases j with
      | inl j => rw [h.inj i j hi hj e]
      | inr j => exact absurd ⟨j, hj, e.symm⟩ (ha _ ⟨i, hi, rfl⟩)
    | inr i => cases j with
      | inl j => exact absurd ⟨i, hi, e⟩ (ha _ ⟨j, hj, rfl⟩)
      | inr j => rw [k.inj i j hi hj e]
theorem owns_sum {k : Nat} : Owns (Sum.elim c d) (Sum.elim lay lay2) k ↔ Owns c lay k ∨ Owns d lay2 k := by
  constructor
  · rintro ⟨i | i, hi, e⟩
    · exact .inl ⟨i, hi, e⟩
    · exact .inr ⟨i, hi, e⟩
  · rintro (⟨i, hi, e⟩ | ⟨i, hi, e⟩)
    · exact ⟨.inl i, hi, e⟩
    · exact ⟨.inr i, hi, e⟩
theorem GStep.left (hl : Lies (Sum.elim c d) (Sum.elim lay lay2) w) (h : GStep c lay w c' lay' w') : GStep (Sum.elim c d) (Sum.elim lay lay2) w (Sum.elim c' d) (Sum.elim lay' lay2) w' := by
  have hd : Lies d lay2 w' := hl.inr.turned h.turned (fun k hk q => hl.apart k q hk)
  refine ⟨h.lies.both hd (fun b hb q => ?_), h.turned.mono (fun b hb _ => owns_sum.2 (.inl hb)), fun k hk => ?_⟩
  · rcases h.own b hb with r | r
    · exact hl.apart b r q
    · have := hl.inr.owns_lt q; omega
  · rcases owns_sum.1 hk with q | q
    · rcases h.own k q with r | r
      · exact .inl (owns_sum.2 (.inl r))
      · exact .inr r
    · exact .inl (owns_sum.2 (.inr q))
theorem GStep.right (hl : Lies (Sum.elim d c) (Sum.elim lay2 lay) w) (h : GStep c lay w c' lay' w') : GStep (Sum.elim d c) (Sum.elim lay2 lay) w (Sum.elim d c') (Sum.elim lay2 lay') w' := by
  have hd : Lies d lay2 w' := hl.inl.turned h.turned (fun k hk q => hl.apart k hk q)
  refine ⟨hd.both h.lies (fun b hb q => ?_), h.turned.mono (fun b hb _ => owns_sum.2 (.inr hb)), fun k hk => ?_⟩
  · rcases h.own b q with r | r
    · exact hl.apart b hb r
    · have := hl.inl.owns_lt hb; omega
  · rcases owns_sum.1 hk with q | q
    · exact .inl (owns_sum.2 (.inl q))
    · rcases h.own k q with r | r
      · exact .inl (owns_sum.2 (.inr r))
      · exact .inr r
end
structure PMap where
  es : List (Int × Nat)
  clk : Nat
def PMap.keys (m : PMap) : List Int := m.es.map (·.1)
structure PMap.Ok (m : PMap) : Prop where
  keys : m.keys.Nodup
  births : (m.es.map (·.2)).Nodup
  below : ∀ e ∈ m.es, e.2 < m.clk
def PMap.add (m : PMap) (i : Int) : PMap := ⟨m.es ++ [(i, m.clk)], m.clk + 1⟩
def PMap.del (m : PMap) (i : Int) : PMap := ⟨m.es.filter fun e => decide (e.1 ≠ i), m.clk⟩
section
variable {m : PMap} {lay : Int → Nat}
theorem PMap.keys_add (m : PMap) (i : Int) : (m.add i).keys = m.keys ++ [i] := by simp [PMap.keys, PMap.add]
theorem PMap.Ok.add (h : m.Ok) {i : Int} (hi : i ∉ m.keys) : (m.add i).Ok := by
  refine ⟨?_, ?_, ?_⟩
  · rw [PMap.keys_add, List.nodup_append]
    refine ⟨h.keys, by simp, fun a ha b hb e => ?_⟩
    simp only [List.mem_singleton] at hb
    exact hi (by rw [← hb, ← e]; exact ha)
  · show ((m.es ++ [(i, m.clk)]).map (·.2)).Nodup
    rw [List.map_append, List.nodup_append]
    refine ⟨h.births, by simp, fun a ha b hb e => ?_⟩
    simp only [List.map_cons, List.map_nil, List.mem_singleton] at hb
    obtain ⟨x, hx, rfl⟩ := List.mem_map.1 ha
    have := h.below x hx
    omega
  · intro e he
    have he : e ∈ m.es ++ [(i, m.clk)] := he
    rcases List.mem_append.1 he with q | q
    · have := h.below e q; show e.2 < m.clk + 1; omega
    · simp only [List.mem_singleton] at q; subst q; show m.clk < m.clk + 1; omega
theorem PMap.Ok.del (h : m.Ok) (i : Int) : (m.del i).Ok :=
  ⟨h.keys.sublist (List.filter_sublist.map _), h.births.sublist (List.filter_sublist.map _), fun e he => h.below e (List.mem_filter.1 he |>.1)⟩
end
end Go.Proofs.YtbecmcjibpamoaaGreatDoor
namespace Go.Proofs.YtbecmcjibpamoaaGreatDoor
open Go.RowKit IntWalk
theorem dirE_append (i : Int) : ∀ (l r : List (Int × Dr × Nat)), dirE i (l ++ r) = (dirE i l).or (dirE i r)
  | [], r => by simp [dirE]
  | e :: l, r => by
    simp only [List.cons_append, dirE]
    by_cases h : e.1 = i
    · rw [if_pos h, if_pos h]; rfl
    · rw [if_neg h, if_neg h]; exact dirE_append i l r
def Fs.addDr (s : Fs) (i par : Int) : Fs := { s with dirs := s.dirs ++ [(i, ⟨GMap.empty, par⟩, s.clk)], clk := s.clk + 1 }
theorem addDr_dr {s : Fs} {i par : Int} (hd : s.dr i = none) (j : Int) : (s.addDr i par).dr j = if j = i then some ⟨GMap.empty, par⟩ else s.dr j := by
  show dirE j (s.dirs ++ [(i, ⟨GMap.empty, par⟩, s.clk)]) = _
  rw [dirE_append]
  by_cases e : j = i
  · subst e
    have hn : dirE j s.dirs = none := hd
    rw [hn, if_pos rfl]
    simp [dirE]
  · rw [if_neg e]
    have hn : dirE j [(i, (⟨GMap.empty, par⟩ : Dr), s.clk)] = none := by simp [dirE, Ne.symm e]
    rw [hn]
    show (dirE j s.dirs).or none = dirE j s.dirs
    cases dirE j s.dirs <;> rfl
def layD (lay : FId → Nat) (i : Int) (e m : Nat) : FId → Nat
  | .E j => if j = i then e else lay (.E j)
  | .M j => if j = i then m else lay (.M j)
  | j => lay j
theorem dirE_none {i : Int} : ∀ {l : List (Int × Dr × Nat)}, dirE i l = none → ∀ e ∈ l, e.1 ≠ i
  | [], _, e, he => by cases he
  | a :: l, h, e, he => by
    unfold dirE at h
    by_cases q : a.1 = i
    · rw [if_pos q] at h; cases h
    · rw [if_neg q] at h
      rcases List.mem_cons.1 he with rfl | z
      · exact q
      · exact dirE_none h e z
theorem addDr_dmap {s : Fs} {lay : FId → Nat} {i par : Int} {e m : Nat} (hd : s.dr i = none) : (s.addDr i par).dmap (layD lay i e m) = (s.dmap lay).put (.int i) (ptrTo e) := by
  have hget : getE (.int i) (s.dmap lay).es = none := by
    have := dirE_get lay i s.dirs
    have hn : dirE i s.dirs = none := hd
    rw [hn] at this
    exact this
  have hset : ∀ (l : List (Key × Value × Nat)) (c : Nat), getE (.int i) l = none → setE (.int i) (ptrTo e) c l = l ++ [(.int i, ptrTo e, c)] := fun l c => by
    induction l with
    | nil => intro _; rfl
    | cons a l ih =>
      intro h
      unfold getE at h
      by_cases q : a.1 = .int i
      · rw [if_pos q] at h; cases h
      · rw [if_neg q] at h
        unfold setE
        rw [if_neg q, ih h]; rfl
  unfold GMap.put GMap.get
  rw [hget]
  rw [hset _ _ hget]
  show (⟨(s.dirs ++ [(i, (⟨GMap.empty, par⟩ : Dr), s.clk)]).map (fun x => (Key.int x.1, ptrTo (layD lay i e m (.E x.1)), x.2.2)), s.clk + 1⟩ : GMap) = _
  rw [List.map_append]
  congr 1
  · congr 1
    · apply List.map_congr_left
      intro x hx
      show (Key.int x.1, ptrTo (if x.1 = i then e else lay (.E x.1)), x.2.2) = _
      rw [if_neg (dirE_none hd x hx)]
    · show [(Key.int i, ptrTo (if i = i then e else lay (.E i)), s.clk)] = _
      rw [if_pos rfl]; rfl
def dirO (m : Nat) (par : Int) : Obj := .cells #[.map (some m), .int .i64 par] 78 (0, 0)
theorem addDr_obj {s : Fs} {lay : FId → Nat} {i par : Int} {e m : Nat} (hd : s.dr i = none) (j : FId) : (s.addDr i par).obj (layD lay i e m) j = if j = .D then some ((s.dmap lay).put (.int i) (ptrTo e)).obj else if j = .E i then some (dirO m par) else if j = .M i then some GMap.empty.obj else s.obj lay j := by
  cases j with
  | D =>
    rw [if_pos rfl]
    show some ((s.addDr i par).dmap (layD lay i e m)).obj = _
    rw [addDr_dmap hd]
  | E k =>
    rw [if_neg (by simp)]
    show (match (s.addDr i par).dr k with
      | some d => some (Obj.cells #[.map (some (layD lay i e m (.M k))), .int .i64 d.parent] 78 (0, 0))
      | none => none) = _
    rw [addDr_dr hd]
    by_cases q : k = i
    · subst q; simp [dirO, layD]
    · rw [if_neg q, if_neg (by simpa using q), if_neg (by simp)]
      simp only [layD, if_neg q]
      rfl
  | M k =>
    rw [if_neg (by simp), if_neg (by simp)]
    show (match (s.addDr i par).dr k with
      | some d => some d.names.obj
      | none => none) = _
    rw [addDr_dr hd]
    by_cases q : k = i
    · subst q; simp
    · rw [if_neg q, if_neg (by simpa using q)]
      rfl
  | _ => rfl
theorem Fs.Ok.addDr {s : Fs} {i par : Int} (h : s.Ok) (hd : s.dr i = none) : (s.addDr i par).Ok := by
  refine ⟨h.nodes, h.blocks, h.bytes, h.parts, fun e he => ?_, ?_⟩
  · rcases List.mem_append.1 he with q | q
    · exact h.names e q
    · simp only [List.mem_singleton] at q
      subst q
      exact ⟨GMap.Good.empty, fun e he => by cases he⟩
  · obtain ⟨h1, h2, h3⟩ := h.dirs
    show GoodE ((s.dirs ++ [(i, (⟨GMap.empty, par⟩ : Dr), s.clk)]).map fun e => (Key.int e.1, e.2.2)) (s.clk + 1)
    rw [List.map_append]
    refine ⟨?_, ?_, fun e he => ?_⟩
    · rw [List.map_append, List.nodup_append]
      refine ⟨h1, by simp, fun a ha b hb q => ?_⟩
      simp at hb
      subst hb
      simp only [List.map_map, List.mem_map] at ha
      obtain ⟨x, hx, hxa⟩ := ha
      have : x.1 = i := by
        have hh : Key.int x.1 = Key.int i := hxa.trans q
        cases hh; rfl
      exact dirE_none hd x hx this
    · rw [List.map_append, List.nodup_append]
      refine ⟨h2, by simp, fun a ha b hb q => ?_⟩
      simp at hb
      obtain ⟨x, hx, rfl⟩ := List.mem_map.1 ha
      have := h3 x hx
      omega
    · rcases List.mem_append.1 he with q | q
      · have := h3 e q; omega
      · simp at q; subst q; simp
theorem Step.newDir {s0 s : Fs} {lay0 lay : FId → Nat} {w0 w : World} (h : Step s0 lay0 w0 s lay w) {i par : Int} (hd : s.dr i = none) :
    Step s0 lay0 w0 (s.addDr i par) (layD lay i (w.heap.size + 1) w.heap.size) { ((w.alloc GMap.empty.obj).alloc (dirO w.heap.size par)) with heap := ((w.alloc GMap.empty.obj).alloc (dirO w.heap.size par)).heap.setIfInBounds (lay .D) ((s.dmap lay).put (.int i) (ptrTo (w.heap.size + 1))).obj } := by
  have g0 : GStep (s0.obj lay0) lay0 w0 (s.obj lay) lay w := ⟨h.is.lies, h.turned, h.own⟩
  have g1 := g0.new (c3 := fun j => if j = .M i then some GMap.empty.obj else s.obj lay j) (lay3 := fun j => if j = .M i then w.heap.size else lay j) (.M i) GMap.empty.obj (fun j => rfl) (fun j => rfl)
  have hsz : (w.alloc GMap.empty.obj).heap.size = w.heap.size + 1 := by simp
  have g2 := g1.new (c3 := fun j => if j = .E i then some (dirO w.heap.size par) else if j = .M i then some GMap.empty.obj else s.obj lay j) (lay3 := layD lay i (w.heap.size + 1) w.heap.size) (.E i) (dirO w.heap.size par) (fun j => rfl) (fun j => by
    rw [hsz]
    cases j with
    | E k => by_cases q : k = i <;> simp [layD, q]
    | M k => by_cases q : k = i <;> simp [layD, q]
    | _ => rfl)
  have g3 := g2.put (c3 := fun j => if j = .D then some ((s.dmap lay).put (.int i) (ptrTo (w.heap.size + 1))).obj else if j = .E i then some (dirO w.heap.size par) else if j = .M i then some GMap.empty.obj else s.obj lay j) (i := .D) (o := (s.dmap lay).obj) (o' := ((s.dmap lay).put (.int i) (ptrTo (w.heap.size + 1))).obj) rfl (fun j => rfl)
  have hc : (fun j => if j = .D then some ((s.dmap lay).put (.int i) (ptrTo (w.heap.size + 1))).obj else if j = .E i then some (dirO w.heap.size par) else if j = .M i then some GMap.empty.obj else s.obj lay j) = (s.addDr i par).obj (layD lay i (w.heap.size + 1) w.heap.size) := funext fun j => (addDr_obj hd j).symm
  rw [hc] at g3
  exact ⟨⟨g3.lies, h.is.ok.addDr hd⟩, g3.turned, g3.own⟩
end Go.Proofs.YtbecmcjibpamoaaGreatDoor
namespace Go.Proofs.YtbecmcjibpamoaaGreatDoor
open Go.RowKit IntWalk
section
variable {W0 : World} {s : Fs} {lay : FId → Nat}
set_option maxRecDepth 100000 in
theorem mk_dir (hE : EnvG W0) (dir : Int) (path : List UInt8) (hpl : path.length ≤ 100000) (w : World) (h : FsIn W0 s lay w) (he : s.freeS dir path = 0) (k : Nat) (hg : gapAt s.nodes = some k) (n : Int) (nm : List UInt8) (hpp : s.placeS dir path = (n, nm, 0)) (d : Dr) (hd : s.dr n = some d) (hkd : s.dr ((k : Int) + 1) = none) :
    Calls Tryz.prog 17 #[ptrTo (lay .F), .int .i64 dir, .string ⟨path.toArray⟩, .int .i64 2, .string ByteArray.empty] w fun e w' => e = .returned (.tuple #[.int .i64 (k + 1), .int .i64 0]) ∧ ∃ lay', lay' .F = lay .F ∧ Step s lay w (((s.setNd k (freshNd 2)).addDr ((k : Int) + 1) n).setDr n ⟨d.names.put (.str nm) (.int .i64 (k + 1)), d.parent⟩) lay' w' := by
  have HP := Lib.hid (free_any hE dir path hpl w h)
  rw [he, hpp] at HP
  have HM := Lib.hid (fun (W : World) (hW : FsIs s lay W) => make_some 2 (by omega) (by omega) W hW k hg)
  have hnd := (gapAt_some _ _ hg).1
  have hlt := (List.getElem?_eq_some_iff.1 hnd).1
  have hnd1 : (s.setNd k (newNd 2)).nd ((k : Int) + 1) = some (newNd 2) := by
    unfold Fs.nd
    rw [if_neg (by omega), slotOf_eq, Fs.setNd_get, if_pos rfl, if_pos hlt]; rfl
  have hnd2 : (s.setNd k (freshNd 2)).nd ((k : Int) + 1) = some (freshNd 2) := by
    unfold Fs.nd
    rw [if_neg (by omega), slotOf_eq, Fs.setNd_get, if_pos rfl, if_pos hlt]; rfl
  have hs2 : (s.setNd k (newNd 2)).setNd (slotOf ((k : Int) + 1)) { newNd 2 with names := incW (newNd 2).names } = s.setNd k (freshNd 2) := by
    rw [slotOf_eq, setNd_setNd, show incW (newNd 2).names = 1 from by simp [incW, newNd, wrap64]]; rfl
  have HT := Lib.hid (fun (p m : Nat) (W : World) (hW : FsIs (s.setNd k (newNd 2)) (layN lay k p m) W) => show Calls Tryz.prog 33 #[.pointer (some ⟨lay .T, 0, none⟩), .int .i64 ((k : Int) + 1)] W fun e w' => e = .returned (.int .i64 0) ∧ Step (s.setNd k (newNd 2)) (layN lay k p m) W (s.setNd k (freshNd 2)) (layN lay k p m) w' from by
    have := tie_some ((k : Int) + 1) (newNd 2) W hW hnd1
    rw [hs2] at this
    exact this)
  have HW := Lib.hid (fun (p m : Nat) (W : World) (hW : FsIs (s.setNd k (freshNd 2)) (layN lay k p m) W) => show Calls Tryz.prog 19 #[.pointer (some ⟨lay .T, 0, none⟩), .int .i64 ((k : Int) + 1), .int .i64 0, .string ByteArray.empty] W fun e w' => e = .returned (.tuple #[.int .i64 0, .int .i64 0]) ∧ Step (s.setNd k (freshNd 2)) (layN lay k p m) W (s.setNd k (freshNd 2)) (layN lay k p m) w' from by
    refine (write_some ((k : Int) + 1) (freshNd 2) 0 [] W hW hnd2 (by intro p b hb; cases hb) ⟨by decide, by decide⟩ (by omega)).mono ?_
    rintro e w' ⟨n6, s6, h6, rfl, hst6⟩
    have h7 : (n6, s6) = (0, s.setNd k (freshNd 2)) := by rw [h6, List.take_nil]; rfl
    cases h7
    exact ⟨rfl, hst6⟩)
  have hd2 : (s.setNd k (freshNd 2)).dr n = some d := hd
  have hno := names_of h.is hd
  have hkk : (k : Int) ≤ 1024 := by have := h.is.ok.nodes; omega
  clear h he hnd hnd1 hnd2 hs2 hpp
  rw [show placeV lay (n, nm, 0) = .agg #[.int .i64 n, ptrTo (lay (.E n)), .string ⟨nm.toArray⟩] from rfl] at HP
  unfold ptrTo at *
  go_enter Tryz.func17, Tryz.ntmps17
  go_wp2_with first
    | (go_at_call 34; (with_reducible refine HP.out.mono ?_); rintro e w2 ⟨rfl, hst⟩; have hst3 := hst.alloc (Obj.cells #[.int .i64 n, .pointer (some ⟨lay (.E n), 0, none⟩), .string ⟨nm.toArray⟩] 80); have f0 := hst3.is.f0; unfold ptrTo at f0)
    | (go_at_call 32; (with_reducible refine (HM.out _ hst3.is).mono ?_); rintro e w4 ⟨rfl, p4, n4, hst4⟩; have f4 : w4.cell? ⟨lay .F, 0, none⟩ = some (.pointer (some ⟨lay .T, 0, none⟩)) := hst4.is.f0)
    | (go_at_call 33; (with_reducible refine (HT.out p4 n4 _ hst4.is).mono ?_); rintro e w5 ⟨rfl, hst5⟩; have hst35 := hst4.trans hst5; have f5 : w5.cell? ⟨lay .F, 0, none⟩ = some (.pointer (some ⟨lay .T, 0, none⟩)) := hst5.is.f0)
    | (go_at_call 19; (with_reducible refine (HW.out p4 n4 _ hst35.is).mono ?_); rintro e w6 ⟨rfl, hst6⟩; have hst36 := hst35.trans hst6; have f6 : w6.cell? ⟨lay .F, 0, none⟩ = some (.pointer (some ⟨lay .T, 0, none⟩)) := hst6.is.f0)
  have hpb3 := alloc_at w2 (Obj.cells #[.int .i64 n, .pointer (some ⟨lay (.E n), 0, none⟩), .string ⟨nm.toArray⟩] 80)
  have hown : ¬ Owns (s.obj lay) lay w2.heap.size := fun q => by have := hst.is.lies.owns_lt q; omega
  have hpb6 := (hst36.turned.block w2.heap.size (by simp) hown).trans hpb3
  have hall := (hst3.trans hst36).drewN 1
  have hnk : n ≠ (k : Int) + 1 := fun q => by rw [q] at hd; rw [hkd] at hd; cases hd
  have hkd2 : (s.setNd k (freshNd 2)).dr ((k : Int) + 1) = none := hkd
  have hnew := hall.newDir (par := n) hkd2
  have p0 : w6.drew.cell? ⟨w2.heap.size, 0, none⟩ = some (.int .i64 n) := cell_of_row w6 _ 0 _ _ _ hpb6
  have fD : w6.drew.cell? ⟨lay .F, 1, none⟩ = some (.map (some (lay .D))) := hall.is.f1
  have hDm : w6.drew.heap[lay .D]? = some ((s.setNd k (freshNd 2)).dmap (layN lay k p4 n4)).obj := hall.is.lies.at_ .D _ rfl
  have hof : ((s.setNd k (freshNd 2)).dmap (layN lay k p4 n4)).Of (.int .i64) := fun e he => by
    simp only [Fs.dmap, List.mem_map] at he
    obtain ⟨x, _, rfl⟩ := he
    rfl
  have hDlt : lay .D < w6.drew.heap.size := (Array.getElem?_eq_some_iff.1 hDm).1
  have hFlt : lay .F < w6.drew.heap.size := World.block_lt_of_cell? w6.drew ⟨lay .F, 1, none⟩ fD
  have hPlt : w2.heap.size < w6.drew.heap.size := World.block_lt_of_cell? w6.drew ⟨w2.heap.size, 0, none⟩ p0
  have hs1 : (w6.drew.alloc (.map #[] 0)).heap.size = w6.drew.heap.size + 1 := by simp
  have hD2 : ((w6.drew.alloc (.map #[] 0)).alloc (.cells #[.map (some w6.drew.heap.size), .int .i64 n] 78)).heap[lay .D]? = some ((s.setNd k (freshNd 2)).dmap (layN lay k p4 n4)).obj := by
    rw [Below.heap_alloc _ _ _ (by rw [hs1]; omega), Below.heap_alloc _ _ _ hDlt]; exact hDm
  have hmu := GMap.store (P := Tryz.prog) (k := .int ((k : Int) + 1)) (v := ptrTo (w6.drew.heap.size + 1)) Tryz.underlying49 Tryz.underlying3 hof hD2
  simp only [Key.val] at hmu
  have k1 : ∀ (b j : Nat) (v : Value), b < w6.drew.heap.size → w6.drew.cell? ⟨b, j, none⟩ = some v → (w6.drew.alloc (.map #[] 0)).cell? ⟨b, j, none⟩ = some v := fun b j v hb hc => by rw [World.cell?_of_block (Below.heap_alloc _ _ _ hb)]; exact hc
  have k2 : ∀ (b j : Nat) (v : Value), b < w6.drew.heap.size → w6.drew.cell? ⟨b, j, none⟩ = some v → ((w6.drew.alloc (.map #[] 0)).alloc (.cells #[.map (some w6.drew.heap.size), .int .i64 n] 78)).cell? ⟨b, j, none⟩ = some v := fun b j v hb hc => by rw [World.cell?_of_block (Below.heap_alloc (w6.drew.alloc (.map #[] 0)) _ b (Nat.lt_of_lt_of_le hb (by rw [hs1]; exact Nat.le_succ _)))]; exact k1 b j v hb hc
  have p1 : w6.drew.cell? ⟨w2.heap.size, 1, none⟩ = some (.pointer (some ⟨lay (.E n), 0, none⟩)) := cell_of_row w6 _ 1 _ _ _ hpb6
  have p2 : w6.drew.cell? ⟨w2.heap.size, 2, none⟩ = some (.string ⟨nm.toArray⟩) := cell_of_row w6 _ 2 _ _ _ hpb6
  have p12 := k2 _ _ _ hPlt p1
  have p22 := k2 _ _ _ hPlt p2
  have hMlt : lay (.M n) < w2.heap.size := hst.is.lies.owns_lt ⟨.M n, by simp [Fs.obj, hd], rfl⟩
  have hMne : lay (.M n) ≠ w2.heap.size := by omega
  have hMEne : lay (.M n) ≠ lay (.E n) := hst.is.lies.ne (i := .M n) (j := .E n) (o := d.names.obj) (p := .cells #[.map (some (lay (.M n))), .int .i64 d.parent] 78 (0, 0)) (by simp [Fs.obj, hd]) (by simp [Fs.obj, hd]) (by simp)
  have fD1 := k1 _ _ _ hFlt fD
  have fD2 := k2 _ _ _ hFlt fD
  have p01 := k1 _ _ _ hPlt p0
  have p02 := k2 _ _ _ hPlt p0
  have hDF : lay .D ≠ lay .F := hall.is.lies.ne (i := .D) (j := .F) rfl rfl (by simp)
  have hDP : lay .D ≠ w2.heap.size := fun q => hown (by rw [← q]; exact ⟨.D, by simp [Fs.obj], rfl⟩)
  have hup : ∀ (o : Obj) (b j : Nat) (v : Value), lay .D ≠ b → ((w6.drew.alloc (.map #[] 0)).alloc (.cells #[.map (some w6.drew.heap.size), .int .i64 n] 78)).cell? ⟨b, j, none⟩ = some v → ({ ((w6.drew.alloc (.map #[] 0)).alloc (.cells #[.map (some w6.drew.heap.size), .int .i64 n] 78)) with heap := ((w6.drew.alloc (.map #[] 0)).alloc (.cells #[.map (some w6.drew.heap.size), .int .i64 n] 78)).heap.setIfInBounds (lay .D) o } : World).cell? ⟨b, j, none⟩ = some v := fun o b j v hne hc => by
    rw [World.cell?_of_block (w := ((w6.drew.alloc (.map #[] 0)).alloc (.cells #[.map (some w6.drew.heap.size), .int .i64 n] 78))) (by show (Array.setIfInBounds _ (lay .D) o)[b]? = _; rw [Array.getElem?_setIfInBounds, if_neg hne])]
    exact hc
  have fD3 := hup ((((s.setNd k (freshNd 2)).dmap (layN lay k p4 n4)).put (.int ((k : Int) + 1)) (ptrTo (w6.drew.heap.size + 1))).obj) _ _ _ hDF fD2
  have p03 := hup ((((s.setNd k (freshNd 2)).dmap (layN lay k p4 n4)).put (.int ((k : Int) + 1)) (ptrTo (w6.drew.heap.size + 1))).obj) _ _ _ hDP p02
  have p13 := hup ((((s.setNd k (freshNd 2)).dmap (layN lay k p4 n4)).put (.int ((k : Int) + 1)) (ptrTo (w6.drew.heap.size + 1))).obj) _ _ _ hDP p12
  have p23 := hup ((((s.setNd k (freshNd 2)).dmap (layN lay k p4 n4)).put (.int ((k : Int) + 1)) (ptrTo (w6.drew.heap.size + 1))).obj) _ _ _ hDP p22
  have hmk := fun W => run_makeMap (P := Tryz.prog) 76 W
  have hmu2 : (Instr.mapUpdate 49 (.map (some (lay .D))) (.int .i64 ((k : Int) + 1)) (.pointer (some ⟨w6.heap.size + 1, 0, none⟩))).run Tryz.prog ((w6.alloc (.map #[] 0)).alloc (.cells #[.map (some w6.heap.size), .int .i64 n] 78)).drew = .ok () { ((w6.drew.alloc (.map #[] 0)).alloc (.cells #[.map (some w6.drew.heap.size), .int .i64 n] 78)) with heap := ((w6.drew.alloc (.map #[] 0)).alloc (.cells #[.map (some w6.drew.heap.size), .int .i64 n] 78)).heap.setIfInBounds (lay .D) ((((s.setNd k (freshNd 2)).dmap (layN lay k p4 n4)).put (.int ((k : Int) + 1)) (ptrTo (w6.drew.heap.size + 1))).obj) } := hmu
  generalize hW7 : ({ ((w6.drew.alloc (.map #[] 0)).alloc (.cells #[.map (some w6.drew.heap.size), .int .i64 n] 78)) with heap := ((w6.drew.alloc (.map #[] 0)).alloc (.cells #[.map (some w6.drew.heap.size), .int .i64 n] 78)).heap.setIfInBounds (lay .D) ((((s.setNd k (freshNd 2)).dmap (layN lay k p4 n4)).put (.int ((k : Int) + 1)) (ptrTo (w6.drew.heap.size + 1))).obj) } : World) = W7 at *
  have HNEW : RowKit.Hid (Step s lay w ((s.setNd k (freshNd 2)).addDr ((k : Int) + 1) n) (layD (layN lay k p4 n4) ((k : Int) + 1) (w6.drew.heap.size + 1) w6.drew.heap.size) W7) := Lib.hid (by rw [← hW7]; exact hnew)
  clear hmu hnew hW7
  clear hst hst3 hst4 hst5 hst6 hst35 hst36 f0 f4 f5 f6 hpb3 HT HW HM HP k1 k2
  go_region_held3 (fun V => V.cell? ⟨lay .F, 1, none⟩ = some (.map (some (lay .D))) ∧ V.cell? ⟨w2.heap.size, 0, none⟩ = some (.int .i64 n)) (first | exact ⟨fD, p0⟩ | exact ⟨fD1, p01⟩ | exact ⟨fD2, p02⟩ | exact ⟨fD3, p03⟩ | go_keep) (fail)
  clear fD fD1 fD2 fD3 p0 p01 p02 p03 p1 p2 p12 p22 hmu2 hup hmk hD2 hs1 hDm
  have hd7 : ((s.setNd k (freshNd 2)).addDr ((k : Int) + 1) n).dr n = some d := by rw [addDr_dr hkd2, if_neg hnk]; exact hd2
  have hall7 := HNEW.out.drewN 1
  have lE : layD (layN lay k p4 n4) ((k : Int) + 1) (w6.drew.heap.size + 1) w6.drew.heap.size (.E n) = lay (.E n) := by simp [layD, layN, hnk]
  have lM : layD (layN lay k p4 n4) ((k : Int) + 1) (w6.drew.heap.size + 1) w6.drew.heap.size (.M n) = lay (.M n) := by simp [layD, layN, hnk]
  have p1 : W7.drew.cell? ⟨w2.heap.size, 1, none⟩ = some (.pointer (some ⟨lay (.E n), 0, none⟩)) := p13
  have p2 : W7.drew.cell? ⟨w2.heap.size, 2, none⟩ = some (.string ⟨nm.toArray⟩) := p23
  have e0 : W7.drew.cell? ⟨lay (.E n), 0, none⟩ = some (.map (some (lay (.M n)))) := by have := hall7.is.e0 hd7; rwa [lE, lM] at this
  have hM : W7.drew.heap[lay (.M n)]? = some d.names.obj := by have := hall7.is.lies.at_ (.M n) d.names.obj (by simp [Fs.obj, hd7]); rwa [lM] at this
  have hmu := GMap.store (P := Tryz.prog) (k := .str nm) (v := .int .i64 ((k : Int) + 1)) Tryz.underlying76 Tryz.underlying9 hno.of hM
  simp only [Key.val] at hmu
  have HF := Lib.hid (hall7.names hd7 (hno.put nm ((k : Int) + 1)))
  rw [lM] at HF
  have hother : ∀ (b j : Nat) (v : Value) (o : Obj), lay (.M n) ≠ b → W7.drew.cell? ⟨b, j, none⟩ = some v → ({ W7.drew with heap := W7.drew.heap.setIfInBounds (lay (.M n)) o } : World).cell? ⟨b, j, none⟩ = some v := fun b j v o hne hc => by
    rw [World.cell?_of_block (w := W7.drew) (by show (W7.drew.heap.setIfInBounds (lay (.M n)) o)[b]? = _; rw [Array.getElem?_setIfInBounds, if_neg hne])]
    exact hc
  have q1 : ({ W7.drew with heap := W7.drew.heap.setIfInBounds (lay (.M n)) (d.names.put (.str nm) (.int .i64 ((k : Int) + 1))).obj } : World).cell? ⟨w2.heap.size, 1, none⟩ = some (.pointer (some ⟨lay (.E n), 0, none⟩)) := hother _ _ _ _ hMne p1
  have q2 : ({ W7.drew with heap := W7.drew.heap.setIfInBounds (lay (.M n)) (d.names.put (.str nm) (.int .i64 ((k : Int) + 1))).obj } : World).cell? ⟨w2.heap.size, 2, none⟩ = some (.string ⟨nm.toArray⟩) := hother _ _ _ _ hMne p2
  have q0 : ({ W7.drew with heap := W7.drew.heap.setIfInBounds (lay (.M n)) (d.names.put (.str nm) (.int .i64 ((k : Int) + 1))).obj } : World).cell? ⟨lay (.E n), 0, none⟩ = some (.map (some (lay (.M n)))) := hother _ _ _ _ hMEne e0
  clear hother hM hall7 HNEW hall
  go_wp2_with fail
  go_region_held3 (fun W => W.cell? ⟨w2.heap.size, 1, none⟩ = some (.pointer (some ⟨lay (.E n), 0, none⟩)) ∧ W.cell? ⟨w2.heap.size, 2, none⟩ = some (.string ⟨nm.toArray⟩) ∧ W.cell? ⟨lay (.E n), 0, none⟩ = some (.map (some (lay (.M n))))) (first | exact ⟨p1, p2, e0⟩ | exact ⟨q1, q2, q0⟩ | go_keep) (fail)
  go_wp2_with fail
  go_ret2
  exact ⟨rfl, layD (layN lay k p4 n4) ((k : Int) + 1) (w6.drew.heap.size + 1) w6.drew.heap.size, rfl, HF.out⟩
end
end Go.Proofs.YtbecmcjibpamoaaGreatDoor
namespace Go.Proofs.YtbecmcjibpamoaaGreatDoor
open Go.RowKit IntWalk
def partsOf : Option Nd → List Int
  | some x => x.parts.es.map blockOf
  | none => []
def usedL (l : List (Option Nd)) : List Int := l.flatMap partsOf
def Fs.used (s : Fs) : List Int := usedL s.nodes
def freeN (l : List (Bool × List UInt8)) : Nat := (l.filter fun b => !b.1).length
structure Blk (s : Fs) : Prop where
  nodup : s.used.Nodup
  iff : ∀ b, b ∈ s.used ↔ (s.bk b).isSome = true
  free : s.free = freeN s.bs
theorem usedL_split {l : List (Option Nd)} {k : Nat} {o : Option Nd} (h : l[k]? = some o) : ∃ R, (usedL l).Perm (partsOf o ++ R) ∧ ∀ o', (usedL (l.set k o')).Perm (partsOf o' ++ R) := by
  induction l generalizing k with
  | nil => simp at h
  | cons a l ih =>
    cases k with
    | zero =>
      simp at h
      subst h
      exact ⟨usedL l, by simp [usedL], fun o' => by simp [usedL]⟩
    | succ k =>
      obtain ⟨R, h1, h2⟩ := ih (k := k) (by simpa using h)
      refine ⟨partsOf a ++ R, ?_, fun o' => ?_⟩
      · have : usedL (a :: l) = partsOf a ++ usedL l := by simp [usedL]
        rw [this]
        exact (h1.append_left _).trans (by
          rw [← List.append_assoc, ← List.append_assoc]
          exact List.perm_append_comm.append_right R)
      · have : usedL ((a :: l).set (k + 1) o') = partsOf a ++ usedL (l.set k o') := by simp [usedL]
        rw [this]
        exact ((h2 o').append_left _).trans (by
          rw [← List.append_assoc, ← List.append_assoc]
          exact List.perm_append_comm.append_right R)
theorem freeN_set {l : List (Bool × List UInt8)} {k : Nat} {b : Bool × List UInt8} (h : l[k]? = some b) (c : Bool × List UInt8) : freeN (l.set k c) + (if b.1 then 0 else 1) = freeN l + (if c.1 then 0 else 1) := by
  induction l generalizing k with
  | nil => simp at h
  | cons a l ih =>
    cases k with
    | zero =>
      simp at h
      subst h
      unfold freeN
      simp only [List.set_cons_zero, List.filter_cons]
      cases a.1 <;> cases c.1 <;> simp
    | succ k =>
      have := ih (k := k) (by simpa using h)
      unfold freeN at this ⊢
      simp only [List.set_cons_succ, List.filter_cons]
      cases a.1 <;> simp <;> omega
theorem bk_setB {s : Fs} {k : Nat} (hk : k < s.bs.length) (c : Bool × List UInt8) (b : Int) : ((s.setB k c).bk b).isSome = if b = k + 1 then c.1 else (s.bk b).isSome := by
  unfold Fs.bk Fs.setB
  by_cases h1 : b < 1
  · rw [if_pos h1, if_neg (by omega), if_pos h1]
  · rw [if_neg h1, if_neg h1]
    dsimp only
    by_cases e : b = k + 1
    · subst e
      rw [slotOf_eq, List.getElem?_set, if_pos rfl, if_pos hk, if_pos rfl]
      obtain ⟨t, l⟩ := c
      cases t <;> rfl
    · rw [if_neg e, List.getElem?_set, if_neg (by unfold slotOf; omega)]
theorem Blk.of {s s' : Fs} (h : Blk s) (hu : s'.used.Perm s.used) (hb : s'.bs = s.bs) (hf : s'.free = s.free) : Blk s' := by
  refine ⟨hu.nodup_iff.2 h.nodup, fun b => ?_, by rw [hf, hb]; exact h.free⟩
  rw [hu.mem_iff, h.iff]
  unfold Fs.bk
  rw [hb]
theorem Blk.setNd {s : Fs} (h : Blk s) {k : Nat} {x y : Nd} (hk : s.nodes[k]? = some (some y)) (hp : x.parts.es.map blockOf = y.parts.es.map blockOf) : Blk (s.setNd k x) := by
  refine h.of ?_ rfl rfl
  obtain ⟨R, h1, h2⟩ := usedL_split hk
  refine (h2 (some x)).trans ?_
  show (List.map blockOf x.parts.es ++ R).Perm s.used
  rw [hp]
  exact h1.symm
theorem Blk.newNd {s : Fs} (h : Blk s) {k : Nat} {x : Nd} (hk : s.nodes[k]? = some none) (hp : x.parts.es = []) : Blk (s.setNd k x) := by
  refine h.of ?_ rfl rfl
  obtain ⟨R, h1, h2⟩ := usedL_split hk
  refine (h2 (some x)).trans ?_
  show (List.map blockOf x.parts.es ++ R).Perm s.used
  rw [hp]
  exact h1.symm
theorem Blk.noNd {s : Fs} (h : Blk s) {k : Nat} {x : Nd} (hk : s.nodes[k]? = some (some x)) (hp : x.parts.es = []) : Blk (s.noNd k) := by
  refine h.of ?_ rfl rfl
  obtain ⟨R, h1, h2⟩ := usedL_split hk
  refine (h2 none).trans ?_
  have : partsOf (some x) = [] := by simp [partsOf, hp]
  rw [this] at h1
  exact h1.symm
theorem Blk.bytes {s : Fs} (h : Blk s) {k : Nat} {l l' : List UInt8} (hk : s.bs[k]? = some (true, l)) : Blk (s.setB k (true, l')) := by
  have hlt := (List.getElem?_eq_some_iff.1 hk).1
  refine ⟨h.nodup, fun b => ?_, ?_⟩
  · show b ∈ s.used ↔ _
    rw [h.iff, bk_setB hlt]
    by_cases e : b = k + 1
    · rw [if_pos e, e]
      have : s.bk ((k : Int) + 1) = some l := by
        unfold Fs.bk
        rw [if_neg (by omega), slotOf_eq, hk]
      simp [this]
    · rw [if_neg e]
  · have := freeN_set hk (true, l')
    simp at this
    show s.free = freeN (s.bs.set k (true, l'))
    rw [h.free, this]
theorem Blk.take {s : Fs} (h : Blk s) {k j : Nat} {x : Nd} {p : Int} (hk : s.nodes[k]? = some (some x)) (hx : PartsOk x.parts) (hp : x.part p = none) (hj : freeAt s.bs = some j) (h64 : s.bs.length ≤ 4096) : Blk (s.takeS k x p j) := by
  obtain ⟨l0, hl0⟩ := freeAt_some s.bs j hj
  have hlt := (List.getElem?_eq_some_iff.1 hl0).1
  have hput : (x.parts.put (.int p) (.int .i64 (j + 1))).es.map blockOf = x.parts.es.map blockOf ++ [((j : Int) + 1)] := by
    have hn := Nd.part_none hx hp
    unfold GMap.put
    dsimp only
    have : ∀ es : List (Key × Value × Nat), getE (.int p) es = none → (setE (.int p) (.int .i64 ((j : Int) + 1)) x.parts.clk es).map blockOf = es.map blockOf ++ [(j : Int) + 1] := by
      intro es
      induction es with
      | nil => intro _; rfl
      | cons e es ih =>
        intro he
        unfold getE at he
        split at he
        · cases he
        · rename_i hne
          unfold setE
          rw [if_neg hne, List.map_cons, ih he]
          rfl
    exact this _ hn
  obtain ⟨R, h1, h2⟩ := usedL_split hk
  have hperm : (s.takeS k x p j).used.Perm (((j : Int) + 1) :: s.used) := by
    refine (h2 _).trans ?_
    show (List.map blockOf (x.parts.put (.int p) (.int .i64 (j + 1))).es ++ R).Perm _
    rw [hput]
    refine List.Perm.trans ?_ (List.Perm.cons _ h1.symm)
    show (List.map blockOf x.parts.es ++ [(j : Int) + 1] ++ R).Perm (((j : Int) + 1) :: (List.map blockOf x.parts.es ++ R))
    rw [List.append_assoc]
    exact List.perm_middle
  have hnot : ((j : Int) + 1) ∉ s.used := by
    rw [h.iff]
    have : s.bk ((j : Int) + 1) = none := by
      unfold Fs.bk
      rw [if_neg (by omega), slotOf_eq, hl0]
    simp [this]
  refine ⟨hperm.nodup_iff.2 (List.nodup_cons.2 ⟨hnot, h.nodup⟩), fun b => ?_, ?_⟩
  · rw [hperm.mem_iff, List.mem_cons, h.iff]
    show _ ↔ ((s.setB j (true, zeros)).bk b).isSome = true
    rw [bk_setB hlt]
    by_cases e : b = j + 1
    · simp [e]
    · simp [e]
  · have := freeN_set hl0 (true, zeros)
    simp at this
    show decW s.free = freeN (s.bs.set j (true, zeros))
    have hf := h.free
    have hle : freeN s.bs ≤ s.bs.length := List.length_filter_le _ _
    unfold decW
    rw [hf, wrap64_in _ ⟨by omega, by omega⟩]
    omega
end Go.Proofs.YtbecmcjibpamoaaGreatDoor
