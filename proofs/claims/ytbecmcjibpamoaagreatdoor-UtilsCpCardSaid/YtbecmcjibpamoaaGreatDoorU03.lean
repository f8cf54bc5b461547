/- Texts of one proof, packed: MkA, MkB -/
import Derived.Test.YtbecmcjibpamoaaGreatDoorU02
set_option linter.unusedVariables false
set_option linter.unusedSimpArgs false
set_option linter.deprecated false
set_option linter.unnecessarySimpa false
/- names: a node is made at a path, of whatever kind: what is wrong; no node is left. -/
namespace Go.Proofs.YtbecmcjibpamoaaGreatDoor
open Go.RowKit IntWalk
set_option linter.unusedVariables false
set_option linter.unusedSimpArgs false

section
variable {W0 : World} {s : Fs} {lay : FId → Nat}
theorem mk_fail (kind : Int) (text : ByteArray) (hE : EnvG W0) (dir : Int) (path : List UInt8) (hpl : path.length ≤ 100000) (w : World) (h : FsIn W0 s lay w) (he : s.freeS dir path ≠ 0) :
    Calls Tryz.prog 17 #[ptrTo (lay .F), .int .i64 dir, .string ⟨path.toArray⟩, .int .i64 kind, .string text] w fun e w' => e = .returned (.tuple #[.int .i64 0, .int .i64 (s.freeS dir path)]) ∧ Step s lay w s lay w' := by
  have HP := Lib.hid (free_any hE dir path hpl w h)
  have HI := Lib.hid h
  clear h
  generalize s.freeS dir path = er at *
  have hpv : ∃ a b c, placeV lay (s.placeS dir path) = .agg #[.int .i64 a, .pointer b, .string c] := by
    unfold placeV ptrTo; split <;> exact ⟨_, _, _, rfl⟩
  obtain ⟨a, b, c, hpv⟩ := hpv
  rw [hpv] at HP
  clear hpv
  unfold ptrTo at *
  go_enter Tryz.func17, Tryz.ntmps17
  go_wp2_with (go_at_call 34; (with_reducible refine HP.out.mono ?_); rintro e w2 ⟨rfl, hst⟩; have her : (er == 0) = false := (by simpa using he))
  go_ret2
  exact ⟨rfl, hst.alloc _⟩
theorem mk_full (kind : Int) (text : ByteArray) (hk1 : 1 ≤ kind) (hk3 : kind ≤ 3) (hE : EnvG W0) (dir : Int) (path : List UInt8) (hpl : path.length ≤ 100000) (w : World) (h : FsIn W0 s lay w) (he : s.freeS dir path = 0) (hg : gapAt s.nodes = none) :
    Calls Tryz.prog 17 #[ptrTo (lay .F), .int .i64 dir, .string ⟨path.toArray⟩, .int .i64 kind, .string text] w fun e w' => e = .returned (.tuple #[.int .i64 0, .int .i64 21]) ∧ Step s lay w s lay w' := by
  have HP := Lib.hid (free_any hE dir path hpl w h)
  rw [he] at HP
  have HM := Lib.hid (fun (W : World) (hW : FsIs s lay W) => make_none kind hk1 hk3 W hW hg)
  clear h he
  have hpv : ∃ a b c, placeV lay (s.placeS dir path) = .agg #[.int .i64 a, .pointer b, .string c] := by
    unfold placeV ptrTo; split <;> exact ⟨_, _, _, rfl⟩
  obtain ⟨a, b, c, hpv⟩ := hpv
  rw [hpv] at HP
  clear hpv
  unfold ptrTo at *
  go_enter Tryz.func17, Tryz.ntmps17
  go_wp2_with first
    | (go_at_call 34; (with_reducible refine HP.out.mono ?_); rintro e w2 ⟨rfl, hst⟩; have hst3 := hst.alloc (Obj.cells #[.int .i64 a, .pointer b, .string c] 80); have f0 := hst3.is.f0; unfold ptrTo at f0)
    | (go_at_call 32; (with_reducible refine (HM.out _ hst3.is).mono ?_); rintro e w' ⟨rfl, rfl⟩)
  go_ret2
  exact ⟨rfl, hst3⟩
end
end Go.Proofs.YtbecmcjibpamoaaGreatDoor
/- names: a link is made: its node, its text, its name. -/
namespace Go.Proofs.YtbecmcjibpamoaaGreatDoor
open Go.RowKit IntWalk
set_option linter.unusedVariables false
set_option linter.unusedSimpArgs false

section
variable {W0 : World} {s : Fs} {lay : FId → Nat}
theorem into_dirs {s s2 : Fs} {k pos : Nat} {x x2 : Nd} {d : List UInt8} (h : s.into k x pos d = some (s2, x2)) : s2.dirs = s.dirs := by
  unfold Fs.into at h
  split at h
  · cases h; rfl
  · split at h
    · cases h; rfl
    · cases h
theorem writeL_dirs {k at_ : Nat} {d : List UInt8} : ∀ (fuel done : Nat) (s : Fs) (x : Nd), (Fs.writeL k at_ d fuel done s x).2.1.dirs = s.dirs
  | 0, _, _, _ => rfl
  | fuel + 1, done, s, x => by
    unfold Fs.writeL
    split
    · split
      · rename_i r hr
        rw [writeL_dirs fuel]
        exact into_dirs hr
      · rfl
    · rfl
theorem writeS_dirs (s : Fs) (k : Nat) (x : Nd) (at_ : Nat) (d : List UInt8) : (s.writeS k x at_ d).2.dirs = s.dirs := by
  have h := writeL_dirs (k := k) (at_ := at_) (d := d) (d.length + 1) 0 s x
  unfold Fs.writeS
  dsimp only
  split
  · exact h
  · exact h
theorem mk_link (t : List UInt8) (ht : t ≠ []) (ht2 : t.length ≤ 256) (hE : EnvG W0) (dir : Int) (path : List UInt8) (hpl : path.length ≤ 100000) (w : World) (h : FsIn W0 s lay w) (he : s.freeS dir path = 0) (k : Nat) (hg : gapAt s.nodes = some k) (n : Int) (nm : List UInt8) (hpp : s.placeS dir path = (n, nm, 0)) (d : Dr) (hd : s.dr n = some d) :
    Calls Tryz.prog 17 #[ptrTo (lay .F), .int .i64 dir, .string ⟨path.toArray⟩, .int .i64 3, .string ⟨t.toArray⟩] w fun e w' => ∃ m s2 lay', (m, s2) = (s.setNd k (freshNd 3)).writeS k (freshNd 3) 0 t ∧ lay' .F = lay .F ∧ ((m < t.length ∧ e = .returned (.tuple #[.int .i64 0, .int .i64 20]) ∧ Step s lay w (s2.untieS (k + 1)) lay' w') ∨ (t.length ≤ m ∧ e = .returned (.tuple #[.int .i64 (k + 1), .int .i64 0]) ∧ Step s lay w (s2.setDr n ⟨d.names.put (.str nm) (.int .i64 (k + 1)), d.parent⟩) lay' w')) := by
  have HP := Lib.hid (free_any hE dir path hpl w h)
  rw [he, hpp] at HP
  have HM := Lib.hid (fun (W : World) (hW : FsIs s lay W) => make_some 3 (by omega) (by omega) W hW k hg)
  have hnd := (gapAt_some _ _ hg).1
  have hlt := (List.getElem?_eq_some_iff.1 hnd).1
  have hnd1 : (s.setNd k (newNd 3)).nd ((k : Int) + 1) = some (newNd 3) := by
    unfold Fs.nd
    rw [if_neg (by omega), slotOf_eq, Fs.setNd_get, if_pos rfl, if_pos hlt]; rfl
  have hnd2 : (s.setNd k (freshNd 3)).nd ((k : Int) + 1) = some (freshNd 3) := by
    unfold Fs.nd
    rw [if_neg (by omega), slotOf_eq, Fs.setNd_get, if_pos rfl, if_pos hlt]; rfl
  have hs2 : (s.setNd k (newNd 3)).setNd (slotOf ((k : Int) + 1)) { newNd 3 with names := incW (newNd 3).names } = s.setNd k (freshNd 3) := by
    rw [slotOf_eq, setNd_setNd, show incW (newNd 3).names = 1 from by simp [incW, newNd, wrap64]]; rfl
  have HT := Lib.hid (fun (p m : Nat) (W : World) (hW : FsIs (s.setNd k (newNd 3)) (layN lay k p m) W) => show Calls Tryz.prog 33 #[.pointer (some ⟨lay .T, 0, none⟩), .int .i64 ((k : Int) + 1)] W fun e w' => e = .returned (.int .i64 0) ∧ Step (s.setNd k (newNd 3)) (layN lay k p m) W (s.setNd k (freshNd 3)) (layN lay k p m) w' from by
    have := tie_some ((k : Int) + 1) (newNd 3) W hW hnd1
    rw [hs2] at this
    exact this)
  obtain ⟨m, s2, hms⟩ : ∃ m s2, (m, s2) = (s.setNd k (freshNd 3)).writeS k (freshNd 3) 0 t := ⟨_, _, rfl⟩
  have HW := Lib.hid (fun (p q : Nat) (W : World) (hW : FsIs (s.setNd k (freshNd 3)) (layN lay k p q) W) => show Calls Tryz.prog 19 #[.pointer (some ⟨lay .T, 0, none⟩), .int .i64 ((k : Int) + 1), .int .i64 0, .string ⟨t.toArray⟩] W fun e w' => ∃ er : Int, e = .returned (.tuple #[.int .i64 m, .int .i64 er]) ∧ Step (s.setNd k (freshNd 3)) (layN lay k p q) W s2 (layN lay k p q) w' from by
    refine (write_some ((k : Int) + 1) (freshNd 3) 0 t W hW hnd2 (by intro p b hb; cases hb) ⟨by decide, by decide⟩ (by omega)).mono ?_
    rintro e w' ⟨n6, s6, h6, rfl, hst6⟩
    have h7 : (n6, s6) = (m, s2) := by
      rw [h6, hms, slotOf_eq, List.take_of_length_le (by omega)]
    cases h7
    exact ⟨_, rfl, hst6⟩)
  have hdirs : s2.dirs = s.dirs := by
    have := writeS_dirs (s.setNd k (freshNd 3)) k (freshNd 3) 0 t
    rw [← hms] at this
    exact this
  have hd2 : s2.dr n = some d := by unfold Fs.dr at hd ⊢; rw [hdirs]; exact hd
  have hno := names_of h.is hd
  have hkk : (k : Int) ≤ 1024 := by have := h.is.ok.nodes; omega
  clear h he hnd hnd1 hnd2 hs2 hpp
  have HMS := Lib.hid hms
  have HU := Lib.hid (fun (p q : Nat) (W : World) (hW : FsIs s2 (layN lay k p q) W) => show Calls Tryz.prog 35 #[.pointer (some ⟨lay .T, 0, none⟩), .int .i64 ((k : Int) + 1)] W fun e w' => (∃ c, e = .returned (.int .i64 c)) ∧ Step s2 (layN lay k p q) W (s2.untieS ((k : Int) + 1)) (layN lay k p q) w' from untie_any ((k : Int) + 1) W hW)
  have htl : (⟨t.toArray⟩ : ByteArray).size = t.length := rfl
  have htl2 : (t.length : Int) ≤ 256 := by omega
  by_cases hm : t.length ≤ m
  · have hm1 : ¬ (m : Int) < t.length := by omega
    clear hms hdirs
    rw [show placeV lay (n, nm, 0) = .agg #[.int .i64 n, ptrTo (lay (.E n)), .string ⟨nm.toArray⟩] from rfl] at HP
    unfold ptrTo at *
    go_enter Tryz.func17, Tryz.ntmps17
    go_wp2_with first
      | (go_at_call 34; (with_reducible refine HP.out.mono ?_); rintro e w2 ⟨rfl, hst⟩; have hst3 := hst.alloc (Obj.cells #[.int .i64 n, .pointer (some ⟨lay (.E n), 0, none⟩), .string ⟨nm.toArray⟩] 80); have f0 := hst3.is.f0; unfold ptrTo at f0)
      | (go_at_call 32; (with_reducible refine (HM.out _ hst3.is).mono ?_); rintro e w4 ⟨rfl, p4, n4, hst4⟩; have f4 : w4.cell? ⟨lay .F, 0, none⟩ = some (.pointer (some ⟨lay .T, 0, none⟩)) := hst4.is.f0)
      | (go_at_call 33; (with_reducible refine (HT.out p4 n4 _ hst4.is).mono ?_); rintro e w5 ⟨rfl, hst5⟩; have hst35 := hst4.trans hst5; have f5 : w5.cell? ⟨lay .F, 0, none⟩ = some (.pointer (some ⟨lay .T, 0, none⟩)) := hst5.is.f0)
      | (go_at_call 19; (with_reducible refine (HW.out p4 n4 _ hst35.is).mono ?_); rintro e w6 ⟨er6, rfl, hst6⟩; have f6 : w6.cell? ⟨lay .F, 0, none⟩ = some (.pointer (some ⟨lay .T, 0, none⟩)) := hst6.is.f0; have hst36 := hst35.trans hst6)
    have hpb3 := alloc_at w2 (Obj.cells #[.int .i64 n, .pointer (some ⟨lay (.E n), 0, none⟩), .string ⟨nm.toArray⟩] 80)
    have hown : ¬ Owns (s.obj lay) lay w2.heap.size := fun q => by have := hst.is.lies.owns_lt q; omega
    have hpb6 := (hst36.turned.block w2.heap.size (by simp) hown).trans hpb3
    have hall := (hst3.trans hst36).drewN 1
    have p1 : w6.drew.cell? ⟨w2.heap.size, 1, none⟩ = some (.pointer (some ⟨lay (.E n), 0, none⟩)) := cell_of_row w6 _ 1 _ _ _ hpb6
    have p2 : w6.drew.cell? ⟨w2.heap.size, 2, none⟩ = some (.string ⟨nm.toArray⟩) := cell_of_row w6 _ 2 _ _ _ hpb6
    have e0 : w6.drew.cell? ⟨lay (.E n), 0, none⟩ = some (.map (some (lay (.M n)))) := hall.is.e0 hd2
    have hM : w6.drew.heap[lay (.M n)]? = some d.names.obj := hall.is.lies.at_ (.M n) d.names.obj (by simp [Fs.obj, hd2])
    have hmu := GMap.store (P := Tryz.prog) (k := .str nm) (v := .int .i64 ((k : Int) + 1)) Tryz.underlying76 Tryz.underlying9 hno.of hM
    simp only [Key.val] at hmu
    have HF := Lib.hid (hall.names hd2 (hno.put nm ((k : Int) + 1)))
    have hMlt : lay (.M n) < w2.heap.size := hst.is.lies.owns_lt ⟨.M n, by simp [Fs.obj, hd], rfl⟩
    have hMne : lay (.M n) ≠ w2.heap.size := by omega
    have hMEne : lay (.M n) ≠ lay (.E n) := hst.is.lies.ne (i := .M n) (j := .E n) (o := d.names.obj) (p := .cells #[.map (some (lay (.M n))), .int .i64 d.parent] 78 (0, 0)) (by simp [Fs.obj, hd]) (by simp [Fs.obj, hd]) (by simp)
    have hother : ∀ (b j : Nat) (v : Value) (o : Obj), lay (.M n) ≠ b → w6.drew.cell? ⟨b, j, none⟩ = some v → ({ w6.drew with heap := w6.drew.heap.setIfInBounds (lay (.M n)) o } : World).cell? ⟨b, j, none⟩ = some v := fun b j v o hne hc => by
      rw [World.cell?_of_block (w := w6.drew) (by show (w6.drew.heap.setIfInBounds (lay (.M n)) o)[b]? = _; rw [Array.getElem?_setIfInBounds, if_neg hne])]
      exact hc
    have q1 : ({ w6.drew with heap := w6.drew.heap.setIfInBounds (lay (.M n)) (d.names.put (.str nm) (.int .i64 ((k : Int) + 1))).obj } : World).cell? ⟨w2.heap.size, 1, none⟩ = some (.pointer (some ⟨lay (.E n), 0, none⟩)) := hother _ _ _ _ hMne p1
    have q2 : ({ w6.drew with heap := w6.drew.heap.setIfInBounds (lay (.M n)) (d.names.put (.str nm) (.int .i64 ((k : Int) + 1))).obj } : World).cell? ⟨w2.heap.size, 2, none⟩ = some (.string ⟨nm.toArray⟩) := hother _ _ _ _ hMne p2
    have q0 : ({ w6.drew with heap := w6.drew.heap.setIfInBounds (lay (.M n)) (d.names.put (.str nm) (.int .i64 ((k : Int) + 1))).obj } : World).cell? ⟨lay (.E n), 0, none⟩ = some (.map (some (lay (.M n)))) := hother _ _ _ _ hMEne e0
    clear hother hst hst3 hst4 hst5 hst6 hst35 hst36 f0 f4 f5 hpb3 hpb6 hall hM HT HW HM HP
    go_region_held3 (fun W => W.cell? ⟨w2.heap.size, 1, none⟩ = some (.pointer (some ⟨lay (.E n), 0, none⟩)) ∧ W.cell? ⟨w2.heap.size, 2, none⟩ = some (.string ⟨nm.toArray⟩) ∧ W.cell? ⟨lay (.E n), 0, none⟩ = some (.map (some (lay (.M n))))) (first | exact ⟨p1, p2, e0⟩ | exact ⟨q1, q2, q0⟩ | go_keep) (fail)
    go_wp2_with fail
    go_ret2
    first | exact ⟨m, s2, layN lay k p4 n4, HMS.out, rfl, .inr ⟨hm, rfl, HF.out⟩⟩ | exact ⟨m, s2, HMS.out, layN lay k p4 n4, rfl, .inr ⟨hm, rfl, HF.out⟩⟩
  · have hm1 : (m : Int) < t.length := by omega
    clear hms hdirs
    rw [show placeV lay (n, nm, 0) = .agg #[.int .i64 n, ptrTo (lay (.E n)), .string ⟨nm.toArray⟩] from rfl] at HP
    unfold ptrTo at *
    go_enter Tryz.func17, Tryz.ntmps17
    go_wp2_with first
      | (go_at_call 34; (with_reducible refine HP.out.mono ?_); rintro e w2 ⟨rfl, hst⟩; have hst3 := hst.alloc (Obj.cells #[.int .i64 n, .pointer (some ⟨lay (.E n), 0, none⟩), .string ⟨nm.toArray⟩] 80); have f0 := hst3.is.f0; unfold ptrTo at f0)
      | (go_at_call 32; (with_reducible refine (HM.out _ hst3.is).mono ?_); rintro e w4 ⟨rfl, p4, n4, hst4⟩; have f4 : w4.cell? ⟨lay .F, 0, none⟩ = some (.pointer (some ⟨lay .T, 0, none⟩)) := hst4.is.f0)
      | (go_at_call 33; (with_reducible refine (HT.out p4 n4 _ hst4.is).mono ?_); rintro e w5 ⟨rfl, hst5⟩; have hst35 := hst4.trans hst5; have f5 : w5.cell? ⟨lay .F, 0, none⟩ = some (.pointer (some ⟨lay .T, 0, none⟩)) := hst5.is.f0)
      | (go_at_call 19; (with_reducible refine (HW.out p4 n4 _ hst35.is).mono ?_); rintro e w6 ⟨er6, rfl, hst6⟩; have f6 : w6.cell? ⟨lay .F, 0, none⟩ = some (.pointer (some ⟨lay .T, 0, none⟩)) := hst6.is.f0; have hst36 := hst35.trans hst6)
      | (go_at_call 35; (with_reducible refine (HU.out p4 n4 _ hst36.is).mono ?_); rintro e w7 ⟨⟨c7, rfl⟩, hst7⟩; have hst37 := (hst3.trans hst36).trans hst7)
    go_ret2
    first | exact ⟨m, s2, layN lay k p4 n4, HMS.out, rfl, .inl ⟨by omega, rfl, hst37⟩⟩ | exact ⟨m, s2, HMS.out, layN lay k p4 n4, rfl, .inl ⟨by omega, rfl, hst37⟩⟩
end
end Go.Proofs.YtbecmcjibpamoaaGreatDoor
