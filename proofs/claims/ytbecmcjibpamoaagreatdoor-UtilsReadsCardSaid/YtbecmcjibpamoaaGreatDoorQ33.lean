/- NoA NoB NoC NoD NoE NoF -/
import Derived.Test.YtbecmcjibpamoaaGreatDoorQ26
set_option linter.unusedVariables false
set_option linter.unusedSimpArgs false
set_option linter.deprecated false
set_option linter.unnecessarySimpa false
namespace Go.Proofs.YtbecmcjibpamoaaGreatDoor
open Go.RowKit IntWalk
section
variable {W0 : World} {s s' : Fs} {lay lay' : FId → Nat} {w w' : World}
def Fs.setDr (s : Fs) (i : Int) (d : Dr) : Fs := { s with dirs := s.dirs.map fun e => if e.1 = i then (e.1, d, e.2.2) else e }
theorem dirE_set (i : Int) (d : Dr) : ∀ (l : List (Int × Dr × Nat)) (j : Int), dirE j (l.map fun e => if e.1 = i then (e.1, d, e.2.2) else e) = if j = i then (dirE j l).map (fun _ => d) else dirE j l
  | [], j => by simp [dirE]
  | e :: l, j => by
    have ih := dirE_set i d l j
    rw [List.map_cons]
    by_cases h : e.1 = i
    · rw [if_pos h]
      unfold dirE
      by_cases q : e.1 = j
      · rw [if_pos q, if_pos (by rw [← q, h]), if_pos q]; rfl
      · rw [if_neg q, if_neg q, ih]
    · rw [if_neg h]
      unfold dirE
      by_cases q : e.1 = j
      · rw [if_pos q, if_neg (by rw [← q]; exact h), if_pos q]
      · rw [if_neg q, if_neg q, ih]
theorem setDr_dr (i : Int) (d : Dr) (j : Int) : (s.setDr i d).dr j = if j = i then (s.dr j).map (fun _ => d) else s.dr j := dirE_set i d s.dirs j
theorem setDr_dmap (i : Int) (d : Dr) : (s.setDr i d).dmap lay = s.dmap lay := by
  unfold Fs.dmap Fs.setDr
  simp only [List.map_map]
  congr 1
  apply List.map_congr_left
  intro e _
  show (fun e => (Key.int e.1, ptrTo (lay (.E e.1)), e.2.2)) (if e.1 = i then (e.1, d, e.2.2) else e) = _
  split <;> rfl
theorem setDr_obj {i : Int} {d d0 : Dr} (hd : s.dr i = some d0) (hp : d.parent = d0.parent) (j : FId) : (s.setDr i d).obj lay j = if j = .M i then some d.names.obj else s.obj lay j := by
  cases j with
  | D => rw [if_neg (by simp)]; show some ((s.setDr i d).dmap lay).obj = _; rw [setDr_dmap]; rfl
  | E k =>
    rw [if_neg (by simp)]
    simp only [Fs.obj, setDr_dr]
    by_cases q : k = i
    · subst q; rw [if_pos rfl, hd]; simp [hp]
    · rw [if_neg q]
  | M k =>
    simp only [Fs.obj, setDr_dr, FId.M.injEq]
    by_cases q : k = i
    · subst q; rw [if_pos rfl, if_pos rfl, hd]; rfl
    · rw [if_neg q, if_neg q]
  | _ => rw [if_neg (by simp)]; rfl
theorem Fs.Ok.setDr (h : s.Ok) (i : Int) {d : Dr} (hd : NamesOk d.names) : (s.setDr i d).Ok :=
  ⟨h.nodes, h.blocks, h.bytes, h.parts, fun e he => by
    obtain ⟨x, hx, rfl⟩ := List.mem_map.1 he
    split
    · exact hd
    · exact h.names x hx, by
    have : (s.setDr i d).dirs.map (fun e => (Key.int e.1, e.2.2)) = s.dirs.map (fun e => (Key.int e.1, e.2.2)) := by
      unfold Fs.setDr
      rw [List.map_map]
      apply List.map_congr_left
      intro e _
      show (fun e : Int × Dr × Nat => (Key.int e.1, e.2.2)) (if e.1 = i then (e.1, d, e.2.2) else e) = _
      split <;> rfl
    show GoodE ((s.setDr i d).dirs.map (fun e => (Key.int e.1, e.2.2))) s.clk
    rw [this]; exact h.dirs⟩
theorem Step.names (h : Step s lay w s' lay' w') {i : Int} {d0 : Dr} (hd : s'.dr i = some d0) {m : GMap} (hm : NamesOk m) :
    Step s lay w (s'.setDr i ⟨m, d0.parent⟩) lay' { w' with heap := w'.heap.setIfInBounds (lay' (.M i)) m.obj } := by
  have hn : s'.obj lay' (.M i) = some d0.names.obj := by simp [Fs.obj, hd]
  have hown : Owns (s'.obj lay') lay' (lay' (.M i)) := ⟨.M i, by rw [hn]; simp, rfl⟩
  have hobj := fun j => setDr_obj (s := s') (lay := lay') (d := ⟨m, d0.parent⟩) hd rfl j
  refine ⟨⟨h.is.lies.put hn hobj, h.is.ok.setDr i hm⟩, h.turned.put _ _ (fun hlt => (h.own _ hown).resolve_right (by simpa using hlt)), fun b hb => ?_⟩
  obtain ⟨j, hj, rfl⟩ := hb
  refine h.own _ ⟨j, fun e => hj ?_, rfl⟩
  rw [hobj]
  by_cases q : j = .M i
  · rw [q, hn] at e; cases e
  · rw [if_neg q, e]
theorem NamesOk.put {m : GMap} (h : NamesOk m) (t : List UInt8) (b : Int) : NamesOk (m.put (.str t) (.int .i64 b)) :=
  ⟨h.good.put _ _, fun e he => by
    rcases setE_mem he with q | ⟨q1, q2⟩
    · exact h.ints e q
    · exact ⟨t, b, q1, q2⟩⟩
theorem NamesOk.del {m : GMap} (h : NamesOk m) (k : Key) : NamesOk (m.del k) := ⟨h.good.del k, fun e he => h.ints e (delE_sub e he)⟩
def freshNd (kind : Int) : Nd := ⟨1, 0, kind, 0, GMap.empty⟩
def Fs.makeS (s : Fs) (dir : Int) (path : List UInt8) : Int × Int × Fs :=
  if s.freeS dir path ≠ 0 then (0, s.freeS dir path, s)
  else match gapAt s.nodes with
    | none => (0, 21, s)
    | some k => match s.dr (s.placeS dir path).1 with
      | none => (0, 0, s)
      | some d => (k + 1, 0, (s.setNd k (freshNd 1)).setDr (s.placeS dir path).1 ⟨d.names.put (.str (s.placeS dir path).2.1) (.int .i64 (k + 1)), d.parent⟩)
theorem make_fail (hE : EnvG W0) (dir : Int) (path : List UInt8) (hpl : path.length ≤ 100000) (w : World) (h : FsIn W0 s lay w) (he : s.freeS dir path ≠ 0) :
    Calls Tryz.prog 17 #[ptrTo (lay .F), .int .i64 dir, .string ⟨path.toArray⟩, .int .i64 1, .string ByteArray.empty] w fun e w' => e = .returned (.tuple #[.int .i64 0, .int .i64 (s.freeS dir path)]) ∧ Step s lay w s lay w' := by
  have HP := Lib.hid (free_any hE dir path hpl w h)
  have HI := Lib.hid h
  clear h
  generalize s.freeS dir path = er at *
  have hpv : ∃ a b c, placeV lay (s.placeS dir path) = .agg #[.int .i64 a, .pointer b, .string c] := by
    unfold placeV ptrTo; split <;> exact ⟨_, _, _, rfl⟩
  obtain ⟨a, b, c, hpv⟩ := hpv
  rw [hpv] at HP
  clear hpv
  unfold ptrTo at *
  go_enter Tryz.func17, Tryz.ntmps17
  go_wp2_with (go_at_call 34; (with_reducible refine HP.out.mono ?_); rintro e w2 ⟨rfl, hst⟩; have her : (er == 0) = false := (by simpa using he))
  go_ret2
  exact ⟨rfl, hst.alloc _⟩
theorem make_full (hE : EnvG W0) (dir : Int) (path : List UInt8) (hpl : path.length ≤ 100000) (w : World) (h : FsIn W0 s lay w) (he : s.freeS dir path = 0) (hg : gapAt s.nodes = none) :
    Calls Tryz.prog 17 #[ptrTo (lay .F), .int .i64 dir, .string ⟨path.toArray⟩, .int .i64 1, .string ByteArray.empty] w fun e w' => e = .returned (.tuple #[.int .i64 0, .int .i64 21]) ∧ Step s lay w s lay w' := by
  have HP := Lib.hid (free_any hE dir path hpl w h)
  rw [he] at HP
  have HM := Lib.hid (fun (W : World) (hW : FsIs s lay W) => make_none 1 (by omega) (by omega) W hW hg)
  clear h he
  have hpv : ∃ a b c, placeV lay (s.placeS dir path) = .agg #[.int .i64 a, .pointer b, .string c] := by
    unfold placeV ptrTo; split <;> exact ⟨_, _, _, rfl⟩
  obtain ⟨a, b, c, hpv⟩ := hpv
  rw [hpv] at HP
  clear hpv
  unfold ptrTo at *
  go_enter Tryz.func17, Tryz.ntmps17
  go_wp2_with first
    | (go_at_call 34; (with_reducible refine HP.out.mono ?_); rintro e w2 ⟨rfl, hst⟩; have hst3 := hst.alloc (Obj.cells #[.int .i64 a, .pointer b, .string c] 80); have f0 := hst3.is.f0; unfold ptrTo at f0)
    | (go_at_call 32; (with_reducible refine (HM.out _ hst3.is).mono ?_); rintro e w' ⟨rfl, rfl⟩)
  go_ret2
  exact ⟨rfl, hst3⟩
theorem make_ok (hE : EnvG W0) (dir : Int) (path : List UInt8) (hpl : path.length ≤ 100000) (w : World) (h : FsIn W0 s lay w) (he : s.freeS dir path = 0) (k : Nat) (hg : gapAt s.nodes = some k) (n : Int) (nm : List UInt8) (hpp : s.placeS dir path = (n, nm, 0)) (d : Dr) (hd : s.dr n = some d) :
    Calls Tryz.prog 17 #[ptrTo (lay .F), .int .i64 dir, .string ⟨path.toArray⟩, .int .i64 1, .string ByteArray.empty] w fun e w' => e = .returned (.tuple #[.int .i64 (k + 1), .int .i64 0]) ∧ ∃ lay', lay' .F = lay .F ∧ Step s lay w ((s.setNd k (freshNd 1)).setDr n ⟨d.names.put (.str nm) (.int .i64 (k + 1)), d.parent⟩) lay' w' := by
  have HP := Lib.hid (free_any hE dir path hpl w h)
  rw [he, hpp] at HP
  have HM := Lib.hid (fun (W : World) (hW : FsIs s lay W) => make_some 1 (by omega) (by omega) W hW k hg)
  have hnd := (gapAt_some _ _ hg).1
  have hlt := (List.getElem?_eq_some_iff.1 hnd).1
  have hnd1 : (s.setNd k (newNd 1)).nd ((k : Int) + 1) = some (newNd 1) := by
    unfold Fs.nd
    rw [if_neg (by omega), slotOf_eq, Fs.setNd_get, if_pos rfl, if_pos hlt]; rfl
  have hnd2 : (s.setNd k (freshNd 1)).nd ((k : Int) + 1) = some (freshNd 1) := by
    unfold Fs.nd
    rw [if_neg (by omega), slotOf_eq, Fs.setNd_get, if_pos rfl, if_pos hlt]; rfl
  have hs2 : (s.setNd k (newNd 1)).setNd (slotOf ((k : Int) + 1)) { newNd 1 with names := incW (newNd 1).names } = s.setNd k (freshNd 1) := by
    rw [slotOf_eq, setNd_setNd, show incW (newNd 1).names = 1 from by simp [incW, newNd, wrap64]]; rfl
  have HT := Lib.hid (fun (p m : Nat) (W : World) (hW : FsIs (s.setNd k (newNd 1)) (layN lay k p m) W) => show Calls Tryz.prog 33 #[.pointer (some ⟨lay .T, 0, none⟩), .int .i64 ((k : Int) + 1)] W fun e w' => e = .returned (.int .i64 0) ∧ Step (s.setNd k (newNd 1)) (layN lay k p m) W (s.setNd k (freshNd 1)) (layN lay k p m) w' from by
    have := tie_some ((k : Int) + 1) (newNd 1) W hW hnd1
    rw [hs2] at this
    exact this)
  have HW := Lib.hid (fun (p m : Nat) (W : World) (hW : FsIs (s.setNd k (freshNd 1)) (layN lay k p m) W) => show Calls Tryz.prog 19 #[.pointer (some ⟨lay .T, 0, none⟩), .int .i64 ((k : Int) + 1), .int .i64 0, .string ByteArray.empty] W fun e w' => e = .returned (.tuple #[.int .i64 0, .int .i64 0]) ∧ Step (s.setNd k (freshNd 1)) (layN lay k p m) W (s.setNd k (freshNd 1)) (layN lay k p m) w' from by
    refine (write_some ((k : Int) + 1) (freshNd 1) 0 [] W hW hnd2 (by intro p b hb; cases hb) ⟨by decide, by decide⟩ (by omega)).mono ?_
    rintro e w' ⟨n6, s6, h6, rfl, hst6⟩
    have h7 : (n6, s6) = (0, s.setNd k (freshNd 1)) := by rw [h6, List.take_nil]; rfl
    cases h7
    exact ⟨rfl, hst6⟩)
  have hd2 : (s.setNd k (freshNd 1)).dr n = some d := hd
  have hno := names_of h.is hd
  have hkk : (k : Int) ≤ 1024 := by have := h.is.ok.nodes; omega
  clear h he hnd hnd1 hnd2 hs2 hpp
  rw [show placeV lay (n, nm, 0) = .agg #[.int .i64 n, ptrTo (lay (.E n)), .string ⟨nm.toArray⟩] from rfl] at HP
  unfold ptrTo at *
  go_enter Tryz.func17, Tryz.ntmps17
  go_wp2_with first
    | (go_at_call 34; (with_reducible refine HP.out.mono ?_); rintro e w2 ⟨rfl, hst⟩; have hst3 := hst.alloc (Obj.cells #[.int .i64 n, .pointer (some ⟨lay (.E n), 0, none⟩), .string ⟨nm.toArray⟩] 80); have f0 := hst3.is.f0; unfold ptrTo at f0)
    | (go_at_call 32; (with_reducible refine (HM.out _ hst3.is).mono ?_); rintro e w4 ⟨rfl, p4, n4, hst4⟩; have f4 : w4.cell? ⟨lay .F, 0, none⟩ = some (.pointer (some ⟨lay .T, 0, none⟩)) := hst4.is.f0)
    | (go_at_call 33; (with_reducible refine (HT.out p4 n4 _ hst4.is).mono ?_); rintro e w5 ⟨rfl, hst5⟩; have hst35 := hst4.trans hst5; have f5 : w5.cell? ⟨lay .F, 0, none⟩ = some (.pointer (some ⟨lay .T, 0, none⟩)) := hst5.is.f0)
    | (go_at_call 19; (with_reducible refine (HW.out p4 n4 _ hst35.is).mono ?_); rintro e w6 ⟨rfl, hst6⟩; have hst36 := hst35.trans hst6)
  have hpb3 := alloc_at w2 (Obj.cells #[.int .i64 n, .pointer (some ⟨lay (.E n), 0, none⟩), .string ⟨nm.toArray⟩] 80)
  have hown : ¬ Owns (s.obj lay) lay w2.heap.size := fun q => by have := hst.is.lies.owns_lt q; omega
  have hpb6 := (hst36.turned.block w2.heap.size (by simp) hown).trans hpb3
  have hall := (hst3.trans hst36).drewN 1
  have p1 : w6.drew.cell? ⟨w2.heap.size, 1, none⟩ = some (.pointer (some ⟨lay (.E n), 0, none⟩)) := cell_of_row w6 _ 1 _ _ _ hpb6
  have p2 : w6.drew.cell? ⟨w2.heap.size, 2, none⟩ = some (.string ⟨nm.toArray⟩) := cell_of_row w6 _ 2 _ _ _ hpb6
  have e0 : w6.drew.cell? ⟨lay (.E n), 0, none⟩ = some (.map (some (lay (.M n)))) := hall.is.e0 hd2
  have hM : w6.drew.heap[lay (.M n)]? = some d.names.obj := hall.is.lies.at_ (.M n) d.names.obj (by simp [Fs.obj, hd2])
  have hmu := GMap.store (P := Tryz.prog) (k := .str nm) (v := .int .i64 ((k : Int) + 1)) Tryz.underlying76 Tryz.underlying9 hno.of hM
  simp only [Key.val] at hmu
  have HF := Lib.hid (hall.names hd2 (hno.put nm ((k : Int) + 1)))
  have hMlt : lay (.M n) < w2.heap.size := hst.is.lies.owns_lt ⟨.M n, by simp [Fs.obj, hd], rfl⟩
  have hMne : lay (.M n) ≠ w2.heap.size := by omega
  have hMEne : lay (.M n) ≠ lay (.E n) := hst.is.lies.ne (i := .M n) (j := .E n) (o := d.names.obj) (p := .cells #[.map (some (lay (.M n))), .int .i64 d.parent] 78 (0, 0)) (by simp [Fs.obj, hd]) (by simp [Fs.obj, hd]) (by simp)
  have hother : ∀ (b j : Nat) (v : Value) (o : Obj), lay (.M n) ≠ b → w6.drew.cell? ⟨b, j, none⟩ = some v → ({ w6.drew with heap := w6.drew.heap.setIfInBounds (lay (.M n)) o } : World).cell? ⟨b, j, none⟩ = some v := fun b j v o hne hc => by
    rw [World.cell?_of_block (w := w6.drew) (by show (w6.drew.heap.setIfInBounds (lay (.M n)) o)[b]? = _; rw [Array.getElem?_setIfInBounds, if_neg hne])]
    exact hc
  have q1 : ({ w6.drew with heap := w6.drew.heap.setIfInBounds (lay (.M n)) (d.names.put (.str nm) (.int .i64 ((k : Int) + 1))).obj } : World).cell? ⟨w2.heap.size, 1, none⟩ = some (.pointer (some ⟨lay (.E n), 0, none⟩)) := hother _ _ _ _ hMne p1
  have q2 : ({ w6.drew with heap := w6.drew.heap.setIfInBounds (lay (.M n)) (d.names.put (.str nm) (.int .i64 ((k : Int) + 1))).obj } : World).cell? ⟨w2.heap.size, 2, none⟩ = some (.string ⟨nm.toArray⟩) := hother _ _ _ _ hMne p2
  have q0 : ({ w6.drew with heap := w6.drew.heap.setIfInBounds (lay (.M n)) (d.names.put (.str nm) (.int .i64 ((k : Int) + 1))).obj } : World).cell? ⟨lay (.E n), 0, none⟩ = some (.map (some (lay (.M n)))) := hother _ _ _ _ hMEne e0
  clear hother hst hst3 hst4 hst5 hst6 hst35 hst36 f0 f4 f5 hpb3 hpb6 hall hM HT HW HM HP
  go_region_held3 (fun W => W.cell? ⟨w2.heap.size, 1, none⟩ = some (.pointer (some ⟨lay (.E n), 0, none⟩)) ∧ W.cell? ⟨w2.heap.size, 2, none⟩ = some (.string ⟨nm.toArray⟩) ∧ W.cell? ⟨lay (.E n), 0, none⟩ = some (.map (some (lay (.M n))))) (first | exact ⟨p1, p2, e0⟩ | exact ⟨q1, q2, q0⟩ | go_keep) (fail)
  go_wp2_with fail
  go_ret2
  exact ⟨rfl, layN lay k p4 n4, rfl, HF.out⟩
theorem made_any (hE : EnvG W0) (dir : Int) (path : List UInt8) (hpl : path.length ≤ 100000) (w : World) (h : FsIn W0 s lay w) :
    Calls Tryz.prog 17 #[ptrTo (lay .F), .int .i64 dir, .string ⟨path.toArray⟩, .int .i64 1, .string ByteArray.empty] w fun e w' => e = .returned (.tuple #[.int .i64 (s.makeS dir path).1, .int .i64 (s.makeS dir path).2.1]) ∧ ∃ lay', lay' .F = lay .F ∧ Step s lay w (s.makeS dir path).2.2 lay' w' := by
  unfold Fs.makeS
  by_cases he : s.freeS dir path = 0
  · rw [if_neg (by simpa using he)]
    cases hg : gapAt s.nodes with
    | none => exact (make_full hE dir path hpl w h he hg).mono (by rintro e w' ⟨rfl, hs⟩; exact ⟨rfl, lay, rfl, hs⟩)
    | some k =>
      obtain ⟨n, nm, e, hr⟩ : ∃ n nm e, s.placeS dir path = (n, nm, e) := ⟨_, _, _, rfl⟩
      have he0 : e = 0 := by
        unfold Fs.freeS at he
        rw [hr] at he
        dsimp only at he
        by_cases q : e = 0
        · exact q
        · rw [if_pos q] at he; exact absurd he q
      subst he0
      obtain ⟨d, hd, _, _⟩ := placeS_dir (s := s) (dir := dir) (path := path) (by rw [hr])
      rw [hr] at hd
      have hdr := dirOf_dr hd
      dsimp only at hdr ⊢
      rw [hr]
      dsimp only
      rw [hdr]
      exact make_ok hE dir path hpl w h he k hg n nm hr d hdr
  · rw [if_pos he]
    exact (make_fail hE dir path hpl w h he).mono (by rintro e w' ⟨rfl, hs⟩; exact ⟨rfl, lay, rfl, hs⟩)
theorem make_any (hE : EnvG W0) (dir : Int) (path : List UInt8) (hpl : path.length ≤ 100000) (w : World) (h : FsIn W0 s lay w) :
    Calls Tryz.prog 7 #[ptrTo (lay .F), .int .i64 dir, .string ⟨path.toArray⟩] w fun e w' => e = .returned (.tuple #[.int .i64 (s.makeS dir path).1, .int .i64 (s.makeS dir path).2.1]) ∧ ∃ lay', lay' .F = lay .F ∧ Step s lay w (s.makeS dir path).2.2 lay' w' := by
  have HM := Lib.hid (made_any hE dir path hpl w h)
  clear h
  generalize s.makeS dir path = r at *
  unfold ptrTo at *
  go_enter Tryz.func7, Tryz.ntmps7
  go_wp2_with (go_at_call 17; refine HM.out.mono ?_; rintro e w' ⟨rfl, hs⟩)
  go_ret2
  exact ⟨rfl, hs⟩
end
end Go.Proofs.YtbecmcjibpamoaaGreatDoor
namespace Go.Proofs.YtbecmcjibpamoaaGreatDoor
open Go.RowKit IntWalk
section
variable {W0 : World} {s : Fs} {lay : FId → Nat}
end
end Go.Proofs.YtbecmcjibpamoaaGreatDoor
namespace Go.Proofs.YtbecmcjibpamoaaGreatDoor
open Go.RowKit IntWalk
section
variable {W0 : World} {s : Fs} {lay : FId → Nat}
def Fs.untieS (s : Fs) (i : Int) : Fs := match s.nd i with
  | none => s
  | some x => if x.names = 0 then s else s.lessS i { x with names := decW x.names }
theorem untie_any (i : Int) (w : World) (h : FsIs s lay w) : Calls Tryz.prog 35 #[ptrTo (lay .T), .int .i64 i] w fun e w' => (∃ c, e = .returned (.int .i64 c)) ∧ Step s lay w (s.untieS i) lay w' := by
  unfold Fs.untieS
  cases hn : s.nd i with
  | none => exact (untie_none i w h hn).mono (by rintro e w' ⟨rfl, rfl⟩; exact ⟨⟨_, rfl⟩, Step.refl h⟩)
  | some x =>
    dsimp only
    by_cases hx : x.names = 0
    · rw [if_pos hx]; exact (untie_zero i x w h hn hx).mono (by rintro e w' ⟨rfl, rfl⟩; exact ⟨⟨_, rfl⟩, Step.refl h⟩)
    · rw [if_neg hx]; exact (untie_some i x w h hn hx).mono (by rintro e w' ⟨rfl, hs⟩; exact ⟨⟨_, rfl⟩, hs⟩)
end
end Go.Proofs.YtbecmcjibpamoaaGreatDoor
namespace Go.Proofs.YtbecmcjibpamoaaGreatDoor
open Go.RowKit IntWalk
section
variable {W0 : World} {s : Fs} {lay : FId → Nat}
def Fs.holdS (s : Fs) (i : Int) : Int × Fs := match s.nd i with
  | none => (23, s)
  | some x => (0, s.setNd (slotOf i) { x with users := incW x.users })
def Fs.looseS (s : Fs) (i : Int) : Int × Fs := match s.nd i with
  | none => (23, s)
  | some x => if x.users = 0 then (23, s) else (0, s.lessS i { x with users := decW x.users })
theorem ihold_any (i : Int) (w : World) (h : FsIs s lay w) : Calls Tryz.prog 169 #[ptrTo (lay .T), .int .i64 i] w fun e w' => e = .returned (.int .i64 (s.holdS i).1) ∧ Step s lay w (s.holdS i).2 lay w' := by
  unfold Fs.holdS
  cases hn : s.nd i with
  | none => exact (hold_none i w h hn).mono (by rintro e w' ⟨rfl, rfl⟩; exact ⟨rfl, Step.refl h⟩)
  | some x => exact hold_some i x w h hn
theorem iloose_any (i : Int) (w : World) (h : FsIs s lay w) : Calls Tryz.prog 170 #[ptrTo (lay .T), .int .i64 i] w fun e w' => e = .returned (.int .i64 (s.looseS i).1) ∧ Step s lay w (s.looseS i).2 lay w' := by
  unfold Fs.looseS
  cases hn : s.nd i with
  | none => exact (loose_none i w h hn).mono (by rintro e w' ⟨rfl, rfl⟩; exact ⟨rfl, Step.refl h⟩)
  | some x =>
    dsimp only
    by_cases hx : x.users = 0
    · rw [if_pos hx]; exact (loose_zero i x w h hn hx).mono (by rintro e w' ⟨rfl, rfl⟩; exact ⟨rfl, Step.refl h⟩)
    · rw [if_neg hx]; exact loose_some i x w h hn hx
theorem hold_any (i : Int) (w : World) (h : FsIs s lay w) : Calls Tryz.prog 125 #[ptrTo (lay .F), .int .i64 i] w fun e w' => e = .returned (.int .i64 (s.holdS i).1) ∧ Step s lay w (s.holdS i).2 lay w' := by
  have HH := Lib.hid (ihold_any i w h)
  have f0 := h.f0
  clear h
  generalize s.holdS i = r at *
  unfold ptrTo at *
  go_enter Tryz.func125, Tryz.ntmps125
  go_wp2_with (go_at_call 169; (with_reducible refine HH.out.mono ?_); rintro e w' ⟨rfl, hs⟩)
  go_ret
  exact ⟨rfl, hs⟩
theorem nloose_any (i : Int) (w : World) (h : FsIs s lay w) : Calls Tryz.prog 127 #[ptrTo (lay .F), .int .i64 i] w fun e w' => e = .returned (.int .i64 (s.looseS i).1) ∧ Step s lay w (s.looseS i).2 lay w' := by
  have HH := Lib.hid (iloose_any i w h)
  have f0 := h.f0
  clear h
  generalize s.looseS i = r at *
  unfold ptrTo at *
  go_enter Tryz.func127, Tryz.ntmps127
  go_wp2_with (go_at_call 170; (with_reducible refine HH.out.mono ?_); rintro e w' ⟨rfl, hs⟩)
  go_ret
  exact ⟨rfl, hs⟩
def Fs.cutS (s : Fs) (i : Int) (x : Nd) : Fs := (s.dropS (slotOf i) x 0).setNd (slotOf i) { x with size := 0, parts := ⟨x.parts.es.filter (fun e => !goes (fun _ => true) 0 e), x.parts.clk⟩ }
set_option maxRecDepth 100000 in
theorem icut0_some (i : Int) (x : Nd) (w : World) (h : FsIs s lay w) (hn : s.nd i = some x) : Calls Tryz.prog 168 #[ptrTo (lay .T), .int .i64 i, .int .i64 0] w fun e w' => e = .returned (.int .i64 0) ∧ Step s lay w (s.cutS i x) lay w' := by
  have hk := (Fs.nd_slot hn).2.2
  have HF := Lib.hid (find_some i x w h hn)
  have HD := Lib.hid (drop_any (slotOf i) x 0 w h hk)
  have hk2 : (s.dropS (slotOf i) x 0).nodes[slotOf i]? = _ := dropped_node (q := fun _ => true) (frm := 0) hk
  clear h hn hk
  unfold Fs.cutS
  generalize slotOf i = k at *
  generalize s.dropS k x 0 = s1 at *
  unfold ptrTo at *
  go_enter Tryz.func168, Tryz.ntmps168
  go_wp2_with first
    | (go_at_call 37; (with_reducible refine HF.out.mono ?_); rintro e w' ⟨rfl, rfl⟩)
    | (go_at_call 110; (with_reducible refine HD.out.mono ?_); rintro e w2 ⟨rfl, hst⟩; have c3 := hst.is.n3 hk2; have z3 := hst.is.nf hk2 3)
  go_ret
  exact ⟨rfl, hst.setN hk2 rfl rfl⟩
theorem nkind_any (i : Int) (w : World) (h : FsIs s lay w) : Calls Tryz.prog 36 #[ptrTo (lay .F), .int .i64 i] w fun e w' => e = .returned (.tuple #[.int .i64 (s.fld Nd.kind i), .int .i64 (if s.fld Nd.kind i = 0 then 23 else 0)]) ∧ w = w' := by
  have HK := Lib.hid (kind_any i w h)
  have f0 := h.f0
  clear h
  generalize s.fld Nd.kind i = kk at *
  unfold ptrTo at *
  by_cases hk : kk = 0
  · subst hk
    rw [if_pos rfl]
    go_enter Tryz.func36, Tryz.ntmps36
    go_wp2_with (go_at_call 53; (with_reducible refine HK.out.mono ?_); rintro e w' ⟨rfl, rfl⟩)
    go_ret2
    exact ⟨rfl, rfl⟩
  · rw [if_neg hk]
    have hkb : (kk == 0) = false := by simpa using hk
    go_enter Tryz.func36, Tryz.ntmps36
    go_wp2_with (go_at_call 53; (with_reducible refine HK.out.mono ?_); rintro e w' ⟨rfl, rfl⟩)
    go_ret2
    exact ⟨rfl, rfl⟩
def fileE (k : Int) : Int := if k = 0 then 23 else if k = 2 then 24 else if k = 3 then 1 else 0
theorem nfile_any (i : Int) (w : World) (h : FsIs s lay w) : Calls Tryz.prog 18 #[ptrTo (lay .F), .int .i64 i] w fun e w' => e = .returned (.int .i64 (fileE (s.fld Nd.kind i))) ∧ w = w' := by
  have HK := Lib.hid (nkind_any i w h)
  clear h
  generalize s.fld Nd.kind i = kk at *
  unfold ptrTo at *
  by_cases h0 : kk = 0
  · subst h0
    rw [if_pos rfl] at HK
    go_enter Tryz.func18, Tryz.ntmps18
    go_wp2_with (go_at_call 36; (with_reducible refine HK.out.mono ?_); rintro e w' ⟨rfl, rfl⟩)
    go_ret
    exact ⟨rfl, rfl⟩
  · rw [if_neg h0] at HK
    by_cases h2 : kk = 2
    · subst h2
      go_enter Tryz.func18, Tryz.ntmps18
      go_wp2_with (go_at_call 36; (with_reducible refine HK.out.mono ?_); rintro e w' ⟨rfl, rfl⟩)
      go_ret
      exact ⟨rfl, rfl⟩
    · by_cases h3 : kk = 3
      · subst h3
        go_enter Tryz.func18, Tryz.ntmps18
        go_wp2_with (go_at_call 36; (with_reducible refine HK.out.mono ?_); rintro e w' ⟨rfl, rfl⟩)
        go_ret
        exact ⟨rfl, rfl⟩
      · have hf : fileE kk = 0 := by unfold fileE; rw [if_neg h0, if_neg h2, if_neg h3]
        rw [hf]
        have b2 : (kk == 2) = false := by simpa using h2
        have b3 : (kk == 3) = false := by simpa using h3
        go_enter Tryz.func18, Tryz.ntmps18
        go_wp2_with (go_at_call 36; (with_reducible refine HK.out.mono ?_); rintro e w' ⟨rfl, rfl⟩)
        go_ret
        exact ⟨rfl, rfl⟩
theorem ncut0_some (i : Int) (x : Nd) (w : World) (h : FsIs s lay w) (hn : s.nd i = some x) (hk : fileE (s.fld Nd.kind i) = 0) : Calls Tryz.prog 124 #[ptrTo (lay .F), .int .i64 i, .int .i64 0] w fun e w' => e = .returned (.int .i64 0) ∧ Step s lay w (s.cutS i x) lay w' := by
  have HF := Lib.hid (nfile_any i w h)
  rw [hk] at HF
  have HC := Lib.hid (icut0_some i x w h hn)
  have f0 := h.f0
  clear h
  unfold ptrTo at *
  go_enter Tryz.func124, Tryz.ntmps124
  go_wp2_with first
    | (go_at_call 18; (with_reducible refine HF.out.mono ?_); rintro e w' ⟨rfl, rfl⟩)
    | (go_at_call 168; (with_reducible refine HC.out.mono ?_); rintro e w' ⟨rfl, hs⟩)
  go_ret
  exact ⟨rfl, hs⟩
end
end Go.Proofs.YtbecmcjibpamoaaGreatDoor
namespace Go.Proofs.YtbecmcjibpamoaaGreatDoor
open Go.RowKit IntWalk
section
variable {W0 : World} {s : Fs} {lay : FId → Nat}
def gapsN (l : List (Option Nd)) : Nat := (l.filter (fun o => o.isNone)).length
theorem gapsN_take (l : List (Option Nd)) (k : Nat) (o : Option Nd) (h : l[k]? = some o) : gapsN (l.take (k + 1)) = gapsN (l.take k) + (if o.isNone then 1 else 0) := by
  unfold gapsN
  rw [List.take_add_one, h, List.filter_append, List.length_append]
  cases o <;> rfl
theorem gapsN_le (l : List (Option Nd)) (k : Nat) : gapsN (l.take k) ≤ k := Nat.le_trans (List.length_filter_le _ _) (by simp; omega)
theorem bfree_any (w : World) (h : FsIs s lay w) : Calls Tryz.prog 63 #[ptrTo (lay .S)] w fun e w' => e = .returned (.int .i64 s.free) ∧ w = w' := by
  have s1 := h.s1
  unfold ptrTo at *
  go_enter Tryz.func63, Tryz.ntmps63
  go_wp2
  go_ret
  exact ⟨rfl, rfl⟩
set_option maxRecDepth 100000 in
theorem ifree_any (w : World) (h : FsIs s lay w) : Calls Tryz.prog 30 #[ptrTo (lay .T)] w fun e w' => e = .returned (.tuple #[.int .i64 (gapsN s.nodes), .int .i64 s.free]) ∧ w = w' := by
  have t0 := h.t0
  have t1 := h.t1
  have hlen := h.ok.nodes
  unfold ptrTo at *
  go_enter Tryz.func30, Tryz.ntmps30
  go_wp2_with fail
  go_loopw [4, 14] (fun nv v W => ∃ k : Nat, v = .int .i64 k ∧ nv = .int .i64 (gapsN (s.nodes.take k)) ∧ k ≤ s.nodes.length ∧ W = w) (fun _ v _ => s.nodes.length - (intOf v).toNat)
  case atStart => exact ⟨0, rfl, rfl, by omega, rfl⟩
  case round =>
    obtain ⟨k, rfl, rfl, hk, rfl⟩ := hrel
    have hgl := gapsN_le s.nodes k
    by_cases hlt : k < s.nodes.length
    · have hltI : (k : Int) < s.nodes.length := by omega
      have hkI : (k : Int) ≤ 1024 := by omega
      cases hn : s.nodes[k]? with
      | none => rw [List.getElem?_eq_none_iff] at hn; omega
      | some o =>
        have hstep := gapsN_take s.nodes k o hn
        generalize gapsN (s.nodes.take k) = g at *
        have hgI : (g : Int) ≤ 1024 := by omega
        cases o with
        | none =>
          have g0 := h.g0 hn
          go_wp2_with fail
          refine ⟨⟨k + 1, by go_num, ?_, by omega, by first | rfl | trivial⟩, by simp [intOf]; omega⟩
          rw [hstep]; simp
        | some x =>
          have gN := h.gN hn
          unfold ptrTo at gN
          go_wp2_with fail
          refine ⟨⟨k + 1, by go_num, ?_, by omega, by first | rfl | trivial⟩, by simp [intOf]; omega⟩
          rw [hstep]; simp
    · have hltI : (s.nodes.length : Int) ≤ k := by omega
      obtain rfl : k = s.nodes.length := by omega
      rw [List.take_length] at *
      have HB := Lib.hid (bfree_any wr h)
      unfold ptrTo at HB
      go_wp2_with (go_at_call 63; (with_reducible refine HB.out.mono ?_); rintro e w' ⟨rfl, rfl⟩)
      go_ret2
      exact ⟨rfl, rfl⟩
theorem nfree_any (w : World) (h : FsIs s lay w) : Calls Tryz.prog 13 #[ptrTo (lay .F)] w fun e w' => e = .returned (.tuple #[.int .i64 (gapsN s.nodes), .int .i64 s.free]) ∧ w = w' := by
  have HH := Lib.hid (ifree_any w h)
  have f0 := h.f0
  clear h
  unfold ptrTo at *
  go_enter Tryz.func13, Tryz.ntmps13
  go_wp2_with (go_at_call 30; (with_reducible refine HH.out.mono ?_); rintro e w' ⟨rfl, rfl⟩)
  go_ret2
  exact ⟨rfl, rfl⟩
end
end Go.Proofs.YtbecmcjibpamoaaGreatDoor
namespace Go.Proofs.YtbecmcjibpamoaaGreatDoor
open Go.RowKit IntWalk
def hasF (flags b : Int) : Bool := bits BinOp.and IntKind.i64 flags b != 0
section
variable {W0 : World} {s : Fs} {lay : FId → Nat}
def Fs.findS (s : Fs) (dir : Int) (path : List UInt8) (flags : Int) : Int × Int × Fs :=
  let r := s.walkS dir path true
  if r.2 = 23 then
    (if hasF flags 8 = true then (if (s.makeS dir path).2.1 = 22 then (0, 23, (s.makeS dir path).2.2) else s.makeS dir path) else (r.1, 23, s))
  else if r.2 = 0 ∧ hasF flags 8 = true ∧ hasF flags 32 = true then (0, 22, s)
  else (r.1, r.2, s)
set_option maxRecDepth 100000 in
theorem find_any (hE : EnvG W0) (dir : Int) (path : List UInt8) (flags : Int) (hpl : path.length ≤ 100000) (w : World) (h : FsIn W0 s lay w) :
    Calls Tryz.prog 123 #[ptrTo (lay .F), .int .i64 dir, .string ⟨path.toArray⟩, .int .i64 flags] w fun e w' => e = .returned (.tuple #[.int .i64 (s.findS dir path flags).1, .int .i64 (s.findS dir path flags).2.1]) ∧ ∃ lay', lay' .F = lay .F ∧ Step s lay w (s.findS dir path flags).2.2 lay' w' := by
  have HW := Lib.hid (walk_any hE dir path true w h)
  have HM := Lib.hid (fun (W : World) (hW : FsIn W0 s lay W) => make_any hE dir path hpl W hW)
  have HI := Lib.hid h
  clear h
  unfold Fs.findS
  dsimp only
  generalize s.walkS dir path true = r at *
  obtain ⟨i, e⟩ := r
  dsimp only at *
  obtain ⟨cr, hcr⟩ : ∃ cr, hasF flags 8 = cr := ⟨_, rfl⟩
  obtain ⟨ex, hex⟩ : ∃ ex, hasF flags 32 = ex := ⟨_, rfl⟩
  rw [hcr, hex]
  unfold hasF at hcr hex
  by_cases h23 : e = 23
  · subst h23
    rw [if_pos rfl]
    cases cr with
    | false =>
      rw [if_neg (by simp)]
      unfold ptrTo at *
      go_enter Tryz.func123, Tryz.ntmps123
      go_wp2_with (go_at_call 10; (with_reducible refine HW.out.mono ?_); rintro e w2 ⟨rfl, hst⟩)
      go_ret2
      exact ⟨rfl, lay, rfl, hst⟩
    | true =>
      rw [if_pos rfl]
      generalize s.makeS dir path = m at *
      obtain ⟨mi, me, ms⟩ := m
      dsimp only at *
      unfold ptrTo at *
      by_cases h22 : me = 22
      · subst h22
        rw [if_pos rfl]
        go_enter Tryz.func123, Tryz.ntmps123
        go_wp2_with first
          | (go_at_call 10; (with_reducible refine HW.out.mono ?_); rintro e w2 ⟨rfl, hst⟩)
          | (go_at_call 7; (with_reducible refine (HM.out _ (HI.out.step hst HI.out.whole)).mono ?_); rintro e w3 ⟨rfl, lay3, hF3, hst3⟩)
        go_ret2
        exact ⟨rfl, lay3, hF3, hst.trans hst3⟩
      · rw [if_neg h22]
        have b22 : (me == 22) = false := by simpa using h22
        go_enter Tryz.func123, Tryz.ntmps123
        go_wp2_with first
          | (go_at_call 10; (with_reducible refine HW.out.mono ?_); rintro e w2 ⟨rfl, hst⟩)
          | (go_at_call 7; (with_reducible refine (HM.out _ (HI.out.step hst HI.out.whole)).mono ?_); rintro e w3 ⟨rfl, lay3, hF3, hst3⟩)
        go_ret2
        exact ⟨rfl, lay3, hF3, hst.trans hst3⟩
  · rw [if_neg h23]
    have b23 : (e == 23) = false := by simpa using h23
    by_cases h0 : e = 0
    · subst h0
      cases cr <;> cases ex
      all_goals
        simp only [true_and, and_true, and_false, if_true, if_false, Bool.false_eq_true, and_self]
        unfold ptrTo at *
        go_enter Tryz.func123, Tryz.ntmps123
        go_wp2_with (go_at_call 10; (with_reducible refine HW.out.mono ?_); rintro e w2 ⟨rfl, hst⟩)
        go_ret2
        exact ⟨rfl, lay, rfl, hst⟩
    · rw [if_neg (fun q => h0 q.1)]
      have b0 : (e == 0) = false := by simpa using h0
      unfold ptrTo at *
      go_enter Tryz.func123, Tryz.ntmps123
      go_wp2_with (go_at_call 10; (with_reducible refine HW.out.mono ?_); rintro e w2 ⟨rfl, hst⟩)
      go_ret2
      exact ⟨rfl, lay, rfl, hst⟩
end
end Go.Proofs.YtbecmcjibpamoaaGreatDoor
