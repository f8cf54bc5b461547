/- Texts of one proof, packed: MkC, MkD -/
import Derived.Test.YtbecmcjibpamoaaGreatDoorU03
import Derived.Test.YtbecmcjibpamoaaGreatDoorWgA
set_option linter.unusedVariables false
set_option linter.unusedSimpArgs false
set_option linter.deprecated false
set_option linter.unnecessarySimpa false
/- names: a directory more: what it leaves. -/
namespace Go.Proofs.YtbecmcjibpamoaaGreatDoor
open Go.RowKit IntWalk
set_option linter.unusedVariables false
set_option linter.unusedSimpArgs false

theorem dirE_append (i : Int) : ∀ (l r : List (Int × Dr × Nat)), dirE i (l ++ r) = (dirE i l).or (dirE i r)
  | [], r => by simp [dirE]
  | e :: l, r => by
    simp only [List.cons_append, dirE]
    by_cases h : e.1 = i
    · rw [if_pos h, if_pos h]; rfl
    · rw [if_neg h, if_neg h]; exact dirE_append i l r
def Fs.addDr (s : Fs) (i par : Int) : Fs := { s with dirs := s.dirs ++ [(i, ⟨GMap.empty, par⟩, s.clk)], clk := s.clk + 1 }
theorem addDr_dr {s : Fs} {i par : Int} (hd : s.dr i = none) (j : Int) : (s.addDr i par).dr j = if j = i then some ⟨GMap.empty, par⟩ else s.dr j := by
  show dirE j (s.dirs ++ [(i, ⟨GMap.empty, par⟩, s.clk)]) = _
  rw [dirE_append]
  by_cases e : j = i
  · subst e
    have hn : dirE j s.dirs = none := hd
    rw [hn, if_pos rfl]
    simp [dirE]
  · rw [if_neg e]
    have hn : dirE j [(i, (⟨GMap.empty, par⟩ : Dr), s.clk)] = none := by simp [dirE, Ne.symm e]
    rw [hn]
    show (dirE j s.dirs).or none = dirE j s.dirs
    cases dirE j s.dirs <;> rfl
def layD (lay : FId → Nat) (i : Int) (e m : Nat) : FId → Nat
  | .E j => if j = i then e else lay (.E j)
  | .M j => if j = i then m else lay (.M j)
  | j => lay j
theorem dirE_none {i : Int} : ∀ {l : List (Int × Dr × Nat)}, dirE i l = none → ∀ e ∈ l, e.1 ≠ i
  | [], _, e, he => by cases he
  | a :: l, h, e, he => by
    unfold dirE at h
    by_cases q : a.1 = i
    · rw [if_pos q] at h; cases h
    · rw [if_neg q] at h
      rcases List.mem_cons.1 he with rfl | z
      · exact q
      · exact dirE_none h e z
theorem addDr_dmap {s : Fs} {lay : FId → Nat} {i par : Int} {e m : Nat} (hd : s.dr i = none) : (s.addDr i par).dmap (layD lay i e m) = (s.dmap lay).put (.int i) (ptrTo e) := by
  have hget : getE (.int i) (s.dmap lay).es = none := by
    have := dirE_get lay i s.dirs
    have hn : dirE i s.dirs = none := hd
    rw [hn] at this
    exact this
  have hset : ∀ (l : List (Key × Value × Nat)) (c : Nat), getE (.int i) l = none → setE (.int i) (ptrTo e) c l = l ++ [(.int i, ptrTo e, c)] := fun l c => by
    induction l with
    | nil => intro _; rfl
    | cons a l ih =>
      intro h
      unfold getE at h
      by_cases q : a.1 = .int i
      · rw [if_pos q] at h; cases h
      · rw [if_neg q] at h
        unfold setE
        rw [if_neg q, ih h]; rfl
  unfold GMap.put GMap.get
  rw [hget]
  rw [hset _ _ hget]
  show (⟨(s.dirs ++ [(i, (⟨GMap.empty, par⟩ : Dr), s.clk)]).map (fun x => (Key.int x.1, ptrTo (layD lay i e m (.E x.1)), x.2.2)), s.clk + 1⟩ : GMap) = _
  rw [List.map_append]
  congr 1
  · congr 1
    · apply List.map_congr_left
      intro x hx
      show (Key.int x.1, ptrTo (if x.1 = i then e else lay (.E x.1)), x.2.2) = _
      rw [if_neg (dirE_none hd x hx)]
    · show [(Key.int i, ptrTo (if i = i then e else lay (.E i)), s.clk)] = _
      rw [if_pos rfl]; rfl
def dirO (m : Nat) (par : Int) : Obj := .cells #[.map (some m), .int .i64 par] 78 (0, 0)
theorem addDr_obj {s : Fs} {lay : FId → Nat} {i par : Int} {e m : Nat} (hd : s.dr i = none) (j : FId) : (s.addDr i par).obj (layD lay i e m) j = if j = .D then some ((s.dmap lay).put (.int i) (ptrTo e)).obj else if j = .E i then some (dirO m par) else if j = .M i then some GMap.empty.obj else s.obj lay j := by
  cases j with
  | D =>
    rw [if_pos rfl]
    show some ((s.addDr i par).dmap (layD lay i e m)).obj = _
    rw [addDr_dmap hd]
  | E k =>
    rw [if_neg (by simp)]
    show (match (s.addDr i par).dr k with
      | some d => some (Obj.cells #[.map (some (layD lay i e m (.M k))), .int .i64 d.parent] 78 (0, 0))
      | none => none) = _
    rw [addDr_dr hd]
    by_cases q : k = i
    · subst q; simp [dirO, layD]
    · rw [if_neg q, if_neg (by simpa using q), if_neg (by simp)]
      simp only [layD, if_neg q]
      rfl
  | M k =>
    rw [if_neg (by simp), if_neg (by simp)]
    show (match (s.addDr i par).dr k with
      | some d => some d.names.obj
      | none => none) = _
    rw [addDr_dr hd]
    by_cases q : k = i
    · subst q; simp
    · rw [if_neg q, if_neg (by simpa using q)]
      rfl
  | _ => rfl
theorem Fs.Ok.addDr {s : Fs} {i par : Int} (h : s.Ok) (hd : s.dr i = none) : (s.addDr i par).Ok := by
  refine ⟨h.nodes, h.blocks, h.bytes, h.parts, fun e he => ?_, ?_⟩
  · rcases List.mem_append.1 he with q | q
    · exact h.names e q
    · simp only [List.mem_singleton] at q
      subst q
      exact ⟨GMap.Good.empty, fun e he => by cases he⟩
  · obtain ⟨h1, h2, h3⟩ := h.dirs
    show GoodE ((s.dirs ++ [(i, (⟨GMap.empty, par⟩ : Dr), s.clk)]).map fun e => (Key.int e.1, e.2.2)) (s.clk + 1)
    rw [List.map_append]
    refine ⟨?_, ?_, fun e he => ?_⟩
    · rw [List.map_append, List.nodup_append]
      refine ⟨h1, by simp, fun a ha b hb q => ?_⟩
      simp at hb
      subst hb
      simp only [List.map_map, List.mem_map] at ha
      obtain ⟨x, hx, hxa⟩ := ha
      have : x.1 = i := by
        have hh : Key.int x.1 = Key.int i := hxa.trans q
        cases hh; rfl
      exact dirE_none hd x hx this
    · rw [List.map_append, List.nodup_append]
      refine ⟨h2, by simp, fun a ha b hb q => ?_⟩
      simp at hb
      obtain ⟨x, hx, rfl⟩ := List.mem_map.1 ha
      have := h3 x hx
      omega
    · rcases List.mem_append.1 he with q | q
      · have := h3 e q; omega
      · simp at q; subst q; simp
/-- a directory is made: its map, itself, and where it is known -/
theorem Step.newDir {s0 s : Fs} {lay0 lay : FId → Nat} {w0 w : World} (h : Step s0 lay0 w0 s lay w) {i par : Int} (hd : s.dr i = none) :
    Step s0 lay0 w0 (s.addDr i par) (layD lay i (w.heap.size + 1) w.heap.size) { ((w.alloc GMap.empty.obj).alloc (dirO w.heap.size par)) with heap := ((w.alloc GMap.empty.obj).alloc (dirO w.heap.size par)).heap.setIfInBounds (lay .D) ((s.dmap lay).put (.int i) (ptrTo (w.heap.size + 1))).obj } := by
  have g0 : GStep (s0.obj lay0) lay0 w0 (s.obj lay) lay w := ⟨h.is.lies, h.turned, h.own⟩
  have g1 := g0.new (c3 := fun j => if j = .M i then some GMap.empty.obj else s.obj lay j) (lay3 := fun j => if j = .M i then w.heap.size else lay j) (.M i) GMap.empty.obj (fun j => rfl) (fun j => rfl)
  have hsz : (w.alloc GMap.empty.obj).heap.size = w.heap.size + 1 := by simp
  have g2 := g1.new (c3 := fun j => if j = .E i then some (dirO w.heap.size par) else if j = .M i then some GMap.empty.obj else s.obj lay j) (lay3 := layD lay i (w.heap.size + 1) w.heap.size) (.E i) (dirO w.heap.size par) (fun j => rfl) (fun j => by
    rw [hsz]
    cases j with
    | E k => by_cases q : k = i <;> simp [layD, q]
    | M k => by_cases q : k = i <;> simp [layD, q]
    | _ => rfl)
  have g3 := g2.put (c3 := fun j => if j = .D then some ((s.dmap lay).put (.int i) (ptrTo (w.heap.size + 1))).obj else if j = .E i then some (dirO w.heap.size par) else if j = .M i then some GMap.empty.obj else s.obj lay j) (i := .D) (o := (s.dmap lay).obj) (o' := ((s.dmap lay).put (.int i) (ptrTo (w.heap.size + 1))).obj) rfl (fun j => rfl)
  have hc : (fun j => if j = .D then some ((s.dmap lay).put (.int i) (ptrTo (w.heap.size + 1))).obj else if j = .E i then some (dirO w.heap.size par) else if j = .M i then some GMap.empty.obj else s.obj lay j) = (s.addDr i par).obj (layD lay i (w.heap.size + 1) w.heap.size) := funext fun j => (addDr_obj hd j).symm
  rw [hc] at g3
  exact ⟨⟨g3.lies, h.is.ok.addDr hd⟩, g3.turned, g3.own⟩
end Go.Proofs.YtbecmcjibpamoaaGreatDoor
/- names: a directory is made. -/
namespace Go.Proofs.YtbecmcjibpamoaaGreatDoor
open Go.RowKit IntWalk
set_option linter.unusedVariables false
set_option linter.unusedSimpArgs false

section
variable {W0 : World} {s : Fs} {lay : FId → Nat}
set_option maxRecDepth 100000 in
theorem mk_dir (hE : EnvG W0) (dir : Int) (path : List UInt8) (hpl : path.length ≤ 100000) (w : World) (h : FsIn W0 s lay w) (he : s.freeS dir path = 0) (k : Nat) (hg : gapAt s.nodes = some k) (n : Int) (nm : List UInt8) (hpp : s.placeS dir path = (n, nm, 0)) (d : Dr) (hd : s.dr n = some d) (hkd : s.dr ((k : Int) + 1) = none) :
    Calls Tryz.prog 17 #[ptrTo (lay .F), .int .i64 dir, .string ⟨path.toArray⟩, .int .i64 2, .string ByteArray.empty] w fun e w' => e = .returned (.tuple #[.int .i64 (k + 1), .int .i64 0]) ∧ ∃ lay', lay' .F = lay .F ∧ Step s lay w (((s.setNd k (freshNd 2)).addDr ((k : Int) + 1) n).setDr n ⟨d.names.put (.str nm) (.int .i64 (k + 1)), d.parent⟩) lay' w' := by
  have HP := Lib.hid (free_any hE dir path hpl w h)
  rw [he, hpp] at HP
  have HM := Lib.hid (fun (W : World) (hW : FsIs s lay W) => make_some 2 (by omega) (by omega) W hW k hg)
  have hnd := (gapAt_some _ _ hg).1
  have hlt := (List.getElem?_eq_some_iff.1 hnd).1
  have hnd1 : (s.setNd k (newNd 2)).nd ((k : Int) + 1) = some (newNd 2) := by
    unfold Fs.nd
    rw [if_neg (by omega), slotOf_eq, Fs.setNd_get, if_pos rfl, if_pos hlt]; rfl
  have hnd2 : (s.setNd k (freshNd 2)).nd ((k : Int) + 1) = some (freshNd 2) := by
    unfold Fs.nd
    rw [if_neg (by omega), slotOf_eq, Fs.setNd_get, if_pos rfl, if_pos hlt]; rfl
  have hs2 : (s.setNd k (newNd 2)).setNd (slotOf ((k : Int) + 1)) { newNd 2 with names := incW (newNd 2).names } = s.setNd k (freshNd 2) := by
    rw [slotOf_eq, setNd_setNd, show incW (newNd 2).names = 1 from by simp [incW, newNd, wrap64]]; rfl
  have HT := Lib.hid (fun (p m : Nat) (W : World) (hW : FsIs (s.setNd k (newNd 2)) (layN lay k p m) W) => show Calls Tryz.prog 33 #[.pointer (some ⟨lay .T, 0, none⟩), .int .i64 ((k : Int) + 1)] W fun e w' => e = .returned (.int .i64 0) ∧ Step (s.setNd k (newNd 2)) (layN lay k p m) W (s.setNd k (freshNd 2)) (layN lay k p m) w' from by
    have := tie_some ((k : Int) + 1) (newNd 2) W hW hnd1
    rw [hs2] at this
    exact this)
  have HW := Lib.hid (fun (p m : Nat) (W : World) (hW : FsIs (s.setNd k (freshNd 2)) (layN lay k p m) W) => show Calls Tryz.prog 19 #[.pointer (some ⟨lay .T, 0, none⟩), .int .i64 ((k : Int) + 1), .int .i64 0, .string ByteArray.empty] W fun e w' => e = .returned (.tuple #[.int .i64 0, .int .i64 0]) ∧ Step (s.setNd k (freshNd 2)) (layN lay k p m) W (s.setNd k (freshNd 2)) (layN lay k p m) w' from by
    refine (write_some ((k : Int) + 1) (freshNd 2) 0 [] W hW hnd2 (by intro p b hb; cases hb) ⟨by decide, by decide⟩ (by omega)).mono ?_
    rintro e w' ⟨n6, s6, h6, rfl, hst6⟩
    have h7 : (n6, s6) = (0, s.setNd k (freshNd 2)) := by rw [h6, List.take_nil]; rfl
    cases h7
    exact ⟨rfl, hst6⟩)
  have hd2 : (s.setNd k (freshNd 2)).dr n = some d := hd
  have hno := names_of h.is hd
  have hkk : (k : Int) ≤ 1024 := by have := h.is.ok.nodes; omega
  clear h he hnd hnd1 hnd2 hs2 hpp
  rw [show placeV lay (n, nm, 0) = .agg #[.int .i64 n, ptrTo (lay (.E n)), .string ⟨nm.toArray⟩] from rfl] at HP
  unfold ptrTo at *
  go_enter Tryz.func17, Tryz.ntmps17
  go_wp2_with first
    | (go_at_call 34; (with_reducible refine HP.out.mono ?_); rintro e w2 ⟨rfl, hst⟩; have hst3 := hst.alloc (Obj.cells #[.int .i64 n, .pointer (some ⟨lay (.E n), 0, none⟩), .string ⟨nm.toArray⟩] 80); have f0 := hst3.is.f0; unfold ptrTo at f0)
    | (go_at_call 32; (with_reducible refine (HM.out _ hst3.is).mono ?_); rintro e w4 ⟨rfl, p4, n4, hst4⟩; have f4 : w4.cell? ⟨lay .F, 0, none⟩ = some (.pointer (some ⟨lay .T, 0, none⟩)) := hst4.is.f0)
    | (go_at_call 33; (with_reducible refine (HT.out p4 n4 _ hst4.is).mono ?_); rintro e w5 ⟨rfl, hst5⟩; have hst35 := hst4.trans hst5; have f5 : w5.cell? ⟨lay .F, 0, none⟩ = some (.pointer (some ⟨lay .T, 0, none⟩)) := hst5.is.f0)
    | (go_at_call 19; (with_reducible refine (HW.out p4 n4 _ hst35.is).mono ?_); rintro e w6 ⟨rfl, hst6⟩; have hst36 := hst35.trans hst6; have f6 : w6.cell? ⟨lay .F, 0, none⟩ = some (.pointer (some ⟨lay .T, 0, none⟩)) := hst6.is.f0)
  have hpb3 := alloc_at w2 (Obj.cells #[.int .i64 n, .pointer (some ⟨lay (.E n), 0, none⟩), .string ⟨nm.toArray⟩] 80)
  have hown : ¬ Owns (s.obj lay) lay w2.heap.size := fun q => by have := hst.is.lies.owns_lt q; omega
  have hpb6 := (hst36.turned.block w2.heap.size (by simp) hown).trans hpb3
  have hall := (hst3.trans hst36).drewN 1
  have hnk : n ≠ (k : Int) + 1 := fun q => by rw [q] at hd; rw [hkd] at hd; cases hd
  have hkd2 : (s.setNd k (freshNd 2)).dr ((k : Int) + 1) = none := hkd
  have hnew := hall.newDir (par := n) hkd2
  have p0 : w6.drew.cell? ⟨w2.heap.size, 0, none⟩ = some (.int .i64 n) := cell_of_row w6 _ 0 _ _ _ hpb6
  have fD : w6.drew.cell? ⟨lay .F, 1, none⟩ = some (.map (some (lay .D))) := hall.is.f1
  have hDm : w6.drew.heap[lay .D]? = some ((s.setNd k (freshNd 2)).dmap (layN lay k p4 n4)).obj := hall.is.lies.at_ .D _ rfl
  have hof : ((s.setNd k (freshNd 2)).dmap (layN lay k p4 n4)).Of (.int .i64) := fun e he => by
    simp only [Fs.dmap, List.mem_map] at he
    obtain ⟨x, _, rfl⟩ := he
    rfl
  have hDlt : lay .D < w6.drew.heap.size := (Array.getElem?_eq_some_iff.1 hDm).1
  have hFlt : lay .F < w6.drew.heap.size := World.block_lt_of_cell? w6.drew ⟨lay .F, 1, none⟩ fD
  have hPlt : w2.heap.size < w6.drew.heap.size := World.block_lt_of_cell? w6.drew ⟨w2.heap.size, 0, none⟩ p0
  have hs1 : (w6.drew.alloc (.map #[] 0)).heap.size = w6.drew.heap.size + 1 := by simp
  have hD2 : ((w6.drew.alloc (.map #[] 0)).alloc (.cells #[.map (some w6.drew.heap.size), .int .i64 n] 78)).heap[lay .D]? = some ((s.setNd k (freshNd 2)).dmap (layN lay k p4 n4)).obj := by
    rw [Below.heap_alloc _ _ _ (by rw [hs1]; omega), Below.heap_alloc _ _ _ hDlt]; exact hDm
  have hmu := GMap.store (P := Tryz.prog) (k := .int ((k : Int) + 1)) (v := ptrTo (w6.drew.heap.size + 1)) Tryz.underlying49 Tryz.underlying3 hof hD2
  simp only [Key.val] at hmu
  have k1 : ∀ (b j : Nat) (v : Value), b < w6.drew.heap.size → w6.drew.cell? ⟨b, j, none⟩ = some v → (w6.drew.alloc (.map #[] 0)).cell? ⟨b, j, none⟩ = some v := fun b j v hb hc => by rw [World.cell?_of_block (Below.heap_alloc _ _ _ hb)]; exact hc
  have k2 : ∀ (b j : Nat) (v : Value), b < w6.drew.heap.size → w6.drew.cell? ⟨b, j, none⟩ = some v → ((w6.drew.alloc (.map #[] 0)).alloc (.cells #[.map (some w6.drew.heap.size), .int .i64 n] 78)).cell? ⟨b, j, none⟩ = some v := fun b j v hb hc => by rw [World.cell?_of_block (Below.heap_alloc (w6.drew.alloc (.map #[] 0)) _ b (Nat.lt_of_lt_of_le hb (by rw [hs1]; exact Nat.le_succ _)))]; exact k1 b j v hb hc
  have p1 : w6.drew.cell? ⟨w2.heap.size, 1, none⟩ = some (.pointer (some ⟨lay (.E n), 0, none⟩)) := cell_of_row w6 _ 1 _ _ _ hpb6
  have p2 : w6.drew.cell? ⟨w2.heap.size, 2, none⟩ = some (.string ⟨nm.toArray⟩) := cell_of_row w6 _ 2 _ _ _ hpb6
  have p12 := k2 _ _ _ hPlt p1
  have p22 := k2 _ _ _ hPlt p2
  have hMlt : lay (.M n) < w2.heap.size := hst.is.lies.owns_lt ⟨.M n, by simp [Fs.obj, hd], rfl⟩
  have hMne : lay (.M n) ≠ w2.heap.size := by omega
  have hMEne : lay (.M n) ≠ lay (.E n) := hst.is.lies.ne (i := .M n) (j := .E n) (o := d.names.obj) (p := .cells #[.map (some (lay (.M n))), .int .i64 d.parent] 78 (0, 0)) (by simp [Fs.obj, hd]) (by simp [Fs.obj, hd]) (by simp)
  have fD1 := k1 _ _ _ hFlt fD
  have fD2 := k2 _ _ _ hFlt fD
  have p01 := k1 _ _ _ hPlt p0
  have p02 := k2 _ _ _ hPlt p0
  have hDF : lay .D ≠ lay .F := hall.is.lies.ne (i := .D) (j := .F) rfl rfl (by simp)
  have hDP : lay .D ≠ w2.heap.size := fun q => hown (by rw [← q]; exact ⟨.D, by simp [Fs.obj], rfl⟩)
  have hup : ∀ (o : Obj) (b j : Nat) (v : Value), lay .D ≠ b → ((w6.drew.alloc (.map #[] 0)).alloc (.cells #[.map (some w6.drew.heap.size), .int .i64 n] 78)).cell? ⟨b, j, none⟩ = some v → ({ ((w6.drew.alloc (.map #[] 0)).alloc (.cells #[.map (some w6.drew.heap.size), .int .i64 n] 78)) with heap := ((w6.drew.alloc (.map #[] 0)).alloc (.cells #[.map (some w6.drew.heap.size), .int .i64 n] 78)).heap.setIfInBounds (lay .D) o } : World).cell? ⟨b, j, none⟩ = some v := fun o b j v hne hc => by
    rw [World.cell?_of_block (w := ((w6.drew.alloc (.map #[] 0)).alloc (.cells #[.map (some w6.drew.heap.size), .int .i64 n] 78))) (by show (Array.setIfInBounds _ (lay .D) o)[b]? = _; rw [Array.getElem?_setIfInBounds, if_neg hne])]
    exact hc
  have fD3 := hup ((((s.setNd k (freshNd 2)).dmap (layN lay k p4 n4)).put (.int ((k : Int) + 1)) (ptrTo (w6.drew.heap.size + 1))).obj) _ _ _ hDF fD2
  have p03 := hup ((((s.setNd k (freshNd 2)).dmap (layN lay k p4 n4)).put (.int ((k : Int) + 1)) (ptrTo (w6.drew.heap.size + 1))).obj) _ _ _ hDP p02
  have p13 := hup ((((s.setNd k (freshNd 2)).dmap (layN lay k p4 n4)).put (.int ((k : Int) + 1)) (ptrTo (w6.drew.heap.size + 1))).obj) _ _ _ hDP p12
  have p23 := hup ((((s.setNd k (freshNd 2)).dmap (layN lay k p4 n4)).put (.int ((k : Int) + 1)) (ptrTo (w6.drew.heap.size + 1))).obj) _ _ _ hDP p22
  have hmk := fun W => run_makeMap (P := Tryz.prog) 76 W
  have hmu2 : (Instr.mapUpdate 49 (.map (some (lay .D))) (.int .i64 ((k : Int) + 1)) (.pointer (some ⟨w6.heap.size + 1, 0, none⟩))).run Tryz.prog ((w6.alloc (.map #[] 0)).alloc (.cells #[.map (some w6.heap.size), .int .i64 n] 78)).drew = .ok () { ((w6.drew.alloc (.map #[] 0)).alloc (.cells #[.map (some w6.drew.heap.size), .int .i64 n] 78)) with heap := ((w6.drew.alloc (.map #[] 0)).alloc (.cells #[.map (some w6.drew.heap.size), .int .i64 n] 78)).heap.setIfInBounds (lay .D) ((((s.setNd k (freshNd 2)).dmap (layN lay k p4 n4)).put (.int ((k : Int) + 1)) (ptrTo (w6.drew.heap.size + 1))).obj) } := hmu
  generalize hW7 : ({ ((w6.drew.alloc (.map #[] 0)).alloc (.cells #[.map (some w6.drew.heap.size), .int .i64 n] 78)) with heap := ((w6.drew.alloc (.map #[] 0)).alloc (.cells #[.map (some w6.drew.heap.size), .int .i64 n] 78)).heap.setIfInBounds (lay .D) ((((s.setNd k (freshNd 2)).dmap (layN lay k p4 n4)).put (.int ((k : Int) + 1)) (ptrTo (w6.drew.heap.size + 1))).obj) } : World) = W7 at *
  have HNEW : RowKit.Hid (Step s lay w ((s.setNd k (freshNd 2)).addDr ((k : Int) + 1) n) (layD (layN lay k p4 n4) ((k : Int) + 1) (w6.drew.heap.size + 1) w6.drew.heap.size) W7) := Lib.hid (by rw [← hW7]; exact hnew)
  clear hmu hnew hW7
  clear hst hst3 hst4 hst5 hst6 hst35 hst36 f0 f4 f5 f6 hpb3 HT HW HM HP k1 k2
  go_region_held3 (fun V => V.cell? ⟨lay .F, 1, none⟩ = some (.map (some (lay .D))) ∧ V.cell? ⟨w2.heap.size, 0, none⟩ = some (.int .i64 n)) (first | exact ⟨fD, p0⟩ | exact ⟨fD1, p01⟩ | exact ⟨fD2, p02⟩ | exact ⟨fD3, p03⟩ | go_keep) (fail)
  clear fD fD1 fD2 fD3 p0 p01 p02 p03 p1 p2 p12 p22 hmu2 hup hmk hD2 hs1 hDm
  have hd7 : ((s.setNd k (freshNd 2)).addDr ((k : Int) + 1) n).dr n = some d := by rw [addDr_dr hkd2, if_neg hnk]; exact hd2
  have hall7 := HNEW.out.drewN 1
  have lE : layD (layN lay k p4 n4) ((k : Int) + 1) (w6.drew.heap.size + 1) w6.drew.heap.size (.E n) = lay (.E n) := by simp [layD, layN, hnk]
  have lM : layD (layN lay k p4 n4) ((k : Int) + 1) (w6.drew.heap.size + 1) w6.drew.heap.size (.M n) = lay (.M n) := by simp [layD, layN, hnk]
  have p1 : W7.drew.cell? ⟨w2.heap.size, 1, none⟩ = some (.pointer (some ⟨lay (.E n), 0, none⟩)) := p13
  have p2 : W7.drew.cell? ⟨w2.heap.size, 2, none⟩ = some (.string ⟨nm.toArray⟩) := p23
  have e0 : W7.drew.cell? ⟨lay (.E n), 0, none⟩ = some (.map (some (lay (.M n)))) := by have := hall7.is.e0 hd7; rwa [lE, lM] at this
  have hM : W7.drew.heap[lay (.M n)]? = some d.names.obj := by have := hall7.is.lies.at_ (.M n) d.names.obj (by simp [Fs.obj, hd7]); rwa [lM] at this
  have hmu := GMap.store (P := Tryz.prog) (k := .str nm) (v := .int .i64 ((k : Int) + 1)) Tryz.underlying76 Tryz.underlying9 hno.of hM
  simp only [Key.val] at hmu
  have HF := Lib.hid (hall7.names hd7 (hno.put nm ((k : Int) + 1)))
  rw [lM] at HF
  have hother : ∀ (b j : Nat) (v : Value) (o : Obj), lay (.M n) ≠ b → W7.drew.cell? ⟨b, j, none⟩ = some v → ({ W7.drew with heap := W7.drew.heap.setIfInBounds (lay (.M n)) o } : World).cell? ⟨b, j, none⟩ = some v := fun b j v o hne hc => by
    rw [World.cell?_of_block (w := W7.drew) (by show (W7.drew.heap.setIfInBounds (lay (.M n)) o)[b]? = _; rw [Array.getElem?_setIfInBounds, if_neg hne])]
    exact hc
  have q1 : ({ W7.drew with heap := W7.drew.heap.setIfInBounds (lay (.M n)) (d.names.put (.str nm) (.int .i64 ((k : Int) + 1))).obj } : World).cell? ⟨w2.heap.size, 1, none⟩ = some (.pointer (some ⟨lay (.E n), 0, none⟩)) := hother _ _ _ _ hMne p1
  have q2 : ({ W7.drew with heap := W7.drew.heap.setIfInBounds (lay (.M n)) (d.names.put (.str nm) (.int .i64 ((k : Int) + 1))).obj } : World).cell? ⟨w2.heap.size, 2, none⟩ = some (.string ⟨nm.toArray⟩) := hother _ _ _ _ hMne p2
  have q0 : ({ W7.drew with heap := W7.drew.heap.setIfInBounds (lay (.M n)) (d.names.put (.str nm) (.int .i64 ((k : Int) + 1))).obj } : World).cell? ⟨lay (.E n), 0, none⟩ = some (.map (some (lay (.M n)))) := hother _ _ _ _ hMEne e0
  clear hother hM hall7 HNEW hall
  go_wp2_with fail
  go_region_held3 (fun W => W.cell? ⟨w2.heap.size, 1, none⟩ = some (.pointer (some ⟨lay (.E n), 0, none⟩)) ∧ W.cell? ⟨w2.heap.size, 2, none⟩ = some (.string ⟨nm.toArray⟩) ∧ W.cell? ⟨lay (.E n), 0, none⟩ = some (.map (some (lay (.M n))))) (first | exact ⟨p1, p2, e0⟩ | exact ⟨q1, q2, q0⟩ | go_keep) (fail)
  go_wp2_with fail
  go_ret2
  exact ⟨rfl, layD (layN lay k p4 n4) ((k : Int) + 1) (w6.drew.heap.size + 1) w6.drew.heap.size, rfl, HF.out⟩
end
end Go.Proofs.YtbecmcjibpamoaaGreatDoor
