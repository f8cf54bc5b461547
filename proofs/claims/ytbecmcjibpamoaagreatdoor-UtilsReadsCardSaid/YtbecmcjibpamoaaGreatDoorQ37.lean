/- GnE GnF UrPa UrPb GnG UrTr -/
import Derived.Test.YtbecmcjibpamoaaGreatDoorQ36
import Derived.Test.YtbecmcjibpamoaaGreatDoorQ27
import Derived.Maps.Own
import Derived.Sort.KeysCollected
set_option linter.unusedVariables false
set_option linter.unusedSimpArgs false
set_option linter.deprecated false
set_option linter.unnecessarySimpa false
namespace Go.Proofs.YtbecmcjibpamoaaGreatDoor
open Go.RowKit IntWalk
theorem g_alloc_at (w : World) (o : Obj) : (w.alloc o).heap[w.heap.size]? = some o := by show (w.heap.push o)[w.heap.size]? = some o; simp
theorem bare_world (w : World) : ∀ w1, w1 = (((w.alloc bsO).alloc (.cells #[.slice (some ⟨w.heap.size, 0, none⟩) 200 200, .int .i64 200] 159 (0, 0))).alloc gsO).alloc (.cells #[.slice (some ⟨w.heap.size + 2, 0, none⟩) 30 30, ptrTo (w.heap.size + 1)] 90 (0, 0)) →
    w1.heap.size = w.heap.size + 4 ∧ Below w.heap.size w ((w1.alloc (.map #[] 0)).alloc (.cells #[ptrTo (w.heap.size + 3), .map (some (w.heap.size + 4))] 51 (0, 0))) ∧ FsIs Fs.bare0 (lay0 w.heap.size) ((w1.alloc (.map #[] 0)).alloc (.cells #[ptrTo (w.heap.size + 3), .map (some (w.heap.size + 4))] 51 (0, 0))) := by
  rintro w1 rfl
  have hs : ∀ (W : World) (o : Obj), (W.alloc o).heap.size = W.heap.size + 1 := fun W o => by simp
  have hold : ∀ (W : World) (o p : Obj) (k : Nat), W.heap[k]? = some p → (W.alloc o).heap[k]? = some p := fun W o p k h => by
    rw [Below.heap_alloc _ _ _ (Array.getElem?_eq_some_iff.1 h).1]; exact h
  have hnew : ∀ (W : World) (o : Obj) (k : Nat), W.heap.size = k → (W.alloc o).heap[k]? = some o := fun W o k h => by rw [← h]; exact g_alloc_at W o
  refine ⟨by simp, ?_, bare_lies w.heap.size _ ?_ ?_ ?_ ?_ ?_ ?_⟩
  · exact ((((((Below.refl w.heap.size w).alloc (Nat.le_refl _) _).alloc (by simp) _).alloc (by simp; omega) _).alloc (by simp; omega) _).alloc (by simp; omega) _).alloc (by simp; omega) _
  · exact hold _ _ _ _ (hold _ _ _ _ (hold _ _ _ _ (hold _ _ _ _ (hold _ _ _ _ (g_alloc_at w _)))))
  · exact hold _ _ _ _ (hold _ _ _ _ (hold _ _ _ _ (hold _ _ _ _ (hnew _ _ _ (by simp)))))
  · exact hold _ _ _ _ (hold _ _ _ _ (hold _ _ _ _ (hnew _ _ _ (by simp))))
  · exact hold _ _ _ _ (hold _ _ _ _ (hnew _ _ _ (by simp)))
  · exact hold _ _ _ _ (hnew _ _ _ (by simp))
  · exact hnew _ _ _ (by simp)
theorem bare_gap : gapAt Fs.bare0.nodes = some 0 := rfl
theorem bare_nd0 : Fs.bare0.nodes[0]? = some none := rfl
theorem lay0_low (k : Nat) (i : FId) (h : Fs.bare0.obj (lay0 k) i ≠ none) : k ≤ lay0 k i := by
  rcases bare_live (lay0 k) i h with rfl | rfl | rfl | rfl | rfl | rfl <;> simp only [lay0] <;> omega
set_option maxRecDepth 100000 in
set_option maxHeartbeats 1000000 in
theorem fnew_any (w : World) : Calls Tryz.prog 14 #[.int .i64 30, .int .i64 200] w fun e w' => ∃ lay, e = .returned (.tuple #[ptrTo (lay .F), .int .i64 0]) ∧ FsIs Fs.new0 lay w' ∧ (∀ k, Owns (Fs.new0.obj lay) lay k → w.heap.size ≤ k) ∧ Below w.heap.size w w' := by
  have HI := Lib.hid (inew_any w)
  have HB := Lib.hid (bare_world w)
  have hnd1 : (Fs.bare0.setNd 0 (newNd 2)).nd ((0 : Int) + 1) = some (newNd 2) := rfl
  have hs2 : (Fs.bare0.setNd 0 (newNd 2)).setNd (slotOf ((0 : Int) + 1)) { newNd 2 with names := incW (newNd 2).names } = Fs.bare0.setNd 0 (freshNd 2) := by
    rw [show slotOf ((0 : Int) + 1) = 0 from rfl, setNd_setNd, show incW (newNd 2).names = 1 from by simp [incW, newNd, wrap64]]; rfl
  have HT := Lib.hid (fun (lay : FId → Nat) (W : World) (hW : FsIs (Fs.bare0.setNd 0 (newNd 2)) lay W) => show Calls Tryz.prog 33 #[.pointer (some ⟨lay .T, 0, none⟩), .int .i64 1] W fun e w' => e = .returned (.int .i64 0) ∧ Step (Fs.bare0.setNd 0 (newNd 2)) lay W (Fs.bare0.setNd 0 (freshNd 2)) lay w' from by
    have := tie_some ((0 : Int) + 1) (newNd 2) W hW hnd1
    rw [hs2] at this
    exact this)
  have HM := Lib.hid (fun (W : World) (hW : FsIs Fs.bare0 (lay0 w.heap.size) W) => show Calls Tryz.prog 32 #[.pointer (some ⟨w.heap.size + 3, 0, none⟩), .int .i64 2] W fun e w' => e = .returned (.tuple #[.int .i64 1, .int .i64 0]) ∧ ∃ p n, Step Fs.bare0 (lay0 w.heap.size) W (Fs.bare0.setNd 0 (newNd 2)) (layN (lay0 w.heap.size) 0 p n) w' from make_some 2 (by omega) (by omega) W hW 0 bare_gap)
  have hmk := fun W => run_makeMap (P := Tryz.prog) 76 W
  have hmk2 := fun W => run_makeMap (P := Tryz.prog) 49 W
  clear hnd1 hs2
  unfold ptrTo at *
  go_enter Tryz.func14, Tryz.ntmps14
  go_wp2_with first
    | (go_at_call 31; (with_reducible refine HI.out.mono ?_); rintro e w1 ⟨rfl, hw1⟩; obtain ⟨e1, e2, e3⟩ := HB.out w1 hw1; rw [← e1] at e2 e3; have HE1 := Lib.hid e1; have HE2 := Lib.hid e2; have HE3 := Lib.hid e3; clear hw1 e1 e2 e3)
    | (go_at_call 32; (refine (HM.out _ HE3.out).mono ?_); rintro e w2 ⟨rfl, p2, n2, st2⟩; have ST2 := Lib.hid st2; clear st2)
    | (go_at_call 33; (refine (HT.out (layN (lay0 w.heap.size) 0 p2 n2) _ ST2.out.is).mono ?_); rintro e w3 ⟨rfl, st3⟩; have ST3 := Lib.hid (ST2.out.trans st3); have f1 : w3.cell? ⟨w1.heap.size + 1, 1, none⟩ = some (.map (some (w.heap.size + 4))) := (by rw [HE1.out]; exact st3.is.f1); clear st3; have HMU := Lib.hid (fun (W : World) (hW : W.heap[w.heap.size + 4]? = some (((Fs.bare0.setNd 0 (freshNd 2)).dmap (layN (lay0 w.heap.size) 0 p2 n2)).obj)) => GMap.store (P := Tryz.prog) (w := W) (m := (Fs.bare0.setNd 0 (freshNd 2)).dmap (layN (lay0 w.heap.size) 0 p2 n2)) (b := w.heap.size + 4) (k := .int 1) (v := ptrTo (w3.heap.size + 1)) Tryz.underlying49 Tryz.underlying3 (fun e he => by simp only [Fs.dmap, List.mem_map] at he; obtain ⟨x, _, rfl⟩ := he; rfl) hW); have hD : w3.heap[w.heap.size + 4]? = some (((Fs.bare0.setNd 0 (freshNd 2)).dmap (layN (lay0 w.heap.size) 0 p2 n2)).obj) := ST3.out.is.lies.at_ .D _ rfl; have hDlt := (Array.getElem?_eq_some_iff.1 hD).1; have hmu := HMU.out ((w3.alloc (.map #[] 0)).alloc (.cells #[.map (some w3.heap.size), .int .i64 1] 78)) (by rw [Below.heap_alloc _ _ _ (by simp; omega), Below.heap_alloc _ _ _ hDlt]; exact hD); simp only [Key.val] at hmu; unfold ptrTo at hmu; clear hD)
  go_ret2
  have hfin := ST3.out.newDir (i := 1) (par := 1) (show (Fs.bare0.setNd 0 (freshNd 2)).dr 1 = none from rfl)
  have hBw : Below w.heap.size w _ := HE2.out
  refine ⟨layD (layN (lay0 w.heap.size) 0 p2 n2) 1 (w3.heap.size + 1) w3.heap.size, ?_, hfin.is, fun k hk => ?_, ?_⟩
  · show Ending.returned (.tuple #[.pointer (some ⟨w1.heap.size + 1, 0, none⟩), .int .i64 0]) = Ending.returned (.tuple #[.pointer (some ⟨w.heap.size + 5, 0, none⟩), .int .i64 0])
    rw [HE1.out]
  · rcases hfin.own k hk with q | q
    · obtain ⟨i, hi, rfl⟩ := q
      exact lay0_low _ i hi
    · exact Nat.le_trans hBw.size q
  · exact below_turned hBw hfin.turned (fun k hk => by obtain ⟨i, hi, rfl⟩ := hk; exact lay0_low _ i hi)
end Go.Proofs.YtbecmcjibpamoaaGreatDoor
namespace Go.Proofs.YtbecmcjibpamoaaGreatDoor
open Go.RowKit IntWalk
theorem bare_used : Fs.bare0.used = [] := rfl
theorem bare_bk (b : Int) : Fs.bare0.bk b = none := by
  unfold Fs.bk
  split
  · rfl
  · show (match (List.replicate 200 blk0)[slotOf b]? with | some (true, l) => some l | _ => none) = none
    rw [List.getElem?_replicate]
    split <;> rename_i h
    · split at h
      · cases h
      · cases h
    · rfl
theorem bare_blk : Blk Fs.bare0 := by
  refine ⟨by rw [bare_used]; exact List.nodup_nil, fun b => ?_, ?_⟩
  · rw [bare_used, bare_bk]
    simp
  · show (200 : Int) = ((List.replicate 200 blk0).filter (fun b => !b.1)).length
    rw [List.filter_replicate_of_pos (by rfl), List.length_replicate]; rfl
theorem Gen.bare0 : Gen Fs.bare0 := by
  refine ⟨bare_blk, fun j x hj => ?_, fun i hi => ?_, bare_ok.blocks⟩
  · have hj' : (List.replicate 30 (none : Option Nd))[j]? = some (some x) := hj
    rw [List.getElem?_replicate] at hj'
    split at hj'
    · cases hj'
    · cases hj'
  · have : Fs.bare0.dr i = none := rfl
    rw [this] at hi; cases hi
theorem Gen.new0 : Gen Fs.new0 := (Gen.bare0.fresh bare_nd0 2).addDr rfl rfl
def Fs.nputS (s : Fs) (i : Int) (t : List UInt8) : Fs := if fileE (s.fld Nd.kind i) ≠ 0 then s else match s.nd i with
  | none => s
  | some x => (s.writeS (slotOf i) x 0 t).2
section
variable {W0 : World} {s : Fs} {lay : FId → Nat} {w : World}
theorem Gen.writeAny (h : Gen s) {k : Nat} {x : Nd} (hk : s.nodes[k]? = some (some x)) (t : List UInt8) (ht : t.length ≤ 4096) : Gen (s.writeS k x 0 t).2 := by
  have hx := h.nds k x hk
  have hw0 : Wr s k x s x := ⟨h.blk, hk, fun _ _ => rfl, rfl, rfl, rfl, ⟨rfl, rfl, rfl, rfl⟩, hx.up, hx.ok, fun _ hb => hb⟩
  obtain ⟨hw, hle⟩ := writeL_wr (at_ := 0) (d := t) (t.length + 1) 0 s x hw0 h.blen (by omega)
  unfold Fs.writeS
  generalize Fs.writeL k 0 t (t.length + 1) 0 s x = r at *
  obtain ⟨n, s1, x1⟩ := r
  dsimp only at hw hle ⊢
  obtain ⟨g1, g2, g3, g4⟩ := hw.same
  have hlt' := (List.getElem?_eq_some_iff.1 hw.at_).1
  by_cases hn : 0 < n
  · rw [if_pos hn]
    exact h.node (k := k) (by show (s1.nodes.set _ _)[_]? = _; rw [List.getElem?_set, if_pos rfl, if_pos hlt']) (fun j hj => by show (s1.nodes.set _ _)[_]? = _; rw [List.getElem?_set, if_neg (Ne.symm hj)]; exact hw.other j hj) (hw.blk.setNd hw.at_ rfl) hw.blen hw.dirs (fun y hy => by
      cases hy
      have := hx.size
      exact ⟨hw.up, hw.ok, by
        show 0 ≤ max x.size ((0 + n : Nat) : Int) ∧ max x.size ((0 + n : Nat) : Int) ≤ 4096
        omega⟩) (fun q => by cases q)
  · rw [if_neg hn]
    exact h.node (k := k) hw.at_ hw.other hw.blk hw.blen hw.dirs (fun y hy => by cases hy; exact ⟨hw.up, hw.ok, by rw [g4]; exact hx.size⟩) (fun q => by cases q)
theorem Gen.nputS (h : Gen s) (i : Int) (t : List UInt8) (ht : t.length ≤ 4096) : Gen (s.nputS i t) := by
  unfold Fs.nputS
  split
  · exact h
  · cases hn : s.nd i with
    | none => exact h
    | some x => exact h.writeAny (Fs.nd_slot hn).2.2 t ht
theorem nput_any (i : Int) (t : List UInt8) (ht : t.length ≤ 4000) (h : FsIs s lay w) (hw : s.Whole) : Calls Tryz.prog 8 #[ptrTo (lay .F), .int .i64 i, .int .i64 0, .string ⟨t.toArray⟩] w fun e w' => (∃ n c : Int, e = .returned (.tuple #[.int .i64 n, .int .i64 c])) ∧ Step s lay w (s.nputS i t) lay w' := by
  unfold Fs.nputS
  by_cases hk : fileE (s.fld Nd.kind i) = 0
  · rw [if_neg (by simpa using hk)]
    cases hn : s.nd i with
    | none =>
      have : s.fld Nd.kind i = 0 := by unfold Fs.fld; rw [hn]
      rw [this] at hk
      exact absurd hk (by decide)
    | some x =>
      obtain ⟨h1, h2⟩ := hw i x hn
      refine (nwrite_file i x 0 t w h hn hk h1 h2 (by omega)).mono ?_
      rintro e w' ⟨n, s', hs, rfl, hst⟩
      rw [List.take_of_length_le (by omega)] at hs
      refine ⟨⟨_, _, rfl⟩, ?_⟩
      dsimp only
      rw [← hs]; exact hst
  · rw [if_pos hk]
    exact (nwrite_nofile i 0 ⟨t.toArray⟩ w h hk).mono (by rintro e w' ⟨rfl, rfl⟩; exact ⟨⟨_, _, rfl⟩, Step.refl h⟩)
end
end Go.Proofs.YtbecmcjibpamoaaGreatDoor
namespace Go.Proofs.YtbecmcjibpamoaaGreatDoor
open Go.RowKit IntWalk
def nameOf (e : Key × Value × Nat) : List UInt8 := match e.1 with
  | .str t => t
  | _ => []
def leS (a b : List UInt8) : Bool := decide (a ≤ b)
def insS (x : List UInt8) : List (List UInt8) → List (List UInt8)
  | [] => [x]
  | y :: l => if leS x y then x :: y :: l else y :: insS x l
def sortS (l : List (List UInt8)) : List (List UInt8) := l.foldr insS []
def Fs.listS (s : Fs) (i : Int) : List (List UInt8) := match s.nd i with
  | some x => if x.kind = 2 then (match s.dr i with | some d => sortS (d.names.es.map nameOf) | none => []) else []
  | none => []
end Go.Proofs.YtbecmcjibpamoaaGreatDoor
namespace Go.Proofs.YtbecmcjibpamoaaGreatDoor
open Go.RowKit IntWalk Go.Maps Go.Sort Go.Shelf
theorem leS_total (a b : List UInt8) : (leS a b || leS b a) = true := by
  have h : a ≤ b ∨ b ≤ a := Std.le_total
  simpa [leS] using h
theorem leS_trans (a b c : List UInt8) (h1 : leS a b = true) (h2 : leS b c = true) : leS a c = true := by
  simp only [leS, decide_eq_true_eq] at *; exact Std.le_trans h1 h2
theorem leS_anti {a b : List UInt8} (h1 : leS a b = true) (h2 : leS b a = true) : a = b := by
  simp only [leS, decide_eq_true_eq] at *; exact Std.le_antisymm h1 h2
theorem insS_perm (x : List UInt8) : ∀ l, (insS x l).Perm (x :: l)
  | [] => List.Perm.refl _
  | y :: l => by
    unfold insS
    split
    · exact List.Perm.refl _
    · exact ((insS_perm x l).cons y).trans (List.Perm.swap x y l)
theorem sortS_perm : ∀ l : List (List UInt8), (sortS l).Perm l
  | [] => List.Perm.refl _
  | x :: l => (insS_perm x (sortS l)).trans ((sortS_perm l).cons x)
theorem insS_pairwise (x : List UInt8) : ∀ l : List (List UInt8), l.Pairwise (fun a b => leS a b = true) → (insS x l).Pairwise (fun a b => leS a b = true)
  | [], _ => List.pairwise_singleton _ _
  | y :: l, h => by
    obtain ⟨h1, h2⟩ := List.pairwise_cons.1 h
    unfold insS
    split
    · rename_i hx
      refine List.pairwise_cons.2 ⟨fun z hz => ?_, h⟩
      rcases List.mem_cons.1 hz with rfl | hz
      · exact hx
      · exact leS_trans _ _ _ hx (h1 z hz)
    · rename_i hx
      refine List.pairwise_cons.2 ⟨fun z hz => ?_, insS_pairwise x l h2⟩
      rcases List.mem_cons.1 ((insS_perm x l).mem_iff.1 hz) with rfl | hz
      · have := leS_total z y
        rw [Bool.or_eq_true] at this
        exact this.resolve_left hx
      · exact h1 z hz
theorem sortS_pairwise : ∀ l : List (List UInt8), (sortS l).Pairwise (fun a b => leS a b = true)
  | [] => List.Pairwise.nil
  | x :: l => insS_pairwise x (sortS l) (sortS_pairwise l)
theorem merge_sortS (l : List (List UInt8)) : l.mergeSort (fun x y => decide (x ≤ y)) = sortS l :=
  List.Perm.eq_of_pairwise (le := fun a b => leS a b = true) (fun a b _ _ h1 h2 => leS_anti h1 h2) (List.pairwise_mergeSort leS_trans leS_total l) (sortS_pairwise l) ((List.mergeSort_perm l _).trans (sortS_perm l).symm)
theorem sortS_eq {l l' : List (List UInt8)} (h : l.Perm l') : sortS l = sortS l' :=
  List.Perm.eq_of_pairwise (le := fun a b => leS a b = true) (fun a b _ _ h1 h2 => leS_anti h1 h2) (sortS_pairwise l) (sortS_pairwise l') ((sortS_perm l).trans (h.trans (sortS_perm l').symm))
structure Tr (s : Fs) : Prop where
  dir : ∀ i x, s.nd i = some x → x.kind = 2 → (s.dr i).isSome = true
  many : ∀ i d, s.dr i = some d → d.names.es.length ≤ 100
  name : ∀ i d, s.dr i = some d → ∀ e ∈ d.names.es, 0 < (nameOf e).length ∧ (nameOf e).length ≤ 32
def anyR : Value → Option (DataW Unit × List MemPlace) := fun _ => some (.lit (.bool false), [])
theorem nodup_map_on {α β : Type} {f : α → β} {l : List α} (h : ∀ a ∈ l, ∀ b ∈ l, f a = f b → a = b) (hl : l.Nodup) : (l.map f).Nodup :=
  List.pairwise_map.2 (List.Pairwise.imp_of_mem (fun ha hb hne e => hne (h _ ha _ hb e)) hl)
theorem own_names {d : Dr} {w : World} {b : Nat} (h10 : d.names.es.length ≤ 100) (hnm : ∀ e ∈ d.names.es, 0 < (nameOf e).length ∧ (nameOf e).length ≤ 32) (hok : NamesOk d.names) (hb : w.heap[b]? = some d.names.obj) :
    ∃ D0 : DataW Unit, w.ownsMap Tryz.prog 9 anyR b d.names.es.length D0 ∧ Maps.size D0 = d.names.es.length ∧ (strKeys D0).Perm (d.names.es.map nameOf) := by
  have hkey : ∀ e ∈ d.names.es, keyOf Tryz.prog 9 (entryOf e).key = some (.string (nameOf e)) := fun e he => by
    obtain ⟨t, i, e1, e2⟩ := hok.ints e he
    have hl := (hnm e he).2
    unfold nameOf at hl
    rw [e1] at hl
    unfold entryOf nameOf
    rw [e1]
    simp only [keyOf, Tryz.underlying9, mapKey, Key.val]
    rw [if_pos (by show t.length ≤ maxLen; simp only [maxLen]; dsimp only at hl; omega)]
  have hrg : ∀ e ∈ d.names.es, WideElems.rd (H := Unit) Tryz.prog 9 anyR (entryOf e) = some (.string (nameOf e), .lit (.bool false)) := fun e he => by
    unfold WideElems.rd
    rw [hkey e he]
    rfl
  have hmap : ((d.names.es.map entryOf).toArray.toList.map (WideElems.rg (H := Unit) Tryz.prog 9 anyR)) = d.names.es.map fun e => (Lit.string (nameOf e), DataW.lit (.bool false)) := by
    show (d.names.es.map entryOf).map _ = _
    rw [List.map_map]
    refine List.map_congr_left fun e he => ?_
    have := WideElems.rg_of (hrg e he)
    rw [Function.comp_apply]
    exact this
  have hp := WideShapes.sorted_perm ((d.names.es.map entryOf).toArray.toList.map (WideElems.rg (H := Unit) Tryz.prog 9 anyR))
  refine ⟨_, ⟨(d.names.es.map entryOf).toArray, d.names.clk, hb, ⟨by simp only [List.size_toArray, List.length_map, maxLen]; omega, ⟨fun x hx => ?_, ?_, ?_⟩, fun x hx => ?_⟩, by simp, rfl⟩, ?_, ?_⟩
  · obtain ⟨e, he, rfl⟩ := List.mem_map.1 hx
    exact hok.good.below (e.1, e.2.2) (List.mem_map.2 ⟨e, he, rfl⟩)
  · have := hok.good.births
    simp only [kb, List.map_map] at this
    simpa [entryOf, Function.comp_def] using this
  · have := hok.good.keys
    simp only [kb, List.map_map] at this
    have hk : ((d.names.es.map entryOf).toArray.toList.map (·.key)) = (d.names.es.map (·.1)).map Key.val := by simp [entryOf, Function.comp_def]
    rw [hk]
    refine nodup_map_on ?_ (by simpa [Function.comp_def] using this)
    intro a ha c hc e
    obtain ⟨x, hx, rfl⟩ := List.mem_map.1 ha
    obtain ⟨y, hy, rfl⟩ := List.mem_map.1 hc
    obtain ⟨t, _, e1, _⟩ := hok.ints x hx
    obtain ⟨t', _, e1', _⟩ := hok.ints y hy
    rw [e1, e1'] at e ⊢
    simp only [Key.val, Value.string.injEq] at e
    have : t = t' := by simpa using congrArg (fun z : ByteArray => z.data.toList) e
    rw [this]
  · obtain ⟨e, he, rfl⟩ := List.mem_map.1 hx
    exact ⟨_, hrg e he⟩
  · show (List.foldr DataW.insert [] _).length = _
    rw [hp.length_eq]
    simp
  · show ((List.foldr DataW.insert [] _).map fun p => strOf p.1).Perm _
    refine (hp.map _).trans ?_
    rw [hmap, List.map_map]
    exact List.Perm.of_eq (List.map_congr_left fun e _ => rfl)
theorem keys_says (mb : Option Nat) (W : World) : Calls Tryz.prog 58 #[.map mb] W fun e w' => e = .returned (.func (.func 105) #[] #[.pointer (some ⟨W.heap.size, 0, none⟩)]) ∧ w' = W.alloc (.cells #[.map mb] 76) :=
  (callsIn_wide (n := 5)).1 (AnyZ.keys_in Tryz.keys58 Fence.wide 5 trivial rfl mb W)
theorem sorts_str (m : Nat) : AnyZ.SortsIn Tryz.prog Tryz.sorted57_ren Fence.wide m :=
  ⟨fun blk off cap ss W hH hblk hsz => callsIn_wide.2 (AnyM.slices_Sort_string Tryz.sort104 blk off cap ss W hH hblk hsz),
   fun p cap W => callsIn_wide.2 (AnyM.slices_Sort_string_none Tryz.sort104 p cap W)⟩
set_option maxHeartbeats 1000000 in
theorem sorted_says (b nn : Nat) (D0 : DataW Unit) (w : World) (hown : w.ownsMap Tryz.prog 9 anyR b nn D0) (hmax : Maps.size D0 ≤ 100) :
    Calls Tryz.prog 57 #[.func (.func 105) #[] #[.pointer (some ⟨w.heap.size, 0, none⟩)]] (w.alloc (.cells #[.map (some b)] 76)) fun e w' => ∃ (v : Value), e = .returned v ∧
      w'.ownsRow (w.alloc (.cells #[.map (some b)] 76)).heap.size 9 1 v (sortS (strKeys D0)).length ((sortS (strKeys D0)).map encStr) ∧ Below (w.alloc (.cells #[.map (some b)] 76)).heap.size (w.alloc (.cells #[.map (some b)] 76)) w' := by
  have hbl := hown.lt
  have hseq : SeqGives Fence.wide 2 Tryz.prog 105 #[.pointer (some ⟨w.heap.size, 0, none⟩)] encStr (fun ss => ss.Perm (strKeys D0)) (Maps.size D0) (w.alloc (.cells #[.map (some b)] 76)) :=
    AnyZ.keys_gives (ρ := Tryz.keys58_ren) { Tryz.keys58 with } Fence.wide _ trivial rfl (by omega) w.heap.size b nn D0 _ (by simp) (by simp) (by
      obtain ⟨es, clock, hb, Ft, hs, hD⟩ := hown
      exact ⟨es, clock, (Below.heap_alloc _ _ b hbl).trans hb, Ft, hs, hD⟩)
  have h := (callsIn_wide (n := 5)).1 (AnyZ.sorted_in Tryz.sorted57 Fence.wide 5 trivial trivial trivial trivial rfl (by omega) (sorts_str _) (enters_of Tryz.func104 (by kernel_rfl) rfl) 105 #[.pointer (some ⟨w.heap.size, 0, none⟩)] trivial (enters_of Tryz.func105 (by kernel_rfl) rfl) _ _ (by simp only [maxLen]; omega) (by omega) _ hseq)
  refine h.mono ?_
  rintro e w' ⟨v, ss, rfl, hp, hrow, hnil, hb⟩
  have he : ss.mergeSort (fun x y => decide (x ≤ y)) = sortS (strKeys D0) := (merge_sortS ss).trans (sortS_eq hp)
  refine ⟨v, rfl, ?_, hb⟩
  have hrow' := hrow
  rw [he] at hrow'
  rw [show (sortS (strKeys D0)).length = ss.length by rw [← he]; exact List.length_mergeSort ss]
  exact hrow'
theorem names_ok {s : Fs} (h : s.Ok) {i : Int} {d : Dr} (hd : s.dr i = some d) : NamesOk d.names := by
  obtain ⟨n, hn⟩ := dirE_mem hd
  exact h.names _ hn
structure Listed (w w' : World) (L : List (List UInt8)) (v : Value) : Prop where
  below : Below w.heap.size w w'
  own : w'.ownsRow (w.heap.size + 1) 9 1 v L.length (L.map encStr)
theorem nlist_dir {s : Fs} {lay : FId → Nat} {w : World} (h : FsIs s lay w) (hT : Tr s) {i : Int} {d : Dr} (hk : s.fld Nd.kind i = 2) (hd : s.dr i = some d) :
    Calls Tryz.prog 90 #[ptrTo (lay .F), .int .i64 i] w fun e w' => ∃ v, e = .returned (.tuple #[v, .int .i64 0]) ∧ Listed w w' (sortS (d.names.es.map nameOf)) v := by
  have hM : w.heap[lay (.M i)]? = some d.names.obj := h.lies.at_ (.M i) _ (by simp [Fs.obj, hd])
  have hok : NamesOk d.names := names_ok h.ok hd
  obtain ⟨D0, hown, hsz, hperm⟩ := own_names (hT.many i d hd) (hT.name i d hd) hok hM
  have h10 := hT.many i d hd
  have HN := Lib.hid (nkind_any i w h)
  rw [hk] at HN
  have hl := dir_look h i
  rw [hd] at hl
  simp only [Option.map_some, Option.getD_some] at hl
  have e0 := h.e0 hd
  have c1 := h.f1
  have HK := Lib.hid (keys_says (some (lay (.M i))) w)
  have HSo := Lib.hid (sorted_says (lay (.M i)) _ D0 w hown (by omega))
  have HP := Lib.hid (sortS_eq hperm)
  clear h hT hM hok hown hperm hd hk
  unfold ptrTo at *
  go_enter Tryz.func90, Tryz.ntmps90
  go_wp2_with first
    | (go_at_call 36; refine HN.out.mono ?_; rintro e w' ⟨rfl, rfl⟩)
    | (go_at_call 58; refine HK.out.mono ?_; rintro e w' ⟨rfl, rfl⟩)
    | (go_at_call 57; refine HSo.out.mono ?_; rintro e w' ⟨v, rfl, hrow, hb⟩; have HR := Lib.hid hrow; have HB := Lib.hid hb; clear hrow hb)
  go_ret2
  refine ⟨v, rfl, ⟨((Below.refl _ w).alloc (Nat.le_refl _) _).trans (HB.out.mono (by simp)), ?_⟩⟩
  have := HR.out
  have e1 : (w.alloc (.cells #[.map (some (lay (.M i)))] 76)).heap.size = w.heap.size + 1 := by simp
  rw [HP.out, e1] at this
  exact this
theorem nlist_no {s : Fs} {lay : FId → Nat} {w : World} (h : FsIs s lay w) {i : Int} (hk : s.fld Nd.kind i ≠ 2) :
    Calls Tryz.prog 90 #[ptrTo (lay .F), .int .i64 i] w fun e w' => ∃ z : Int, e = .returned (.tuple #[.slice none 0 0, .int .i64 z]) ∧ w = w' := by
  have HN := Lib.hid (nkind_any i w h)
  generalize s.fld Nd.kind i = kk at *
  unfold ptrTo at *
  by_cases h0 : kk = 0
  · subst h0
    rw [if_pos rfl] at HN
    go_enter Tryz.func90, Tryz.ntmps90
    go_wp2_with first
      | (go_at_call 36; refine HN.out.mono ?_; rintro e w' ⟨rfl, rfl⟩)
    go_ret2
    exact ⟨_, rfl, rfl⟩
  · rw [if_neg h0] at HN
    have hk2 : (kk != 2) = true := by simpa using hk
    go_enter Tryz.func90, Tryz.ntmps90
    go_wp2_with first
      | (go_at_call 36; refine HN.out.mono ?_; rintro e w' ⟨rfl, rfl⟩)
    go_ret2
    exact ⟨_, rfl, rfl⟩
theorem nlist_any {s : Fs} {lay : FId → Nat} {w : World} (h : FsIs s lay w) (hT : Tr s) (i : Int) :
    Calls Tryz.prog 90 #[ptrTo (lay .F), .int .i64 i] w fun e w' => ∃ (v : Value) (z : Int), e = .returned (.tuple #[v, .int .i64 z]) ∧ Listed w w' (s.listS i) v := by
  by_cases hk : s.fld Nd.kind i = 2
  · have hk' := hk
    unfold Fs.fld at hk'
    cases hn : s.nd i with
    | none => rw [hn] at hk'; cases hk'
    | some x =>
      rw [hn] at hk'
      obtain ⟨d, hd⟩ := Option.isSome_iff_exists.1 (hT.dir i x hn hk')
      refine (nlist_dir h hT hk hd).mono ?_
      rintro e w' ⟨v, rfl, hl⟩
      refine ⟨v, 0, rfl, ?_⟩
      unfold Fs.listS
      rw [hn]
      dsimp only
      rw [if_pos hk', hd]
      exact hl
  · refine (nlist_no h hk).mono ?_
    rintro e w' ⟨z, rfl, rfl⟩
    refine ⟨_, z, rfl, Below.refl _ _, ?_⟩
    have : s.listS i = [] := by
      unfold Fs.listS
      unfold Fs.fld at hk
      cases hn : s.nd i with
      | none => rfl
      | some x =>
        rw [hn] at hk
        dsimp only at hk ⊢
        rw [if_neg hk]
    rw [this]
    exact World.ownsRow_nil _ _ _ _
theorem list_len {s : Fs} (hT : Tr s) (i : Int) : (s.listS i).length ≤ 100 ∧ ∀ x ∈ s.listS i, 0 < x.length ∧ x.length ≤ 32 := by
  unfold Fs.listS
  cases s.nd i with
  | none => exact ⟨by simp, fun x hx => by simp at hx⟩
  | some x =>
    dsimp only
    split
    · cases hd : s.dr i with
      | none => exact ⟨by simp, fun x hx => by simp at hx⟩
      | some d =>
        refine ⟨?_, fun t ht => ?_⟩
        · rw [(sortS_perm _).length_eq, List.length_map]; exact hT.many i d hd
        · obtain ⟨e, he, rfl⟩ := List.mem_map.1 ((sortS_perm _).mem_iff.1 ht)
          exact hT.name i d hd e he
    · exact ⟨by simp, fun x hx => by simp at hx⟩
end Go.Proofs.YtbecmcjibpamoaaGreatDoor
namespace Go.Proofs.YtbecmcjibpamoaaGreatDoor
open Go.RowKit IntWalk
def FT (W0 : World) (F : Nat) (s : Fs) (w : World) : Prop := ∃ lay, lay .F = F ∧ FsIn W0 s lay w ∧ Gen s
def beginS : Fs :=
  let s1 := (Fs.new0.mkdirS 1 [100]).2
  let s2 := (s1.slinkS 1 [100] [108]).2
  let s3 := (s2.slinkS 1 [120] [120]).2
  let r4 := s3.makeS 1 [102]
  let s5 := r4.2.2.nputS r4.1 [98, 10, 97, 10, 98, 10]
  let r6 := s5.makeS 1 [103]
  let s7 := r6.2.2.nputS r6.1 [111, 110, 101, 32, 116, 119, 111, 10, 116, 104, 114, 101, 101]
  let r8 := s7.makeS 1 [100, 47, 102]
  r8.2.2.nputS r8.1 [105, 110, 110, 101, 114, 10]
section
variable {W0 : World} {F : Nat} {s : Fs} {w : World}
theorem FT.step {lay lay' : FId → Nat} {s' : Fs} {w' : World} (hl : lay .F = F) (h : FsIn W0 s lay w) (hl' : lay' .F = lay .F) (hs : Step s lay w s' lay' w') (hG : Gen s') : FT W0 F s' w' :=
  ⟨lay', hl'.trans hl, h.step hs hG.whole, hG⟩
theorem ft_mkdir (h : FT W0 F s w) (hE : EnvG W0) (i : Int) (p : List UInt8) (hp : p.length ≤ 400) : Calls Tryz.prog 15 #[ptrTo F, .int .i64 i, .string ⟨p.toArray⟩] w fun e w' => (∃ c : Int, e = .returned (.int .i64 c)) ∧ FT W0 F (s.mkdirS i p).2 w' := by
  obtain ⟨lay, rfl, hf, hG⟩ := h
  exact (mkdir_any hE i p (by omega) hf hG).mono (by rintro e w' ⟨rfl, lay', hl, hs⟩; exact ⟨⟨_, rfl⟩, FT.step rfl hf hl hs (hG.mkdirS i p)⟩)
theorem ft_slink (h : FT W0 F s w) (hE : EnvG W0) (i : Int) (t p : List UInt8) (hp : p.length ≤ 400) : Calls Tryz.prog 16 #[ptrTo F, .int .i64 i, .string ⟨t.toArray⟩, .string ⟨p.toArray⟩] w fun e w' => (∃ c : Int, e = .returned (.int .i64 c)) ∧ FT W0 F (s.slinkS i t p).2 w' := by
  obtain ⟨lay, rfl, hf, hG⟩ := h
  exact (symlink_any hE i t p (by omega) hf hG).mono (by rintro e w' ⟨rfl, lay', hl, hs⟩; exact ⟨⟨_, rfl⟩, FT.step rfl hf hl hs (hG.slinkS i t p)⟩)
theorem ft_make (h : FT W0 F s w) (hE : EnvG W0) (i : Int) (p : List UInt8) (hp : p.length ≤ 400) : Calls Tryz.prog 7 #[ptrTo F, .int .i64 i, .string ⟨p.toArray⟩] w fun e w' => (∃ c : Int, e = .returned (.tuple #[.int .i64 (s.makeS i p).1, .int .i64 c])) ∧ FT W0 F (s.makeS i p).2.2 w' := by
  obtain ⟨lay, rfl, hf, hG⟩ := h
  exact (make_any hE i p (by omega) w hf).mono (by rintro e w' ⟨rfl, lay', hl, hs⟩; exact ⟨⟨_, rfl⟩, FT.step rfl hf hl hs (hG.makeS i p)⟩)
theorem ft_nput (h : FT W0 F s w) (i : Int) (t : List UInt8) (ht : t.length ≤ 400) : Calls Tryz.prog 8 #[ptrTo F, .int .i64 i, .int .i64 0, .string ⟨t.toArray⟩] w fun e w' => (∃ n c : Int, e = .returned (.tuple #[.int .i64 n, .int .i64 c])) ∧ FT W0 F (s.nputS i t) w' := by
  obtain ⟨lay, rfl, hf, hG⟩ := h
  exact (nput_any i t (by omega) hf.is hG.whole).mono (by rintro e w' ⟨he, hs⟩; exact ⟨he, FT.step rfl hf rfl hs (hG.nputS i t (by omega))⟩)
set_option maxRecDepth 100000 in
set_option maxHeartbeats 2000000 in
theorem begun_t (w : World) (hE : EnvG w) : Calls Tryz.prog 6 #[] w fun e w' => ∃ F, e = .returned (ptrTo F) ∧ FT w F beginS w' := by
  have HN := Lib.hid ((fnew_any w).mono (R' := fun e w' => ∃ F, e = .returned (.tuple #[ptrTo F, .int .i64 0]) ∧ FT w F Fs.new0 w') (by rintro e w' ⟨lay, he, h1, h2, h3⟩; exact ⟨lay .F, he, lay, rfl, ⟨h1, h2, h3, Gen.new0.whole⟩, Gen.new0⟩))
  unfold ptrTo at *
  go_enter Tryz.func6, Tryz.ntmps6
  go_wp2_with first
    | (go_at_call 14; (with_reducible refine HN.out.mono ?_); rintro e w1 ⟨F, rfl, h1⟩)
    | (go_at_call 15; (refine (ft_mkdir h1 hE 1 [100] (by simp)).mono ?_); rintro e w2 ⟨⟨c2, rfl⟩, h2⟩)
    | (go_at_call 16; (refine (ft_slink h2 hE 1 [100] [108] (by simp)).mono ?_); rintro e w3 ⟨⟨c3, rfl⟩, h3⟩; clear h2)
    | (go_at_call 16; (refine (ft_slink h3 hE 1 [120] [120] (by simp)).mono ?_); rintro e w4 ⟨⟨c4, rfl⟩, h4⟩)
    | (go_at_call 7; (refine (ft_make h4 hE 1 [102] (by simp)).mono ?_); rintro e w5 ⟨⟨c5, rfl⟩, h5⟩; clear h4)
    | (go_at_call 8; (refine (ft_nput h5 _ [98, 10, 97, 10, 98, 10] (by simp)).mono ?_); rintro e w6 ⟨⟨n6, c6, rfl⟩, h6⟩; clear h5)
    | (go_at_call 7; (refine (ft_make h6 hE 1 [103] (by simp)).mono ?_); rintro e w7 ⟨⟨c7, rfl⟩, h7⟩; clear h6)
    | (go_at_call 8; (refine (ft_nput h7 _ [111, 110, 101, 32, 116, 119, 111, 10, 116, 104, 114, 101, 101] (by simp)).mono ?_); rintro e w8 ⟨⟨n8, c8, rfl⟩, h8⟩; clear h7)
    | (go_at_call 7; (refine (ft_make h8 hE 1 [100, 47, 102] (by simp)).mono ?_); rintro e w9 ⟨⟨c9, rfl⟩, h9⟩; clear h8)
    | (go_at_call 8; (refine (ft_nput h9 _ [105, 110, 110, 101, 114, 10] (by simp)).mono ?_); rintro e w10 ⟨⟨n10, c10, rfl⟩, h10⟩; clear h9)
  go_ret
  exact ⟨F, rfl, h10⟩
end
end Go.Proofs.YtbecmcjibpamoaaGreatDoor
namespace Go.Proofs.YtbecmcjibpamoaaGreatDoor
open Go.RowKit IntWalk
structure NmOk (t : List UInt8) : Prop where
  len : t.length ≤ 32
  ne : t ≠ []
  dot : t ≠ dotL
  dots : t ≠ dotsL
  stroke : (47 : UInt8) ∉ t
structure TrN (N : Nat) (s : Fs) : Prop where
  gen : Gen s
  dir : ∀ i, s.fld Nd.kind i = 2 → (s.dr i).isSome = true
  many : ∀ i d, s.dr i = some d → d.names.es.length ≤ N
  name : ∀ i d, s.dr i = some d → ∀ e ∈ d.names.es, NmOk (nameOf e)
  root : s.fld Nd.kind 1 = 2
  d : ∃ d1 n, s.dr 1 = some d1 ∧ d1.name [100] = some n ∧ s.fld Nd.kind n = 2
variable {s : Fs} in
theorem TrN.tr {N : Nat} (h : TrN N s) (hN : N ≤ 100) : Tr s := by
  refine ⟨fun i x hn hk => h.dir i (by unfold Fs.fld; rw [hn]; exact hk), fun i d hd => Nat.le_trans (h.many i d hd) hN, fun i d hd e he => ?_⟩
  have := h.name i d hd e he
  exact ⟨List.length_pos_iff.2 this.ne, this.len⟩
def nmB (t : List UInt8) : Bool := decide (t.length ≤ 32) && t != [] && t != dotL && t != dotsL && t.all (fun c => c != 47)
theorem nmB_ok {t : List UInt8} (h : nmB t = true) : NmOk t := by
  unfold nmB at h
  simp only [Bool.and_eq_true, bne_iff_ne, decide_eq_true_eq, List.all_eq_true] at h
  obtain ⟨⟨⟨⟨a, b⟩, c⟩, d⟩, e⟩ := h
  exact ⟨a, b, c, d, fun hm => e 47 hm rfl⟩
def beginB : Bool := trB0 beginS
where trB0 (s : Fs) : Bool :=
  ((List.range s.nodes.length).all fun k => match s.nodes[k]? with
    | some (some x) => x.kind != 2 || (s.dr ((k : Int) + 1)).isSome
    | _ => true) && (s.dirs.all fun e => decide (e.2.1.names.es.length ≤ 6) && e.2.1.names.es.all fun x => nmB (nameOf x)) && (s.fld Nd.kind 1 == 2) &&
  (match s.dr 1 with
    | some d1 => (match d1.name [100] with
      | some n => s.fld Nd.kind n == 2
      | none => false)
    | none => false)
theorem begin_ok : beginB = true := by kernel_rfl
theorem begin_trn (hG : Gen beginS) : TrN 6 beginS := by
  have h := begin_ok
  unfold beginB beginB.trB0 at h
  simp only [Bool.and_eq_true] at h
  obtain ⟨⟨⟨h1, h2⟩, h3⟩, h4⟩ := h
  rw [List.all_eq_true] at h1 h2
  have hd : ∀ i d, beginS.dr i = some d → d.names.es.length ≤ 6 ∧ ∀ e ∈ d.names.es, nmB (nameOf e) = true := fun i d hi => by
    obtain ⟨n, hn⟩ := dirE_mem hi
    have := h2 _ hn
    rw [Bool.and_eq_true, List.all_eq_true] at this
    exact ⟨of_decide_eq_true this.1, this.2⟩
  refine ⟨hG, fun i hi => ?_, fun i d hi => (hd i d hi).1, fun i d hi e he => nmB_ok ((hd i d hi).2 e he), by simpa using h3, ?_⟩
  · unfold Fs.fld at hi
    cases hn : beginS.nd i with
    | none => rw [hn] at hi; cases hi
    | some x =>
      rw [hn] at hi
      obtain ⟨q3, q4, q5⟩ := Fs.nd_slot hn
      have := h1 (slotOf i) (by rw [List.mem_range]; unfold slotOf; omega)
      rw [q5] at this
      have e : ((slotOf i : Nat) : Int) + 1 = i := by unfold slotOf; omega
      rw [e] at this
      have hi' : x.kind = 2 := hi
      simpa [hi'] using this
  · cases hdr : beginS.dr 1 with
    | none => rw [hdr] at h4; cases h4
    | some d1 =>
      rw [hdr] at h4
      dsimp only at h4
      cases hnm : d1.name [100] with
      | none => rw [hnm] at h4; cases h4
      | some n => rw [hnm] at h4; exact ⟨d1, n, rfl, hnm, by simpa using h4⟩
end Go.Proofs.YtbecmcjibpamoaaGreatDoor
