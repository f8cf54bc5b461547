/- Texts of one proof, packed: GnC, GnD, GnE, GnF, GnG -/
import Derived.Test.YtbecmcjibpamoaaGreatDoorU06
import Derived.Laws.MakeOwn
set_option linter.unusedVariables false
set_option linter.unusedSimpArgs false
set_option linter.deprecated false
set_option linter.unnecessarySimpa false
/- names: a new tree of 30 nodes and 200 blocks. -/
namespace Go.Proofs.YtbecmcjibpamoaaGreatDoor
open Go.RowKit IntWalk
set_option linter.unusedVariables false
set_option linter.unusedSimpArgs false

def blk0 : Bool × List UInt8 := (false, List.replicate 64 0)
/-- a tree of nothing -/
def Fs.bare0 : Fs := ⟨List.replicate 30 none, List.replicate 200 blk0, 200, [], 0⟩
/-- a tree of a root alone -/
def Fs.new0 : Fs := (Fs.bare0.setNd 0 (freshNd 2)).addDr 1 1
theorem flat_rep {α β : Type} (f : α → List β) (a : α) (m : Nat) (hm : (f a).length = m) : ∀ (n j : Nat), j < n * m → ((List.replicate n a).flatMap f)[j]? = (f a)[j % m]?
  | 0, j, h => by omega
  | n + 1, j, h => by
    rw [List.replicate_succ, List.flatMap_cons]
    by_cases q : j < m
    · rw [List.getElem?_append_left (by omega), Nat.mod_eq_of_lt q]
    · rw [List.getElem?_append_right (by omega), hm, flat_rep f a m hm n (j - m) (by rw [Nat.succ_mul] at h; omega)]
      rw [Nat.mod_eq_sub_mod (by omega : m ≤ j)]
theorem flat_rep_len {α β : Type} (f : α → List β) (a : α) (m : Nat) (hm : (f a).length = m) (n : Nat) : ((List.replicate n a).flatMap f).length = n * m := by
  rw [List.length_flatMap, List.map_replicate, hm]
  simp
theorem made_get2 (z : Array Value) (n j : Nat) (hj : j < n) (h0 : 0 < z.size) : (madeCells z n)[j]? = z[j % z.size]? := by
  have : j % z.size < z.size := Nat.mod_lt _ h0
  simp [madeCells, hj, this]
/-- cells that repeat -/
theorem made_flat {α : Type} (f : α → List Value) (a : α) (z : Array Value) (hz : f a = z.toList) (h0 : 0 < z.size) (n : Nat) : madeCells z (n * z.size) = ((List.replicate n a).flatMap f).toArray := by
  have hm : (f a).length = z.size := by rw [hz]; simp
  apply Array.ext'
  apply List.ext_getElem?
  intro j
  rw [Array.getElem?_toList]
  by_cases q : j < n * z.size
  · rw [made_get2 z _ j q h0]
    show _ = ((List.replicate n a).flatMap f)[j]?
    rw [flat_rep f a z.size hm n j q, hz, Array.getElem?_toList]
  · rw [Array.getElem?_eq_none (by rw [size_madeCells]; omega)]
    show _ = ((List.replicate n a).flatMap f)[j]?
    rw [List.getElem?_eq_none (by rw [flat_rep_len f a _ hm]; omega)]
end Go.Proofs.YtbecmcjibpamoaaGreatDoor
/- names: New. -/
namespace Go.Proofs.YtbecmcjibpamoaaGreatDoor
open Go.RowKit IntWalk
set_option linter.unusedVariables false
set_option linter.unusedSimpArgs false

def bsO : Obj := .cells ((List.replicate 200 blk0).flatMap blockV).toArray 133
def gsO : Obj := .cells ((List.replicate 30 (none : Option Nd)).mapIdx fun i o => match o with | some _ => Value.pointer (some ⟨i, 0, none⟩) | none => Value.pointer none).toArray 83
theorem blk0_len : (blockV blk0).length = 65 := by
  unfold blockV blk0
  rw [List.length_cons, List.length_map, List.length_replicate]
theorem run_bs (w : World) : (Instr.makeSlice 157 (.int .i64 200) (.int .i64 200)).run Tryz.prog w = .ok (.slice (some ⟨w.heap.size, 0, none⟩) 200 200) (w.alloc bsO) := by
  obtain ⟨i, hi, h1, h2, h3⟩ := info_parts (show (Tryz.prog.info? 133).map (fun i => (i.zero, i.size, i.bytes)) = some (some (.agg (blockV blk0).toArray), 65, 65) by kernel_rfl)
  have := run_make (P := Tryz.prog) w 157 133 i _ Tryz.underlying157 hi h1 .i64 .i64 200 200 (by omega) (by omega) (by rw [h3]; omega) (by omega)
  have e : madeCells (Value.agg (blockV blk0).toArray).cells (Int.toNat 200 * i.size) = ((List.replicate 200 blk0).flatMap blockV).toArray := by
    rw [h2]
    have := made_flat blockV blk0 (blockV blk0).toArray (by simp) (by simp [blk0_len]) 200
    rw [show (blockV blk0).toArray.size = 65 by simp [blk0_len]] at this
    exact this
  rw [this, e]
  unfold bsO
  rw [show Int.toNat 200 = 200 from rfl]
theorem gs_eq (n : Nat) (f : Nat → Option Nd → Value) (hf : ∀ i, f i none = .pointer none) : madeCells #[Value.pointer none] n = ((List.replicate n (none : Option Nd)).mapIdx f).toArray := by
  apply Array.ext'
  apply List.ext_getElem?
  intro j
  rw [Array.getElem?_toList, List.getElem?_mapIdx, List.getElem?_replicate]
  by_cases q : j < n
  · rw [made_get2 #[Value.pointer none] n j q (by show 0 < 1; omega), if_pos q, Option.map_some, hf]
    show (#[Value.pointer none] : Array Value)[j % 1]? = _
    rw [Nat.mod_one]; rfl
  · rw [Array.getElem?_eq_none (by rw [size_madeCells]; omega), if_neg q]; rfl
theorem run_gs (w : World) : (Instr.makeSlice 87 (.int .i64 30) (.int .i64 30)).run Tryz.prog w = .ok (.slice (some ⟨w.heap.size, 0, none⟩) 30 30) (w.alloc gsO) := by
  obtain ⟨i, hi, h1, h2, h3⟩ := info_parts (show (Tryz.prog.info? 83).map (fun i => (i.zero, i.size, i.bytes)) = some (some (.pointer none), 1, 8) by kernel_rfl)
  have := run_make (P := Tryz.prog) w 87 83 i _ Tryz.underlying87 hi h1 .i64 .i64 30 30 (by omega) (by omega) (by rw [h3]; omega) (by omega)
  have e : madeCells (Value.pointer none).cells (Int.toNat 30 * i.size) = ((List.replicate 30 (none : Option Nd)).mapIdx fun i o => match o with | some _ => Value.pointer (some ⟨i, 0, none⟩) | none => Value.pointer none).toArray := by
    rw [h2]
    exact gs_eq 30 _ (fun _ => rfl)
  rw [this, e]
  unfold gsO
  rw [show Int.toNat 30 = 30 from rfl]
/-- where a tree of nothing lies -/
def lay0 (k : Nat) : FId → Nat
  | .B => k
  | .S => k + 1
  | .G => k + 2
  | .T => k + 3
  | .D => k + 4
  | .F => k + 5
  | _ => 0
theorem bare_ok : Fs.bare0.Ok := by
  refine ⟨by show (List.replicate 30 none).length ≤ 1024; rw [List.length_replicate]; omega, by show (List.replicate 200 blk0).length ≤ 4096; rw [List.length_replicate]; omega, fun b hb => ?_, fun x hx => ?_, (fun e he => by cases he), ⟨List.nodup_nil, List.nodup_nil, (fun e he => by cases he)⟩⟩
  · rw [List.eq_of_mem_replicate hb]
    show (List.replicate 64 (0 : UInt8)).length = 64
    exact List.length_replicate
  · have := List.eq_of_mem_replicate hx
    cases this
theorem bare_none (lay : FId → Nat) (i : Nat) : Fs.bare0.obj lay (.N i) = none ∧ Fs.bare0.obj lay (.P i) = none := by
  have h : Fs.bare0.nodes[i]? = none ∨ Fs.bare0.nodes[i]? = some none := by
    show (List.replicate 30 none)[i]? = none ∨ (List.replicate 30 none)[i]? = some none
    rw [List.getElem?_replicate]
    split
    · exact .inr rfl
    · exact .inl rfl
  constructor <;> (rcases h with h | h <;> simp [Fs.obj, h])
theorem bare_live (lay : FId → Nat) (i : FId) (h : Fs.bare0.obj lay i ≠ none) : i = .B ∨ i = .S ∨ i = .G ∨ i = .T ∨ i = .D ∨ i = .F := by
  cases i with
  | N i => exact absurd (bare_none lay i).1 h
  | P i => exact absurd (bare_none lay i).2 h
  | E i => exact absurd rfl h
  | M i => exact absurd rfl h
  | F => simp
  | T => simp
  | G => simp
  | S => simp
  | B => simp
  | D => simp
theorem bare_lies (k : Nat) (w : World) (hB : w.heap[k]? = some bsO) (hS : w.heap[k + 1]? = some (.cells #[.slice (some ⟨k, 0, none⟩) 200 200, .int .i64 200] 159 (0, 0)))
    (hG : w.heap[k + 2]? = some gsO) (hT : w.heap[k + 3]? = some (.cells #[.slice (some ⟨k + 2, 0, none⟩) 30 30, ptrTo (k + 1)] 90 (0, 0)))
    (hD : w.heap[k + 4]? = some (.map #[] 0)) (hF : w.heap[k + 5]? = some (.cells #[ptrTo (k + 3), .map (some (k + 4))] 51 (0, 0))) : FsIs Fs.bare0 (lay0 k) w := by
  refine ⟨⟨fun i o ho => ?_, fun i j hi hj e => ?_⟩, bare_ok⟩
  · rcases bare_live (lay0 k) i (by rw [ho]; simp) with rfl | rfl | rfl | rfl | rfl | rfl
    · cases ho; exact hB
    · cases ho
      show w.heap[k + 1]? = _
      rw [hS]
      show _ = some (Obj.cells #[.slice (some ⟨k, 0, none⟩) (List.replicate 200 blk0).length (List.replicate 200 blk0).length, _] _ _)
      rw [List.length_replicate]; rfl
    · cases ho
      show w.heap[k + 2]? = _
      rw [hG]; rfl
    · cases ho
      show w.heap[k + 3]? = _
      rw [hT]
      show _ = some (Obj.cells #[.slice (some ⟨k + 2, 0, none⟩) (List.replicate 30 (none : Option Nd)).length (List.replicate 30 (none : Option Nd)).length, _] _ _)
      rw [List.length_replicate]; rfl
    · cases ho; exact hD
    · cases ho; exact hF
  · rcases bare_live (lay0 k) i hi with rfl | rfl | rfl | rfl | rfl | rfl <;> rcases bare_live (lay0 k) j hj with rfl | rfl | rfl | rfl | rfl | rfl <;> first | rfl | (simp only [lay0] at e; omega)
theorem bnew_any (w : World) : Calls Tryz.prog 64 #[.int .i64 200] w fun e w' => e = .returned (.tuple #[ptrTo (w.heap.size + 1), .int .i64 0]) ∧ w' = (w.alloc bsO).alloc (.cells #[.slice (some ⟨w.heap.size, 0, none⟩) 200 200, .int .i64 200] 159 (0, 0)) := by
  have hr := fun W => run_bs W
  go_enter Tryz.func64, Tryz.ntmps64
  go_wp2
  go_ret2
  exact ⟨rfl, rfl⟩
theorem inew_any (w : World) : Calls Tryz.prog 31 #[.int .i64 30, .int .i64 200] w fun e w' => e = .returned (.tuple #[ptrTo (w.heap.size + 3), .int .i64 0]) ∧ w' = (((w.alloc bsO).alloc (.cells #[.slice (some ⟨w.heap.size, 0, none⟩) 200 200, .int .i64 200] 159 (0, 0))).alloc gsO).alloc (.cells #[.slice (some ⟨w.heap.size + 2, 0, none⟩) 30 30, ptrTo (w.heap.size + 1)] 90 (0, 0)) := by
  have HB := Lib.hid (bnew_any w)
  have hr := fun W => run_gs W
  unfold ptrTo at *
  go_enter Tryz.func31, Tryz.ntmps31
  go_wp2_with (go_at_call 64; (with_reducible refine HB.out.mono ?_); rintro e w1 ⟨rfl, rfl⟩)
  go_ret2
  exact ⟨rfl, rfl⟩
end Go.Proofs.YtbecmcjibpamoaaGreatDoor
/- names: New, whole. -/
namespace Go.Proofs.YtbecmcjibpamoaaGreatDoor
open Go.RowKit IntWalk
set_option linter.unusedVariables false
set_option linter.unusedSimpArgs false

theorem g_alloc_at (w : World) (o : Obj) : (w.alloc o).heap[w.heap.size]? = some o := by show (w.heap.push o)[w.heap.size]? = some o; simp
/-- the six blocks of a tree of nothing -/
theorem bare_world (w : World) : ∀ w1, w1 = (((w.alloc bsO).alloc (.cells #[.slice (some ⟨w.heap.size, 0, none⟩) 200 200, .int .i64 200] 159 (0, 0))).alloc gsO).alloc (.cells #[.slice (some ⟨w.heap.size + 2, 0, none⟩) 30 30, ptrTo (w.heap.size + 1)] 90 (0, 0)) →
    w1.heap.size = w.heap.size + 4 ∧ Below w.heap.size w ((w1.alloc (.map #[] 0)).alloc (.cells #[ptrTo (w.heap.size + 3), .map (some (w.heap.size + 4))] 51 (0, 0))) ∧ FsIs Fs.bare0 (lay0 w.heap.size) ((w1.alloc (.map #[] 0)).alloc (.cells #[ptrTo (w.heap.size + 3), .map (some (w.heap.size + 4))] 51 (0, 0))) := by
  rintro w1 rfl
  have hs : ∀ (W : World) (o : Obj), (W.alloc o).heap.size = W.heap.size + 1 := fun W o => by simp
  have hold : ∀ (W : World) (o p : Obj) (k : Nat), W.heap[k]? = some p → (W.alloc o).heap[k]? = some p := fun W o p k h => by
    rw [Below.heap_alloc _ _ _ (Array.getElem?_eq_some_iff.1 h).1]; exact h
  have hnew : ∀ (W : World) (o : Obj) (k : Nat), W.heap.size = k → (W.alloc o).heap[k]? = some o := fun W o k h => by rw [← h]; exact g_alloc_at W o
  refine ⟨by simp, ?_, bare_lies w.heap.size _ ?_ ?_ ?_ ?_ ?_ ?_⟩
  · exact ((((((Below.refl w.heap.size w).alloc (Nat.le_refl _) _).alloc (by simp) _).alloc (by simp; omega) _).alloc (by simp; omega) _).alloc (by simp; omega) _).alloc (by simp; omega) _
  · exact hold _ _ _ _ (hold _ _ _ _ (hold _ _ _ _ (hold _ _ _ _ (hold _ _ _ _ (g_alloc_at w _)))))
  · exact hold _ _ _ _ (hold _ _ _ _ (hold _ _ _ _ (hold _ _ _ _ (hnew _ _ _ (by simp)))))
  · exact hold _ _ _ _ (hold _ _ _ _ (hold _ _ _ _ (hnew _ _ _ (by simp))))
  · exact hold _ _ _ _ (hold _ _ _ _ (hnew _ _ _ (by simp)))
  · exact hold _ _ _ _ (hnew _ _ _ (by simp))
  · exact hnew _ _ _ (by simp)
theorem bare_gap : gapAt Fs.bare0.nodes = some 0 := rfl
theorem bare_nd0 : Fs.bare0.nodes[0]? = some none := rfl
theorem lay0_low (k : Nat) (i : FId) (h : Fs.bare0.obj (lay0 k) i ≠ none) : k ≤ lay0 k i := by
  rcases bare_live (lay0 k) i h with rfl | rfl | rfl | rfl | rfl | rfl <;> simp only [lay0] <;> omega
set_option maxRecDepth 100000 in
set_option maxHeartbeats 1000000 in
theorem fnew_any (w : World) : Calls Tryz.prog 14 #[.int .i64 30, .int .i64 200] w fun e w' => ∃ lay, e = .returned (.tuple #[ptrTo (lay .F), .int .i64 0]) ∧ FsIs Fs.new0 lay w' ∧ (∀ k, Owns (Fs.new0.obj lay) lay k → w.heap.size ≤ k) ∧ Below w.heap.size w w' := by
  have HI := Lib.hid (inew_any w)
  have HB := Lib.hid (bare_world w)
  have hnd1 : (Fs.bare0.setNd 0 (newNd 2)).nd ((0 : Int) + 1) = some (newNd 2) := rfl
  have hs2 : (Fs.bare0.setNd 0 (newNd 2)).setNd (slotOf ((0 : Int) + 1)) { newNd 2 with names := incW (newNd 2).names } = Fs.bare0.setNd 0 (freshNd 2) := by
    rw [show slotOf ((0 : Int) + 1) = 0 from rfl, setNd_setNd, show incW (newNd 2).names = 1 from by simp [incW, newNd, wrap64]]; rfl
  have HT := Lib.hid (fun (lay : FId → Nat) (W : World) (hW : FsIs (Fs.bare0.setNd 0 (newNd 2)) lay W) => show Calls Tryz.prog 33 #[.pointer (some ⟨lay .T, 0, none⟩), .int .i64 1] W fun e w' => e = .returned (.int .i64 0) ∧ Step (Fs.bare0.setNd 0 (newNd 2)) lay W (Fs.bare0.setNd 0 (freshNd 2)) lay w' from by
    have := tie_some ((0 : Int) + 1) (newNd 2) W hW hnd1
    rw [hs2] at this
    exact this)
  have HM := Lib.hid (fun (W : World) (hW : FsIs Fs.bare0 (lay0 w.heap.size) W) => show Calls Tryz.prog 32 #[.pointer (some ⟨w.heap.size + 3, 0, none⟩), .int .i64 2] W fun e w' => e = .returned (.tuple #[.int .i64 1, .int .i64 0]) ∧ ∃ p n, Step Fs.bare0 (lay0 w.heap.size) W (Fs.bare0.setNd 0 (newNd 2)) (layN (lay0 w.heap.size) 0 p n) w' from make_some 2 (by omega) (by omega) W hW 0 bare_gap)
  have hmk := fun W => run_makeMap (P := Tryz.prog) 76 W
  have hmk2 := fun W => run_makeMap (P := Tryz.prog) 49 W
  clear hnd1 hs2
  unfold ptrTo at *
  go_enter Tryz.func14, Tryz.ntmps14
  go_wp2_with first
    | (go_at_call 31; (with_reducible refine HI.out.mono ?_); rintro e w1 ⟨rfl, hw1⟩; obtain ⟨e1, e2, e3⟩ := HB.out w1 hw1; rw [← e1] at e2 e3; have HE1 := Lib.hid e1; have HE2 := Lib.hid e2; have HE3 := Lib.hid e3; clear hw1 e1 e2 e3)
    | (go_at_call 32; (refine (HM.out _ HE3.out).mono ?_); rintro e w2 ⟨rfl, p2, n2, st2⟩; have ST2 := Lib.hid st2; clear st2)
    | (go_at_call 33; (refine (HT.out (layN (lay0 w.heap.size) 0 p2 n2) _ ST2.out.is).mono ?_); rintro e w3 ⟨rfl, st3⟩; have ST3 := Lib.hid (ST2.out.trans st3); have f1 : w3.cell? ⟨w1.heap.size + 1, 1, none⟩ = some (.map (some (w.heap.size + 4))) := (by rw [HE1.out]; exact st3.is.f1); clear st3; have HMU := Lib.hid (fun (W : World) (hW : W.heap[w.heap.size + 4]? = some (((Fs.bare0.setNd 0 (freshNd 2)).dmap (layN (lay0 w.heap.size) 0 p2 n2)).obj)) => GMap.store (P := Tryz.prog) (w := W) (m := (Fs.bare0.setNd 0 (freshNd 2)).dmap (layN (lay0 w.heap.size) 0 p2 n2)) (b := w.heap.size + 4) (k := .int 1) (v := ptrTo (w3.heap.size + 1)) Tryz.underlying49 Tryz.underlying3 (fun e he => by simp only [Fs.dmap, List.mem_map] at he; obtain ⟨x, _, rfl⟩ := he; rfl) hW); have hD : w3.heap[w.heap.size + 4]? = some (((Fs.bare0.setNd 0 (freshNd 2)).dmap (layN (lay0 w.heap.size) 0 p2 n2)).obj) := ST3.out.is.lies.at_ .D _ rfl; have hDlt := (Array.getElem?_eq_some_iff.1 hD).1; have hmu := HMU.out ((w3.alloc (.map #[] 0)).alloc (.cells #[.map (some w3.heap.size), .int .i64 1] 78)) (by rw [Below.heap_alloc _ _ _ (by simp; omega), Below.heap_alloc _ _ _ hDlt]; exact hD); simp only [Key.val] at hmu; unfold ptrTo at hmu; clear hD)
  go_ret2
  have hfin := ST3.out.newDir (i := 1) (par := 1) (show (Fs.bare0.setNd 0 (freshNd 2)).dr 1 = none from rfl)
  have hBw : Below w.heap.size w _ := HE2.out
  refine ⟨layD (layN (lay0 w.heap.size) 0 p2 n2) 1 (w3.heap.size + 1) w3.heap.size, ?_, hfin.is, fun k hk => ?_, ?_⟩
  · show Ending.returned (.tuple #[.pointer (some ⟨w1.heap.size + 1, 0, none⟩), .int .i64 0]) = Ending.returned (.tuple #[.pointer (some ⟨w.heap.size + 5, 0, none⟩), .int .i64 0])
    rw [HE1.out]
  · rcases hfin.own k hk with q | q
    · obtain ⟨i, hi, rfl⟩ := q
      exact lay0_low _ i hi
    · exact Nat.le_trans hBw.size q
  · exact below_turned hBw hfin.turned (fun k hk => by obtain ⟨i, hi, rfl⟩ := hk; exact lay0_low _ i hi)
end Go.Proofs.YtbecmcjibpamoaaGreatDoor
/- names: a new tree is one; bytes are put into a file, from the first one on. -/
namespace Go.Proofs.YtbecmcjibpamoaaGreatDoor
open Go.RowKit IntWalk
set_option linter.unusedVariables false
set_option linter.unusedSimpArgs false

theorem bare_used : Fs.bare0.used = [] := rfl
theorem bare_bk (b : Int) : Fs.bare0.bk b = none := by
  unfold Fs.bk
  split
  · rfl
  · show (match (List.replicate 200 blk0)[slotOf b]? with | some (true, l) => some l | _ => none) = none
    rw [List.getElem?_replicate]
    split <;> rename_i h
    · split at h
      · cases h
      · cases h
    · rfl
theorem bare_blk : Blk Fs.bare0 := by
  refine ⟨by rw [bare_used]; exact List.nodup_nil, fun b => ?_, ?_⟩
  · rw [bare_used, bare_bk]
    simp
  · show (200 : Int) = ((List.replicate 200 blk0).filter (fun b => !b.1)).length
    rw [List.filter_replicate_of_pos (by rfl), List.length_replicate]; rfl
theorem Gen.bare0 : Gen Fs.bare0 := by
  refine ⟨bare_blk, fun j x hj => ?_, fun i hi => ?_, bare_ok.blocks⟩
  · have hj' : (List.replicate 30 (none : Option Nd))[j]? = some (some x) := hj
    rw [List.getElem?_replicate] at hj'
    split at hj'
    · cases hj'
    · cases hj'
  · have : Fs.bare0.dr i = none := rfl
    rw [this] at hi; cases hi
theorem Gen.new0 : Gen Fs.new0 := (Gen.bare0.fresh bare_nd0 2).addDr rfl rfl
/-- what writing from the first byte on leaves -/
def Fs.nputS (s : Fs) (i : Int) (t : List UInt8) : Fs := if fileE (s.fld Nd.kind i) ≠ 0 then s else match s.nd i with
  | none => s
  | some x => (s.writeS (slotOf i) x 0 t).2
section
variable {W0 : World} {s : Fs} {lay : FId → Nat} {w : World}
theorem Gen.writeAny (h : Gen s) {k : Nat} {x : Nd} (hk : s.nodes[k]? = some (some x)) (t : List UInt8) (ht : t.length ≤ 4096) : Gen (s.writeS k x 0 t).2 := by
  have hx := h.nds k x hk
  have hw0 : Wr s k x s x := ⟨h.blk, hk, fun _ _ => rfl, rfl, rfl, rfl, ⟨rfl, rfl, rfl, rfl⟩, hx.up, hx.ok, fun _ hb => hb⟩
  obtain ⟨hw, hle⟩ := writeL_wr (at_ := 0) (d := t) (t.length + 1) 0 s x hw0 h.blen (by omega)
  unfold Fs.writeS
  generalize Fs.writeL k 0 t (t.length + 1) 0 s x = r at *
  obtain ⟨n, s1, x1⟩ := r
  dsimp only at hw hle ⊢
  obtain ⟨g1, g2, g3, g4⟩ := hw.same
  have hlt' := (List.getElem?_eq_some_iff.1 hw.at_).1
  by_cases hn : 0 < n
  · rw [if_pos hn]
    exact h.node (k := k) (by show (s1.nodes.set _ _)[_]? = _; rw [List.getElem?_set, if_pos rfl, if_pos hlt']) (fun j hj => by show (s1.nodes.set _ _)[_]? = _; rw [List.getElem?_set, if_neg (Ne.symm hj)]; exact hw.other j hj) (hw.blk.setNd hw.at_ rfl) hw.blen hw.dirs (fun y hy => by
      cases hy
      have := hx.size
      exact ⟨hw.up, hw.ok, by
        show 0 ≤ max x.size ((0 + n : Nat) : Int) ∧ max x.size ((0 + n : Nat) : Int) ≤ 4096
        omega⟩) (fun q => by cases q)
  · rw [if_neg hn]
    exact h.node (k := k) hw.at_ hw.other hw.blk hw.blen hw.dirs (fun y hy => by cases hy; exact ⟨hw.up, hw.ok, by rw [g4]; exact hx.size⟩) (fun q => by cases q)
theorem Gen.nputS (h : Gen s) (i : Int) (t : List UInt8) (ht : t.length ≤ 4096) : Gen (s.nputS i t) := by
  unfold Fs.nputS
  split
  · exact h
  · cases hn : s.nd i with
    | none => exact h
    | some x => exact h.writeAny (Fs.nd_slot hn).2.2 t ht
theorem nput_any (i : Int) (t : List UInt8) (ht : t.length ≤ 4000) (h : FsIs s lay w) (hw : s.Whole) : Calls Tryz.prog 8 #[ptrTo (lay .F), .int .i64 i, .int .i64 0, .string ⟨t.toArray⟩] w fun e w' => (∃ n c : Int, e = .returned (.tuple #[.int .i64 n, .int .i64 c])) ∧ Step s lay w (s.nputS i t) lay w' := by
  unfold Fs.nputS
  by_cases hk : fileE (s.fld Nd.kind i) = 0
  · rw [if_neg (by simpa using hk)]
    cases hn : s.nd i with
    | none =>
      have : s.fld Nd.kind i = 0 := by unfold Fs.fld; rw [hn]
      rw [this] at hk
      exact absurd hk (by decide)
    | some x =>
      obtain ⟨h1, h2⟩ := hw i x hn
      refine (nwrite_file i x 0 t w h hn hk h1 h2 (by omega)).mono ?_
      rintro e w' ⟨n, s', hs, rfl, hst⟩
      rw [List.take_of_length_le (by omega)] at hs
      refine ⟨⟨_, _, rfl⟩, ?_⟩
      dsimp only
      rw [← hs]; exact hst
  · rw [if_pos hk]
    exact (nwrite_nofile i 0 ⟨t.toArray⟩ w h hk).mono (by rintro e w' ⟨rfl, rfl⟩; exact ⟨⟨_, _, rfl⟩, Step.refl h⟩)
end
end Go.Proofs.YtbecmcjibpamoaaGreatDoor
/- The small tree that all of it begins with, and the document's. -/
namespace Go.Proofs.YtbecmcjibpamoaaGreatDoor
open Go.RowKit IntWalk
set_option linter.unusedVariables false
set_option linter.unusedSimpArgs false

/-- a tree at the block F, in a world that began as W0 -/
def FT (W0 : World) (F : Nat) (s : Fs) (w : World) : Prop := ∃ lay, lay .F = F ∧ FsIn W0 s lay w ∧ Gen s
def beginS : Fs :=
  let s1 := (Fs.new0.mkdirS 1 [100]).2
  let s2 := (s1.slinkS 1 [100] [108]).2
  let s3 := (s2.slinkS 1 [120] [120]).2
  let r4 := s3.makeS 1 [102]
  let s5 := r4.2.2.nputS r4.1 [98, 10, 97, 10, 98, 10]
  let r6 := s5.makeS 1 [103]
  let s7 := r6.2.2.nputS r6.1 [111, 110, 101, 32, 116, 119, 111, 10, 116, 104, 114, 101, 101]
  let r8 := s7.makeS 1 [100, 47, 102]
  r8.2.2.nputS r8.1 [105, 110, 110, 101, 114, 10]
section
variable {W0 : World} {F : Nat} {s : Fs} {w : World}
theorem FT.step {lay lay' : FId → Nat} {s' : Fs} {w' : World} (hl : lay .F = F) (h : FsIn W0 s lay w) (hl' : lay' .F = lay .F) (hs : Step s lay w s' lay' w') (hG : Gen s') : FT W0 F s' w' :=
  ⟨lay', hl'.trans hl, h.step hs hG.whole, hG⟩
theorem ft_mkdir (h : FT W0 F s w) (hE : EnvG W0) (i : Int) (p : List UInt8) (hp : p.length ≤ 400) : Calls Tryz.prog 15 #[ptrTo F, .int .i64 i, .string ⟨p.toArray⟩] w fun e w' => (∃ c : Int, e = .returned (.int .i64 c)) ∧ FT W0 F (s.mkdirS i p).2 w' := by
  obtain ⟨lay, rfl, hf, hG⟩ := h
  exact (mkdir_any hE i p (by omega) hf hG).mono (by rintro e w' ⟨rfl, lay', hl, hs⟩; exact ⟨⟨_, rfl⟩, FT.step rfl hf hl hs (hG.mkdirS i p)⟩)
theorem ft_slink (h : FT W0 F s w) (hE : EnvG W0) (i : Int) (t p : List UInt8) (hp : p.length ≤ 400) : Calls Tryz.prog 16 #[ptrTo F, .int .i64 i, .string ⟨t.toArray⟩, .string ⟨p.toArray⟩] w fun e w' => (∃ c : Int, e = .returned (.int .i64 c)) ∧ FT W0 F (s.slinkS i t p).2 w' := by
  obtain ⟨lay, rfl, hf, hG⟩ := h
  exact (symlink_any hE i t p (by omega) hf hG).mono (by rintro e w' ⟨rfl, lay', hl, hs⟩; exact ⟨⟨_, rfl⟩, FT.step rfl hf hl hs (hG.slinkS i t p)⟩)
theorem ft_make (h : FT W0 F s w) (hE : EnvG W0) (i : Int) (p : List UInt8) (hp : p.length ≤ 400) : Calls Tryz.prog 7 #[ptrTo F, .int .i64 i, .string ⟨p.toArray⟩] w fun e w' => (∃ c : Int, e = .returned (.tuple #[.int .i64 (s.makeS i p).1, .int .i64 c])) ∧ FT W0 F (s.makeS i p).2.2 w' := by
  obtain ⟨lay, rfl, hf, hG⟩ := h
  exact (make_any hE i p (by omega) w hf).mono (by rintro e w' ⟨rfl, lay', hl, hs⟩; exact ⟨⟨_, rfl⟩, FT.step rfl hf hl hs (hG.makeS i p)⟩)
theorem ft_nput (h : FT W0 F s w) (i : Int) (t : List UInt8) (ht : t.length ≤ 400) : Calls Tryz.prog 8 #[ptrTo F, .int .i64 i, .int .i64 0, .string ⟨t.toArray⟩] w fun e w' => (∃ n c : Int, e = .returned (.tuple #[.int .i64 n, .int .i64 c])) ∧ FT W0 F (s.nputS i t) w' := by
  obtain ⟨lay, rfl, hf, hG⟩ := h
  exact (nput_any i t (by omega) hf.is hG.whole).mono (by rintro e w' ⟨he, hs⟩; exact ⟨he, FT.step rfl hf rfl hs (hG.nputS i t (by omega))⟩)
set_option maxRecDepth 100000 in
set_option maxHeartbeats 2000000 in
theorem begun_t (w : World) (hE : EnvG w) : Calls Tryz.prog 6 #[] w fun e w' => ∃ F, e = .returned (ptrTo F) ∧ FT w F beginS w' := by
  have HN := Lib.hid ((fnew_any w).mono (R' := fun e w' => ∃ F, e = .returned (.tuple #[ptrTo F, .int .i64 0]) ∧ FT w F Fs.new0 w') (by rintro e w' ⟨lay, he, h1, h2, h3⟩; exact ⟨lay .F, he, lay, rfl, ⟨h1, h2, h3, Gen.new0.whole⟩, Gen.new0⟩))
  unfold ptrTo at *
  go_enter Tryz.func6, Tryz.ntmps6
  go_wp2_with first
    | (go_at_call 14; (with_reducible refine HN.out.mono ?_); rintro e w1 ⟨F, rfl, h1⟩)
    | (go_at_call 15; (refine (ft_mkdir h1 hE 1 [100] (by simp)).mono ?_); rintro e w2 ⟨⟨c2, rfl⟩, h2⟩)
    | (go_at_call 16; (refine (ft_slink h2 hE 1 [100] [108] (by simp)).mono ?_); rintro e w3 ⟨⟨c3, rfl⟩, h3⟩; clear h2)
    | (go_at_call 16; (refine (ft_slink h3 hE 1 [120] [120] (by simp)).mono ?_); rintro e w4 ⟨⟨c4, rfl⟩, h4⟩)
    | (go_at_call 7; (refine (ft_make h4 hE 1 [102] (by simp)).mono ?_); rintro e w5 ⟨⟨c5, rfl⟩, h5⟩; clear h4)
    | (go_at_call 8; (refine (ft_nput h5 _ [98, 10, 97, 10, 98, 10] (by simp)).mono ?_); rintro e w6 ⟨⟨n6, c6, rfl⟩, h6⟩; clear h5)
    | (go_at_call 7; (refine (ft_make h6 hE 1 [103] (by simp)).mono ?_); rintro e w7 ⟨⟨c7, rfl⟩, h7⟩; clear h6)
    | (go_at_call 8; (refine (ft_nput h7 _ [111, 110, 101, 32, 116, 119, 111, 10, 116, 104, 114, 101, 101] (by simp)).mono ?_); rintro e w8 ⟨⟨n8, c8, rfl⟩, h8⟩; clear h7)
    | (go_at_call 7; (refine (ft_make h8 hE 1 [100, 47, 102] (by simp)).mono ?_); rintro e w9 ⟨⟨c9, rfl⟩, h9⟩; clear h8)
    | (go_at_call 8; (refine (ft_nput h9 _ [105, 110, 110, 101, 114, 10] (by simp)).mono ?_); rintro e w10 ⟨⟨n10, c10, rfl⟩, h10⟩; clear h9)
  go_ret
  exact ⟨F, rfl, h10⟩
end
end Go.Proofs.YtbecmcjibpamoaaGreatDoor
