/- NmZ -/
import Derived.Test.YtbecmcjibpamoaaGreatDoorQ25
set_option linter.unusedVariables false
set_option linter.unusedSimpArgs false
set_option linter.deprecated false
set_option linter.unnecessarySimpa false
namespace Go.Proofs.YtbecmcjibpamoaaGreatDoor
open Go.RowKit IntWalk
section
variable {s s' : Fs} {lay lay' : FId → Nat} {w w' : World}
def gapAt : List (Option Nd) → Option Nat
  | [] => none
  | none :: _ => some 0
  | some _ :: l => (gapAt l).map (· + 1)
theorem gapAt_some : ∀ (l : List (Option Nd)) (k : Nat), gapAt l = some k → l[k]? = some none ∧ ∀ j, j < k → ∃ x, l[j]? = some (some x)
  | [], k, h => by cases h
  | none :: l, k, h => by cases h; exact ⟨rfl, fun j hj => absurd hj (by omega)⟩
  | some y :: l, k, h => by
    unfold gapAt at h
    cases hg : gapAt l with
    | none => rw [hg] at h; cases h
    | some m =>
      rw [hg] at h; cases h
      obtain ⟨h1, h2⟩ := gapAt_some l m hg
      exact ⟨by simpa using h1, fun j hj => by
        cases j with
        | zero => exact ⟨y, rfl⟩
        | succ j => obtain ⟨x, hx⟩ := h2 j (by have hj' : j + 1 < m + 1 := hj; omega); exact ⟨x, by simpa using hx⟩⟩
theorem gapAt_none : ∀ (l : List (Option Nd)), gapAt l = none → ∀ j, j < l.length → ∃ x, l[j]? = some (some x)
  | [], _, j, hj => by simp at hj
  | none :: l, h, j, hj => by cases h
  | some y :: l, h, j, hj => by
    unfold gapAt at h
    have hg : gapAt l = none := by cases q : gapAt l with | none => rfl | some m => rw [q] at h; cases h
    cases j with
    | zero => exact ⟨y, rfl⟩
    | succ j => obtain ⟨x, hx⟩ := gapAt_none l hg j (by simp at hj; omega); exact ⟨x, by simpa using hx⟩
def newNd (kind : Int) : Nd := ⟨0, 0, kind, 0, GMap.empty⟩
def layN (lay : FId → Nat) (k p n : Nat) : FId → Nat
  | .P i => if i = k then p else lay (.P i)
  | .N i => if i = k then n else lay (.N i)
  | j => lay j
theorem Fs.Ok.setNd0 {k : Nat} {x : Nd} (h : s.Ok) (hk : s.nodes[k]? = some none) (hx : PartsOk x.parts) : (s.setNd k x).Ok :=
  ⟨by simpa [Fs.setNd] using h.nodes, h.blocks, h.bytes, fun z hz => by
    rcases List.mem_or_eq_of_mem_set hz with q | q
    · exact h.parts z q
    · cases q; exact hx, h.names, h.dirs⟩
theorem rowN_eq (k p n : Nat) (x : Nd) (hk : k < s.nodes.length) :
    (((s.nodes.set k (some x)).mapIdx fun i o => match o with | some _ => ptrTo (layN lay k p n (.N i)) | none => Value.pointer none).toArray) = ((s.nodes.mapIdx fun i o => match o with | some _ => ptrTo (lay (.N i)) | none => Value.pointer none).toArray).setIfInBounds k (ptrTo n) := by
  rw [List.setIfInBounds_toArray]
  congr 1
  apply List.ext_getElem?
  intro j
  rw [List.getElem?_mapIdx, List.getElem?_set, List.getElem?_set, List.getElem?_mapIdx, List.length_mapIdx]
  by_cases q : k = j
  · subst q
    rw [if_pos rfl, if_pos rfl, if_pos hk, if_pos hk]
    simp [layN]
  · rw [if_neg q, if_neg q]
    cases ho : s.nodes[j]? with
    | none => rfl
    | some o =>
      cases o with
      | none => rfl
      | some y => simp [layN, Ne.symm q]
theorem Step.newN {k : Nat} {x : Nd} (h : FsIs s lay w) (hk : s.nodes[k]? = some none) (hx : x.parts = GMap.empty) :
    Step s lay w (s.setNd k x) (layN lay k w.heap.size (w.heap.size + 1)) (((w.alloc (.map #[] 0)).alloc (.cells (ndV (layN lay k w.heap.size (w.heap.size + 1)) k x) 96 (0, 0))).setCell ⟨lay .G, k, none⟩ (ptrTo (w.heap.size + 1))) := by
  have hlt := (List.getElem?_eq_some_iff.1 hk).1
  generalize hL : layN lay k w.heap.size (w.heap.size + 1) = L
  have h1 := h.lies.new (.P k) GMap.empty.obj (c' := fun j => if j = .P k then some GMap.empty.obj else s.obj lay j) (lay' := fun j => if j = .P k then w.heap.size else lay j) (fun _ => rfl) (fun _ => rfl)
  have h2 := h1.new (.N k) (.cells (ndV L k x) 96 (0, 0)) (c' := fun j => if j = .N k then some (.cells (ndV L k x) 96 (0, 0)) else if j = .P k then some GMap.empty.obj else s.obj lay j) (lay' := L) (fun _ => rfl) (fun j => by
    subst hL
    cases j with
    | N i => by_cases q : i = k <;> simp [layN, q]
    | P i => by_cases q : i = k <;> simp [layN, q]
    | _ => simp [layN])
  have hG : L .G = lay .G := by subst hL; rfl
  have hobj : ∀ j, (s.setNd k x).obj L j = if j = .G then some (.cells (((s.nodes.mapIdx fun i o => match o with | some _ => ptrTo (lay (.N i)) | none => Value.pointer none).toArray).setIfInBounds k (ptrTo (w.heap.size + 1))) 83 (0, 0)) else if j = .N k then some (.cells (ndV L k x) 96 (0, 0)) else if j = .P k then some GMap.empty.obj else s.obj lay j := fun j => by
    cases j with
    | G =>
      rw [if_pos rfl]
      have := rowN_eq (s := s) (lay := lay) k w.heap.size (w.heap.size + 1) x hlt
      rw [hL] at this
      show some (Obj.cells ((s.nodes.set k (some x)).mapIdx fun i o => match o with | some _ => ptrTo (L (.N i)) | none => Value.pointer none).toArray _ _) = _
      rw [this]
    | N i =>
      rw [if_neg (by simp)]
      by_cases q : i = k
      · subst q; simp [Fs.obj, Fs.setNd, List.getElem?_set, hlt]
      · simp only [Fs.obj, Fs.setNd_get, FId.N.injEq, q, if_false, reduceCtorEq, Ne.symm q]
        cases s.nodes[i]? with
        | none => rfl
        | some o => cases o with
          | none => rfl
          | some y => subst hL; simp [ndV, layN, q]
    | P i =>
      rw [if_neg (by simp)]
      by_cases q : i = k
      · subst q; simp [Fs.obj, Fs.setNd, List.getElem?_set, hlt, hx]
      · simp only [Fs.obj, Fs.setNd_get, FId.P.injEq, q, if_false, reduceCtorEq, Ne.symm q]
    | _ => subst hL; simp [Fs.obj, Fs.setNd, layN, Fs.dmap, Fs.dr]
  have h3 := h2.set (i := .G) (cs := (s.nodes.mapIdx fun i o => match o with | some _ => ptrTo (lay (.N i)) | none => Value.pointer none).toArray) (ty := 83) (fz := (0, 0)) (by rw [if_neg (by simp), if_neg (by simp)]; rfl) k (ptrTo (w.heap.size + 1)) (c' := (s.setNd k x).obj L) hobj
  rw [hG] at h3
  have hsz : (w.alloc (.map #[] 0)).heap.size = w.heap.size + 1 := by simp
  refine ⟨⟨h3, h.ok.setNd0 hk (by rw [hx]; exact ⟨GMap.Good.empty, fun e he => by cases he⟩)⟩, ?_, fun b hb => ?_⟩
  · exact (((Turned.refl _ w).alloc _).alloc _).set _ _ (fun _ => ⟨.G, by simp [Fs.obj], rfl⟩)
  · obtain ⟨j, hj, rfl⟩ := hb
    by_cases q : j = .N k ∨ j = .P k
    · refine .inr ?_
      subst hL
      rcases q with rfl | rfl <;> simp [layN]
    · refine .inl ⟨j, fun e => hj ?_, ?_⟩
      · rw [hobj, if_neg (fun q2 => by rw [q2] at e; simp [Fs.obj] at e), if_neg (fun q2 => q (.inl q2)), if_neg (fun q2 => q (.inr q2)), e]
      · subst hL
        cases j with
        | N i => have : i ≠ k := fun e => q (.inl (by rw [e])); simp [layN, this]
        | P i => have : i ≠ k := fun e => q (.inr (by rw [e])); simp [layN, this]
        | _ => rfl
set_option maxRecDepth 100000 in
theorem make_none (kind : Int) (h1 : 1 ≤ kind) (h3 : kind ≤ 3) (w : World) (h : FsIs s lay w) (hg : gapAt s.nodes = none) :
    Calls Tryz.prog 32 #[ptrTo (lay .T), .int .i64 kind] w fun e w' => e = .returned (.tuple #[.int .i64 0, .int .i64 21]) ∧ w = w' := by
  have t0 := h.t0
  have hk1 : ¬ kind < 1 := by omega
  have hk3 : ¬ 3 < kind := by omega
  have hlen := h.ok.nodes
  unfold ptrTo at *
  go_enter Tryz.func32, Tryz.ntmps32
  go_wp2_with fail
  go_loopw [23] (fun v W => ∃ k : Nat, v = .int .i64 k ∧ k ≤ s.nodes.length ∧ W = w) (fun v _ => s.nodes.length - (intOf v).toNat)
  case atStart => exact ⟨0, rfl, by omega, rfl⟩
  case round =>
    obtain ⟨k, rfl, hk, rfl⟩ := hrel
    by_cases hlt : k < s.nodes.length
    · have hltI : (k : Int) < s.nodes.length := by omega
      obtain ⟨x, hn⟩ := gapAt_none _ hg k hlt
      have gN := h.gN hn
      unfold ptrTo at gN
      have hkI : (k : Int) ≤ 1024 := by omega
      go_wp2_with fail
      exact ⟨⟨k + 1, by go_num, by omega, by first | rfl | trivial⟩, by simp [intOf]; omega⟩
    · have hltI : (s.nodes.length : Int) ≤ k := by omega
      go_wp2_with fail
      go_ret2
      exact ⟨rfl, rfl⟩
set_option maxRecDepth 100000 in
theorem make_some (kind : Int) (h1 : 1 ≤ kind) (h3 : kind ≤ 3) (w : World) (h : FsIs s lay w) (k0 : Nat) (hg : gapAt s.nodes = some k0) :
    Calls Tryz.prog 32 #[ptrTo (lay .T), .int .i64 kind] w fun e w' => e = .returned (.tuple #[.int .i64 (k0 + 1), .int .i64 0]) ∧ ∃ p n, Step s lay w (s.setNd k0 (newNd kind)) (layN lay k0 p n) w' := by
  have t0 := h.t0
  have hk1 : ¬ kind < 1 := by omega
  have hk3 : ¬ 3 < kind := by omega
  have hlen := h.ok.nodes
  obtain ⟨hn0, hfull⟩ := gapAt_some _ _ hg
  have hk0 := (List.getElem?_eq_some_iff.1 hn0).1
  unfold ptrTo at *
  go_enter Tryz.func32, Tryz.ntmps32
  go_wp2_with fail
  go_loopw [23] (fun v W => ∃ k : Nat, v = .int .i64 k ∧ k ≤ k0 ∧ W = w) (fun v _ => s.nodes.length - (intOf v).toNat)
  case atStart => exact ⟨0, rfl, by omega, rfl⟩
  case round =>
    obtain ⟨k, rfl, hk, rfl⟩ := hrel
    by_cases hlt : k < k0
    · have hltI : (k : Int) < s.nodes.length := by omega
      obtain ⟨x, hn⟩ := hfull k hlt
      have gN := h.gN hn
      unfold ptrTo at gN
      have hkI : (k : Int) ≤ 1024 := by omega
      go_wp2_with fail
      exact ⟨⟨k + 1, by go_num, by omega, by first | rfl | trivial⟩, by simp [intOf]; omega⟩
    · obtain rfl : k = k0 := by omega
      have hltI : (k : Int) < s.nodes.length := by omega
      have g0 := h.g0 hn0
      have hkI : (k : Int) ≤ 1024 := by omega
      have HF := Lib.hid h
      have zG : wr.frozen? ⟨lay .G, k, none⟩ = false := h.lies.fz (i := .G) rfl k
      clear h hfull
      have hmk := fun W => run_makeMap (P := Tryz.prog) 94 W
      have hh : lay .G < wr.heap.size := World.block_lt_of_cell? wr ⟨lay .G, k, none⟩ g0
      have hA : ∀ o o', ((wr.alloc o).alloc o').heap[lay .G]? = wr.heap[lay .G]? := fun o o' => (Below.heap_alloc _ o' _ (by simp; omega)).trans (Below.heap_alloc _ o _ hh)
      have zA : ∀ o o', ((wr.alloc o).alloc o').frozen? ⟨lay .G, k, none⟩ = false := fun o o' => (World.frozen?_of_block (w := wr) (hA o o')).trans zG
      have cA : ∀ o o', ((wr.alloc o).alloc o').cell? ⟨lay .G, k, none⟩ = some (.pointer none) := fun o o' => (World.cell?_of_block (w := wr) (hA o o')).trans g0
      have hfin0 := Step.newN (x := newNd kind) HF.out hn0 rfl
      rw [World.setCell_alloc_past _ _ _ _ (by simp; omega), World.setCell_alloc_past _ _ _ _ hh] at hfin0
      have hfin := Lib.hid hfin0
      clear hfin0
      clear hA
      go_wp2_with fail
      go_ret2
      refine ⟨rfl, wr.heap.size, wr.heap.size + 1, ?_⟩
      have := hfin.out
      unfold ndV newNd at this
      rw [show layN lay k wr.heap.size (wr.heap.size + 1) (.P k) = wr.heap.size from by simp [layN]] at this
      exact this
end
end Go.Proofs.YtbecmcjibpamoaaGreatDoor
