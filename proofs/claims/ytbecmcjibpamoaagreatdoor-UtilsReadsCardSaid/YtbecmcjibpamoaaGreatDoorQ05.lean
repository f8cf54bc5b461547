/- FsD -/
import Derived.Test.YtbecmcjibpamoaaGreatDoorQ04
set_option linter.unusedVariables false
set_option linter.unusedSimpArgs false
set_option linter.deprecated false
set_option linter.unnecessarySimpa false
namespace Go.Proofs.YtbecmcjibpamoaaGreatDoor
open Go.RowKit
structure Step (s : Fs) (lay : FId → Nat) (w : World) (s' : Fs) (lay' : FId → Nat) (w' : World) : Prop where
  is : FsIs s' lay' w'
  turned : Turned (Owns (s.obj lay) lay) w w'
  own : ∀ k, Owns (s'.obj lay') lay' k → Owns (s.obj lay) lay k ∨ w.heap.size ≤ k
section
variable {s s' s'' : Fs} {lay lay' lay'' : FId → Nat} {w w' w'' : World}
theorem Step.refl (h : FsIs s lay w) : Step s lay w s lay w := ⟨h, Turned.refl _ _, fun _ hk => .inl hk⟩
theorem Step.trans (h : Step s lay w s' lay' w') (k : Step s' lay' w' s'' lay'' w'') : Step s lay w s'' lay'' w'' :=
  ⟨k.is, h.turned.trans k.turned (fun b hb hlt => (h.own b hb).resolve_right (by omega)), fun b hb => by
    rcases k.own b hb with q | q
    · exact h.own b q
    · exact .inr (Nat.le_trans h.turned.size q)⟩
theorem Step.drewN (h : Step s lay w s' lay' w') (n : Nat) : Step s lay w s' lay' (w'.drewN n) := ⟨h.is.drewN n, h.turned.drewN n, h.own⟩
theorem Step.alloc (h : Step s lay w s' lay' w') (o : Obj) : Step s lay w s' lay' (w'.alloc o) := ⟨h.is.alloc o, h.turned.alloc o, h.own⟩
theorem Step.size (h : Step s lay w s' lay' w') : w.heap.size ≤ w'.heap.size := h.turned.size
def Fs.setNd (s : Fs) (k : Nat) (x : Nd) : Fs := { s with nodes := s.nodes.set k (some x) }
theorem mapIdx_set {α β : Type} (f : Nat → α → β) (l : List α) (k : Nat) (x y : α) (hk : l[k]? = some y) (h : f k x = f k y) : (l.set k x).mapIdx f = l.mapIdx f := by
  apply List.ext_getElem?
  intro j
  rw [List.getElem?_mapIdx, List.getElem?_mapIdx, List.getElem?_set]
  by_cases e : k = j
  · subst e
    rw [hk]
    have := (List.getElem?_eq_some_iff.1 hk).1
    simp [this, h]
  · simp [e]
theorem Fs.setNd_get {k j : Nat} {x : Nd} : (s.setNd k x).nodes[j]? = if k = j then (if k < s.nodes.length then some (some x) else none) else s.nodes[j]? := by
  unfold Fs.setNd; exact List.getElem?_set
theorem setNd_obj {k : Nat} {x y : Nd} (hk : s.nodes[k]? = some (some y)) (hp : x.parts = y.parts) (j : FId) : (s.setNd k x).obj lay j = if j = .N k then some (.cells (ndV lay k x) 96 (0, 0)) else s.obj lay j := by
  have hlt := (List.getElem?_eq_some_iff.1 hk).1
  cases j with
  | T => simp [Fs.obj, Fs.setNd]
  | G =>
    simp only [Fs.obj, Fs.setNd, reduceCtorEq, if_false]
    rw [mapIdx_set _ _ k (some x) (some y) hk rfl]
  | N i =>
    simp only [Fs.obj, Fs.setNd_get, FId.N.injEq]
    by_cases e : i = k
    · subst e; simp [hlt]
    · rw [if_neg (Ne.symm e), if_neg e]
  | P i =>
    simp only [Fs.obj, Fs.setNd_get, reduceCtorEq, if_false]
    by_cases e : i = k
    · subst e; rw [if_pos rfl, if_pos hlt, hk]; simp [hp]
    · rw [if_neg (Ne.symm e)]
  | _ => simp [Fs.obj, Fs.setNd, Fs.dmap, Fs.dr]
theorem Fs.Ok.setNd {k : Nat} {x y : Nd} (h : s.Ok) (hk : s.nodes[k]? = some (some y)) (hx : PartsOk x.parts) : (s.setNd k x).Ok :=
  ⟨by simpa [Fs.setNd] using h.nodes, h.blocks, h.bytes, fun z hz => by
    rcases List.mem_or_eq_of_mem_set hz with q | q
    · exact h.parts z q
    · cases q; exact hx, h.names, h.dirs⟩
theorem Step.setN {k o : Nat} {x y : Nd} {v : Value} (h : Step s lay w s' lay' w') (hk : s'.nodes[k]? = some (some y)) (hv : ndV lay' k x = (ndV lay' k y).setIfInBounds o v) (hp : x.parts = y.parts) :
    Step s lay w (s'.setNd k x) lay' (w'.setCell ⟨lay' (.N k), o, none⟩ v) := by
  have hn := (Fs.obj_n (lay := lay') hk).1
  have hown : Owns (s'.obj lay') lay' (lay' (.N k)) := ⟨.N k, by rw [hn]; simp, rfl⟩
  refine ⟨⟨h.is.lies.set hn o v (fun j => by rw [setNd_obj hk hp, hv]), h.is.ok.setNd hk (by rw [hp]; exact h.is.ok.parts _ (List.mem_of_getElem? hk))⟩, h.turned.set _ _ (fun hlt => (h.own _ hown).resolve_right (by simpa using hlt)), fun b hb => ?_⟩
  obtain ⟨j, hj, rfl⟩ := hb
  refine h.own _ ⟨j, fun e => hj ?_, rfl⟩
  rw [setNd_obj hk hp]
  by_cases q : j = .N k
  · rw [q, hn] at e; cases e
  · rw [if_neg q, e]
end
def incW (n : Int) : Int := wrap64 (n + 1)
def decW (n : Int) : Int := wrap64 (n - 1)
theorem tie_some {s lay} (i : Int) (x : Nd) (w : World) (h : FsIs s lay w) (hn : s.nd i = some x) : Calls Tryz.prog 33 #[ptrTo (lay .T), .int .i64 i] w fun e w' => e = .returned (.int .i64 0) ∧ Step s lay w (s.setNd (slotOf i) { x with names := incW x.names }) lay w' := by
  have c0 := h.n0 (Fs.nd_slot hn).2.2
  have f0 := h.nf (Fs.nd_slot hn).2.2 0
  go_enter Tryz.func33, Tryz.ntmps33
  unfold ptrTo
  go_wp2_with (go_at_call 37; refine (find_some i x w h hn).mono ?_; rintro e w' ⟨rfl, rfl⟩; unfold ptrTo)
  go_ret
  exact ⟨rfl, (Step.refl h).setN (Fs.nd_slot hn).2.2 rfl rfl⟩
theorem hold_some {s lay} (i : Int) (x : Nd) (w : World) (h : FsIs s lay w) (hn : s.nd i = some x) : Calls Tryz.prog 169 #[ptrTo (lay .T), .int .i64 i] w fun e w' => e = .returned (.int .i64 0) ∧ Step s lay w (s.setNd (slotOf i) { x with users := incW x.users }) lay w' := by
  have c0 := h.n1 (Fs.nd_slot hn).2.2
  have f0 := h.nf (Fs.nd_slot hn).2.2 1
  go_enter Tryz.func169, Tryz.ntmps169
  unfold ptrTo
  go_wp2_with (go_at_call 37; refine (find_some i x w h hn).mono ?_; rintro e w' ⟨rfl, rfl⟩; unfold ptrTo)
  go_ret
  exact ⟨rfl, (Step.refl h).setN (Fs.nd_slot hn).2.2 rfl rfl⟩
theorem hold_none {s lay} (i : Int) (w : World) (h : FsIs s lay w) (hn : s.nd i = none) : Calls Tryz.prog 169 #[ptrTo (lay .T), .int .i64 i] w fun e w' => e = .returned (.int .i64 23) ∧ w = w' := by
  go_enter Tryz.func169, Tryz.ntmps169
  unfold ptrTo
  go_wp2_with (go_at_call 37; refine (find_none i w h hn).mono ?_; rintro e w' ⟨rfl, rfl⟩)
  go_ret
  exact ⟨rfl, rfl⟩
end Go.Proofs.YtbecmcjibpamoaaGreatDoor
