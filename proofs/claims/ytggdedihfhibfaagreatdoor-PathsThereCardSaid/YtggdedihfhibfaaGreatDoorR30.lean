/- Texts of one proof, packed: RfE -/
import Derived.Test.YtggdedihfhibfaaGreatDoorR29
import Derived.Deep.RegionHeld3
import Derived.BigRegion
set_option linter.unusedVariables false
set_option linter.unusedSimpArgs false
set_option linter.deprecated false
set_option linter.unnecessarySimpa false
/- The document's table: Make. -/
namespace Go.Proofs.YtggdedihfhibfaaGreatDoor
open Go.RowKit IntWalk
set_option linter.unusedVariables false
set_option linter.unusedSimpArgs false

section
variable {N M M' : Nat} {b : RB} {O O' : Nat → Prop} {w w' : World}
/-- 64 truth values that are new -/
def hasNew : Obj := .cells (List.replicate 64 (.bool false)).toArray 4
theorem set_ne (w : World) (g o k : Nat) (v : Value) (hk : k ≠ g) : (w.setCell ⟨g, o, none⟩ v).heap[k]? = w.heap[k]? := Below.heap_setCell _ _ _ _ hk
theorem five_other {W : World} {g o : Nat} {x0 x1 x2 x3 x4 : Value} {p : Addr} {v : Value} (hne : p.block ≠ g) (h : W.cell? p = some v) :
    (((((W.setCell ⟨g, o, none⟩ x0).setCell ⟨g, o + 1, none⟩ x1).setCell ⟨g, o + 2, none⟩ x2).setCell ⟨g, o + 3, none⟩ x3).setCell ⟨g, o + 4, none⟩ x4).drew.cell? p = some v := by
  have e : (((((W.setCell ⟨g, o, none⟩ x0).setCell ⟨g, o + 1, none⟩ x1).setCell ⟨g, o + 2, none⟩ x2).setCell ⟨g, o + 3, none⟩ x3).setCell ⟨g, o + 4, none⟩ x4).drew.heap[p.block]? = W.heap[p.block]? := by
    rw [heap_drew]
    rw [set_ne _ _ _ _ _ hne, set_ne _ _ _ _ _ hne, set_ne _ _ _ _ _ hne, set_ne _ _ _ _ _ hne, set_ne _ _ _ _ _ hne]
  rw [World.cell?_of_block e]; exact h
theorem run_make_has (w : World) : (Instr.makeSlice 29 (.int .i64 64) (.int .i64 64)).run Tryz.prog w = .ok (.slice (some ⟨w.heap.size, 0, none⟩) 64 64) (w.alloc hasNew) := by
  obtain ⟨i, hi, h1, h2, h3⟩ := info_parts (show (Tryz.prog.info? 4).map (fun i => (i.zero, i.size, i.bytes)) = some (some (.bool false), 1, 1) by kernel_rfl)
  have := run_make (P := Tryz.prog) w 29 4 i _ Tryz.underlying29 hi h1 .i64 .i64 64 64 (by omega) (by omega) (by rw [h3]; omega) (by omega)
  have e : madeCells (Value.bool false).cells (Int.toNat 64 * i.size) = (List.replicate 64 (Value.bool false)).toArray := by
    rw [h2]
    apply Array.ext'
    apply List.ext_getElem?
    intro j
    show (madeCells (Value.bool false).cells 64).toList[j]? = (List.replicate 64 (Value.bool false))[j]?
    rw [List.getElem?_replicate]
    by_cases q : j < 64
    · rw [if_pos q]; simp [madeCells, Value.cells, q, Nat.mod_one]
    · rw [if_neg q]; simp [madeCells, Value.cells, q]
  rw [this, e]
  unfold hasNew
  rw [show Int.toNat 64 = 64 from rfl]
theorem RIs.makeNd (h : RIs N M b O w) (i : Nat) (hi : i ≤ N) (k : Int) : RStep N M b O w M (fun q => O q ∨ q = w.heap.size) ((w.alloc hasNew).setCells b.L (i * 5) [.int .i64 k, .int .i64 0, .int .i64 0, .string ⟨#[]⟩, .slice (some ⟨w.heap.size, 0, none⟩) 64 64]) := by
  have h1 : RIs N M b (fun q => O q ∨ q = w.heap.size) (w.alloc hasNew) := (h.alloc hasNew).mono (fun q hq => .inl hq) (fun q hq => by rcases hq with hq | hq <;> simp <;> first | (have := h.own_lt q hq; omega) | omega) (Nat.le_refl _)
  have hv : HasAt (fun q => O q ∨ q = w.heap.size) (w.alloc hasNew) (.slice (some ⟨w.heap.size, 0, none⟩) 64 64) :=
    .inr ⟨w.heap.size, _, rfl, .inr rfl, by rw [r_alloc_at]; rfl, by simp, fun j hj => ⟨false, by rw [List.getElem?_toArray, List.getElem?_replicate, if_pos hj]⟩⟩
  exact ⟨h1.setNd5 i hi k 0 0 [] _ hv (.inr (by simp)) (by simp), Turned.setCells _ (fun _ => h.oL) _ _ _ ((Turned.refl _ _).alloc _), fun q hq => hq.imp id (fun e => by omega)⟩
set_option maxRecDepth 100000 in
set_option maxHeartbeats 1000000 in
theorem make_r (h : RIs N M b O w) (kind : Int) (hk1 : 1 ≤ kind) (hk3 : kind ≤ 3) : Calls Tryz.prog 90 #[ptrTo b.T, .int .i64 kind] w fun e w' =>
    (∃ c, e = .returned (.tuple #[.int .i64 0, .int .i64 c]) ∧ c ≠ 0 ∧ RStep N M b O w M O w') ∨ (∃ (j : Nat) (O' : Nat → Prop), 1 ≤ j ∧ j ≤ N ∧ e = .returned (.tuple #[.int .i64 j, .int .i64 0]) ∧ RStep N M b O w M O' w') := by
  have hN := h.small
  have c0 := h.t0
  have H := Lib.hid h
  clear h
  unfold ptrTo at *
  go_enter Tryz.func90, Tryz.ntmps90
  go_wp2
  go_loop [6] (fun c => ∃ i : Nat, c = .int .i64 i ∧ 1 ≤ i ∧ i ≤ N + 1) (fun c => N + 1 - (intOf c).toNat)
  case atStart => exact ⟨1, rfl, by omega, by omega⟩
  case round =>
    obtain ⟨i, rfl, h1, hi⟩ := hrel
    by_cases hlt : i < N + 1
    · obtain ⟨k, n0, u, s, v, hn, hv, hk, hs⟩ := H.out.node (i := i) (by omega)
      have cc := hn.c0
      by_cases hk0 : k = 0
      · subst hk0
        have hth : w.drew.there b.L (i * 5) 5 := (H.out.drewN 1).thereNd i (by omega)
        have hth2 := World.there_alloc hth hasNew
        have HF := Lib.hid (((RStep.refl H.out).drewN 1).trans ((H.out.drewN 1).makeNd i (by omega) kind))
        have c1 : w.drew.cell? ⟨b.T, 0, none⟩ = some (.slice (some ⟨b.L, 0, none⟩) (N + 1) (N + 1)) := c0
        have c2 : (w.drew.alloc hasNew).cell? ⟨b.T, 0, none⟩ = some (.slice (some ⟨b.L, 0, none⟩) (N + 1) (N + 1)) := ((H.out.drewN 1).alloc hasNew).t0
        clear hn hv hs
        have hmk := fun W => run_make_has W
        obtain ⟨k9, n9, u9, s9, v9, hn9, _, _, _⟩ := ((H.out.drewN 1).alloc hasNew).node (i := i) (by omega)
        have d0 : (w.drew.alloc hasNew).cell? ⟨b.L, i * 5, none⟩ = _ := hn9.c0
        have d1 : (w.drew.alloc hasNew).cell? ⟨b.L, i * 5 + 1, none⟩ = _ := hn9.c1
        have d2 : (w.drew.alloc hasNew).cell? ⟨b.L, i * 5 + 2, none⟩ = _ := hn9.c2
        have d3 : (w.drew.alloc hasNew).cell? ⟨b.L, i * 5 + 3, none⟩ = _ := hn9.c3
        have d4 : (w.drew.alloc hasNew).cell? ⟨b.L, i * 5 + 4, none⟩ = _ := hn9.c4
        have dz : ∀ j, (w.drew.alloc hasNew).frozen? ⟨b.L, j, none⟩ = false := hn9.fz
        have e0 : (w.alloc hasNew).cell? ⟨b.L, i * 5, none⟩ = _ := hn9.c0
        have e1 : (w.alloc hasNew).cell? ⟨b.L, i * 5 + 1, none⟩ = _ := hn9.c1
        have e2 : (w.alloc hasNew).cell? ⟨b.L, i * 5 + 2, none⟩ = _ := hn9.c2
        have e3 : (w.alloc hasNew).cell? ⟨b.L, i * 5 + 3, none⟩ = _ := hn9.c3
        have e4 : (w.alloc hasNew).cell? ⟨b.L, i * 5 + 4, none⟩ = _ := hn9.c4
        have ez : ∀ j, (w.alloc hasNew).frozen? ⟨b.L, j, none⟩ = false := hn9.fz
        clear hn9 hth hth2
        have c3 : (w.alloc hasNew).drew.cell? ⟨b.T, 0, none⟩ = some (.slice (some ⟨b.L, 0, none⟩) (N + 1) (N + 1)) := c2
        have hTL : b.T ≠ b.L := by
          obtain ⟨m, t1⟩ := H.out.t
          obtain ⟨cs, l1, _⟩ := H.out.l
          exact ty_ne t1 l1 (by decide)
        have C4 := Lib.hid <| five_other (g := b.L) (o := i * 5) (x0 := .int .i64 kind) (x1 := .int .i64 0) (x2 := .int .i64 0) (x3 := .string ⟨#[]⟩) (x4 := .slice (some ⟨w.heap.size, 0, none⟩) 64 64) (W := w.alloc hasNew) hTL (show (w.alloc hasNew).cell? ⟨b.T, 0, none⟩ = some (.slice (some ⟨b.L, 0, none⟩) (N + 1) (N + 1)) from c2)
        obtain ⟨w9, hw9⟩ : ∃ w9, (((((w.alloc hasNew).setCell ⟨b.L, i * 5, none⟩ (.int .i64 kind)).setCell ⟨b.L, i * 5 + 1, none⟩ (.int .i64 0)).setCell ⟨b.L, i * 5 + 2, none⟩ (.int .i64 0)).setCell ⟨b.L, i * 5 + 3, none⟩ (.string ⟨#[]⟩)).setCell ⟨b.L, i * 5 + 4, none⟩ (.slice (some ⟨w.heap.size, 0, none⟩) 64 64) = w9 := ⟨_, rfl⟩
        rw [hw9] at C4
        have HF9 : RowKit.Hid (RStep N M b O w M (fun q => O q ∨ q = w.heap.size) w9.drew) := Lib.hid (by rw [← hw9]; exact HF.out.drewN 0)
        have C4' := C4.out
        go_wp2
        go_region_held3 (fun W => W.cell? ⟨b.T, 0, none⟩ = some (.slice (some ⟨b.L, 0, none⟩) (N + 1) (N + 1))) (first | with_reducible exact c1 | with_reducible exact c2 | with_reducible exact c3 | with_reducible exact C4' | (trace_state; fail)) (fail)
        clear c1 c2 c3 C4 C4' d0 d1 d2 d3 d4 dz e0 e1 e2 e3 e4 ez hmk
        go_wp2
        go_ret2
        exact .inr ⟨i, _, h1, by omega, rfl, HF9.out⟩
      · go_wp2
        go_round
        case rel => exact ⟨i + 1, by go_num, by omega, by omega⟩
        case measure => simp [intOf]; omega
    · obtain rfl : i = N + 1 := by omega
      go_wp2
      go_ret2
      exact .inl ⟨_, rfl, by decide, RStep.refl H.out⟩
end
end Go.Proofs.YtggdedihfhibfaaGreatDoor
