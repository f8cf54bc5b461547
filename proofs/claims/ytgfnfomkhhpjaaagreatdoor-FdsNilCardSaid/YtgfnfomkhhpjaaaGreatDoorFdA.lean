/- Fds: a new tree (names.New): it is there, and nothing that was is changed. -/
import Derived.Test.YtgfnfomkhhpjaaaGreatDoorBase
import Derived.WideMake
import Derived.Carry
import Derived.Laws.MakeOwn
namespace Go.Proofs.YtgfnfomkhhpjaaaGreatDoor
open Go.RowKit

theorem make_nine (t e : TypeId) (ht : Tryz.prog.underlying t = some (.slice e)) (hinf : (Tryz.prog.info? e).map (fun i => (i.zero.isSome, decide (i.bytes ≤ 100000))) = some (true, true)) :
    ∃ O : Obj, ∀ w : World, (Instr.makeSlice t (.int .i64 9) (.int .i64 9)).run Tryz.prog w = .ok (.slice (some ⟨w.heap.size, 0, none⟩) 9 9) (w.alloc O) := by
  cases hi : Tryz.prog.info? e with
  | none => rw [hi] at hinf; cases hinf
  | some i =>
    rw [hi] at hinf
    simp only [Option.map_some, Option.some.injEq, Prod.mk.injEq, decide_eq_true_eq] at hinf
    obtain ⟨z, hz⟩ := Option.isSome_iff_exists.1 hinf.1
    exact ⟨_, fun w => run_make (P := Tryz.prog) w t e i z ht hi hz .i64 .i64 9 9 (by omega) (by omega) (by omega) (by omega)⟩
theorem make_nodes (w : World) : (Instr.makeSlice 114 (.int .i64 9) (.int .i64 9)).run Tryz.prog w = .ok (.slice (some ⟨w.heap.size, 0, none⟩) 9 9) (w.alloc (.cells (madeCells #[.pointer none] 9) 96)) := by
  have hinf : (Tryz.prog.info? 96).map (fun i => (i.zero, i.size, i.bytes)) = some (some (.pointer none), 1, 8) := by kernel_rfl
  obtain ⟨i0, hi, hz0, hz1, hz2⟩ := info_parts hinf
  have := run_make (P := Tryz.prog) w 114 96 i0 (.pointer none) (by kernel_rfl) hi hz0 .i64 .i64 9 9 (by omega) (by omega) (by rw [hz2]; omega) (by omega)
  rw [hz1] at this
  exact this
theorem made_at (v : Value) (n j : Nat) (h : j < n) : (madeCells #[v] n)[j]? = some v := by
  simp [madeCells, h, Nat.mod_one]
theorem cell_new {w : World} {n : Nat} {cs : Array Value} {t : TypeId} {i : Nat} (h : w.heap.size = n) : (w.alloc (.cells cs t)).cell? ⟨n, i, none⟩ = cs[i]? := by subst h; exact World.cell?_alloc_new ..
theorem fz_new {w : World} {n : Nat} {cs : Array Value} {t : TypeId} {i : Nat} (h : w.heap.size = n) : (w.alloc (.cells cs t)).frozen? ⟨n, i, none⟩ = false := by subst h; exact World.frozen?_alloc_new ..
theorem cell_old {w : World} {o : Obj} {b i : Nat} (h : b < w.heap.size) : (w.alloc o).cell? ⟨b, i, none⟩ = w.cell? ⟨b, i, none⟩ := World.cell?_alloc_old _ _ _ (Nat.ne_of_lt h)
theorem fz_old {w : World} {o : Obj} {b i : Nat} (h : b < w.heap.size) : (w.alloc o).frozen? ⟨b, i, none⟩ = w.frozen? ⟨b, i, none⟩ := ((Below.refl w.heap.size w).alloc (Nat.le_refl _) o).frozen (p := ⟨b, i, none⟩) h
theorem map_first (mty kt et : TypeId) (r clock : Nat) (k : Int) (val : Value) (w : World) (hm : Tryz.prog.underlying mty = some (.map kt et)) (hk : Tryz.prog.underlying kt = some (.int .i64)) (hb : w.heap[r]? = some (.map #[] clock)) :
    (Instr.mapUpdate mty (.map (some r)) (.int .i64 k) val).run Tryz.prog w = .ok () { w with heap := w.heap.setIfInBounds r (.map #[{ key := .int .i64 k, val := val, born := clock }] (clock + 1)) } := by
  have hf : Instr.findNow (.int .i64) (.int .i64 k) ([] : List MapEntry) 0 = some none := rfl
  have hc : (Instr.checkKey false 10000 kt (.int .i64 k)).run Tryz.prog w = .ok () w := MapKept.run_checkKey (k := .int .i64 k) hk (by simp [MapKept.IsKey]) false 9999
  simp [Instr.mapUpdate, run_underlying hm, MapKept.run_getObj_map hb, hc, MapKept.run_findKey hk hf, MapKept.run_setObj_map _ hb, Result.andThen]

theorem blocks_any (w : World) : Calls Tryz.prog 50 #[.int .i64 9] w fun e w' => e = .returned (.tuple #[.pointer (some ⟨w.heap.size + 1, 0, none⟩), .int .i64 0]) ∧ Below w.heap.size w w' := by
  obtain ⟨O, hO⟩ := make_nine 138 137 (by kernel_rfl) (by kernel_rfl)
  go_enter Tryz.func50, Tryz.ntmps50
  go_wp2
  go_ret2
  exact ⟨rfl, ((Below.refl _ _).alloc (Nat.le_refl _) _).alloc (by simp) _⟩
structure TabIs (w : World) (T g : Nat) : Prop where
  row : w.cell? ⟨T, 0, none⟩ = some (.slice (some ⟨g, 0, none⟩) 9 9)
  nodes : ∀ j, j < 9 → w.cell? ⟨g, j, none⟩ = some (.pointer none)
  free : ∀ j, w.frozen? ⟨g, j, none⟩ = false
  lt : g < w.heap.size
  ltT : T < w.heap.size
  ne : g ≠ T
set_option maxRecDepth 100000 in
theorem inodes_any (w : World) : Calls Tryz.prog 40 #[.int .i64 9, .int .i64 9] w fun e w' => ∃ T g, e = .returned (.tuple #[.pointer (some ⟨T, 0, none⟩), .int .i64 0]) ∧ Below w.heap.size w w' ∧ w.heap.size ≤ T ∧ w.heap.size ≤ g ∧ TabIs w' T g := by
  obtain ⟨O, hO⟩ : ∃ O : Obj, O = .cells (madeCells #[.pointer none] 9) 96 := ⟨_, rfl⟩
  have hmk := make_nodes
  rw [← hO] at hmk
  have HO := Lib.hid hO
  clear hO
  go_enter Tryz.func40, Tryz.ntmps40
  go_wp2_with fail
  refine (blocks_any _).mono ?_
  rintro e w1 ⟨rfl, hB⟩
  go_wp2_with fail
  go_ret2
  have hsz := hB.size
  have e1 : (w1.alloc O).heap.size = w1.heap.size + 1 := by simp
  refine ⟨_, _, rfl, (hB.alloc hsz _).alloc (by simp; omega) _, by omega, hsz, ?_, fun j hj => ?_, fun j => ?_, ?_, ?_, ?_⟩
  · rw [cell_new (by simp)]; rfl
  · rw [cell_old (by simp), HO.out, cell_new rfl]; exact made_at _ _ _ hj
  · rw [fz_old (by simp), HO.out, fz_new rfl]
  · simp; omega
  · simp
  · simp
theorem TabIs.below {w w' : World} {T g : Nat} (h : TabIs w T g) (hB : Below w.heap.size w w') : TabIs w' T g :=
  ⟨keep_cell h.row hB, fun j hj => keep_cell (h.nodes j hj) hB, fun j => (hB.frozen (p := ⟨g, j, none⟩) h.lt).trans (h.free j), Nat.lt_of_lt_of_le h.lt hB.size, Nat.lt_of_lt_of_le h.ltT hB.size, h.ne⟩
theorem below_heap {W w : World} (h : Below W.heap.size W w) (M : Nat) (hM : W.heap.size ≤ M) (o : Obj) : Below W.heap.size W { w with heap := w.heap.setIfInBounds M o } :=
  ⟨h.os, h.tape, h.output, by simpa using h.size, fun k hk => by
    show (w.heap.setIfInBounds M o)[k]? = _
    rw [Array.getElem?_setIfInBounds, if_neg (by omega)]; exact h.block k hk⟩
set_option maxRecDepth 100000 in
theorem make_any (T g : Nat) (w : World) (h : TabIs w T g) : Calls Tryz.prog 41 #[.pointer (some ⟨T, 0, none⟩), .int .i64 2] w fun e w' => ∃ N, e = .returned (.tuple #[.int .i64 1, .int .i64 0]) ∧ w.heap.size ≤ N ∧ w'.cell? ⟨T, 0, none⟩ = some (.slice (some ⟨g, 0, none⟩) 9 9) ∧ w'.cell? ⟨g, 0, none⟩ = some (.pointer (some ⟨N, 0, none⟩)) ∧ w'.cell? ⟨N, 0, none⟩ = some (.int .i64 0) ∧ w'.frozen? ⟨N, 0, none⟩ = false ∧ w.grownBy w' (some g) := by
  have hr := h.row
  have hn := h.nodes 0 (by omega)
  have hf := h.free 0
  have hne := h.ne
  have hlt := h.lt
  have hmm := @run_makeMap Tryz.prog
  go_enter Tryz.func41, Tryz.ntmps41
  go_wp2_with fail
  go_loopw [23] (fun i W => i = .int .i64 0 ∧ W = w) (fun _ _ => 0)
  case atStart => exact ⟨rfl, rfl⟩
  case round =>
    obtain ⟨rfl, rfl⟩ := hrel
    go_wp2_with fail
    go_ret2
    have h3 := h.ltT
    refine ⟨wr.heap.size + 1, rfl, by omega, ?_, ?_, ?_, ?_, ?_⟩
    · rw [cell_old (by simp; omega), cell_old (by simpa using h3), cs_other (by first | (simp; done) | (simp; omega))]; exact hr
    · rw [cell_old (by simp; omega), cell_old (by simpa using hlt)]; exact cs_same hn
    · rw [cell_new (by simp)]; rfl
    · rw [fz_new (by simp)]
    · exact grown_alloc (grown_alloc (grown_at (World.grownBy.refl _ _)) _) _
theorem tie_any (T g N : Nat) (w : World) (h1 : w.cell? ⟨T, 0, none⟩ = some (.slice (some ⟨g, 0, none⟩) 9 9)) (h2 : w.cell? ⟨g, 0, none⟩ = some (.pointer (some ⟨N, 0, none⟩))) (h3 : w.cell? ⟨N, 0, none⟩ = some (.int .i64 0)) (h4 : w.frozen? ⟨N, 0, none⟩ = false) :
    Calls Tryz.prog 42 #[.pointer (some ⟨T, 0, none⟩), .int .i64 1] w fun e w' => e = .returned (.int .i64 0) ∧ w.grownBy w' (some N) := by
  go_enter Tryz.func42, Tryz.ntmps42
  go_wp2
  go_ret
  exact ⟨rfl, grown_at (World.grownBy.refl _ _)⟩
theorem below_grown {W w w' : World} {b : Nat} (h : Below W.heap.size W w) (hg : w.grownBy w' (some b)) (hb : W.heap.size ≤ b) : Below W.heap.size W w' :=
  h.grown hg h.size (fun k e => by cases e; exact hb)
theorem below_set {W w : World} {b : Nat} {a : Addr} {v : Value} (h : Below W.heap.size W w) (hb : W.heap.size ≤ a.block) : Below W.heap.size W (w.setCell a v) := by
  have := below_grown h (grown_set (World.grownBy.refl w (some a.block)) a rfl v) hb
  exact this
set_option maxRecDepth 100000 in
theorem names_any (w : World) : Calls Tryz.prog 33 #[.int .i64 9, .int .i64 9] w fun e w' => ∃ p, e = .returned (.tuple #[.pointer (some ⟨p, 0, none⟩), .int .i64 0]) ∧ Below w.heap.size w w' := by
  have hmm := @run_makeMap Tryz.prog
  go_enter Tryz.func33, Tryz.ntmps33
  go_wp2_with fail
  refine (inodes_any _).mono ?_
  rintro e w1 ⟨T, g, rfl, hB1, hT, hg, hTab⟩
  go_wp2_with fail
  have hM : ∀ (W : World) (o : Obj), ((W.alloc (Obj.map #[] 0)).alloc o).heap[W.heap.size]? = some (Obj.map #[] 0) := fun W o => by
    show ((W.heap.push _).push _)[W.heap.size]? = _
    rw [Array.getElem?_push_lt (by simp)]; simp
  have hm0 := hM w1 (.cells #[.pointer (some ⟨T, 0, none⟩), .map (some w1.heap.size)] 87)
  have hF0 : ((w1.alloc (Obj.map #[] 0)).alloc (.cells #[.pointer (some ⟨T, 0, none⟩), .map (some w1.heap.size)] 87)).cell? ⟨w1.heap.size + 1, 1, none⟩ = some (.map (some w1.heap.size)) := by
    rw [cell_new (by simp)]; rfl
  have hB2 : Below w1.heap.size w1 ((w1.alloc (Obj.map #[] 0)).alloc (.cells #[.pointer (some ⟨T, 0, none⟩), .map (some w1.heap.size)] 87)) := ((Below.refl _ _).alloc (Nat.le_refl _) _).alloc (by simp) _
  have hs2 : ((w1.alloc (Obj.map #[] 0)).alloc (.cells #[.pointer (some ⟨T, 0, none⟩), .map (some w1.heap.size)] 87)).heap.size = w1.heap.size + 2 := by simp
  generalize (w1.alloc (Obj.map #[] 0)).alloc (.cells #[.pointer (some ⟨T, 0, none⟩), .map (some w1.heap.size)] 87) = w2 at *
  have hTab2 := hTab.below hB2
  have hs1 := hB1.size
  have hgl := hTab.lt
  refine (make_any T g w2 hTab2).mono ?_
  rintro e w3 ⟨N, rfl, hN, c1, c2, c3, c4, hg3⟩
  have hm3 : w3.heap[w1.heap.size]? = some (Obj.map #[] 0) := by rw [hg3.block _ (by omega) (by simp; omega)]; exact hm0
  have hF3 : w3.cell? ⟨w1.heap.size + 1, 1, none⟩ = some (.map (some w1.heap.size)) := by rw [World.cell?_of_block (w := w2) (hg3.block _ (by show w1.heap.size + 1 < _; omega) (by simp; omega))]; exact hF0
  have hs3 := hg3.size
  go_wp2_with fail
  refine (tie_any T g N w3 c1 c2 c3 c4).mono ?_
  rintro e w4 ⟨rfl, hg4⟩
  have hm4 : w4.heap[w1.heap.size]? = some (Obj.map #[] 0) := by rw [hg4.block _ (by omega) (by simp; omega)]; exact hm3
  have hF4 : w4.cell? ⟨w1.heap.size + 1, 1, none⟩ = some (.map (some w1.heap.size)) := by rw [World.cell?_of_block (w := w3) (hg4.block _ (by show w1.heap.size + 1 < _; omega) (by simp; omega))]; exact hF3
  have hs4 := hg4.size
  have hB4 : Below w.heap.size w w4 := below_grown (below_grown (hB1.trans (hB2.mono hs1)) hg3 hg) hg4 (by omega)
  have hk4 : w1.heap.size < w4.heap.size := by omega
  have hup : ∀ (o1 o2 : Obj) (val : Value), (Instr.mapUpdate 85 (.map (some w1.heap.size)) (.int .i64 1) val).run Tryz.prog ((w4.alloc o1).alloc o2) = .ok () _ := fun o1 o2 val =>
    map_first 85 3 105 w1.heap.size 0 1 val ((w4.alloc o1).alloc o2) (by kernel_rfl) (by kernel_rfl) ((((Below.refl w4.heap.size w4).alloc (Nat.le_refl _) o1).alloc (by simp) o2).block _ hk4 |>.trans hm4)
  clear hm0 hm3 hm4
  go_wp2_with fail
  go_ret2
  exact ⟨_, rfl, below_heap ((hB4.alloc hB4.size _).alloc (by have := hB4.size; simp; omega) _) _ hs1 _⟩
end Go.Proofs.YtgfnfomkhhpjaaaGreatDoor
