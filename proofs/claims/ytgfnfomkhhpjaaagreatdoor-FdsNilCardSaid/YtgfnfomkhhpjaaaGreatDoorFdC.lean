/- Fds: what the calls of a set do. -/
import Derived.Test.YtgfnfomkhhpjaaaGreatDoorFdB
import Derived.Deep.RegionLaw
import Derived.IntWalk
namespace Go.Proofs.YtgfnfomkhhpjaaaGreatDoor
open Go.RowKit

theorem begun_any (w : World) : Calls Tryz.prog 28 #[.int .i64 9, .int .i64 9] w fun e w' => ∃ p F S, e = .returned (.tuple #[.pointer (some ⟨p, 0, none⟩), .pointer (some ⟨F, 0, none⟩), .pointer (some ⟨S, 0, none⟩)]) ∧ Below w.heap.size w w' ∧ w.heap.size ≤ F ∧ w.heap.size ≤ S ∧ S ≠ F ∧ SetIs w' S F (fun _ => none) ∧ FilesIs w' F (some ⟨p, 0, none⟩) 0 (.slice none 0 0) := by
  go_enter Tryz.func28, Tryz.ntmps28
  go_wp2_with fail
  refine (names_any w).mono ?_
  rintro e w1 ⟨p, rfl, hB1⟩
  go_wp2_with fail
  refine (fdsnew_any p w1).mono ?_
  rintro e w2 ⟨rfl, hB2, hF⟩
  go_wp2_with fail
  refine (set_any w1.heap.size w2).mono ?_
  rintro e w3 ⟨rfl, hB3, hS⟩
  go_wp2_with fail
  go_ret3
  have h1 := hB1.size
  have h2 := hF.lt
  have h3 := hB2.size
  exact ⟨p, w1.heap.size, w2.heap.size, rfl, (hB1.trans (hB2.mono hB1.size)).trans (hB3.mono (by omega)), by omega, by omega, by omega, hS, hF.keep (hB3.block _ h2)⟩
theorem at_some {S F tab} (fd : Nat) (a : Addr) (w : World) (hS : SetIs w S F tab) (hf : fd < 16) (ht : tab fd = some a) : Calls Tryz.prog 25 #[.pointer (some ⟨S, 0, none⟩), .int .i64 fd] w fun e w' => e = .returned (.tuple #[.pointer (some a), .int .i64 0]) ∧ w = w' := by
  have h1 := hS.fd fd hf
  rw [ht] at h1
  have hf1 : (fd : Int) < 16 := by omega
  have hf0 : (0 : Int) ≤ fd := by omega
  go_enter Tryz.func25, Tryz.ntmps25
  go_wp2
  go_ret2
  exact ⟨rfl, rfl⟩
theorem at_none {S F tab} (fd : Nat) (w : World) (hS : SetIs w S F tab) (hf : fd < 16) (ht : tab fd = none) : Calls Tryz.prog 25 #[.pointer (some ⟨S, 0, none⟩), .int .i64 fd] w fun e w' => e = .returned (.tuple #[.pointer none, .int .i64 28]) ∧ w = w' := by
  have h1 := hS.fd fd hf
  rw [ht] at h1
  have hf1 : (fd : Int) < 16 := by omega
  have hf0 : (0 : Int) ≤ fd := by omega
  go_enter Tryz.func25, Tryz.ntmps25
  go_wp2
  go_ret2
  exact ⟨rfl, rfl⟩
theorem may_ok {S F tab} (fd : Nat) (w : World) (hS : SetIs w S F tab) (hf : fd < 16) (ht : tab fd = none) : Calls Tryz.prog 20 #[.pointer (some ⟨S, 0, none⟩), .int .i64 fd] w fun e w' => e = .returned (.int .i64 0) ∧ w = w' := by
  have h1 := hS.fd fd hf
  rw [ht] at h1
  have hf1 : (fd : Int) < 16 := by omega
  have hf0 : (0 : Int) ≤ fd := by omega
  go_enter Tryz.func20, Tryz.ntmps20
  go_wp2
  go_ret
  exact ⟨rfl, rfl⟩
/-- a number is opened for something: what then stands where -/
theorem share_any {S F tab p n sv O v k} (fd : Nat) (w : World) (hS : SetIs w S F tab) (hF : FilesIs w F p n sv) (hO : OpenIs w O v k) (hSF : S ≠ F) (hSO : S ≠ O) (hFO : F ≠ O) (hf : fd < 16) (hn : n < 1000000) (hk : k < 1000000) :
    Calls Tryz.prog 27 #[.pointer (some ⟨S, 0, none⟩), .int .i64 fd, .pointer (some ⟨O, 0, none⟩)] w fun e w' => e = .returned (.tuple #[]) ∧
      SetIs w' S F (updT tab fd (some ⟨O, 0, none⟩)) ∧ FilesIs w' F p (if k = 0 then n + 1 else n) sv ∧ OpenIs w' O v (k + 1) ∧ Kept [S, F, O] w w' := by
  have h1 := hS.fd fd hf
  have h2 := hS.files
  have h3 := hS.free (1 + fd)
  have h4 := hF.many
  have h5 := hF.free 1
  have h6 := hO.many
  have h7 := hO.free 1
  have hf1 : (fd : Int) < 16 := by omega
  have hf0 : (0 : Int) ≤ fd := by omega
  have hKr := Kept.refl [S, F, O] w
  by_cases hk0 : k = 0
  · subst hk0
    go_enter Tryz.func27, Tryz.ntmps27
    go_wp2
    go_end0
    refine ⟨rfl, ?_, ?_, ?_, ?_⟩
    · exact ((hS.other _ _ (by exact hSF)).other _ _ (by exact hSO)).put fd hf _
    · exact ((hF.set_many (m := n + 1) (by omega)).other _ _ (by exact hFO)).other _ _ (by exact hSF.symm)
    · exact ((hO.other _ _ (by exact hFO.symm)).set_many (m := 1) (by omega)).other _ _ (by exact hSO.symm)
    · exact ((hKr.set _ _ (by simp)).set _ _ (by simp)).set _ _ (by simp)
  · have hk1 : ((k : Int) == 0) = false := by rw [beq_eq_false_iff_ne]; omega
    rw [if_neg hk0]
    go_enter Tryz.func27, Tryz.ntmps27
    go_wp2
    go_end0
    refine ⟨rfl, ?_, ?_, ?_, ?_⟩
    · exact (hS.other _ _ (by exact hSO)).put fd hf _
    · exact (hF.other _ _ (by exact hFO)).other _ _ (by exact hSF.symm)
    · exact (hO.set_many (m := k + 1) (by omega)).other _ _ (by exact hSO.symm)
    · exact (hKr.set _ _ (by simp)).set _ _ (by simp)
theorem open_new (w : World) (v : Value) (i : Int) (hi : i = 0) : OpenIs (w.alloc (.cells #[v, .int .i64 i] 72)) w.heap.size v 0 :=
  ⟨by rw [cell_new rfl]; rfl, by rw [cell_new rfl, hi]; rfl, fun i => fz_new rfl⟩
/-- a number is opened for a new thing -/
theorem put_any {S F tab p n sv} (fd : Nat) (vt : TypeId) (vu : Value) (w : World) (hS : SetIs w S F tab) (hF : FilesIs w F p n sv) (hSF : S ≠ F) (hf : fd < 16) (hn : n < 1000000) :
    Calls Tryz.prog 21 #[.pointer (some ⟨S, 0, none⟩), .int .i64 fd, .iface vt vu] w fun e w' => e = .returned (.tuple #[]) ∧
      SetIs w' S F (updT tab fd (some ⟨w.heap.size, 0, none⟩)) ∧ FilesIs w' F p (n + 1) sv ∧ OpenIs w' w.heap.size (.iface vt vu) 1 ∧ Kept [S, F] w w' := by
  have h1 := hS.lt
  have h2 := hF.lt
  go_enter Tryz.func21, Tryz.ntmps21
  go_wp2_with fail
  have hK := (Kept.refl [] w).alloc (.cells #[.iface vt vu, .int .i64 0] 72)
  refine (share_any fd _ (hS.kept hK (by simp)) (hF.kept hK (by simp)) (open_new w _ 0 rfl) hSF (by omega) (by omega) hf hn (by omega)).mono ?_
  rintro e w' ⟨rfl, a1, a2, a3, a4⟩
  go_wp2_with fail
  go_end0
  exact ⟨rfl, a1, a2, a3, (hK.more (by simp)).step a4 (by simp)⟩
/-- 'append(l, x)' of pointers, one step of a region that draws -/
theorem step_app_p {ops : Array Oper} {o : Oper} {a : Act} {w : World} {K : Act → World → Prop} {Q : Exit → Act → World → Prop} {E : Prop}
    (hg : o.guard = none) (s x : Operand) (hop : o.op = Op.call { callee := Callee.builtin Builtin.append, args := #[s, x], argTypes := #[46, 46] })
    (base : Nat) (v : Value) (n : Nat) (cs : List Value) (hs : a.eval s = v) (hown : w.ownsRow base 49 1 v n cs) (u : Value) (hu : u.oneCell' = true) (g : Nat) (hx : a.eval x = .slice (some ⟨g, 0, none⟩) 1 1) (hc : w.cell? ⟨g, 0, none⟩ = some u)
    (hlen : n + 1 ≤ 1000000000000) (hbase : base ≤ w.heap.size)
    (hK : ∀ v' w', w'.ownsRow base 49 1 v' (n + 1) (cs ++ [u]) → w.grownBy w' v.ownBlock → K (a.put o.dst v') w') :
    if Region.wanted o (yielded ops a.tmps) = true then Oper.wp Tryz.prog o a w K Q else E := by
  have hw : Region.wanted o (yielded ops a.tmps) = true := by simp [Region.wanted, hg]
  rw [if_pos hw]
  have info : (Tryz.prog.info? 49).map (fun i => (i.zero, i.size, i.bytes)) = some (some (.pointer none), 1, 8) := by kernel_rfl
  obtain ⟨i0, hi, hz0, hz1, hz2⟩ := info_parts info
  obtain ⟨v', w', hrun, h1, h2, _⟩ := run_append_own (P := Tryz.prog) (w := w) base 46 o.type 49 i0 (.pointer none) 1 8 (by kernel_rfl) hi hz0 hz1 hz2 rfl (by omega) v n cs hown ⟨g, 0, none⟩ 1 1 [u] rfl
    (by intro j y hj; match j, hj with | 0, hj => simp at hj; subst hj; simpa [Addr.add] using hc) (by intro y hy; simp at hy; subst hy; exact hu) (by simp only [maxLen]; omega) (by omega) hbase
  unfold Oper.wp
  simp [execOp, hop, resolve, invoke, builtin, hs, hx, hrun, Result.andThen]
  exact hK v' w' h1 h2
theorem own_one {w : World} {base : Nat} {T : TypeId} {v u : Value} (h : w.ownsRow base T 1 v 1 [u]) : ∃ G c, v = .slice (some ⟨G, 0, none⟩) 1 c ∧ base ≤ G ∧ G < w.heap.size ∧ w.cell? ⟨G, 0, none⟩ = some u := by
  obtain ⟨hxs, hr⟩ := h
  rcases hr with ⟨rfl, hn⟩ | ⟨g, cap, cur, rfl, hb, hg, hnc, hcm, hcs, htk⟩
  · cases hn
  · refine ⟨g, cap, rfl, hb, ?_, ?_⟩
    · rcases Nat.lt_or_ge g w.heap.size with h' | h'
      · exact h'
      · rw [Array.getElem?_eq_none h'] at hg; cases hg
    · have h1 : (cur.toList.take (1 * 1))[0]? = some u := by rw [htk]; rfl
      rw [List.getElem?_take_of_lt (by omega), Array.getElem?_toList] at h1
      simp [World.cell?, hg, h1]
set_option maxHeartbeats 1600000 in
theorem sink_any {S F p} (fd : Nat) (w : World) (hS : SetIs w S F (fun _ => none)) (hF : FilesIs w F p 0 (.slice none 0 0)) (hSF : S ≠ F) (hf : fd < 16) :
    Calls Tryz.prog 5 #[.pointer (some ⟨S, 0, none⟩), .int .i64 fd] w fun e w' => ∃ K O G c, e = .returned (.tuple #[.int .i64 1, .int .i64 0]) ∧
      SetIs w' S F (updT (fun _ => none) fd (some ⟨O, 0, none⟩)) ∧ FilesIs w' F p 1 (.slice (some ⟨G, 0, none⟩) 1 c) ∧ w'.cell? ⟨G, 0, none⟩ = some (.pointer (some ⟨K, 0, none⟩)) ∧
      OpenIs w' O (.iface 49 (.pointer (some ⟨K, 0, none⟩))) 1 ∧ w'.cell? ⟨K, 0, none⟩ = some (.slice none 0 0) ∧ w'.frozen? ⟨K, 0, none⟩ = false ∧ w.heap.size ≤ K ∧ w.heap.size ≤ O ∧ w.heap.size ≤ G ∧ K ≠ O ∧ G ≠ O ∧ G ≠ K ∧ Kept [S, F] w w' := by
  have h1 := hS.files
  have h4 := hF.sinks
  have h5 := hF.free 2
  have h6 := hF.many
  have hsl := hS.lt
  have hfl := hF.lt
  go_enter Tryz.func5, Tryz.ntmps5
  go_wp2_with fail
  refine (may_ok fd _ hS hf rfl).mono ?_
  rintro e w' ⟨rfl, rfl⟩
  go_wp2_with fail
  obtain ⟨W5, hW5⟩ : ∃ W5, W5 = w.alloc (.cells #[.slice none 0 0] 52) := ⟨_, rfl⟩
  have hK5 : Kept [] w W5 := by rw [hW5]; exact (Kept.refl [] w).alloc _
  have hS5 := hS.kept hK5 (by simp)
  have hF5 := hF.kept hK5 (by simp)
  have hk1 : W5.cell? ⟨w.heap.size, 0, none⟩ = some (.slice none 0 0) := by rw [hW5, cell_new rfl]; rfl
  have hk2 : W5.frozen? ⟨w.heap.size, 0, none⟩ = false := by rw [hW5, fz_new rfl]
  have hs5 : W5.heap.size = w.heap.size + 1 := by rw [hW5]; simp
  have g1 := hS5.files
  have g4 := hF5.sinks
  have g5 := hF5.free 2
  rw [← hW5]
  clear hW5
  have hown : ((W5.alloc (.cells #[.pointer (some ⟨w.heap.size, 0, none⟩)] 49)).drew).ownsRow (w.heap.size + 1) 49 1 (.slice none 0 0) 0 [] := World.ownsRow_nil _ _ _ _
  have hcl : ((W5.alloc (.cells #[.pointer (some ⟨w.heap.size, 0, none⟩)] 49)).drew).cell? ⟨w.heap.size + 1, 0, none⟩ = some (.pointer (some ⟨w.heap.size, 0, none⟩)) := by
    rw [← hs5]
    show (W5.alloc _).cell? _ = _
    rw [cell_new rfl]; rfl
  have hbase : w.heap.size + 1 ≤ ((W5.alloc (.cells #[.pointer (some ⟨w.heap.size, 0, none⟩)] 49)).drew).heap.size := by simp; omega
  have hS6 : SetIs ((W5.alloc (.cells #[.pointer (some ⟨w.heap.size, 0, none⟩)] 49)).drew) S F (fun _ => none) := (hS5.kept ((Kept.refl [] W5).alloc _) (by simp)).keep rfl
  have hF6 : FilesIs ((W5.alloc (.cells #[.pointer (some ⟨w.heap.size, 0, none⟩)] 49)).drew) F p 0 (.slice none 0 0) := (hF5.kept ((Kept.refl [] W5).alloc _) (by simp)).keep rfl
  have hK6 : Kept [] w ((W5.alloc (.cells #[.pointer (some ⟨w.heap.size, 0, none⟩)] 49)).drew) := hK5.step (((Kept.refl [] W5).alloc _).drewN 1) (by simp)
  have hk3 : ((W5.alloc (.cells #[.pointer (some ⟨w.heap.size, 0, none⟩)] 49)).drew).cell? ⟨w.heap.size, 0, none⟩ = some (.slice none 0 0) := by
    show (W5.alloc _).cell? _ = _
    rw [cell_old (by omega)]; exact hk1
  have hk4 : ((W5.alloc (.cells #[.pointer (some ⟨w.heap.size, 0, none⟩)] 49)).drew).frozen? ⟨w.heap.size, 0, none⟩ = false := by
    show (W5.alloc _).frozen? _ = _
    rw [fz_old (by omega)]; exact hk2
  have HS6 := Lib.hid hS6
  have HF6 := Lib.hid hF6
  have HK6 := Lib.hid hK6
  have HK3 := Lib.hid hk3
  have HK4 := Lib.hid hk4
  have HHS6 := Lib.hid (show ((W5.alloc (.cells #[.pointer (some ⟨w.heap.size, 0, none⟩)] 49)).drew).heap.size = w.heap.size + 2 by simp; omega)
  clear hS6 hF6 hK6 hk3 hk4 hK5 hS5 hF5
  go_region_law (refine step_app_p rfl _ _ rfl (w.heap.size + 1) (.slice none 0 0) 0 [] rfl hown _ rfl (w.heap.size + 1) rfl hcl (by omega) hbase ?_; intro v6 w6 hown6 hg6; obtain ⟨G, c, rfl, hbG, hlG, hcG⟩ := own_one hown6; have hF7 := HF6.out.keep (hg6.block _ (by have := HF6.out.lt; exact this) (by simp [Value.ownBlock])); have f4 := hF7.sinks; have f5 := hF7.free 2; have hS7 := HS6.out.keep (hg6.block _ (by have := HS6.out.lt; exact this) (by simp [Value.ownBlock])); have f6 := hS7.files)
  all_goals
    have hs7 := hg6.size
    have hs8 := HHS6.out
    have hk7 : w6.cell? ⟨w.heap.size, 0, none⟩ = some (.slice none 0 0) := by rw [World.cell?_of_block (hg6.block _ (by show w.heap.size < _; omega) (by simp [Value.ownBlock]))]; exact HK3.out
    have hf7 : w6.frozen? ⟨w.heap.size, 0, none⟩ = false := by rw [World.frozen?_of_block (hg6.block _ (by show w.heap.size < _; omega) (by simp [Value.ownBlock]))]; exact HK4.out
    have k7 : Kept [] w w6 := HK6.out.grown hg6 (by simp [Value.ownBlock])
    have hS8 := hS7.other ⟨F, 2, none⟩ (.slice (some ⟨G, 0, none⟩) 1 c) hSF
    have hF8 := hF7.set_sinks (.slice (some ⟨G, 0, none⟩) 1 c)
    have hG8 : (w6.setCell ⟨F, 2, none⟩ (.slice (some ⟨G, 0, none⟩) 1 c)).cell? ⟨G, 0, none⟩ = some (.pointer (some ⟨w.heap.size, 0, none⟩)) := by rw [cs_block (by show F ≠ G; omega)]; exact hcG
    have hK8 : (w6.setCell ⟨F, 2, none⟩ (.slice (some ⟨G, 0, none⟩) 1 c)).cell? ⟨w.heap.size, 0, none⟩ = some (.slice none 0 0) := by rw [cs_block (by show F ≠ w.heap.size; omega)]; exact hk7
    have hf8 : (w6.setCell ⟨F, 2, none⟩ (.slice (some ⟨G, 0, none⟩) 1 c)).frozen? ⟨w.heap.size, 0, none⟩ = false := by rw [fz_set]; exact hf7
    have k8 : Kept [S, F] w (w6.setCell ⟨F, 2, none⟩ (.slice (some ⟨G, 0, none⟩) 1 c)) := (k7.more (by simp)).set _ _ (by simp)
    have hz8 : (w6.setCell ⟨F, 2, none⟩ (.slice (some ⟨G, 0, none⟩) 1 c)).heap.size = w6.heap.size := by simp
    go_simp
    generalize w6.setCell ⟨F, 2, none⟩ (.slice (some ⟨G, 0, none⟩) 1 c) = w8 at *
    clear hs8 hown hcl hbase HS6 HF6 HK6 HK3 HK4 HHS6 hg6 hown6 hcG hF7 f4 f5 hS7 f6 hk7 hf7 k7 h1 h4 h5 h6 hS hF hk1 hk2 hs5 g1 g4 g5
    go_wp2_with fail
    refine (put_any fd _ _ w8 hS8 hF8 hSF hf (by omega)).mono ?_
    rintro e w9 ⟨rfl, a1, a2, a3, a4⟩
    have b1 := a1.files
    have b2 := a2.sinks
    go_wp2_with fail
    go_ret2
    exact ⟨w.heap.size, w8.heap.size, G, c, rfl, a1, a2, (World.cell?_of_block (a4.block G (by omega) (by simp; omega))).trans hG8, a3, (World.cell?_of_block (a4.block w.heap.size (by omega) (by simp; omega))).trans hK8, (World.frozen?_of_block (a4.block w.heap.size (by omega) (by simp; omega))).trans hf8, Nat.le_refl _, by omega, by omega, by omega, by omega, by omega, k8.step a4 (by simp)⟩
end Go.Proofs.YtgfnfomkhhpjaaaGreatDoor
