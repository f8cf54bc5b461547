/- Texts of one proof, packed: UtI, UtJ -/
import Derived.Test.YtbecmcjibpamoaaGreatDoorU10
import Derived.Test.YtbecmcjibpamoaaGreatDoorU11
set_option linter.unusedVariables false
set_option linter.unusedSimpArgs false
set_option linter.deprecated false
set_option linter.unnecessarySimpa false
/- utils.direct: what cat, cp and mv do. -/
namespace Go.Proofs.YtbecmcjibpamoaaGreatDoor
open Go.RowKit IntWalk
set_option linter.unusedVariables false
set_option linter.unusedSimpArgs false

section
variable {w : World} {D F : Nat} {x out : List UInt8} {v : Value}
theorem dct0 (h : w.heap[D]? = some (dctO x v out F)) : w.cell? ⟨D, 0, none⟩ = some (.string ⟨x.toArray⟩) := dct_cell h 0 rfl
theorem dct3 (h : w.heap[D]? = some (dctO x v out F)) : w.cell? ⟨D, 3, none⟩ = some v := dct_cell h 3 rfl
theorem dct4 (h : w.heap[D]? = some (dctO x v out F)) : w.cell? ⟨D, 4, none⟩ = some (.string ⟨out.toArray⟩) := dct_cell h 4 rfl
theorem dct5 (h : w.heap[D]? = some (dctO x v out F)) : w.cell? ⟨D, 5, none⟩ = some (.string ⟨#[]⟩) := dct_cell h 5 rfl
theorem dct6 (h : w.heap[D]? = some (dctO x v out F)) : w.cell? ⟨D, 6, none⟩ = some (.int .i64 0) := dct_cell h 6 rfl
theorem dct7 (h : w.heap[D]? = some (dctO x v out F)) : w.cell? ⟨D, 7, none⟩ = some (.pointer (some ⟨F, 0, none⟩)) := dct_cell h 7 rfl
theorem dct8 (h : w.heap[D]? = some (dctO x v out F)) : w.cell? ⟨D, 8, none⟩ = some (.int .i64 1) := dct_cell h 8 rfl
end
section
variable {W0 : World} {s : Fs} {lay : FId → Nat} {d : Dr} {k : Nat}
set_option maxRecDepth 100000 in
set_option maxHeartbeats 1000000 in
theorem target_new {w : World} {D gr c : Nat} {x z out : List UInt8} (hE : EnvG W0) (h : FsIn W0 s lay w) (hD : w.heap[D]? = some (dctO x (.slice (some ⟨gr, 0, none⟩) 2 c) out (lay .F))) (hDo : ¬ Owns (s.obj lay) lay D)
    (hz : w.cell? ⟨gr, 1, none⟩ = some (.string ⟨z.toArray⟩)) (hw : s.walkS 1 z true = (0, 23)) :
    Calls Tryz.prog 49 #[.pointer (some ⟨D, 0, none⟩)] w fun e w' => e = .returned (.string ⟨z.toArray⟩) ∧ FK none s lay w s lay w' := by
  have hlt := (Array.getElem?_eq_some_iff.1 hD).1
  have hDd : w.drew.heap[D]? = some (dctO x (.slice (some ⟨gr, 0, none⟩) 2 c) out (lay .F)) := hD
  have HWk := Lib.hid (walk_any hE 1 z true w.drew (h.drewN 1))
  rw [hw] at HWk
  have hst0 := (Step.refl h.is).drewN 1
  have HK0 := Lib.hid (FK.of (ex := none) hst0 rfl)
  have HDo := Lib.hid hDo
  have HDd := Lib.hid hDd
  have f3 := dct3 hD
  have f7 := dct7 hDd
  have f8 := dct8 hDd
  clear h hD hDo hst0 hDd hw
  unfold ptrTo at *
  go_enter Tryz.func49, Tryz.ntmps49
  go_wp2
  go_region_held3 (fun W => W.cell? ⟨D, 7, none⟩ = some (.pointer (some ⟨lay .F, 0, none⟩)) ∧ W.cell? ⟨D, 8, none⟩ = some (.int .i64 1)) (first | exact ⟨f7, f8⟩ | exact ⟨m7, m8⟩ | go_keep) (first
    | (go_at_call 10; (with_reducible refine HWk.out.mono ?_); rintro e w2 ⟨rfl, hst⟩; have hD2 := (hst.turned.block D hlt HDo.out).trans HDd.out; have m7 := dct7 hD2; have m8 := dct8 hD2))
  have HF := Lib.hid (FK.trans HK0.out (FK.of hst rfl))
  clear hst hD2 m7 m8
  go_wp2_with fail
  go_ret
  exact ⟨rfl, HF.out⟩
set_option maxRecDepth 100000 in
set_option maxHeartbeats 1000000 in
theorem moves_new {w : World} {D gr c : Nat} {y z out : List UInt8} {n : Int} (hE : EnvG W0) (h : FsIn W0 s lay w) (hD : w.heap[D]? = some (dctO mvN (.slice (some ⟨gr, 0, none⟩) 2 c) out (lay .F))) (hDo : ¬ Owns (s.obj lay) lay D)
    (hy : w.cell? ⟨gr, 0, none⟩ = some (.string ⟨y.toArray⟩)) (hz : w.cell? ⟨gr, 1, none⟩ = some (.string ⟨z.toArray⟩)) (hgl : gr < w.heap.size) (hgo : ¬ Owns (s.obj lay) lay gr)
    (hr : RootAt s d) (hyn : UN y) (hzn : UN z) (hnt : d.name y = some n) (hnu : d.name z = none) (hk : s.dirOf n = none) :
    Calls Tryz.prog 46 #[.pointer (some ⟨D, 0, none⟩)] w fun e w' => e = .returned (.tuple #[]) ∧ FK none s lay w (s.setDr 1 ⟨(d.names.del (.str y)).put (.str z) (.int .i64 n), d.parent⟩) lay w' := by
  have hlt := (Array.getElem?_eq_some_iff.1 hD).1
  have hw := walk_gone hr hzn hnu true
  have HT := Lib.hid (fun (V : World) (hV : FsIn W0 s lay V) (hDV : V.heap[D]? = some (dctO mvN (.slice (some ⟨gr, 0, none⟩) 2 c) out (lay .F))) (hzV : V.cell? ⟨gr, 1, none⟩ = some (.string ⟨z.toArray⟩)) => target_new hE hV hDV hDo hzV hw)
  have HRn := Lib.hid (fun (V : World) (hV : FsIn W0 s lay V) => rename_ok (w := V) hE hV hr hyn hzn hnt hnu hk)
  have HIN := Lib.hid h
  have HDo := Lib.hid hDo
  have HDw := Lib.hid hD
  have f0 := dct0 hD
  have f3 := dct3 hD
  have HY := Lib.hid hy
  have HZ := Lib.hid hz
  have HGO := Lib.hid hgo
  unfold mvN at f0
  clear h hD hDo hw hr hyn hzn hnt hnu hk hgo
  unfold ptrTo at *
  go_enter Tryz.func46, Tryz.ntmps46
  go_wp2
  go_quiet (fail)
  have HST := Lib.hid ((Step.refl HIN.out.is).drewN nq)
  have HIN1 := Lib.hid (HIN.out.drewN nq)
  have hD1 : (w.drewN nq).heap[D]? = some (dctO mvN (.slice (some ⟨gr, 0, none⟩) 2 c) out (lay .F)) := HDw.out
  have hz1 : (w.drewN nq).cell? ⟨gr, 1, none⟩ = some (.string ⟨z.toArray⟩) := HZ.out
  have hl1 : D < (w.drewN nq).heap.size := hlt
  have hgl1 : gr < (w.drewN nq).heap.size := hgl
  clear f0 f3 hy hz hgl hlt
  generalize w.drewN nq = w1 at *
  have f0 : w1.cell? ⟨D, 0, none⟩ = some (.string ⟨#[109, 118]⟩) := dct0 hD1
  go_wp2
  have hD1d : w1.drew.heap[D]? = some (dctO mvN (.slice (some ⟨gr, 0, none⟩) 2 c) out (lay .F)) := hD1
  have f7 := dct7 hD1d
  have f8 := dct8 hD1d
  have HIN2 := Lib.hid (show FsIn W0 s lay w1.drew from HIN1.out.drewN 1)
  have HT1 := Lib.hid (HT.out w1.drew HIN2.out hD1d hz1)
  have HWW := Lib.hid HIN1.out.whole
  have HD1 := Lib.hid hD1d
  clear hD1 hD1d hz1 f0
  go_region_held3 (fun W => W.cell? ⟨D, 7, none⟩ = some (.pointer (some ⟨lay .F, 0, none⟩)) ∧ W.cell? ⟨D, 8, none⟩ = some (.int .i64 1)) (first | exact ⟨f7, f8⟩ | exact ⟨m7, m8⟩ | go_keep) (first
    | (go_at_call 81; (with_reducible refine (HRn.out w2 (hk2.fsIn HIN2.out HWW.out)).mono ?_); rintro e w3 ⟨rfl, hst3⟩; have HF3 := Lib.hid (hk2.trans (FK.of hst3 rfl)); have hD3 := (HF3.out.heap (D := D) hl1 HDo.out (by simp)).trans HD1.out; have m7 := dct7 hD3; have m8 := dct8 hD3)
    | (go_at_call 49; (with_reducible refine HT1.out.mono ?_); rintro e w2 ⟨rfl, hk2⟩; have hD2 := (hk2.heap (D := D) hl1 HDo.out (by simp)).trans HD1.out; have m7 := dct7 hD2; have m8 := dct8 hD2))
  have HAll := Lib.hid ((FK.of (ex := none) (HST.out.drewN 1) rfl).trans HF3.out)
  go_wp2_with fail
  go_end0
  exact ⟨rfl, HAll.out⟩
theorem makes_cat {w : World} {D : Nat} {v : Value} (g : List UInt8) (h : PlanAt w D catN v) :
    Calls Tryz.prog 52 #[.pointer (some ⟨D, 0, none⟩), .string ⟨g.toArray⟩] w fun e w' => e = .returned (.string ⟨g.toArray⟩) ∧ w = w' := by
  obtain ⟨c0, c1, c3⟩ := h
  unfold catN at c0
  go_enter Tryz.func52, Tryz.ntmps52
  go_wp2
  go_ret
  exact ⟨rfl, by first | rfl | trivial⟩
theorem ends_bare {w : World} {D b : Nat} {x : List UInt8} {v : Value} (hx : x ∈ [catN, cpN, mvN]) (h : PlanAt w D x v) :
    Calls Tryz.prog 25 #[.pointer (some ⟨b, 4, none⟩), .pointer (some ⟨D, 0, none⟩)] w fun e w' => e = .returned (.tuple #[]) ∧ w = w' := by
  obtain ⟨c0, c1, c3⟩ := h
  simp only [List.mem_cons, List.not_mem_nil, or_false] at hx
  rcases hx with rfl | rfl | rfl
  all_goals
    simp only [catN, cpN, mvN] at c0
    go_enter Tryz.func25, Tryz.ntmps25
    go_wp2
    go_end0
    exact ⟨rfl, by first | rfl | trivial⟩
/-- mv -/
theorem runs_mv {w : World} {D gr c : Nat} {y z : List UInt8} {n : Int} (hE : EnvG W0) (h : FsIn W0 s lay w) (hD : w.heap[D]? = some (dctO mvN (.slice (some ⟨gr, 0, none⟩) 2 c) [] (lay .F))) (hDo : ¬ Owns (s.obj lay) lay D)
    (hy : w.cell? ⟨gr, 0, none⟩ = some (.string ⟨y.toArray⟩)) (hz : w.cell? ⟨gr, 1, none⟩ = some (.string ⟨z.toArray⟩)) (hgl : gr < w.heap.size) (hgo : ¬ Owns (s.obj lay) lay gr)
    (hr : RootAt s d) (hyn : UN y) (hzn : UN z) (hnt : d.name y = some n) (hnu : d.name z = none) (hk : s.dirOf n = none) :
    Calls Tryz.prog 24 #[.pointer (some ⟨D, 0, none⟩)] w fun e w' => e = .returned (.tuple #[]) ∧ ∃ lay', FK (some D) s lay w (s.setDr 1 ⟨(d.names.del (.str y)).put (.str z) (.int .i64 n), d.parent⟩) lay' w' ∧ w'.heap[D]? = some (dctO mvN (.slice (some ⟨gr, 0, none⟩) 2 c) [] (lay .F)) := by
  have HM := Lib.hid (moves_new hE h hD hDo hy hz hgl hgo hr hyn hzn hnt hnu hk)
  have HD := Lib.hid hD
  have HDo := Lib.hid hDo
  have f0 := dct0 hD
  unfold mvN at f0
  clear h hD hDo hy hz hgl hgo hr hyn hzn hnt hnu hk
  unfold ptrTo at *
  go_enter Tryz.func24, Tryz.ntmps24
  go_wp2_with (go_at_call 46; (refine HM.out.mono ?_); rintro e w2 ⟨rfl, hk2⟩; have HK2 := Lib.hid hk2; clear hk2)
  go_end0
  exact ⟨rfl, lay, HK2.out.any, (HK2.out.heap (Array.getElem?_eq_some_iff.1 HD.out).1 HDo.out (by simp)).trans HD.out⟩
/-- cp -/
theorem runs_cp {w : World} {D gr c k0 : Nat} {y z g : List UInt8} {s' s2 s3 : Fs} {yn : Nd} (hE : EnvG W0) (h : FsIn W0 s lay w) (hc : 2 ≤ c) (hD : w.heap[D]? = some (dctO cpN (.slice (some ⟨gr, 0, none⟩) 2 c) [] (lay .F))) (hDo : ¬ Owns (s.obj lay) lay D)
    (hy : w.cell? ⟨gr, 0, none⟩ = some (.string ⟨y.toArray⟩)) (hz : w.cell? ⟨gr, 1, none⟩ = some (.string ⟨z.toArray⟩)) (hgl : gr < w.heap.size) (hgo : ¬ Owns (s.obj lay) lay gr)
    (hG : Gen s) (hA : FileAt s d y k0 g) (hyu : UN y) (hyd : y ≠ [45]) (hzu : UN z) (hnz : d.name z = none) (hg : g.length ≤ 4096)
    (ho : s.openS 1 z 26 = (some ((k : Int) + 1), 0, s')) (hn : s'.nd ((k : Int) + 1) = some yn) (hk : fileE (s'.fld Nd.kind ((k : Int) + 1)) = 0) (ht : yn.taken s') (hs : yn.size = 0)
    (hw : s'.writeS k yn 0 g = (g.length, s2)) (hl : s2.looseS ((k : Int) + 1) = (0, s3)) :
    Calls Tryz.prog 24 #[.pointer (some ⟨D, 0, none⟩)] w fun e w' => e = .returned (.tuple #[]) ∧ ∃ lay', FK (some D) s lay w s3 lay' w' ∧ w'.heap[D]? = some (dctO cpN (.slice (some ⟨gr, 0, none⟩) 2 c) [] (lay .F)) := by
  have hlt := (Array.getElem?_eq_some_iff.1 hD).1
  have HI := Lib.hid (input_one hE h hD hDo (sources_cp gr c hc (dct_plan hD)) hy hA hG hg hyu hyd)
  have HT := Lib.hid (fun (L : FId → Nat) (V : World) (hV : FsIn W0 s L V) (hDV : V.heap[D]? = some (dctO cpN (.slice (some ⟨gr, 0, none⟩) 2 c) [] (L .F))) (hDo : ¬ Owns (s.obj L) L D) (hzV : V.cell? ⟨gr, 1, none⟩ = some (.string ⟨z.toArray⟩)) => target_new hE hV hDV hDo hzV (walk_gone hA.root hzu hnz true))
  have HSv := Lib.hid (fun (L : FId → Nat) (V : World) (hV : FsIn W0 s L V) (hDV : V.heap[D]? = some (dctO cpN (.slice (some ⟨gr, 0, none⟩) 2 c) [] (L .F))) (hDo : ¬ Owns (s.obj L) L D) => save_new hE hV hDV hDo hzu ho hn hk ht hs hg hw hl)
  have HD := Lib.hid hD
  have HDo := Lib.hid hDo
  have HIN := Lib.hid h
  have HZ := Lib.hid hz
  have HGO := Lib.hid hgo
  have f0 := dct0 hD
  unfold cpN at f0
  clear h hD hDo hy hz hgo hG hA hyu hyd hzu hnz ho hn hk ht hs hw hl
  unfold ptrTo at *
  go_enter Tryz.func24, Tryz.ntmps24
  go_wp2_with first
    | (go_at_call 48; (refine (HSv.out lay2 w3 (HK3.out.fsIn HIN2.out HIN2.out.whole) HD3.out (HK3.out.out hl2 HDo2.out)).mono ?_); rintro e w4 ⟨rfl, lay4, hk4⟩; have HK4 := Lib.hid ((HK2.out.trans HK3.out).trans hk4); clear hk4)
    | (go_at_call 49; (refine (HT.out lay2 w2 HIN2.out HD2.out HDo2.out HZ2.out).mono ?_); rintro e w3 ⟨rfl, hk3⟩; have HK3 := Lib.hid hk3; have hl2 := (Array.getElem?_eq_some_iff.1 HD2.out).1; have HD3 := Lib.hid ((hk3.heap hl2 HDo2.out (by simp)).trans HD2.out); clear hk3)
    | (go_at_call 47; (refine HI.out.mono ?_); rintro e w2 ⟨rfl, lay2, hk2⟩; have HK2 := Lib.hid hk2; have HD2 := Lib.hid (show w2.heap[D]? = some (dctO cpN (.slice (some ⟨gr, 0, none⟩) 2 c) [] (lay2 .F)) from (by rw [hk2.F]; exact (hk2.heap hlt HDo.out (by simp)).trans HD.out)); have HDo2 := Lib.hid (hk2.out hlt HDo.out); have HIN2 := Lib.hid (hk2.fsIn HIN.out HIN.out.whole); have HZ2 := Lib.hid ((World.cell?_of_block (a := ⟨gr, 1, none⟩) (hk2.heap hgl HGO.out (by simp))).trans HZ.out); have f6 := dct6 HD2.out; clear hk2)
  go_end0
  exact ⟨rfl, lay4, HK4.out.any, (HK4.out.heap hlt HDo.out (by simp)).trans HD.out⟩
end
end Go.Proofs.YtbecmcjibpamoaaGreatDoor
/- utils.Direct: cat, cp, mv at once. -/
namespace Go.Proofs.YtbecmcjibpamoaaGreatDoor
open Go.RowKit IntWalk
set_option linter.unusedVariables false
set_option linter.unusedSimpArgs false

section
variable {W0 : World} {s : Fs} {lay : FId → Nat} {d : Dr} {k : Nat}
theorem FK.pre {s' : Fs} {lay' : FId → Nat} {w w1 w' : World} {ex : Option Nat} (h0 : FsIs s lay w) (hb : Below w.heap.size w w1) (h : FK ex s lay w1 s' lay' w') (hx : ∀ b, ex = some b → w.heap.size ≤ b) : FK none s lay w s' lay' w' :=
  ⟨h.is, h.F, ⟨h.turned.os.trans hb.os, h.turned.tape.trans hb.tape, h.turned.output.trans hb.output, Nat.le_trans hb.size h.turned.size, fun k hk hn => (h.turned.block k (Nat.lt_of_lt_of_le hk hb.size) (fun q => q.elim (fun q => hn (.inl q)) (fun q => by have := hx k q; omega))).trans (hb.block k hk)⟩,
   fun k hk => (h.own k hk).elim .inl (fun q => .inr (Nat.le_trans hb.size q))⟩
theorem FsIn.kept1 {w w' : World} (h : FsIn W0 s lay w) (hb : Below w.heap.size w w') : FsIn W0 s lay w' :=
  ⟨⟨h.is.lies.kept fun i hi => hb.block _ (h.is.lies.owns_lt ⟨i, hi, rfl⟩), h.is.ok⟩, h.low, h.below.trans (hb.mono h.below.size), h.whole⟩
set_option maxRecDepth 100000 in
set_option maxHeartbeats 1000000 in
/-- cat -/
theorem runs_cat {w : World} {D gr c k0 : Nat} {y g : List UInt8} (hE : EnvG W0) (h : FsIn W0 s lay w) (hD : w.heap[D]? = some (dctO catN (.slice (some ⟨gr, 0, none⟩) 1 c) [] (lay .F))) (hDo : ¬ Owns (s.obj lay) lay D)
    (hy : w.cell? ⟨gr, 0, none⟩ = some (.string ⟨y.toArray⟩)) (hG : Gen s) (hA : FileAt s d y k0 g) (hyu : UN y) (hyd : y ≠ [45]) (hg : g.length ≤ 4096) :
    Calls Tryz.prog 24 #[.pointer (some ⟨D, 0, none⟩)] w fun e w' => e = .returned (.tuple #[]) ∧ ∃ lay', FK (some D) s lay w s lay' w' ∧ w'.heap[D]? = some (dctO catN (.slice (some ⟨gr, 0, none⟩) 1 c) g (lay .F)) := by
  have hlt := (Array.getElem?_eq_some_iff.1 hD).1
  have hDd : w.drew.heap[D]? = some (dctO catN (.slice (some ⟨gr, 0, none⟩) 1 c) [] (lay .F)) := hD
  have HI := Lib.hid (show Calls Tryz.prog 47 #[.pointer (some ⟨D, 0, none⟩)] w.drew fun e w' => e = .returned (.string ⟨g.toArray⟩) ∧ ∃ lay', FK none s lay w.drew s lay' w' from input_one hE (h.drewN 1) hDd hDo (sources_cat gr c (dct_plan hDd)) hy hA hG hg hyu hyd)
  have hst0 := (Step.refl h.is).drewN 1
  have HK0 := Lib.hid (FK.of (ex := none) hst0 rfl)
  have HD := Lib.hid hDd
  have HDo := Lib.hid hDo
  have hltd : D < w.drew.heap.size := hlt
  have f0 := dct0 hD
  unfold catN at f0
  have f4 := dct4 hDd
  have z4 : w.drew.frozen? ⟨D, 4, none⟩ = false := by unfold dctO at hDd; simp [World.frozen?, hDd]
  clear h hD hDo hy hG hA hyu hyd hst0 hDd
  unfold ptrTo at *
  go_enter Tryz.func24, Tryz.ntmps24
  go_wp2
  go_region_with (first
    | (go_at_call 52; (with_reducible refine (makes_cat g (dct_plan HD2.out)).mono ?_); rintro e w' ⟨rfl, rfl⟩)
    | (go_at_call 47; (with_reducible refine HI.out.mono ?_); rintro e w2 ⟨rfl, lay2, hk2⟩; have HK2 := Lib.hid hk2; have HD2 := Lib.hid ((hk2.heap hltd HDo.out (by simp)).trans HD.out); have m4 := dct4 HD2.out; have n4 : w2.frozen? ⟨D, 4, none⟩ = false := (by have := HD2.out; unfold dctO at this; simp [World.frozen?, this]); clear hk2))
  have hf := set_rowN (k := 4) (v := .string ⟨g.toArray⟩) HD2.out
  have hk := ((HK0.out.trans HK2.out).any (ex := some D)).set (HK2.out.out hltd HDo.out) 4 (.string ⟨g.toArray⟩)
  have HF := Lib.hid hf
  have HK := Lib.hid hk
  clear hf hk m4 n4
  go_wp2_with fail
  go_end0
  exact ⟨rfl, lay2, HK.out, HF.out⟩
/-- what a utility tells: its result's variable -/
theorem done_three {w : World} {b : Nat} {v0 v1 v2 : Value} {ty : TypeId} (h : w.heap[b]? = some (.cells #[v0, v1, v2] ty (0, 0))) (u0 u1 u2 : Value) :
    (((w.setCell ⟨b, 0, none⟩ u0).setCell ⟨b, 1, none⟩ u1).setCell ⟨b, 2, none⟩ u2).heap[b]? = some (.cells #[u0, u1, u2] ty (0, 0)) := three_set h u0 u1 u2
theorem done_ret (w : World) (g : Nat) (a b c : Value) (hg : w.heap[g]? = some (.cells #[a, b, c] 32 (0, 0))) {fn : Func} {p : Tmp} (h : fn.results = #[.cell p 32]) (tmps : Array Value) (hp : tmps.getD p undef = .pointer (some ⟨g, 0, none⟩)) :
    (results fn tmps).run Tryz.prog w = .ok (.agg #[a, b, c]) w :=
  results_cell_row h tmps w g _ #[a, b, c] _ _ hp hg Tryz.underlying32 rfl (by kernel_rfl)
set_option maxRecDepth 100000 in
set_option maxHeartbeats 4000000 in
theorem direct_any {w : World} {ga oa ca : Nat} {x y out : List UInt8} {L : List (List UInt8)} {s' : Fs} (hx : x ∈ [catN, cpN, mvN]) (h : FsIn W0 s lay w) (hR : RowAt w ga oa (x :: y :: L)) (hgl : ga < w.heap.size) (hc : L.length + 2 ≤ ca) (hy : y.length ≠ 2) (hyl : y.length ≤ 1000) (hn : x ≠ catN → L.length = 1) (hl : L.length ≤ 10)
    (hRun : ∀ (V : World) (D gr c : Nat), FsIn W0 s lay V → V.heap[D]? = some (dctO x (.slice (some ⟨gr, 0, none⟩) (L.length + 1) c) [] (lay .F)) → ¬ Owns (s.obj lay) lay D → L.length + 1 ≤ c → RowAt V gr 0 (y :: L) → gr < V.heap.size → ¬ Owns (s.obj lay) lay gr →
      Calls Tryz.prog 24 #[.pointer (some ⟨D, 0, none⟩)] V fun e w' => e = .returned (.tuple #[]) ∧ ∃ lay', FK (some D) s lay V s' lay' w' ∧ w'.heap[D]? = some (dctO x (.slice (some ⟨gr, 0, none⟩) (L.length + 1) c) out (lay .F))) :
    Calls Tryz.prog 9 #[ptrTo (lay .F), .int .i64 1, .string ⟨#[]⟩, .slice (some ⟨ga, oa, none⟩) (L.length + 2) ca] w fun e w' => e = .returned (.agg #[.string ⟨out.toArray⟩, .string ⟨#[]⟩, .int .i64 0]) ∧ ∃ lay', FK none s lay w s' lay' w' := by
  have HKn := Lib.hid (fun (V : World) => known_bare x hx V)
  have HPa := Lib.hid (fun (V : World) (hb : Below w.heap.size w V) => parse_bare x y L hx ga oa ca V (hR.below hgl (hb.mono (Nat.le_refl _))) (Nat.lt_of_lt_of_le hgl hb.size) hc hy (by omega) hn (by omega))
  have HEn := Lib.hid (fun (V : World) (D : Nat) (v : Value) (hP : PlanAt V D x v) => ends_bare (b := D) hx hP)
  have HRun := Lib.hid hRun
  have HIN := Lib.hid h
  have d0 := hR 0 x rfl
  simp only [Nat.add_zero] at d0
  obtain ⟨wa, hwa⟩ : ∃ wa, w.alloc (.cells #[.string ⟨#[]⟩, .string ⟨#[]⟩, .int .i64 0] 32) = wa := ⟨_, rfl⟩
  have hBa : Below w.heap.size w wa := by rw [← hwa]; exact (Below.refl _ w).alloc (Nat.le_refl _) _
  have hRa : wa.heap[w.heap.size]? = some (.cells #[.string ⟨#[]⟩, .string ⟨#[]⟩, .int .i64 0] 32 (0, 0)) := by rw [← hwa]; exact alloc_at _ _
  have da : wa.cell? ⟨ga, oa, none⟩ = some (.string ⟨x.toArray⟩) := (hBa.cell (p := ⟨ga, oa, none⟩) hgl).trans d0
  have HBa := Lib.hid hBa
  have HRa := Lib.hid hRa
  have hxl : x.length ≤ 3 := by
    simp only [List.mem_cons, List.not_mem_nil, or_false] at hx
    rcases hx with rfl | rfl | rfl <;> decide
  clear hR hRun h hx hBa hRa d0
  unfold ptrTo at *
  go_enter Tryz.func9, Tryz.ntmps9
  go_wp2_with first
    | (go_at_call 22; (refine (HPa.out w1 HB1.out).mono ?_); rintro e w2 ⟨⟨gr, c, rfl, hcc, hg1, hg2, hr2⟩, hb2⟩; have HB2 := Lib.hid (HB1.out.trans (hb2.mono HB1.out.size)); have HR2 := Lib.hid ((hb2.block _ (Array.getElem?_eq_some_iff.1 HR1.out).1).trans HR1.out); have HRow := Lib.hid hr2; clear hb2 hr2)
    | (go_at_call 20; (refine (HKn.out wa).mono ?_); rintro e w1 ⟨rfl, hb1⟩; have HB1 := Lib.hid (HBa.out.trans (hb1.mono HBa.out.size)); have HR1 := Lib.hid ((hb1.block _ (Array.getElem?_eq_some_iff.1 HRa.out).1).trans HRa.out); clear hb1)
  have hbd : Below w2.heap.size w2 ((w2.alloc (.cells #[.string ⟨x.toArray⟩, .string ⟨#[]⟩, .int .i64 10, .slice (some ⟨gr, 0, none⟩) (L.length + 1) c] 55)).alloc (dctO x (.slice (some ⟨gr, 0, none⟩) (L.length + 1) c) [] (lay .F))) := ((Below.refl _ w2).alloc (Nat.le_refl _) _).alloc (by simp) _
  have hDE : ((w2.alloc (.cells #[.string ⟨x.toArray⟩, .string ⟨#[]⟩, .int .i64 10, .slice (some ⟨gr, 0, none⟩) (L.length + 1) c] 55)).alloc (dctO x (.slice (some ⟨gr, 0, none⟩) (L.length + 1) c) [] (lay .F))).heap[w2.heap.size + 1]? = some (dctO x (.slice (some ⟨gr, 0, none⟩) (L.length + 1) c) [] (lay .F)) := by
    have := alloc_at (w2.alloc (.cells #[.string ⟨x.toArray⟩, .string ⟨#[]⟩, .int .i64 10, .slice (some ⟨gr, 0, none⟩) (L.length + 1) c] 55)) (dctO x (.slice (some ⟨gr, 0, none⟩) (L.length + 1) c) [] (lay .F))
    simpa using this
  have hs2 := HB2.out.size
  have hs1 := HB1.out.size
  have hbw := HB2.out.trans (hbd.mono hs2)
  have hout : ∀ b, w.heap.size ≤ b → ¬ Owns (s.obj lay) lay b := fun b hb q => by have := HIN.out.is.lies.owns_lt q; omega
  have HOut := Lib.hid hout
  have HRE := Lib.hid ((hbd.block _ (Array.getElem?_eq_some_iff.1 HR2.out).1).trans HR2.out)
  have hrlt : w.heap.size < w2.heap.size := (Array.getElem?_eq_some_iff.1 HR2.out).1
  have HC := Lib.hid (HRun.out _ (w2.heap.size + 1) gr c (HIN.out.kept1 hbw) hDE (hout _ (by omega)) hcc (HRow.out.below hg2 hbd) (Nat.lt_of_lt_of_le hg2 hbd.size) (hout gr (by omega)))
  have HBW := Lib.hid hbw
  have hls := hbd.size
  clear hbd hDE hbw hout HRun
  obtain ⟨E0, hE0⟩ : ∃ E0, ((w2.alloc (.cells #[.string ⟨x.toArray⟩, .string ⟨#[]⟩, .int .i64 10, .slice (some ⟨gr, 0, none⟩) (L.length + 1) c] 55)).alloc (dctO x (.slice (some ⟨gr, 0, none⟩) (L.length + 1) c) [] (lay .F))) = E0 := ⟨_, rfl⟩
  rw [hE0] at HRE HC HBW hls
  unfold dctO dctV ptrTo at hE0
  rw [show (List.toArray ([] : List UInt8)) = #[] from rfl] at hE0
  rw [hE0]
  go_wp2_with first
    | (go_at_call 24; (refine HC.out.mono ?_); rintro e w3 ⟨rfl, lay3, hk3, hD3⟩; have HK3 := Lib.hid hk3; have HD3 := Lib.hid hD3; clear hk3 hD3)
  have HR3 := Lib.hid ((HK3.out.heap (D := w.heap.size) (Array.getElem?_eq_some_iff.1 HRE.out).1 (HOut.out _ (Nat.le_refl _)) (by intro q; have := Option.some.inj q; omega)).trans HRE.out)
  have hP3 : PlanAt w3.drew (w2.heap.size + 1) x (.slice (some ⟨gr, 0, none⟩) (L.length + 1) c) := dct_plan (w := w3.drew) HD3.out
  have HE3 := Lib.hid (HEn.out w3.drew (w2.heap.size + 1) _ hP3)
  clear hP3
  go_region_with (go_at_call 25; (with_reducible refine HE3.out.mono ?_); rintro e w' ⟨rfl, rfl⟩)
  all_goals
    have hDD : w3.drew.heap[w2.heap.size + 1]? = some (dctO x (.slice (some ⟨gr, 0, none⟩) (L.length + 1) c) out (lay .F)) := HD3.out
    have hRR : w3.drew.heap[w.heap.size]? = some (.cells #[.string ⟨#[]⟩, .string ⟨#[]⟩, .int .i64 0] 32 (0, 0)) := HR3.out
    have f4 := dct4 hDD
    have f5 := dct5 hDD
    have f6 := dct6 hDD
    have r0 : w3.drew.cell? ⟨w.heap.size, 0, none⟩ = some (.string ⟨#[]⟩) := cell_of_row w3.drew _ 0 _ _ _ hRR
    have r1 : w3.drew.cell? ⟨w.heap.size, 1, none⟩ = some (.string ⟨#[]⟩) := cell_of_row w3.drew _ 1 _ _ _ hRR
    have r2 : w3.drew.cell? ⟨w.heap.size, 2, none⟩ = some (.int .i64 0) := cell_of_row w3.drew _ 2 _ _ _ hRR
    have z0 : w3.drew.frozen? ⟨w.heap.size, 0, none⟩ = false := by simp [World.frozen?, hRR]
    have z1 : w3.drew.frozen? ⟨w.heap.size, 1, none⟩ = false := by simp [World.frozen?, hRR]
    have z2 : w3.drew.frozen? ⟨w.heap.size, 2, none⟩ = false := by simp [World.frozen?, hRR]
    have HD4 := Lib.hid hDD
    have HR4 := Lib.hid hRR
    have hk4 : FK none s lay w s' lay3 w3.drew := (FK.pre HIN.out.is HBW.out HK3.out (fun b q => by cases q; omega)).below ⟨rfl, rfl, rfl, Nat.le_refl _, fun _ _ => rfl⟩
    have HK4 := Lib.hid hk4
    have HO4 := Lib.hid (show ¬ Owns (s'.obj lay3) lay3 w.heap.size from HK3.out.out (Array.getElem?_eq_some_iff.1 HRE.out).1 (HOut.out _ (Nat.le_refl _)))
    clear hDD hRR hk4
    generalize w3.drew = w4 at *
    go_wp2_with fail
    (try simp only [Exit.inBlock, Exit.then])
    refine bodyPost_ret (done_ret _ _ _ _ _ (done_three HR4.out _ _ _) rfl _ rfl) rfl ?_
    have h1 := (HK4.out.any (ex := some w.heap.size)).set HO4.out 0 (.string ⟨out.toArray⟩)
    have h2 := h1.set HO4.out 1 (.string ⟨#[]⟩)
    have h3 := h2.set HO4.out 2 (.int .i64 0)
    exact ⟨rfl, lay3, h3.drop (Nat.le_refl _)⟩
end
end Go.Proofs.YtbecmcjibpamoaaGreatDoor
