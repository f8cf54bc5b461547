/- Texts of one proof, packed: UtR -/
import Derived.Test.YtbecmcjibpamoaaGreatDoorU08
import Derived.Test.YtbecmcjibpamoaaGreatDoorU01
set_option linter.unusedVariables false
set_option linter.unusedSimpArgs false
set_option linter.deprecated false
set_option linter.unnecessarySimpa false
/- names: a file of the root gets another name. -/
namespace Go.Proofs.YtbecmcjibpamoaaGreatDoor
open Go.RowKit IntWalk
set_option linter.unusedVariables false
set_option linter.unusedSimpArgs false

section
variable {W0 : World} {s : Fs} {lay : FId → Nat} {d : Dr} {t u : List UInt8} {n : Int}
set_option maxRecDepth 100000 in
set_option maxHeartbeats 4000000 in
theorem rename_ok {w : World} (hE : EnvG W0) (h : FsIn W0 s lay w) (hr : RootAt s d) (ht : UN t) (hu : UN u) (hnt : d.name t = some n) (hnu : d.name u = none) (hk : s.dirOf n = none) :
    Calls Tryz.prog 81 #[ptrTo (lay .F), .int .i64 1, .string ⟨t.toArray⟩, .string ⟨u.toArray⟩] w fun e w' => e = .returned (.int .i64 0) ∧ Step s lay w (s.setDr 1 ⟨(d.names.del (.str t)).put (.str u) (.int .i64 n), d.parent⟩) lay w' := by
  have hd := hr.dr
  have hno := names_of h.is hd
  have HP := Lib.hid (fun (V : World) (hV : FsIn W0 s lay V) => place_any hE 1 t (by have := ht.len; omega) V hV)
  have HQ := Lib.hid (fun (V : World) (hV : FsIn W0 s lay V) => place_any hE 1 u (by have := hu.len; omega) V hV)
  rw [place_un hr ht] at HP
  rw [place_un hr hu] at HQ
  simp only [show placeV lay (1, t, 0) = .agg #[.int .i64 1, ptrTo (lay (.E 1)), .string ⟨t.toArray⟩] from rfl] at HP
  simp only [show placeV lay (1, u, 0) = .agg #[.int .i64 1, ptrTo (lay (.E 1)), .string ⟨u.toArray⟩] from rfl] at HQ
  have HLT := Lib.hid (fun (W : World) (hW : FsIs s lay W) => name_look hW hd t)
  have HLU := Lib.hid (fun (W : World) (hW : FsIs s lay W) => name_look hW hd u)
  rw [hnt] at HLT
  rw [hnu] at HLU
  simp only [Option.getD_some, Option.getD_none, Option.isSome_some, Option.isSome_none] at HLT HLU
  have hdp : dirPtr s lay n = .pointer none := by unfold dirPtr; rw [hk]
  have HDI := Lib.hid (fun (s2 : Fs) (hs2 : s2.dirOf n = none) (W : World) (hW : FsIs s2 lay W) => show Calls Tryz.prog 26 #[ptrTo (lay .F), .int .i64 n] W fun e w' => e = .returned (.pointer none) ∧ W = w' from by
    have := dir_any n W hW
    rw [show dirPtr s2 lay n = .pointer none by unfold dirPtr; rw [hs2]] at this
    exact this)
  have HLN := Lib.hid (fun (W : World) (hW : FsIs s lay W) => links_any 1 W hW)
  have hlz : (s.fld Nd.names 1 == 0) = false := by simpa using hr.ln
  have HK := Lib.hid hk
  have HIN := Lib.hid h
  have HNO := Lib.hid hno
  have HD := Lib.hid hd
  clear hno hr hnt hnu hk hdp hd
  unfold ptrTo at *
  go_enter Tryz.func81, Tryz.ntmps81
  go_wp2_with first
    | (go_at_call 65; (with_reducible refine (HQ.out _ (h.step hst2a h.whole)).mono ?_); rintro e w3 ⟨rfl, hst3⟩; have hA3 := (hst3.turned.block _ (by simp) hout).trans hA2; have hst3a := (hst2a.trans hst3).alloc (Obj.cells #[.int .i64 1, .pointer (some ⟨lay (.E 1), 0, none⟩), .string ⟨u.toArray⟩] 80))
    | (go_at_call 65; (with_reducible refine (HP.out _ h).mono ?_); rintro e w2 ⟨rfl, hst2⟩; have hst2a := hst2.alloc (Obj.cells #[.int .i64 1, .pointer (some ⟨lay (.E 1), 0, none⟩), .string ⟨t.toArray⟩] 80); have hA2 := alloc_at w2 (Obj.cells #[.int .i64 1, .pointer (some ⟨lay (.E 1), 0, none⟩), .string ⟨t.toArray⟩] 80); have hout : ¬ Owns (s.obj lay) lay w2.heap.size := (fun q => by have := hst2.is.lies.owns_lt q; omega))
  have hlt3 : w2.heap.size < w3.heap.size := (Array.getElem?_eq_some_iff.1 hA3).1
  have hA4 := (Below.heap_alloc w3 (Obj.cells #[.int .i64 1, .pointer (some ⟨lay (.E 1), 0, none⟩), .string ⟨u.toArray⟩] 80) w2.heap.size hlt3).trans hA3
  have hB4 := alloc_at w3 (Obj.cells #[.int .i64 1, .pointer (some ⟨lay (.E 1), 0, none⟩), .string ⟨u.toArray⟩] 80)
  have houtB : ¬ Owns (s.obj lay) lay w3.heap.size := fun q => by have := hst3.is.lies.owns_lt q; omega
  have hMlt : lay (.M 1) < w2.heap.size := hst2.is.lies.owns_lt ⟨.M 1, by simp [Fs.obj, HD.out], rfl⟩
  have hMA : lay (.M 1) ≠ w2.heap.size := by omega
  have hMB : lay (.M 1) ≠ w3.heap.size := by omega
  have hME : lay (.M 1) ≠ lay (.E 1) := hst2.is.lies.ne (i := .M 1) (j := .E 1) (o := d.names.obj) (p := .cells #[.map (some (lay (.M 1))), .int .i64 d.parent] 78 (0, 0)) (by simp [Fs.obj, HD.out]) (by simp [Fs.obj, HD.out]) (by simp)
  have hst4 := hst3a
  clear hst2 hst2a hst3 hst3a hA2 hA3 hMlt
  generalize w3.alloc _ = w4 at *
  generalize w2.heap.size = pa at *
  generalize w3.heap.size = pb at *
  have p0 : w4.cell? ⟨pa, 0, none⟩ = some (.int .i64 1) := cell_of_row w4 _ 0 _ _ _ hA4
  have p1 : w4.cell? ⟨pa, 1, none⟩ = some (.pointer (some ⟨lay (.E 1), 0, none⟩)) := cell_of_row w4 _ 1 _ _ _ hA4
  have p2 : w4.cell? ⟨pa, 2, none⟩ = some (.string ⟨t.toArray⟩) := cell_of_row w4 _ 2 _ _ _ hA4
  have q0 : w4.cell? ⟨pb, 0, none⟩ = some (.int .i64 1) := cell_of_row w4 _ 0 _ _ _ hB4
  have q1 : w4.cell? ⟨pb, 1, none⟩ = some (.pointer (some ⟨lay (.E 1), 0, none⟩)) := cell_of_row w4 _ 1 _ _ _ hB4
  have q2 : w4.cell? ⟨pb, 2, none⟩ = some (.string ⟨u.toArray⟩) := cell_of_row w4 _ 2 _ _ _ hB4
  have e0 := hst4.is.e0 HD.out
  have hlk := fun m : Nat => HLT.out _ (hst4.is.drewN m)
  go_quiet (fail)
  have hst5 := hst4.drewN nq
  have hA5 : (w4.drewN nq).heap[pa]? = _ := hA4
  have hB5 : (w4.drewN nq).heap[pb]? = _ := hB4
  clear hst4 hA4 hB4 p0 p1 p2 q0 q1 q2 e0 hlk
  generalize w4.drewN nq = w5 at *
  have p0 : w5.cell? ⟨pa, 0, none⟩ = some (.int .i64 1) := cell_of_row w5 _ 0 _ _ _ hA5
  have p1 : w5.cell? ⟨pa, 1, none⟩ = some (.pointer (some ⟨lay (.E 1), 0, none⟩)) := cell_of_row w5 _ 1 _ _ _ hA5
  have p2 : w5.cell? ⟨pa, 2, none⟩ = some (.string ⟨t.toArray⟩) := cell_of_row w5 _ 2 _ _ _ hA5
  have q0 : w5.cell? ⟨pb, 0, none⟩ = some (.int .i64 1) := cell_of_row w5 _ 0 _ _ _ hB5
  have q1 : w5.cell? ⟨pb, 1, none⟩ = some (.pointer (some ⟨lay (.E 1), 0, none⟩)) := cell_of_row w5 _ 1 _ _ _ hB5
  have q2 : w5.cell? ⟨pb, 2, none⟩ = some (.string ⟨u.toArray⟩) := cell_of_row w5 _ 2 _ _ _ hB5
  have e0 := hst5.is.e0 HD.out
  have hlk := fun m : Nat => HLU.out _ (hst5.is.drewN m)
  go_wp2
  go_quiet (fail)
  have hst6 := hst5.drewN nq
  have hA6 : (w5.drewN nq).heap[pa]? = _ := hA5
  have hB6 : (w5.drewN nq).heap[pb]? = _ := hB5
  clear hst5 hA5 hB5 p0 p1 p2 q0 q1 q2 e0 hlk
  generalize w5.drewN nq = w6 at *
  have q0 : w6.cell? ⟨pb, 0, none⟩ = some (.int .i64 1) := cell_of_row w6 _ 0 _ _ _ hB6
  have f0 := hst6.is.f0
  unfold ptrTo at f0
  have HS6 := Lib.hid hst6
  go_wp2
  go_quiet ((go_at_call 66; exact Calls.quiet_of_same ((HLN.out _ (HS6.out.is.drewN _)).mono fun _ _ h => ⟨h.1, h.2.symm⟩)))
  have hst7 := hst6.drewN nq
  have hA7 : (w6.drewN nq).heap[pa]? = _ := hA6
  have hB7 : (w6.drewN nq).heap[pb]? = _ := hB6
  clear hst6 hA6 hB6 q0 f0 HS6
  generalize w6.drewN nq = w7 at *
  have HD7 := Lib.hid (HDI.out s HK.out w7 hst7.is)
  go_wp2_with (go_at_call 26; (with_reducible refine HD7.out.mono ?_); rintro e w' ⟨rfl, rfl⟩)
  have hall := hst7.drewN 1
  have p1 : w7.drew.cell? ⟨pa, 1, none⟩ = some (.pointer (some ⟨lay (.E 1), 0, none⟩)) := cell_of_row w7 _ 1 _ _ _ hA7
  have p2 : w7.drew.cell? ⟨pa, 2, none⟩ = some (.string ⟨t.toArray⟩) := cell_of_row w7 _ 2 _ _ _ hA7
  have e1 : w7.drew.cell? ⟨lay (.E 1), 0, none⟩ = some (.map (some (lay (.M 1)))) := hall.is.e0 HD.out
  have hM : w7.drew.heap[lay (.M 1)]? = some d.names.obj := hall.is.lies.at_ (.M 1) d.names.obj (by simp [Fs.obj, HD.out])
  have hdel := fun ty => GMap.drop (P := Tryz.prog) (w := w7.drew) (ts := #[76, 9]) (ty := ty) (k := .str t) rfl Tryz.underlying76 Tryz.underlying9 HNO.out.of hM
  simp only [Key.val] at hdel
  have HF := Lib.hid (hall.names HD.out (HNO.out.del (.str t)))
  have hother : ∀ (b j : Nat) (v : Value) (o : Obj), lay (.M 1) ≠ b → w7.drew.cell? ⟨b, j, none⟩ = some v → ({ w7.drew with heap := w7.drew.heap.setIfInBounds (lay (.M 1)) o } : World).cell? ⟨b, j, none⟩ = some v := fun b j v o hne hc => by
    rw [World.cell?_of_block (w := w7.drew) (by show (w7.drew.heap.setIfInBounds (lay (.M 1)) o)[b]? = _; rw [Array.getElem?_setIfInBounds, if_neg hne])]
    exact hc
  have k1 : ({ w7.drew with heap := w7.drew.heap.setIfInBounds (lay (.M 1)) (d.names.del (.str t)).obj } : World).cell? ⟨pa, 1, none⟩ = some (.pointer (some ⟨lay (.E 1), 0, none⟩)) := hother _ _ _ _ hMA p1
  have k2 : ({ w7.drew with heap := w7.drew.heap.setIfInBounds (lay (.M 1)) (d.names.del (.str t)).obj } : World).cell? ⟨pa, 2, none⟩ = some (.string ⟨t.toArray⟩) := hother _ _ _ _ hMA p2
  have k0 : ({ w7.drew with heap := w7.drew.heap.setIfInBounds (lay (.M 1)) (d.names.del (.str t)).obj } : World).cell? ⟨lay (.E 1), 0, none⟩ = some (.map (some (lay (.M 1)))) := hother _ _ _ _ hME e1
  have HB8 := Lib.hid (show (({ w7.drew with heap := w7.drew.heap.setIfInBounds (lay (.M 1)) (d.names.del (.str t)).obj } : World)).heap[pb]? = some (.cells #[.int .i64 1, .pointer (some ⟨lay (.E 1), 0, none⟩), .string ⟨u.toArray⟩] 80 (0, 0)) from (by show (w7.drew.heap.setIfInBounds (lay (.M 1)) _)[pb]? = _; rw [Array.getElem?_setIfInBounds, if_neg hMB]; exact hB7))
  clear hother hall hM hst7
  go_region_held3 (fun W => W.cell? ⟨pa, 1, none⟩ = some (.pointer (some ⟨lay (.E 1), 0, none⟩)) ∧ W.cell? ⟨pa, 2, none⟩ = some (.string ⟨t.toArray⟩) ∧ W.cell? ⟨lay (.E 1), 0, none⟩ = some (.map (some (lay (.M 1))))) (first | exact ⟨p1, p2, e1⟩ | exact ⟨k1, k2, k0⟩ | go_keep) (fail)
  generalize hw8 : ({ heap := w7.drew.heap.setIfInBounds (lay (.M 1)) (d.names.del (.str t)).obj, tape := w7.tape, drawn := w7.drawn + 1, os := w7.drew.os, output := w7.drew.output } : World) = w8
  have hst8 : Step s lay w (s.setDr 1 ⟨d.names.del (.str t), d.parent⟩) lay w8 := by rw [← hw8]; exact HF.out
  have hB8 : w8.heap[pb]? = some (.cells #[.int .i64 1, .pointer (some ⟨lay (.E 1), 0, none⟩), .string ⟨u.toArray⟩] 80 (0, 0)) := by rw [← hw8]; exact HB8.out
  clear hw8 HF HB8 k0 k1 k2 hdel p1 p2 e1
  have hd8 : (s.setDr 1 ⟨d.names.del (.str t), d.parent⟩).dr 1 = some ⟨d.names.del (.str t), d.parent⟩ := by rw [setDr_dr, if_pos rfl, HD.out]; rfl
  have hall := hst8.drewN 1
  have q1 : w8.drew.cell? ⟨pb, 1, none⟩ = some (.pointer (some ⟨lay (.E 1), 0, none⟩)) := cell_of_row w8 _ 1 _ _ _ hB8
  have q2 : w8.drew.cell? ⟨pb, 2, none⟩ = some (.string ⟨u.toArray⟩) := cell_of_row w8 _ 2 _ _ _ hB8
  have e1 : w8.drew.cell? ⟨lay (.E 1), 0, none⟩ = some (.map (some (lay (.M 1)))) := hall.is.e0 hd8
  have hM : w8.drew.heap[lay (.M 1)]? = some (d.names.del (.str t)).obj := hall.is.lies.at_ (.M 1) (d.names.del (.str t)).obj (by simp [Fs.obj, hd8])
  have hno8 := HNO.out.del (.str t)
  have hmu := GMap.store (P := Tryz.prog) (k := .str u) (v := .int .i64 n) Tryz.underlying76 Tryz.underlying9 hno8.of hM
  simp only [Key.val] at hmu
  have HF := Lib.hid (hall.names hd8 (hno8.put u n))
  have hother : ∀ (b j : Nat) (v : Value) (o : Obj), lay (.M 1) ≠ b → w8.drew.cell? ⟨b, j, none⟩ = some v → ({ w8.drew with heap := w8.drew.heap.setIfInBounds (lay (.M 1)) o } : World).cell? ⟨b, j, none⟩ = some v := fun b j v o hne hc => by
    rw [World.cell?_of_block (w := w8.drew) (by show (w8.drew.heap.setIfInBounds (lay (.M 1)) o)[b]? = _; rw [Array.getElem?_setIfInBounds, if_neg hne])]
    exact hc
  have k1 : ({ w8.drew with heap := w8.drew.heap.setIfInBounds (lay (.M 1)) ((d.names.del (.str t)).put (.str u) (.int .i64 n)).obj } : World).cell? ⟨pb, 1, none⟩ = some (.pointer (some ⟨lay (.E 1), 0, none⟩)) := hother _ _ _ _ hMB q1
  have k2 : ({ w8.drew with heap := w8.drew.heap.setIfInBounds (lay (.M 1)) ((d.names.del (.str t)).put (.str u) (.int .i64 n)).obj } : World).cell? ⟨pb, 2, none⟩ = some (.string ⟨u.toArray⟩) := hother _ _ _ _ hMB q2
  have k0 : ({ w8.drew with heap := w8.drew.heap.setIfInBounds (lay (.M 1)) ((d.names.del (.str t)).put (.str u) (.int .i64 n)).obj } : World).cell? ⟨lay (.E 1), 0, none⟩ = some (.map (some (lay (.M 1)))) := hother _ _ _ _ hME e1
  clear hother hall hM hst8 hB8
  go_wp2_with fail
  go_region_held3 (fun W => W.cell? ⟨pb, 1, none⟩ = some (.pointer (some ⟨lay (.E 1), 0, none⟩)) ∧ W.cell? ⟨pb, 2, none⟩ = some (.string ⟨u.toArray⟩) ∧ W.cell? ⟨lay (.E 1), 0, none⟩ = some (.map (some (lay (.M 1))))) (first | exact ⟨q1, q2, e1⟩ | exact ⟨k1, k2, k0⟩ | go_keep) (fail)
  generalize hw9 : ({ heap := w8.drew.heap.setIfInBounds (lay (.M 1)) ((d.names.del (.str t)).put (.str u) (.int .i64 n)).obj, tape := w8.tape, drawn := w8.drawn + 1, os := w8.drew.os, output := w8.drew.output } : World) = w9
  have hst9 : Step s lay w (s.setDr 1 ⟨(d.names.del (.str t)).put (.str u) (.int .i64 n), d.parent⟩) lay w9 := by
    have h1 : (s.setDr 1 ⟨d.names.del (.str t), d.parent⟩).setDr 1 ⟨(d.names.del (.str t)).put (.str u) (.int .i64 n), d.parent⟩ = s.setDr 1 ⟨(d.names.del (.str t)).put (.str u) (.int .i64 n), d.parent⟩ := by
      unfold Fs.setDr
      simp only [List.map_map]
      congr 1
      refine List.map_congr_left fun e _ => ?_
      show (fun e : Int × Dr × Nat => if e.1 = 1 then (e.1, _, e.2.2) else e) (if e.1 = 1 then (e.1, _, e.2.2) else e) = _
      by_cases q : e.1 = 1
      · simp [q]
      · simp [q]
    rw [← hw9, ← h1]; exact HF.out
  have HD9 := Lib.hid (HDI.out _ (show (s.setDr 1 ⟨(d.names.del (.str t)).put (.str u) (.int .i64 n), d.parent⟩).dirOf n = none from by
    have hk := HK.out
    unfold Fs.dirOf at hk ⊢
    show (if s.fld Nd.kind n = 2 then _ else none) = none
    by_cases q : s.fld Nd.kind n = 2
    · rw [if_pos q] at hk ⊢
      rw [setDr_dr, hk]
      split <;> rfl
    · rw [if_neg q]) w9 hst9.is)
  have HS9 := Lib.hid hst9
  clear hw9 HF k0 k1 k2 hmu q1 q2 e1 hst9
  go_wp2_with (go_at_call 26; (with_reducible refine HD9.out.mono ?_); rintro e w' ⟨rfl, rfl⟩)
  go_ret
  exact ⟨rfl, HS9.out⟩
end
end Go.Proofs.YtbecmcjibpamoaaGreatDoor
