/- NmB -/
import Derived.Test.YtbecmcjibpamoaaGreatDoorQ16
import Derived.BigQuiet
import Derived.Deep.QuietTactic
import Derived.Deep.RegionHeld3
set_option linter.unusedVariables false
set_option linter.unusedSimpArgs false
set_option linter.deprecated false
set_option linter.unnecessarySimpa false
namespace Go.Proofs.YtbecmcjibpamoaaGreatDoor
open Go.RowKit IntWalk
structure Wk (s : Fs) (lay : FId → Nat) (L : Nat) (links : Nat) (w : World) : Prop where
  c0 : w.cell? ⟨L, 0, none⟩ = some (ptrTo (lay .F))
  c1 : w.cell? ⟨L, 1, none⟩ = some (.int .i64 links)
  fz : w.frozen? ⟨L, 1, none⟩ = false
  out : ¬ Owns (s.obj lay) lay L
theorem dirPtr_some {s : Fs} {lay : FId → Nat} {i : Int} {d : Dr} (h : s.dirOf i = some d) : dirPtr s lay i = ptrTo (lay (.E i)) := by unfold dirPtr; rw [h]
theorem dirPtr_none {s : Fs} {lay : FId → Nat} {i : Int} (h : s.dirOf i = none) : dirPtr s lay i = .pointer none := by unfold dirPtr; rw [h]
theorem dirOf_dr {s : Fs} {i : Int} {d : Dr} (h : s.dirOf i = some d) : s.dr i = some d := by
  unfold Fs.dirOf at h
  split at h
  · exact h
  · cases h
section
variable {s : Fs} {lay : FId → Nat} {L links : Nat}
set_option maxRecDepth 100000 in
theorem part_nodir (i : Int) (p : List UInt8) (fol : Bool) (w : World) (h : FsIs s lay w) (hw : Wk s lay L links w) (hd : s.dirOf i = none) :
    Calls Tryz.prog 56 #[ptrTo L, .int .i64 i, .string ⟨p.toArray⟩, .bool fol] w fun e w' => e = .returned (.tuple #[.int .i64 0, .int .i64 25]) ∧ w = w' := by
  have c0 := hw.c0
  have HD := Lib.hid (dir_any i w h)
  have hp := dirPtr_none (lay := lay) hd
  unfold ptrTo at *
  go_enter Tryz.func56, Tryz.ntmps56
  go_wp2_with (go_at_call 26; refine HD.out.mono ?_; rintro e w' ⟨rfl, rfl⟩; rw [hp])
  go_ret2
  exact ⟨rfl, rfl⟩
set_option maxRecDepth 100000 in
theorem part_self (i : Int) (d : Dr) (p : List UInt8) (fol : Bool) (w : World) (h : FsIs s lay w) (hw : Wk s lay L links w) (hd : s.dirOf i = some d) (hp0 : p = [] ∨ p = dotL) :
    Calls Tryz.prog 56 #[ptrTo L, .int .i64 i, .string ⟨p.toArray⟩, .bool fol] w fun e w' => e = .returned (.tuple #[.int .i64 i, .int .i64 0]) ∧ w = w' := by
  have c0 := hw.c0
  have HD := Lib.hid (dir_any i w h)
  have hp := dirPtr_some (lay := lay) hd
  unfold ptrTo at *
  rcases hp0 with rfl | rfl
  · go_enter Tryz.func56, Tryz.ntmps56
    go_wp2_with (go_at_call 26; refine HD.out.mono ?_; rintro e w' ⟨rfl, rfl⟩; rw [hp])
    go_ret2
    exact ⟨rfl, rfl⟩
  · unfold dotL
    go_enter Tryz.func56, Tryz.ntmps56
    go_wp2_with (go_at_call 26; refine HD.out.mono ?_; rintro e w' ⟨rfl, rfl⟩; rw [hp])
    go_ret2
    exact ⟨rfl, rfl⟩
set_option maxRecDepth 100000 in
theorem part_up (i : Int) (d : Dr) (fol : Bool) (w : World) (h : FsIs s lay w) (hw : Wk s lay L links w) (hd : s.dirOf i = some d) :
    Calls Tryz.prog 56 #[ptrTo L, .int .i64 i, .string ⟨dotsL.toArray⟩, .bool fol] w fun e w' => e = .returned (.tuple #[.int .i64 (if s.fld Nd.kind d.parent = 0 then 0 else d.parent), .int .i64 (if s.fld Nd.kind d.parent = 0 then 23 else 0)]) ∧ ∃ n, w' = w.drewN n := by
  have c0 := hw.c0
  have f0 := h.f0
  have e1 := h.e1 (dirOf_dr hd)
  have HD := Lib.hid (dir_any i w h)
  have hp := dirPtr_some (lay := lay) hd
  have HK := fun W (hW : FsIs s lay W) => kind_any d.parent W hW
  generalize s.fld Nd.kind d.parent = kk at HK ⊢
  have HK' := Lib.hid HK
  clear HK
  have hfd := fun n => h.drewN n
  unfold ptrTo at *
  unfold dotsL
  by_cases hk : kk = 0
  · subst hk
    go_enter Tryz.func56, Tryz.ntmps56
    go_wp2_with (go_at_call 26; refine HD.out.mono ?_; rintro e w' ⟨rfl, rfl⟩; rw [hp])
    have hdw : FsIs s lay w.drew := h.drewN 1
    have k0 : w.drew.cell? ⟨L, 0, none⟩ = some (.pointer (some ⟨lay .F, 0, none⟩)) := c0
    have k1 : w.drew.cell? ⟨lay .F, 0, none⟩ = some (.pointer (some ⟨lay .T, 0, none⟩)) := f0
    have k2 : w.drew.cell? ⟨lay (.E i), 1, none⟩ = some (.int .i64 d.parent) := e1
    go_region_held3 (fun W => W.cell? ⟨L, 0, none⟩ = some (.pointer (some ⟨lay .F, 0, none⟩)) ∧ W.cell? ⟨lay .F, 0, none⟩ = some (.pointer (some ⟨lay .T, 0, none⟩)) ∧ W.cell? ⟨lay (.E i), 1, none⟩ = some (.int .i64 d.parent) ∧ FsIs s lay W) (first | go_keep | exact ⟨k0, k1, k2, hdw⟩ | exact ⟨g0, g1, g2, g3⟩)
      (first
        | (go_at_call 53
           refine (HK'.out _ (by exact hdw)).mono ?_
           rintro e w2 ⟨rfl, rfl⟩))
    go_wp2_with fail
    go_ret2
    exact ⟨rfl, 1, rfl⟩
  · have hkb : (kk == 0) = false := by simpa using hk
    rw [if_neg hk, if_neg hk]
    go_enter Tryz.func56, Tryz.ntmps56
    go_wp2_with (go_at_call 26; refine HD.out.mono ?_; rintro e w' ⟨rfl, rfl⟩; rw [hp])
    have hdw : FsIs s lay w.drew := h.drewN 1
    have k0 : w.drew.cell? ⟨L, 0, none⟩ = some (.pointer (some ⟨lay .F, 0, none⟩)) := c0
    have k1 : w.drew.cell? ⟨lay .F, 0, none⟩ = some (.pointer (some ⟨lay .T, 0, none⟩)) := f0
    have k2 : w.drew.cell? ⟨lay (.E i), 1, none⟩ = some (.int .i64 d.parent) := e1
    go_region_held3 (fun W => W.cell? ⟨L, 0, none⟩ = some (.pointer (some ⟨lay .F, 0, none⟩)) ∧ W.cell? ⟨lay .F, 0, none⟩ = some (.pointer (some ⟨lay .T, 0, none⟩)) ∧ W.cell? ⟨lay (.E i), 1, none⟩ = some (.int .i64 d.parent) ∧ FsIs s lay W) (first | go_keep | exact ⟨k0, k1, k2, hdw⟩ | exact ⟨g0, g1, g2, g3⟩)
      (first
        | (go_at_call 53
           refine (HK'.out _ (by exact hdw)).mono ?_
           rintro e w2 ⟨rfl, rfl⟩))
    go_wp2_with fail
    go_ret2
    exact ⟨rfl, 1, rfl⟩
set_option maxRecDepth 100000 in
theorem part_long (i : Int) (d : Dr) (p : List UInt8) (fol : Bool) (w : World) (h : FsIs s lay w) (hw : Wk s lay L links w) (hd : s.dirOf i = some d) (h1 : p ≠ dotL) (h2 : p ≠ dotsL) (h3 : 32 < p.length) :
    Calls Tryz.prog 56 #[ptrTo L, .int .i64 i, .string ⟨p.toArray⟩, .bool fol] w fun e w' => e = .returned (.tuple #[.int .i64 0, .int .i64 3]) ∧ ∃ n, w' = w.drewN n := by
  have c0 := hw.c0
  have HD := Lib.hid (dir_any i w h)
  have hp := dirPtr_some (lay := lay) hd
  have b0 : p.isEmpty = false := by cases p with | nil => simp at h3 | cons _ _ => rfl
  have b1 : (p == [46]) = false := by rw [beq_eq_false_iff_ne]; exact h1
  have b2 : (p == [46, 46]) = false := by rw [beq_eq_false_iff_ne]; exact h2
  have h3' : (32 : Int) < p.length := by omega
  unfold ptrTo at *
  go_enter Tryz.func56, Tryz.ntmps56
  go_wp2_with (go_at_call 26; refine HD.out.mono ?_; rintro e w' ⟨rfl, rfl⟩; rw [hp])
  go_quiet (fail)
  go_wp2_with fail
  go_ret2
  exact ⟨rfl, nq, rfl⟩
set_option maxRecDepth 100000 in
theorem part_name (i : Int) (d : Dr) (p : List UInt8) (fol : Bool) (w : World) (h : FsIs s lay w) (hw : Wk s lay L links w) (hd : s.dirOf i = some d) (h0 : p ≠ []) (h1 : p ≠ dotL) (h2 : p ≠ dotsL) (h3 : p.length ≤ 32) (hn : d.name p = none) :
    Calls Tryz.prog 56 #[ptrTo L, .int .i64 i, .string ⟨p.toArray⟩, .bool fol] w fun e w' => e = .returned (.tuple #[.int .i64 0, .int .i64 23]) ∧ ∃ n, w' = w.drewN n := by
  have c0 := hw.c0
  have HD := Lib.hid (dir_any i w h)
  have hp := dirPtr_some (lay := lay) hd
  have b0 : p.isEmpty = false := by cases p with | nil => exact absurd rfl h0 | cons _ _ => rfl
  have b1 : (p == [46]) = false := by rw [beq_eq_false_iff_ne]; exact h1
  have b2 : (p == [46, 46]) = false := by rw [beq_eq_false_iff_ne]; exact h2
  have h3' : ¬ (32 : Int) < p.length := by omega
  have hfd := fun n => h.drewN n
  unfold ptrTo at *
  go_enter Tryz.func56, Tryz.ntmps56
  go_wp2_with (go_at_call 26; refine HD.out.mono ?_; rintro e w' ⟨rfl, rfl⟩; rw [hp])
  go_quiet (fail)
  have e0 := (hfd nq).e0 (dirOf_dr hd)
  have hl := name_look (hfd nq) (dirOf_dr hd) p
  rw [hn] at hl
  simp only [Option.getD_none, Option.isSome_none] at hl
  go_wp2_with fail
  go_ret2
  exact ⟨rfl, nq, rfl⟩
set_option maxRecDepth 100000 in
theorem part_node (i : Int) (d : Dr) (p : List UInt8) (fol : Bool) (w : World) (h : FsIs s lay w) (hw : Wk s lay L links w) (hd : s.dirOf i = some d) (h0 : p ≠ []) (h1 : p ≠ dotL) (h2 : p ≠ dotsL) (h3 : p.length ≤ 32) (nx : Int) (hn : d.name p = some nx) (hk : s.fld Nd.kind nx ≠ 3 ∨ fol = false) :
    Calls Tryz.prog 56 #[ptrTo L, .int .i64 i, .string ⟨p.toArray⟩, .bool fol] w fun e w' => e = .returned (.tuple #[.int .i64 nx, .int .i64 0]) ∧ ∃ n, w' = w.drewN n := by
  have c0 := hw.c0
  have HD := Lib.hid (dir_any i w h)
  have hp := dirPtr_some (lay := lay) hd
  have b0 : p.isEmpty = false := by cases p with | nil => exact absurd rfl h0 | cons _ _ => rfl
  have b1 : (p == [46]) = false := by rw [beq_eq_false_iff_ne]; exact h1
  have b2 : (p == [46, 46]) = false := by rw [beq_eq_false_iff_ne]; exact h2
  have h3' : ¬ (32 : Int) < p.length := by omega
  have hfd := fun n => h.drewN n
  have HK := fun W (hW : FsIs s lay W) => kind_any nx W hW
  generalize s.fld Nd.kind nx = kk at HK hk
  have HK' := Lib.hid HK
  clear HK
  unfold ptrTo at *
  go_enter Tryz.func56, Tryz.ntmps56
  go_wp2_with (go_at_call 26; refine HD.out.mono ?_; rintro e w' ⟨rfl, rfl⟩; rw [hp])
  go_quiet (fail)
  have hq := hfd nq
  have e0 := hq.e0 (dirOf_dr hd)
  have f0 := hq.f0
  have l0 : (w.drewN nq).cell? ⟨L, 0, none⟩ = some (.pointer (some ⟨lay .F, 0, none⟩)) := c0
  have hl := name_look hq (dirOf_dr hd) p
  rw [hn] at hl
  simp only [Option.getD_some, Option.isSome_some] at hl
  unfold ptrTo at *
  clear hfd
  generalize hw2 : w.drewN nq = w2 at hq e0 f0 l0 hl ⊢
  rcases hk with hk | rfl
  · have hkb : (kk != 3) = true := by simpa using hk
    go_wp2_with (go_at_call 53; refine (HK'.out _ hq).mono ?_; rintro e w' ⟨rfl, rfl⟩)
    all_goals go_ret2
    all_goals exact ⟨rfl, nq, hw2.symm⟩
  · go_wp2_with (go_at_call 53; refine (HK'.out _ hq).mono ?_; rintro e w' ⟨rfl, rfl⟩)
    all_goals go_ret2
    all_goals exact ⟨rfl, nq, hw2.symm⟩
set_option maxRecDepth 100000 in
theorem part_loop (i : Int) (d : Dr) (p : List UInt8) (w : World) (h : FsIs s lay w) (hw : Wk s lay L 8 w) (hd : s.dirOf i = some d) (h0 : p ≠ []) (h1 : p ≠ dotL) (h2 : p ≠ dotsL) (h3 : p.length ≤ 32) (nx : Int) (hn : d.name p = some nx) (hk : s.fld Nd.kind nx = 3) :
    Calls Tryz.prog 56 #[ptrTo L, .int .i64 i, .string ⟨p.toArray⟩, .bool true] w fun e w' => e = .returned (.tuple #[.int .i64 0, .int .i64 27]) ∧ ∃ n, w' = w.drewN n := by
  have c0 := hw.c0
  have HD := Lib.hid (dir_any i w h)
  have hp := dirPtr_some (lay := lay) hd
  have b0 : p.isEmpty = false := by cases p with | nil => exact absurd rfl h0 | cons _ _ => rfl
  have b1 : (p == [46]) = false := by rw [beq_eq_false_iff_ne]; exact h1
  have b2 : (p == [46, 46]) = false := by rw [beq_eq_false_iff_ne]; exact h2
  have h3' : ¬ (32 : Int) < p.length := by omega
  have hfd := fun n => h.drewN n
  have HK := fun W (hW : FsIs s lay W) => kind_any nx W hW
  rw [hk] at HK
  have HK' := Lib.hid HK
  clear HK
  unfold ptrTo at *
  go_enter Tryz.func56, Tryz.ntmps56
  go_wp2_with (go_at_call 26; refine HD.out.mono ?_; rintro e w' ⟨rfl, rfl⟩; rw [hp])
  go_quiet (fail)
  have hq := hfd nq
  have e0 := hq.e0 (dirOf_dr hd)
  have f0 := hq.f0
  have l1 : (w.drewN nq).cell? ⟨L, 1, none⟩ = some (.int .i64 8) := hw.c1
  have l0 : (w.drewN nq).cell? ⟨L, 0, none⟩ = some (.pointer (some ⟨lay .F, 0, none⟩)) := c0
  have hl := name_look hq (dirOf_dr hd) p
  rw [hn] at hl
  simp only [Option.getD_some, Option.isSome_some] at hl
  unfold ptrTo at *
  clear hfd
  generalize hw2 : w.drewN nq = w2 at hq e0 f0 l0 l1 hl ⊢
  go_wp2_with (go_at_call 53; refine (HK'.out _ hq).mono ?_; rintro e w' ⟨rfl, rfl⟩)
  all_goals go_ret2
  all_goals exact ⟨rfl, nq, hw2.symm⟩
end
end Go.Proofs.YtbecmcjibpamoaaGreatDoor
