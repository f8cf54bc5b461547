/- NoG NoH NoI NoJ NoK NoL -/
import Derived.Test.YtbecmcjibpamoaaGreatDoorQ33
set_option linter.unusedVariables false
set_option linter.unusedSimpArgs false
set_option linter.deprecated false
set_option linter.unnecessarySimpa false
namespace Go.Proofs.YtbecmcjibpamoaaGreatDoor
open Go.RowKit IntWalk
section
variable {W0 : World} {s : Fs} {lay : FId → Nat}
def Fs.ncutS (s : Fs) (i : Int) : Fs := if fileE (s.fld Nd.kind i) = 0 then (match s.nd i with
  | none => s
  | some x => s.cutS i x) else s
theorem ncut0_any (i : Int) (w : World) (h : FsIs s lay w) : Calls Tryz.prog 124 #[ptrTo (lay .F), .int .i64 i, .int .i64 0] w fun e w' => (∃ c, e = .returned (.int .i64 c)) ∧ Step s lay w (s.ncutS i) lay w' := by
  unfold Fs.ncutS
  by_cases hk : fileE (s.fld Nd.kind i) = 0
  · rw [if_pos hk]
    cases hn : s.nd i with
    | none =>
      have : s.fld Nd.kind i = 0 := by unfold Fs.fld; rw [hn]
      rw [this] at hk; simp [fileE] at hk
    | some x => exact (ncut0_some i x w h hn hk).mono (by rintro e w' ⟨rfl, hs⟩; exact ⟨⟨_, rfl⟩, hs⟩)
  · rw [if_neg hk]
    have HF := Lib.hid (nfile_any i w h)
    have f0 := h.f0
    have HS := Lib.hid (Step.refl h)
    clear h
    generalize fileE (s.fld Nd.kind i) = fe at *
    have hfe : (fe == 0) = false := by simpa using hk
    unfold ptrTo at *
    go_enter Tryz.func124, Tryz.ntmps124
    go_wp2_with (go_at_call 18; (with_reducible refine HF.out.mono ?_); rintro e w' ⟨rfl, rfl⟩)
    go_ret
    exact ⟨⟨_, rfl⟩, HS.out⟩
def FlagsOk (flags : Int) : Prop := 0 ≤ flags ∧ flags < 64 ∧ hasF flags 3 = true
instance (flags : Int) : Decidable (FlagsOk flags) := by unfold FlagsOk; infer_instance
def Fs.openS (s : Fs) (dir : Int) (path : List UInt8) (flags : Int) : Option Int × Int × Fs :=
  if FlagsOk flags then
    let r := s.findS dir path flags
    if r.2.1 ≠ 0 then (none, r.2.1, r.2.2)
    else if r.2.2.fld Nd.kind r.1 = 2 then (none, 24, r.2.2)
    else (some r.1, 0, ((if hasF flags 16 = true ∧ hasF flags 2 = true then r.2.2.ncutS r.1 else r.2.2).holdS r.1).2)
  else (none, 1, s)
def fileV (lay : FId → Nat) (node at_ flags : Int) (closed : Bool) : Array Value := #[ptrTo (lay .F), .int .i64 node, .int .i64 at_, .int .i64 flags, .bool closed]
set_option maxRecDepth 100000 in
theorem open_any (hE : EnvG W0) (dir : Int) (path : List UInt8) (flags : Int) (hpl : path.length ≤ 100000) (w : World) (h : FsIn W0 s lay w) (hf : FlagsOk flags) :
    Calls Tryz.prog 84 #[ptrTo (lay .F), .int .i64 dir, .string ⟨path.toArray⟩, .int .i64 flags] w fun e w' => ∃ lay', lay' .F = lay .F ∧ Step s lay w (s.openS dir path flags).2.2 lay' w' ∧ match (s.openS dir path flags).1 with
      | none => e = .returned (.tuple #[.pointer none, .int .i64 (s.openS dir path flags).2.1])
      | some i => ∃ b, w.heap.size ≤ b ∧ ¬ Owns ((s.openS dir path flags).2.2.obj lay') lay' b ∧ w'.heap[b]? = some (.cells (fileV lay i 0 flags false) 177 (0, 0)) ∧ e = .returned (.tuple #[ptrTo b, .int .i64 0]) := by
  have HFI := Lib.hid (find_any hE dir path flags hpl w h)
  clear h
  unfold Fs.openS
  rw [if_pos hf]
  dsimp only
  generalize s.findS dir path flags = r at *
  obtain ⟨i, er, s1⟩ := r
  dsimp only at *
  unfold FlagsOk hasF at hf
  obtain ⟨h0, h1, h3⟩ := hf
  have h0' : ¬ flags < 0 := by omega
  have h1' : ¬ 64 ≤ flags := by omega
  have h3' : (bits BinOp.and IntKind.i64 flags 3 == 0) = false := by simpa [bne] using h3
  clear h0 h1 h3
  by_cases he : er = 0
  · subst he
    rw [if_neg (by simp)]
    have HK := Lib.hid (fun (L : FId → Nat) (W : World) (hW : FsIs s1 L W) => kind_any i W hW)
    by_cases hk : s1.fld Nd.kind i = 2
    · rw [if_pos hk]
      rw [hk] at HK
      unfold ptrTo at *
      go_enter Tryz.func84, Tryz.ntmps84
      go_wp2_with first
        | (go_at_call 123; (with_reducible refine HFI.out.mono ?_); rintro e w2 ⟨rfl, lay2, hF2, hst⟩; have f0 := hst.is.f0; rw [hF2] at f0; unfold ptrTo at f0)
        | (go_at_call 53; (with_reducible refine (HK.out lay2 _ hst.is).mono ?_); rintro e w' ⟨rfl, rfl⟩)
      go_ret2
      exact ⟨lay2, hF2, hst, rfl⟩
    · rw [if_neg hk]
      have hkb : (s1.fld Nd.kind i == 2) = false := by simpa using hk
      generalize s1.fld Nd.kind i = kk at *
      clear hk
      have HCU := Lib.hid (fun (L : FId → Nat) (hL : L .F = lay .F) (W : World) (hW : FsIs s1 L W) => show Calls Tryz.prog 124 #[ptrTo (lay .F), .int .i64 i, .int .i64 0] W fun e w' => (∃ c, e = .returned (.int .i64 c)) ∧ Step s1 L W (s1.ncutS i) L w' from by have := ncut0_any i W hW; rw [hL] at this; exact this)
      have HHO := Lib.hid (fun (s2 : Fs) (L : FId → Nat) (hL : L .F = lay .F) (W : World) (hW : FsIs s2 L W) => show Calls Tryz.prog 125 #[ptrTo (lay .F), .int .i64 i] W fun e w' => e = .returned (.int .i64 (s2.holdS i).1) ∧ Step s2 L W (s2.holdS i).2 L w' from by have := hold_any i W hW; rw [hL] at this; exact this)
      obtain ⟨f16, h16⟩ : ∃ b, hasF flags 16 = b := ⟨_, rfl⟩
      obtain ⟨f2, h2⟩ : ∃ b, hasF flags 2 = b := ⟨_, rfl⟩
      rw [h16, h2]
      unfold hasF at h16 h2
      unfold fileV
      unfold ptrTo at *
      cases f16 <;> cases f2
      all_goals
        simp only [true_and, and_true, and_false, if_true, if_false, Bool.false_eq_true, and_self]
        go_enter Tryz.func84, Tryz.ntmps84
        go_wp2_with first
          | (go_at_call 123; (with_reducible refine HFI.out.mono ?_); rintro e w2 ⟨rfl, lay2, hF2, hst⟩; have f0 := hst.is.f0; rw [hF2] at f0; unfold ptrTo at f0)
          | (go_at_call 53; (with_reducible refine (HK.out lay2 _ hst.is).mono ?_); rintro e w' ⟨rfl, rfl⟩)
          | (go_at_call 124; (with_reducible refine (HCU.out lay2 hF2 _ hst.is).mono ?_); rintro e w3 ⟨⟨c, rfl⟩, hst3⟩)
          | (go_at_call 125; first | (with_reducible refine (HHO.out _ lay2 hF2 _ hst3.is).mono ?_; rintro e w4 ⟨rfl, hst4⟩; have hall := (hst.trans hst3).trans hst4) | (with_reducible refine (HHO.out _ lay2 hF2 _ hst.is).mono ?_; rintro e w4 ⟨rfl, hst4⟩; have hall := hst.trans hst4))
        go_ret2
        exact ⟨lay2, hF2, hall.alloc _, _, hall.turned.size, fun q => by have := hall.is.lies.owns_lt q; omega, alloc_at _ _, rfl⟩
  · rw [if_pos he]
    have heb : (er == 0) = false := by simpa using he
    unfold ptrTo at *
    go_enter Tryz.func84, Tryz.ntmps84
    go_wp2_with (go_at_call 123; (with_reducible refine HFI.out.mono ?_); rintro e w2 ⟨rfl, lay2, hF2, hst⟩)
    go_ret2
    exact ⟨lay2, hF2, hst, rfl⟩
end
end Go.Proofs.YtbecmcjibpamoaaGreatDoor
namespace Go.Proofs.YtbecmcjibpamoaaGreatDoor
open Go.RowKit IntWalk
section
variable {W0 : World} {s : Fs} {lay : FId → Nat}
theorem fclose_open (b : Nat) (node at_ flags : Int) (w : World) (h : FsIs s lay w) (hout : ¬ Owns (s.obj lay) lay b) (hb : w.heap[b]? = some (.cells (fileV lay node at_ flags false) 177 (0, 0))) :
    Calls Tryz.prog 86 #[ptrTo b] w fun e w' => e = .returned (.int .i64 (s.looseS node).1) ∧ Step s lay (w.setCell ⟨b, 4, none⟩ (.bool true)) (s.looseS node).2 lay w' ∧ w'.heap[b]? = some (.cells (fileV lay node at_ flags true) 177 (0, 0)) := by
  have c0 : w.cell? ⟨b, 0, none⟩ = some (ptrTo (lay .F)) := cell_of_row w _ 0 _ _ _ hb
  have c1 : w.cell? ⟨b, 1, none⟩ = some (.int .i64 node) := cell_of_row w _ 1 _ _ _ hb
  have c4 : w.cell? ⟨b, 4, none⟩ = some (.bool false) := cell_of_row w _ 4 _ _ _ hb
  have z4 : w.frozen? ⟨b, 4, none⟩ = false := by simp [World.frozen?, hb]
  have hlt := (Array.getElem?_eq_some_iff.1 hb).1
  have h2 := is_setL h ⟨b, 4, none⟩ (.bool true) hout
  have hb2 := set_rowN (k := 4) (v := .bool true) hb
  have h3 := h2.drewN 1
  have HL := Lib.hid (show Calls Tryz.prog 127 #[ptrTo (lay .F), .int .i64 node] (w.setCell ⟨b, 4, none⟩ (.bool true)).drew fun e w' => e = .returned (.int .i64 (s.looseS node).1) ∧ Step s lay (w.setCell ⟨b, 4, none⟩ (.bool true)).drew (s.looseS node).2 lay w' from nloose_any node _ h3)
  have hs1 : Step s lay (w.setCell ⟨b, 4, none⟩ (.bool true)) s lay (w.setCell ⟨b, 4, none⟩ (.bool true)).drew := (Step.refl h2).drewN 1
  have HS1 := Lib.hid hs1
  clear h h2 h3 hs1
  unfold ptrTo at *
  go_enter Tryz.func86, Tryz.ntmps86
  go_wp2_with fail
  generalize hw1 : w.setCell ⟨b, 4, none⟩ (.bool true) = w1 at *
  have hb3 : w1.drew.heap[b]? = _ := hb2
  have d0 : w1.drew.cell? ⟨b, 0, none⟩ = some (.pointer (some ⟨lay .F, 0, none⟩)) := cell_of_row w1 _ 0 _ _ _ hb2
  have d1 : w1.drew.cell? ⟨b, 1, none⟩ = some (.int .i64 node) := cell_of_row w1 _ 1 _ _ _ hb2
  have hlt1 : b < w1.drew.heap.size := World.block_lt_of_cell? w1 ⟨b, 0, none⟩ d0
  clear c0 c1 c4 z4 hb hlt
  go_region_held3 (fun W => W.cell? ⟨b, 0, none⟩ = some (.pointer (some ⟨lay .F, 0, none⟩)) ∧ W.cell? ⟨b, 1, none⟩ = some (.int .i64 node)) (first | exact ⟨d0, d1⟩ | exact ⟨g0, g1⟩ | go_keep) (first | (go_at_call 127; (with_reducible refine HL.out.mono ?_); rintro e w2 ⟨rfl, hst⟩; have hbb := (hst.turned.block b hlt1 hout).trans hb3; have g0 : w2.cell? ⟨b, 0, none⟩ = some (.pointer (some ⟨lay .F, 0, none⟩)) := cell_of_row w2 _ 0 _ _ _ hbb; have g1 : w2.cell? ⟨b, 1, none⟩ = some (.int .i64 node) := cell_of_row w2 _ 1 _ _ _ hbb))
  go_wp2_with fail
  go_ret
  subst hw1
  exact ⟨rfl, HS1.out.trans hst, hbb⟩
end
end Go.Proofs.YtbecmcjibpamoaaGreatDoor
namespace Go.Proofs.YtbecmcjibpamoaaGreatDoor
open Go.RowKit IntWalk
section
variable {W0 : World} {s : Fs} {lay : FId → Nat}
theorem nwrite_nofile (i at_ : Int) (d : ByteArray) (w : World) (h : FsIs s lay w) (hk : fileE (s.fld Nd.kind i) ≠ 0) : Calls Tryz.prog 8 #[ptrTo (lay .F), .int .i64 i, .int .i64 at_, .string d] w fun e w' => e = .returned (.tuple #[.int .i64 0, .int .i64 (fileE (s.fld Nd.kind i))]) ∧ w = w' := by
  have HF := Lib.hid (nfile_any i w h)
  clear h
  generalize fileE (s.fld Nd.kind i) = fe at *
  have hfe : (fe == 0) = false := by simpa using hk
  unfold ptrTo at *
  go_enter Tryz.func8, Tryz.ntmps8
  go_wp2_with (go_at_call 18; (with_reducible refine HF.out.mono ?_); rintro e w' ⟨rfl, rfl⟩)
  go_ret2
  exact ⟨rfl, rfl⟩
theorem nwrite_file (i : Int) (x : Nd) (at_ : Nat) (d : List UInt8) (w : World) (h : FsIs s lay w) (hn : s.nd i = some x) (hk : fileE (s.fld Nd.kind i) = 0) (ht : x.taken s) (hs : 0 ≤ x.size ∧ x.size ≤ 4096) (hat : at_ < 4096) :
    Calls Tryz.prog 8 #[ptrTo (lay .F), .int .i64 i, .int .i64 at_, .string ⟨d.toArray⟩] w fun e w' => ∃ n s', (n, s') = s.writeS (slotOf i) x at_ (d.take (4096 - at_)) ∧
      e = .returned (.tuple #[.int .i64 n, .int .i64 (if n = 0 ∧ d ≠ [] then 20 else 0)]) ∧ Step s lay w s' lay w' := by
  have HF := Lib.hid (nfile_any i w h)
  rw [hk] at HF
  have HW := Lib.hid (show Calls Tryz.prog 19 #[ptrTo (lay .T), .int .i64 i, .int .i64 at_, .string ⟨d.toArray⟩] w fun e w' => ∃ (n : Nat) (s' : Fs) (er : Int), ((n, s') = s.writeS (slotOf i) x at_ (d.take (4096 - at_)) ∧ er = if n = 0 ∧ d ≠ [] then 20 else 0) ∧ e = .returned (.tuple #[.int .i64 n, .int .i64 er]) ∧ Step s lay w s' lay w' from (write_some i x at_ d w h hn ht hs hat).mono (by rintro e w' ⟨n, s', h1, rfl, h3⟩; exact ⟨n, s', _, ⟨h1, rfl⟩, rfl, h3⟩))
  have f0 := h.f0
  clear h
  unfold ptrTo at *
  go_enter Tryz.func8, Tryz.ntmps8
  go_wp2_with first
    | (go_at_call 18; (with_reducible refine HF.out.mono ?_); rintro e w' ⟨rfl, rfl⟩)
    | (go_at_call 19; (with_reducible refine HW.out.mono ?_); rintro e w' ⟨n, s', er, h1, rfl, h2⟩; have H1 := Lib.hid h1; clear h1)
  go_ret2
  refine ⟨n, s', H1.out.1, ?_, h2⟩
  rw [← H1.out.2]; rfl
theorem nread_nofile (i at_ n : Int) (w : World) (h : FsIs s lay w) (hk : fileE (s.fld Nd.kind i) ≠ 0) : Calls Tryz.prog 61 #[ptrTo (lay .F), .int .i64 i, .int .i64 at_, .int .i64 n] w fun e w' => e = .returned (.tuple #[.string ByteArray.empty, .int .i64 (fileE (s.fld Nd.kind i))]) ∧ w = w' := by
  have HF := Lib.hid (nfile_any i w h)
  clear h
  generalize fileE (s.fld Nd.kind i) = fe at *
  have hfe : (fe == 0) = false := by simpa using hk
  unfold ptrTo at *
  go_enter Tryz.func61, Tryz.ntmps61
  go_wp2_with (go_at_call 18; (with_reducible refine HF.out.mono ?_); rintro e w' ⟨rfl, rfl⟩)
  go_ret2
  exact ⟨rfl, rfl⟩
theorem nread_file (i at_ n : Int) (w : World) (h : FsIs s lay w) (hk : fileE (s.fld Nd.kind i) = 0) {t : ByteArray} {c : Int} {R : World → Prop} (hR : Calls Tryz.prog 102 #[ptrTo (lay .T), .int .i64 i, .int .i64 at_, .int .i64 n] w fun e w' => e = .returned (.tuple #[.string t, .int .i64 c]) ∧ R w') :
    Calls Tryz.prog 61 #[ptrTo (lay .F), .int .i64 i, .int .i64 at_, .int .i64 n] w fun e w' => e = .returned (.tuple #[.string t, .int .i64 c]) ∧ R w' := by
  have HF := Lib.hid (nfile_any i w h)
  rw [hk] at HF
  have HW := Lib.hid hR
  have f0 := h.f0
  clear h hR
  unfold ptrTo at *
  go_enter Tryz.func61, Tryz.ntmps61
  go_wp2_with first
    | (go_at_call 18; (with_reducible refine HF.out.mono ?_); rintro e w' ⟨rfl, rfl⟩)
    | (go_at_call 102; (with_reducible refine HW.out.mono ?_); rintro e w' ⟨rfl, h2⟩)
  go_ret2
  exact ⟨rfl, h2⟩
end
end Go.Proofs.YtbecmcjibpamoaaGreatDoor
namespace Go.Proofs.YtbecmcjibpamoaaGreatDoor
open Go.RowKit IntWalk
section
variable {W0 : World} {s : Fs} {lay : FId → Nat}
theorem fmay_any (b : Nat) (node at_ flags fl : Int) (closed : Bool) (w : World) (hb : w.heap[b]? = some (.cells (fileV lay node at_ flags closed) 177 (0, 0))) :
    Calls Tryz.prog 126 #[ptrTo b, .int .i64 fl] w fun e w' => e = .returned (.int .i64 (if closed = true then 28 else if hasF flags fl = true then 0 else 33)) ∧ w = w' := by
  have c3 : w.cell? ⟨b, 3, none⟩ = some (.int .i64 flags) := cell_of_row w _ 3 _ _ _ hb
  have c4 : w.cell? ⟨b, 4, none⟩ = some (.bool closed) := cell_of_row w _ 4 _ _ _ hb
  clear hb
  obtain ⟨hf, hhf⟩ : ∃ hf, hasF flags fl = hf := ⟨_, rfl⟩
  rw [hhf]
  unfold hasF at hhf
  have h0 : (bits BinOp.and IntKind.i64 flags fl == 0) = !hf := by rw [← hhf]; simp [bne]
  clear hhf
  unfold ptrTo at *
  cases closed <;> cases hf
  all_goals
    simp only [if_true, if_false, Bool.false_eq_true, Bool.not_true, Bool.not_false] at h0 ⊢
    go_enter Tryz.func126, Tryz.ntmps126
    go_wp2_with fail
    go_ret
    exact ⟨rfl, rfl⟩
end
end Go.Proofs.YtbecmcjibpamoaaGreatDoor
namespace Go.Proofs.YtbecmcjibpamoaaGreatDoor
open Go.RowKit IntWalk
section
variable {W0 : World} {s : Fs} {lay : FId → Nat}
end
end Go.Proofs.YtbecmcjibpamoaaGreatDoor
namespace Go.Proofs.YtbecmcjibpamoaaGreatDoor
open Go.RowKit IntWalk
section
variable {W0 : World} {s : Fs} {lay : FId → Nat}
end
end Go.Proofs.YtbecmcjibpamoaaGreatDoor
