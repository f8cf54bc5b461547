/- Texts of one proof, packed: UtF, UtG, UtH -/
import Derived.Test.YtbecmcjibpamoaaGreatDoorU08
import Derived.Test.YtbecmcjibpamoaaGreatDoorU09
import Derived.Test.YtbecmcjibpamoaaGreatDoorU02
import Derived.Defers
set_option linter.unusedVariables false
set_option linter.unusedSimpArgs false
set_option linter.deprecated false
set_option linter.unnecessarySimpa false
/- files: a file is opened, read, written, closed, with what is kept beside it. -/
namespace Go.Proofs.YtbecmcjibpamoaaGreatDoor
open Go.RowKit IntWalk
set_option linter.unusedVariables false
set_option linter.unusedSimpArgs false

/-- the tree has gone on; nothing else has turned but for the block ex -/
structure FK (ex : Option Nat) (s : Fs) (lay : FId → Nat) (w : World) (s' : Fs) (lay' : FId → Nat) (w' : World) : Prop where
  is : FsIs s' lay' w'
  F : lay' .F = lay .F
  turned : Turned (fun k => Owns (s.obj lay) lay k ∨ ex = some k) w w'
  own : ∀ k, Owns (s'.obj lay') lay' k → Owns (s.obj lay) lay k ∨ w.heap.size ≤ k
section
variable {s s' s'' : Fs} {lay lay' lay'' : FId → Nat} {w w' w'' : World} {ex : Option Nat}
theorem FK.refl (h : FsIs s lay w) : FK ex s lay w s lay w := ⟨h, rfl, Turned.refl _ _, fun _ hk => .inl hk⟩
theorem FK.of (h : Step s lay w s' lay' w') (hF : lay' .F = lay .F) : FK ex s lay w s' lay' w' := ⟨h.is, hF, ⟨h.turned.os, h.turned.tape, h.turned.output, h.turned.size, fun k hk hn => h.turned.block k hk (fun q => hn (.inl q))⟩, h.own⟩
theorem FK.trans (h : FK ex s lay w s' lay' w') (k : FK ex s' lay' w' s'' lay'' w'') : FK ex s lay w s'' lay'' w'' :=
  ⟨k.is, k.F.trans h.F, h.turned.trans k.turned (fun b hb hlt => hb.elim (fun q => (h.own b q).elim .inl (fun q2 => by omega)) .inr), fun b hb => by
    rcases k.own b hb with q | q
    · exact h.own b q
    · exact .inr (Nat.le_trans h.turned.size q)⟩
theorem FK.any (h : FK none s lay w s' lay' w') : FK ex s lay w s' lay' w' := ⟨h.is, h.F, ⟨h.turned.os, h.turned.tape, h.turned.output, h.turned.size, fun k hk hn => h.turned.block k hk (fun q => hn (q.elim .inl (fun q => by cases q)))⟩, h.own⟩
theorem FK.drop {b : Nat} (h : FK (some b) s lay w s' lay' w') (hb : w.heap.size ≤ b) : FK none s lay w s' lay' w' := ⟨h.is, h.F, ⟨h.turned.os, h.turned.tape, h.turned.output, h.turned.size, fun k hk hn => h.turned.block k hk (fun q => q.elim (fun q => hn (.inl q)) (fun q => by cases q; omega))⟩, h.own⟩
/-- what stands aside stays -/
theorem FK.heap (h : FK ex s lay w s' lay' w') {D : Nat} (hD : D < w.heap.size) (ho : ¬ Owns (s.obj lay) lay D) (hx : ex ≠ some D) : w'.heap[D]? = w.heap[D]? := h.turned.block D hD (fun q => q.elim ho hx)
theorem FK.out (h : FK ex s lay w s' lay' w') {D : Nat} (hD : D < w.heap.size) (ho : ¬ Owns (s.obj lay) lay D) : ¬ Owns (s'.obj lay') lay' D := fun q => (h.own D q).elim ho (fun q => by omega)
theorem FK.fsIn {W0 : World} (h : FK none s lay w s' lay' w') (hF : FsIn W0 s lay w) (hw : s'.Whole) : FsIn W0 s' lay' w' :=
  ⟨h.is, fun k hk => (h.own k hk).elim (hF.low k) (fun q => Nat.le_trans hF.below.size q), ⟨h.turned.os.trans hF.below.os, h.turned.tape.trans hF.below.tape, h.turned.output.trans hF.below.output, Nat.le_trans hF.below.size h.turned.size, fun k hk => (h.turned.block k (Nat.lt_of_lt_of_le hk hF.below.size) (fun q => q.elim (fun q => by have := hF.low k q; omega) (fun q => by cases q))).trans (hF.below.block k hk)⟩, hw⟩
theorem FK.below (h : FK ex s lay w s' lay' w') (hb : Below w'.heap.size w' w'') : FK ex s lay w s' lay' w'' :=
  ⟨⟨h.is.lies.kept fun i hi => hb.block _ (h.is.lies.owns_lt ⟨i, hi, rfl⟩), h.is.ok⟩, h.F, ⟨hb.os.trans h.turned.os, hb.tape.trans h.turned.tape, hb.output.trans h.turned.output, Nat.le_trans h.turned.size hb.size, fun k hk hn => (hb.block k (Nat.lt_of_lt_of_le hk h.turned.size)).trans (h.turned.block k hk hn)⟩, h.own⟩
theorem FK.set {b : Nat} (h : FK (some b) s lay w s' lay' w') (ho : ¬ Owns (s'.obj lay') lay' b) (k : Nat) (v : Value) : FK (some b) s lay w s' lay' (w'.setCell ⟨b, k, none⟩ v) :=
  ⟨is_setL h.is _ _ ho, h.F, ⟨h.turned.os, h.turned.tape, h.turned.output, by simpa [World.setCell] using h.turned.size, fun j hj hn => by
    rw [Below.heap_setCell _ _ _ _ (by show j ≠ b; rintro rfl; exact hn (.inr rfl))]; exact h.turned.block j hj hn⟩, h.own⟩
end
section
variable {W0 : World} {s : Fs} {lay : FId → Nat} {d : Dr} {t : List UInt8} {k : Nat}
theorem fopen_old {g : List UInt8} {w : World} (hE : EnvG W0) (h : FsIn W0 s lay w) (hA : FileAt s d t k g) (ht : UN t) :
    Calls Tryz.prog 84 #[ptrTo (lay .F), .int .i64 1, .string ⟨t.toArray⟩, .int .i64 1] w fun e w' => ∃ b lay', e = .returned (.tuple #[ptrTo b, .int .i64 0]) ∧ FK none s lay w (s.holdS ((k : Int) + 1)).2 lay' w' ∧ w.heap.size ≤ b ∧ ¬ Owns ((s.holdS ((k : Int) + 1)).2.obj lay') lay' b ∧ w'.heap[b]? = some (.cells (fileV lay' ((k : Int) + 1) 0 1 false) 177 (0, 0)) := by
  refine (open_any hE 1 t 1 (by have := ht.len; omega) w h flags1).mono ?_
  rw [open_old hA ht]
  rintro e w' ⟨lay', hF, hst, b, hb1, hb2, hb3, he⟩
  exact ⟨b, lay', he, FK.of hst hF, hb1, hb2, by unfold fileV at hb3 ⊢; rw [hF]; exact hb3⟩
theorem fopen_none {w : World} (hE : EnvG W0) (h : FsIn W0 s lay w) (hr : RootAt s d) (ht : UN t) (hn : d.name t = none) :
    Calls Tryz.prog 84 #[ptrTo (lay .F), .int .i64 1, .string ⟨t.toArray⟩, .int .i64 1] w fun e w' => e = .returned (.tuple #[.pointer none, .int .i64 23]) ∧ ∃ lay', FK none s lay w s lay' w' := by
  refine (open_any hE 1 t 1 (by have := ht.len; omega) w h flags1).mono ?_
  rw [open_none hr ht hn]
  rintro e w' ⟨lay', hF, hst, he⟩
  exact ⟨he, lay', FK.of hst hF⟩
theorem fopen_new {w : World} (hE : EnvG W0) (h : FsIn W0 s lay w) {s' : Fs} (ht : UN t) (ho : s.openS 1 t 26 = (some ((k : Int) + 1), 0, s')) :
    Calls Tryz.prog 84 #[ptrTo (lay .F), .int .i64 1, .string ⟨t.toArray⟩, .int .i64 26] w fun e w' => ∃ b lay', e = .returned (.tuple #[ptrTo b, .int .i64 0]) ∧ FK none s lay w s' lay' w' ∧ w.heap.size ≤ b ∧ ¬ Owns (s'.obj lay') lay' b ∧ w'.heap[b]? = some (.cells (fileV lay' ((k : Int) + 1) 0 26 false) 177 (0, 0)) := by
  refine (open_any hE 1 t 26 (by have := ht.len; omega) w h flags26).mono ?_
  rw [ho]
  rintro e w' ⟨lay', hF, hst, b, hb1, hb2, hb3, he⟩
  exact ⟨b, lay', he, FK.of hst hF, hb1, hb2, by unfold fileV at hb3 ⊢; rw [hF]; exact hb3⟩
/-- a node that has bytes, read whole -/
theorem nread_has {i : Int} {x : Nd} {g : List UInt8} (w : World) (h : FsIs s lay w) (hn : s.nd i = some x) (hk : fileE (s.fld Nd.kind i) = 0) (hh : Has s x g) (hg : g.length ≤ 4096) :
    Calls Tryz.prog 61 #[ptrTo (lay .F), .int .i64 i, .int .i64 0, .int .i64 4096] w fun e w' => e = .returned (.tuple #[.string ⟨g.toArray⟩, .int .i64 0]) ∧ Step s lay w s lay w' := by
  have hs := hh.size
  by_cases h0 : g = []
  · subst h0
    have hr := read_end i x 0 4096 w h hn (by rw [hs]; simp)
    refine (nread_file i 0 4096 w h hk (R := fun w' => w = w') hr).mono ?_
    rintro e w' ⟨rfl, rfl⟩
    exact ⟨rfl, Step.refl h⟩
  · have hp := List.length_pos_iff.2 h0
    have hr := read_some i x 0 4096 w h hn hh.takenB ⟨by omega, by omega⟩ (by omega) (by decide)
    rw [show min 4096 (x.size.toNat - 0) = g.length by omega, hh.all] at hr
    refine (nread_file i 0 4096 w h hk (R := fun w' => Step s lay w s lay w') hr).mono ?_
    rintro e w' ⟨rfl, hst⟩
    exact ⟨rfl, hst⟩
set_option maxHeartbeats 1000000 in
theorem fread_all {i : Int} {x : Nd} {g : List UInt8} (b : Nat) (w : World) (h : FsIs s lay w) (hout : ¬ Owns (s.obj lay) lay b) (hb : w.heap[b]? = some (.cells (fileV lay i 0 1 false) 177 (0, 0)))
    (hn : s.nd i = some x) (hk : fileE (s.fld Nd.kind i) = 0) (hh : Has s x g) (hg : g.length ≤ 4096) :
    Calls Tryz.prog 85 #[ptrTo b, .int .i64 4096] w fun e w' => e = .returned (.tuple #[.string ⟨g.toArray⟩, .int .i64 0]) ∧ FK (some b) s lay w s lay w' ∧ w'.heap[b]? = some (.cells (fileV lay i g.length 1 false) 177 (0, 0)) := by
  have HM := Lib.hid (fmay_any b i 0 1 1 false w hb)
  simp only [show hasF 1 1 = true by kernel_rfl, if_true, if_false, Bool.false_eq_true] at HM
  have c0 : w.cell? ⟨b, 0, none⟩ = some (ptrTo (lay .F)) := cell_of_row w _ 0 _ _ _ hb
  have c1 : w.cell? ⟨b, 1, none⟩ = some (.int .i64 i) := cell_of_row w _ 1 _ _ _ hb
  have c2 : w.cell? ⟨b, 2, none⟩ = some (.int .i64 0) := cell_of_row w _ 2 _ _ _ hb
  have HR := Lib.hid (nread_has w.drew (h.drewN 1) hn hk hh hg)
  have hlt : b < w.drew.heap.size := (Array.getElem?_eq_some_iff.1 hb).1
  have hb2 : w.drew.heap[b]? = _ := hb
  have d0 : w.drew.cell? ⟨b, 0, none⟩ = _ := c0
  have d1 : w.drew.cell? ⟨b, 1, none⟩ = _ := c1
  have d2 : w.drew.cell? ⟨b, 2, none⟩ = _ := c2
  have hst0 := (Step.refl h).drewN 1
  have HS0 := Lib.hid hst0
  unfold ptrTo at *
  clear h hn hk hb hst0
  go_enter Tryz.func85, Tryz.ntmps85
  go_wp2_with (go_at_call 126; (with_reducible refine HM.out.mono ?_); rintro e w' ⟨rfl, rfl⟩)
  go_region_held3 (fun W => W.cell? ⟨b, 0, none⟩ = some (.pointer (some ⟨lay .F, 0, none⟩)) ∧ W.cell? ⟨b, 1, none⟩ = some (.int .i64 i) ∧ W.cell? ⟨b, 2, none⟩ = some (.int .i64 0)) (first | exact ⟨d0, d1, d2⟩ | exact ⟨g0, g1, g2⟩ | go_keep) (first | (go_at_call 61; (with_reducible refine HR.out.mono ?_); rintro e w2 ⟨rfl, hst⟩; have hbb := (hst.turned.block b hlt hout).trans hb2; have g0 : w2.cell? ⟨b, 0, none⟩ = some (.pointer (some ⟨lay .F, 0, none⟩)) := cell_of_row w2 _ 0 _ _ _ hbb; have g1 : w2.cell? ⟨b, 1, none⟩ = some (.int .i64 i) := cell_of_row w2 _ 1 _ _ _ hbb; have g2 : w2.cell? ⟨b, 2, none⟩ = some (.int .i64 0) := cell_of_row w2 _ 2 _ _ _ hbb))
  have zb : w2.frozen? ⟨b, 2, none⟩ = false := by simp [World.frozen?, hbb]
  have hfin := set_rowN (k := 2) (v := .int .i64 (g.length : Int)) hbb
  have hall := (FK.of (ex := some b) (HS0.out.trans hst) rfl).set hout 2 (.int .i64 (g.length : Int))
  clear hst HR
  go_wp2_with fail
  go_ret2
  exact ⟨rfl, hall, hfin⟩
/-- bytes into a new file: all of them -/
theorem nwrite_all {i : Int} {x : Nd} {g : List UInt8} {s' : Fs} (w : World) (h : FsIs s lay w) (hn : s.nd i = some x) (hk : fileE (s.fld Nd.kind i) = 0) (ht : x.taken s) (hs : 0 ≤ x.size ∧ x.size ≤ 4096) (hg : g.length ≤ 4096) (hw : s.writeS (slotOf i) x 0 g = (g.length, s')) :
    Calls Tryz.prog 8 #[ptrTo (lay .F), .int .i64 i, .int .i64 0, .string ⟨g.toArray⟩] w fun e w' => e = .returned (.tuple #[.int .i64 g.length, .int .i64 0]) ∧ Step s lay w s' lay w' := by
  refine (nwrite_file i x 0 g w h hn hk ht hs (by decide)).mono ?_
  rintro e w' ⟨n, s2, h1, rfl, h3⟩
  rw [List.take_of_length_le (by omega), hw] at h1
  cases h1
  have hc : (if g.length = 0 ∧ g ≠ [] then (20 : Int) else 0) = 0 := by
    rw [if_neg]
    rintro ⟨q1, q2⟩
    exact q2 (List.length_eq_zero_iff.1 q1)
  rw [hc]
  exact ⟨rfl, h3⟩
set_option maxHeartbeats 1000000 in
theorem fwrite_all {i : Int} {x : Nd} {g : List UInt8} {s' : Fs} (b : Nat) (w : World) (h : FsIs s lay w) (hout : ¬ Owns (s.obj lay) lay b) (hb : w.heap[b]? = some (.cells (fileV lay i 0 26 false) 177 (0, 0)))
    (hn : s.nd i = some x) (hk : fileE (s.fld Nd.kind i) = 0) (ht : x.taken s) (hs : 0 ≤ x.size ∧ x.size ≤ 4096) (hg : g.length ≤ 4096) (hw : s.writeS (slotOf i) x 0 g = (g.length, s')) :
    Calls Tryz.prog 88 #[ptrTo b, .string ⟨g.toArray⟩] w fun e w' => e = .returned (.tuple #[.int .i64 g.length, .int .i64 0]) ∧ FK (some b) s lay w s' lay w' ∧ w'.heap[b]? = some (.cells (fileV lay i g.length 26 false) 177 (0, 0)) := by
  have HM := Lib.hid (fmay_any b i 0 26 2 false w hb)
  simp only [has26_2, if_true, if_false, Bool.false_eq_true] at HM
  have c0 : w.cell? ⟨b, 0, none⟩ = some (ptrTo (lay .F)) := cell_of_row w _ 0 _ _ _ hb
  have c1 : w.cell? ⟨b, 1, none⟩ = some (.int .i64 i) := cell_of_row w _ 1 _ _ _ hb
  have c2 : w.cell? ⟨b, 2, none⟩ = some (.int .i64 0) := cell_of_row w _ 2 _ _ _ hb
  have c3 : w.cell? ⟨b, 3, none⟩ = some (.int .i64 26) := cell_of_row w _ 3 _ _ _ hb
  have h4' : (bits BinOp.and IntKind.i64 26 4 != 0) = false := by kernel_rfl
  have HR := Lib.hid (nwrite_all w.drew (h.drewN 1) hn hk ht hs hg hw)
  have hlt : b < w.drew.heap.size := (Array.getElem?_eq_some_iff.1 hb).1
  have hb2 : w.drew.heap[b]? = _ := hb
  have d0 : w.drew.cell? ⟨b, 0, none⟩ = _ := c0
  have d1 : w.drew.cell? ⟨b, 1, none⟩ = _ := c1
  have d2 : w.drew.cell? ⟨b, 2, none⟩ = _ := c2
  have hst0 := (Step.refl h).drewN 1
  have HS0 := Lib.hid hst0
  unfold ptrTo at *
  clear h hn hk hb hst0 hw ht hs
  go_enter Tryz.func88, Tryz.ntmps88
  go_wp2_with (go_at_call 126; (with_reducible refine HM.out.mono ?_); rintro e w' ⟨rfl, rfl⟩)
  go_region_held3 (fun W => W.cell? ⟨b, 0, none⟩ = some (.pointer (some ⟨lay .F, 0, none⟩)) ∧ W.cell? ⟨b, 1, none⟩ = some (.int .i64 i) ∧ W.cell? ⟨b, 2, none⟩ = some (.int .i64 0)) (first | exact ⟨d0, d1, d2⟩ | exact ⟨g0, g1, g2⟩ | go_keep) (first | (go_at_call 8; (with_reducible refine HR.out.mono ?_); rintro e w2 ⟨rfl, hst⟩; have hbb := (hst.turned.block b hlt hout).trans hb2; have g0 : w2.cell? ⟨b, 0, none⟩ = some (.pointer (some ⟨lay .F, 0, none⟩)) := cell_of_row w2 _ 0 _ _ _ hbb; have g1 : w2.cell? ⟨b, 1, none⟩ = some (.int .i64 i) := cell_of_row w2 _ 1 _ _ _ hbb; have g2 : w2.cell? ⟨b, 2, none⟩ = some (.int .i64 0) := cell_of_row w2 _ 2 _ _ _ hbb))
  have zb : w2.frozen? ⟨b, 2, none⟩ = false := by simp [World.frozen?, hbb]
  have hfin := set_rowN (k := 2) (v := .int .i64 (g.length : Int)) hbb
  have hout2 : ¬ Owns (s'.obj lay) lay b := fun q => (hst.own b q).elim hout (fun q2 => by omega)
  have hall := (FK.of (ex := some b) (HS0.out.trans hst) rfl).set hout2 2 (.int .i64 (g.length : Int))
  clear hst HR
  go_wp2_with fail
  go_ret2
  exact ⟨rfl, hall, hfin⟩
theorem fclose_all {i at_ fl : Int} {s' : Fs} {c : Int} (b : Nat) (w : World) (h : FsIs s lay w) (hout : ¬ Owns (s.obj lay) lay b) (hb : w.heap[b]? = some (.cells (fileV lay i at_ fl false) 177 (0, 0))) (hl : s.looseS i = (c, s')) :
    Calls Tryz.prog 86 #[ptrTo b] w fun e w' => e = .returned (.int .i64 c) ∧ FK (some b) s lay w s' lay w' := by
  refine (fclose_open b i at_ fl w h hout hb).mono ?_
  rw [hl]
  rintro e w' ⟨rfl, hst, _⟩
  have h1 : FK (some b) s lay w s lay (w.setCell ⟨b, 4, none⟩ (.bool true)) := (FK.refl h).set hout 4 _
  exact ⟨rfl, h1.trans (FK.of hst rfl)⟩
end
end Go.Proofs.YtbecmcjibpamoaaGreatDoor
/- utils.direct: the input of a file. -/
namespace Go.Proofs.YtbecmcjibpamoaaGreatDoor
open Go.RowKit IntWalk
set_option linter.unusedVariables false
set_option linter.unusedSimpArgs false

def catN : List UInt8 := [99, 97, 116]
def cpN : List UInt8 := [99, 112]
def mvN : List UInt8 := [109, 118]
/-- a utility at work, at a block -/
def dctV (x : List UInt8) (v : Value) (out : List UInt8) (F : Nat) : Array Value := #[.string ⟨x.toArray⟩, .string ⟨#[]⟩, .int .i64 10, v, .string ⟨out.toArray⟩, .string ⟨#[]⟩, .int .i64 0, ptrTo F, .int .i64 1, .string ⟨#[]⟩]
def dctO (x : List UInt8) (v : Value) (out : List UInt8) (F : Nat) : Obj := .cells (dctV x v out F) 61 (0, 0)
section
variable {w : World} {D F : Nat} {x out : List UInt8} {v : Value}
theorem dct_cell (h : w.heap[D]? = some (dctO x v out F)) (k : Nat) {u : Value} (hu : (dctV x v out F)[k]? = some u) : w.cell? ⟨D, k, none⟩ = some u := by
  unfold World.cell?
  dsimp only
  rw [h]
  exact hu
theorem dct_plan (h : w.heap[D]? = some (dctO x v out F)) : PlanAt w D x v := ⟨dct_cell h 0 rfl, dct_cell h 1 rfl, dct_cell h 3 rfl⟩
theorem sources_cat (g c : Nat) (h : PlanAt w D catN (.slice (some ⟨g, 0, none⟩) 1 c)) :
    Calls Tryz.prog 83 #[.pointer (some ⟨D, 0, none⟩)] w fun e w' => e = .returned (.slice (some ⟨g, 0, none⟩) 1 c) ∧ w = w' := by
  obtain ⟨c0, c1, c3⟩ := h
  unfold catN at c0
  go_enter Tryz.func83, Tryz.ntmps83
  go_wp2
  go_ret
  exact ⟨rfl, by first | rfl | trivial⟩
theorem sources_cp (g c : Nat) (hc : 2 ≤ c) (h : PlanAt w D cpN (.slice (some ⟨g, 0, none⟩) 2 c)) :
    Calls Tryz.prog 83 #[.pointer (some ⟨D, 0, none⟩)] w fun e w' => e = .returned (.slice (some ⟨g, 0, none⟩) 1 c) ∧ w = w' := by
  obtain ⟨c0, c1, c3⟩ := h
  unfold cpN at c0
  have hc1 : (1 : Int) ≤ (c : Int) := by omega
  go_enter Tryz.func83, Tryz.ntmps83
  go_wp2
  go_ret
  exact ⟨rfl, by first | rfl | trivial⟩
end
section
variable {W0 : World} {s : Fs} {lay : FId → Nat} {d : Dr} {k : Nat}
set_option maxRecDepth 100000 in
set_option maxHeartbeats 2000000 in
theorem input_one {w : World} {D gr c : Nat} {x y out g : List UInt8} {v : Value} (hE : EnvG W0) (h : FsIn W0 s lay w) (hD : w.heap[D]? = some (dctO x v out (lay .F))) (hDo : ¬ Owns (s.obj lay) lay D)
    (hS : Calls Tryz.prog 83 #[.pointer (some ⟨D, 0, none⟩)] w fun e w' => e = .returned (.slice (some ⟨gr, 0, none⟩) 1 c) ∧ w = w') (hy0 : w.cell? ⟨gr, 0, none⟩ = some (.string ⟨y.toArray⟩)) (hA : FileAt s d y k g) (hG : Gen s) (hg : g.length ≤ 4096) (hy : UN y) (hyd : y ≠ [45]) :
    Calls Tryz.prog 47 #[.pointer (some ⟨D, 0, none⟩)] w fun e w' => e = .returned (.string ⟨g.toArray⟩) ∧ ∃ lay', FK none s lay w s lay' w' := by
  obtain ⟨nx, hx, hk, hn1, hu0, hh⟩ := hA.node
  obtain ⟨q1, q2, q3⟩ := hold_loose hx hu0 hn1
  have hlt := (Array.getElem?_eq_some_iff.1 hD).1
  have HO := Lib.hid (fopen_old (w := w.drew) hE (h.drewN 1) hA hy)
  have hDd : w.drew.heap[D]? = some (dctO x v out (lay .F)) := hD
  have hst0 := (Step.refl h.is).drewN 1
  have HK0 := Lib.hid (FK.of (ex := none) hst0 rfl)
  have hw1 : Gen (s.holdS ((k : Int) + 1)).2 := by rw [hold_at hx]; exact hG.setAt hx rfl rfl
  have hnd : (s.holdS ((k : Int) + 1)).2.nd ((k : Int) + 1) = some { nx with users := 1 } := nd_at q1
  have hfl : fileE ((s.holdS ((k : Int) + 1)).2.fld Nd.kind ((k : Int) + 1)) = 0 := by rw [fld_at q1]; show fileE nx.kind = 0; rw [hk]; rfl
  have hhs : Has (s.holdS ((k : Int) + 1)).2 { nx with users := 1 } g := hh.keep rfl rfl (fun p b n _ _ => by rw [q2])
  have HQ3 := Lib.hid q3
  have HND := Lib.hid hnd
  have HFL := Lib.hid hfl
  have HHS := Lib.hid hhs
  have HDo := Lib.hid hDo
  have HDd := Lib.hid hDd
  have HS := Lib.hid hS
  have f7 := dct_cell hDd 7 rfl
  have f8 := dct_cell hDd 8 rfl
  clear h hD hDo hS hA hG hx q1 q2 q3 hst0 hw1 hnd hfl hhs hh hDd
  generalize (s.holdS ((k : Int) + 1)).2 = s1 at *
  unfold ptrTo at *
  have hyb : (y == [45]) = false := by simpa using hyd
  go_enter Tryz.func47, Tryz.ntmps47
  go_wp2_with first
    | (go_at_call 83; (refine HS.out.mono ?_); rintro e w' ⟨rfl, rfl⟩)
  go_loopw [3, 15] (fun ov iv wr => (ov = .string ⟨#[]⟩ ∧ iv = .int .i64 0 ∧ wr = w) ∨ (ov = .string ⟨g.toArray⟩ ∧ iv = .int .i64 1 ∧ ∃ lay', RowKit.Hid (FK none s lay w s lay' wr))) (fun _ iv _ => 1 - (intOf iv).toNat)
  case atStart => exact .inl ⟨rfl, rfl, by first | rfl | trivial⟩
  case round =>
    rcases hrel with ⟨rfl, rfl, rfl⟩ | ⟨rfl, rfl, lay', HK⟩
    · go_wp2
      go_region_held3 (fun W => W.cell? ⟨D, 7, none⟩ = some (.pointer (some ⟨lay .F, 0, none⟩)) ∧ W.cell? ⟨D, 8, none⟩ = some (.int .i64 1)) (first | exact ⟨f7, f8⟩ | exact ⟨m7, m8⟩ | go_keep) (first | (go_at_call 84; (with_reducible refine HO.out.mono ?_); rintro e w2 ⟨b, lay2, rfl, hk2, hb2, ho2, hf2⟩; have hD2 := (hk2.heap (D := D) hlt HDo.out (by simp)).trans HDd.out; have m7 := dct_cell hD2 7 rfl; have m8 := dct_cell hD2 8 rfl; unfold ptrTo at m7))
      have HRD := Lib.hid (fread_all b w2 hk2.is ho2 hf2 HND.out HFL.out HHS.out hg)
      have HK2 := Lib.hid ((FK.trans HK0.out hk2).any (ex := some b))
      have HO2 := Lib.hid ho2
      have HB2 := Lib.hid hb2
      unfold ptrTo at HRD
      have h63 : ¬ 9223372036854775807 < g.length := by omega
      clear hk2 hb2 ho2 hf2 hD2 m7 m8
      go_wp2_with first
        | (go_at_call 86; (refine (fclose_all b w3 HK3.out.is HO2.out HF3.out HQ3.out).mono ?_); rintro e w4 ⟨rfl, hk4⟩; have HK4 := Lib.hid (((HK2.out.trans HK3.out).trans hk4).drop HB2.out); clear hk4)
        | (go_at_call 85; (refine HRD.out.mono ?_); rintro e w3 ⟨rfl, hk3, hf3⟩; have HK3 := Lib.hid hk3; have HF3 := Lib.hid hf3; clear hk3 hf3)
      go_roundw
      case rel => exact .inr ⟨by simp, by go_num, lay2, HK4⟩
      case measure => simp [intOf]
    · go_wp2
      go_ret
      exact ⟨rfl, lay', HK.out⟩
end
end Go.Proofs.YtbecmcjibpamoaaGreatDoor
/- utils.direct: a text is saved to a new file. -/
namespace Go.Proofs.YtbecmcjibpamoaaGreatDoor
open Go.RowKit IntWalk
set_option linter.unusedVariables false
set_option linter.unusedSimpArgs false

section
variable {w : World} {D F : Nat} {x out : List UInt8} {v : Value}
theorem contains_nil (c : UInt8) : Lib.contains ([] : List UInt8) [c] = false := by
  unfold Lib.contains
  rfl
theorem has_none (c : UInt8) (h1 : w.cell? ⟨D, 1, none⟩ = some (.string ⟨#[]⟩)) (hm : ∃ m, w.cell? ⟨0, 0, none⟩ = some (.int .i64 m)) :
    Calls Tryz.prog 74 #[.pointer (some ⟨D, 0, none⟩), .string ⟨#[c]⟩] w fun e w' => e = .returned (.bool false) ∧ w = w' := by
  obtain ⟨m, hm⟩ := hm
  have HC := Lib.hid (Tryz.strings_Contains ⟨#[]⟩ ⟨#[c]⟩ m w (by decide) hm)
  have hc : Lib.contains (⟨#[]⟩ : ByteArray).data.toList (⟨#[c]⟩ : ByteArray).data.toList = false := contains_nil c
  rw [hc] at HC
  go_enter Tryz.func74, Tryz.ntmps74
  go_wp2_with (go_at_call 73; (refine HC.out.mono ?_); rintro e w' ⟨rfl, rfl⟩)
  go_ret
  exact ⟨rfl, by first | rfl | trivial⟩
theorem flags_cp (h : PlanAt w D cpN v) (hm : ∃ m, w.cell? ⟨0, 0, none⟩ = some (.int .i64 m)) :
    Calls Tryz.prog 87 #[.pointer (some ⟨D, 0, none⟩)] w fun e w' => e = .returned (.int .i64 26) ∧ w = w' := by
  have HH := Lib.hid (has_none (w := w) (D := D) 97 h.c1 hm)
  obtain ⟨c0, c1, c3⟩ := h
  unfold cpN at c0
  go_enter Tryz.func87, Tryz.ntmps87
  go_wp2_with (go_at_call 74; (refine HH.out.mono ?_); rintro e w' ⟨rfl, rfl⟩)
  go_ret
  exact ⟨rfl, by first | rfl | trivial⟩
end
/-- how long a text is -/
def strLen (v : Value) : Nat := match v with
  | .string b => b.size
  | _ => 0
section
variable {W0 : World} {s : Fs} {lay : FId → Nat} {d : Dr} {k : Nat}
theorem fclose_d (b : Nat) (node at_ flags : Int) (u : FrameMode) (w : World) (h : FsIs s lay w) (hout : ¬ Owns (s.obj lay) lay b) (hb : w.heap[b]? = some (.cells (fileV lay node at_ flags false) 177 (0, 0))) :
    CallsD Tryz.prog 86 #[ptrTo b] u w fun e u' w' => u' = u ∧ (e = .returned (.int .i64 (s.looseS node).1) ∧ Step s lay (w.setCell ⟨b, 4, none⟩ (.bool true)) (s.looseS node).2 lay w') := by
  have c0 : w.cell? ⟨b, 0, none⟩ = some (ptrTo (lay .F)) := cell_of_row w _ 0 _ _ _ hb
  have c1 : w.cell? ⟨b, 1, none⟩ = some (.int .i64 node) := cell_of_row w _ 1 _ _ _ hb
  have c4 : w.cell? ⟨b, 4, none⟩ = some (.bool false) := cell_of_row w _ 4 _ _ _ hb
  have z4 : w.frozen? ⟨b, 4, none⟩ = false := by simp [World.frozen?, hb]
  have hlt := (Array.getElem?_eq_some_iff.1 hb).1
  have h2 := is_setL h ⟨b, 4, none⟩ (.bool true) hout
  have hb2 := set_rowN (k := 4) (v := .bool true) hb
  have h3 := h2.drewN 1
  have HL := Lib.hid (show Calls Tryz.prog 127 #[ptrTo (lay .F), .int .i64 node] (w.setCell ⟨b, 4, none⟩ (.bool true)).drew fun e w' => e = .returned (.int .i64 (s.looseS node).1) ∧ Step s lay (w.setCell ⟨b, 4, none⟩ (.bool true)).drew (s.looseS node).2 lay w' from nloose_any node _ h3)
  have hs1 : Step s lay (w.setCell ⟨b, 4, none⟩ (.bool true)) s lay (w.setCell ⟨b, 4, none⟩ (.bool true)).drew := (Step.refl h2).drewN 1
  have HS1 := Lib.hid hs1
  clear h h2 h3 hs1
  unfold ptrTo at *
  go_enter_d Tryz.func86, Tryz.ntmps86
  go_wp2_with fail
  generalize hw1 : w.setCell ⟨b, 4, none⟩ (.bool true) = w1 at *
  have hb3 : w1.drew.heap[b]? = _ := hb2
  have d0 : w1.drew.cell? ⟨b, 0, none⟩ = some (.pointer (some ⟨lay .F, 0, none⟩)) := cell_of_row w1 _ 0 _ _ _ hb2
  have d1 : w1.drew.cell? ⟨b, 1, none⟩ = some (.int .i64 node) := cell_of_row w1 _ 1 _ _ _ hb2
  have hlt1 : b < w1.drew.heap.size := World.block_lt_of_cell? w1 ⟨b, 0, none⟩ d0
  clear c0 c1 c4 z4 hb hlt
  go_region_held3 (fun W => W.cell? ⟨b, 0, none⟩ = some (.pointer (some ⟨lay .F, 0, none⟩)) ∧ W.cell? ⟨b, 1, none⟩ = some (.int .i64 node)) (first | exact ⟨d0, d1⟩ | exact ⟨g0, g1⟩ | go_keep) (first | (go_at_call 127; (with_reducible refine HL.out.mono ?_); rintro e w2 ⟨rfl, hst⟩; have hbb := (hst.turned.block b hlt1 hout).trans hb3; have g0 : w2.cell? ⟨b, 0, none⟩ = some (.pointer (some ⟨lay .F, 0, none⟩)) := cell_of_row w2 _ 0 _ _ _ hbb; have g1 : w2.cell? ⟨b, 1, none⟩ = some (.int .i64 node) := cell_of_row w2 _ 1 _ _ _ hbb))
  go_wp2_with fail
  go_ret
  subst hw1
  exact ⟨rfl, HS1.out.trans hst⟩
theorem write_none (s : Fs) (k : Nat) (y : Nd) : (s.writeS k y 0 []).2 = s := by
  unfold Fs.writeS
  rfl
set_option maxRecDepth 100000 in
set_option maxHeartbeats 2000000 in
/-- what is saved to a name that is not there -/
theorem save_new {w : World} {D : Nat} {y out g : List UInt8} {v : Value} {s' s2 s3 : Fs} {yn : Nd} (hE : EnvG W0) (h : FsIn W0 s lay w) (hD : w.heap[D]? = some (dctO cpN v out (lay .F))) (hDo : ¬ Owns (s.obj lay) lay D)
    (hy : UN y) (ho : s.openS 1 y 26 = (some ((k : Int) + 1), 0, s')) (hn : s'.nd ((k : Int) + 1) = some yn) (hk : fileE (s'.fld Nd.kind ((k : Int) + 1)) = 0) (ht : yn.taken s') (hz : yn.size = 0) (hg : g.length ≤ 4096)
    (hw : s'.writeS k yn 0 g = (g.length, s2)) (hl : s2.looseS ((k : Int) + 1) = (0, s3)) :
    Calls Tryz.prog 48 #[.pointer (some ⟨D, 0, none⟩), .string ⟨y.toArray⟩, .string ⟨g.toArray⟩] w fun e w' => e = .returned (.tuple #[]) ∧ ∃ lay', FK none s lay w s3 lay' w' := by
  have hlt := (Array.getElem?_eq_some_iff.1 hD).1
  have HO := Lib.hid (fun (V : World) (hV : FsIn W0 s lay V) => fopen_new (w := V) hE hV hy ho)
  have hDd : w.drew.heap[D]? = some (dctO cpN v out (lay .F)) := hD
  have hst0 := (Step.refl h.is).drewN 1
  have HK0 := Lib.hid (FK.of (ex := none) hst0 rfl)
  have HFl := Lib.hid (flags_cp (w := w.drew) (D := D) (dct_plan hDd) (hE.at_ (h.drewN 1).below))
  have HIN := Lib.hid (show FsIn W0 s lay w.drew from h.drewN 1)
  have HDo := Lib.hid hDo
  have HDd := Lib.hid hDd
  have f7 := dct_cell hDd 7 rfl
  have f8 := dct_cell hDd 8 rfl
  have HWR := Lib.hid (fun (b : Nat) (L : FId → Nat) (V : World) (hV : FsIs s' L V) (hb1 : ¬ Owns (s'.obj L) L b) (hb2 : V.heap[b]? = some (.cells (fileV L ((k : Int) + 1) 0 26 false) 177 (0, 0))) => fwrite_all b V hV hb1 hb2 hn hk ht ⟨by omega, by omega⟩ hg (by rw [slotOf_eq]; exact hw))
  have HNO := Lib.hid (fun (h0 : g = []) => show s' = s2 from by
    subst h0
    have := write_none s' k yn
    rw [hw] at this
    exact this.symm)
  have HL := Lib.hid hl
  clear h hD hDo hst0 ho hn hk ht hz hw hl hDd
  unfold ptrTo at *
  go_enter_defers Tryz.func48, Tryz.ntmps48
  go_wp2
  go_region_held3 (fun W => W.cell? ⟨D, 7, none⟩ = some (.pointer (some ⟨lay .F, 0, none⟩)) ∧ W.cell? ⟨D, 8, none⟩ = some (.int .i64 1)) (first | exact ⟨f7, f8⟩ | exact ⟨m7, m8⟩ | go_keep) (first
    | (go_at_call 87; (with_reducible refine HFl.out.mono ?_); rintro e w' ⟨rfl, rfl⟩)
    | (go_at_call 84; (with_reducible refine (HO.out w.drew HIN.out).mono ?_); rintro e w2 ⟨b, lay2, rfl, hk2, hb2, ho2, hf2⟩; have hD2 := (hk2.heap (D := D) hlt HDo.out (by simp)).trans HDd.out; have m7 := dct_cell hD2 7 rfl; have m8 := dct_cell hD2 8 rfl; unfold ptrTo at m7))
  have HK2 := Lib.hid ((FK.trans HK0.out hk2).any (ex := some b))
  have HS2 := Lib.hid hk2.is
  have HB2 := Lib.hid hb2
  have HO2 := Lib.hid ho2
  have HF2 := Lib.hid hf2
  have HW2 := Lib.hid (HWR.out b lay2 w2 hk2.is ho2 hf2)
  unfold ptrTo at HW2
  clear hk2 hb2 ho2 hf2 hD2 m7 m8 f7 f8
  go_wp2
  go_loopw [2] (fun sv wr => (sv = .string ⟨g.toArray⟩ ∧ wr = w2) ∨ (sv = .string ⟨#[]⟩ ∧ ∃ at_ : Int, RowKit.Hid (FK (some b) s' lay2 w2 s2 lay2 wr) ∧ RowKit.Hid (wr.heap[b]? = some (.cells (fileV lay2 ((k : Int) + 1) at_ 26 false) 177 (0, 0))))) (fun sv _ => strLen sv)
  case atStart => exact .inl ⟨rfl, by first | rfl | trivial⟩
  case round =>
    rcases hrel with ⟨rfl, rfl⟩ | ⟨rfl, at_, HK3, HF3⟩
    · by_cases h0 : g = []
      · have hs2 := HNO.out h0
        subst hs2
        have HK3 := Lib.hid (FK.refl (ex := some b) HS2.out)
        have HF3 := HF2
        subst h0
        go_wp2
        refine leaves_cons (f := 86) (args := #[.pointer (some ⟨b, 0, none⟩)]) (by simp) (by simp [go_sem]) ?_
        refine (fclose_d b ((k : Int) + 1) 0 26 .returning wr HK3.out.is (HK3.out.out (Array.getElem?_eq_some_iff.1 HF2.out).1 HO2.out) HF3.out).mono ?_
        rintro e u' w'' ⟨rfl, rfl, hst⟩
        have hst' := hst
        rw [HL.out] at hst'
        have hcl : FK (some b) s' lay2 wr s3 lay2 w'' := ((FK.refl HK3.out.is).set (HK3.out.out (Array.getElem?_eq_some_iff.1 HF2.out).1 HO2.out) 4 _).trans (FK.of hst' rfl)
        exact ⟨_, results_none rfl _ _ _, rfl, lay2, ((HK2.out.trans HK3.out).trans hcl).drop HB2.out⟩
      · have hgb : (g == []) = false := by simpa using h0
        have hgp := List.length_pos_iff.2 h0
        go_wp2_with first
          | (go_at_call 88; (refine HW2.out.mono ?_); rintro e w3 ⟨rfl, hk3, hf3⟩; have HK3 := Lib.hid hk3; have HF3 := Lib.hid hf3; clear hk3 hf3)
        go_roundw
        case rel => exact .inr ⟨rfl, g.length, HK3, HF3⟩
        case measure => show 0 < (ByteArray.mk g.toArray).size; rw [str_size]; exact hgp
    · go_wp2
      refine leaves_cons (f := 86) (args := #[.pointer (some ⟨b, 0, none⟩)]) (by simp) (by simp [go_sem]) ?_
      refine (fclose_d b ((k : Int) + 1) at_ 26 .returning wr HK3.out.is (HK3.out.out (Array.getElem?_eq_some_iff.1 HF2.out).1 HO2.out) HF3.out).mono ?_
      rintro e u' w'' ⟨rfl, rfl, hst⟩
      have hst' := hst
      rw [HL.out] at hst'
      have hcl : FK (some b) s2 lay2 wr s3 lay2 w'' := ((FK.refl HK3.out.is).set (HK3.out.out (Array.getElem?_eq_some_iff.1 HF2.out).1 HO2.out) 4 _).trans (FK.of hst' rfl)
      exact ⟨_, results_none rfl _ _ _, rfl, lay2, ((HK2.out.trans HK3.out).trans hcl).drop HB2.out⟩
end
end Go.Proofs.YtbecmcjibpamoaaGreatDoor
