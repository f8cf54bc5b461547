/- UrJ UrK UrO UrQ UrR UrS -/
import Derived.Test.YtbecmcjibpamoaaGreatDoorQ45
import Derived.Test.YtbecmcjibpamoaaGreatDoorQ46
import Derived.Test.YtbecmcjibpamoaaGreatDoorQ44
set_option linter.unusedVariables false
set_option linter.unusedSimpArgs false
set_option linter.deprecated false
set_option linter.unnecessarySimpa false
namespace Go.Proofs.YtbecmcjibpamoaaGreatDoor
open Go.RowKit IntWalk
theorem txt_given {w w' : World} {e : Ending} {y : List UInt8} (h : e = .returned (.string ⟨y.toArray⟩) ∧ Below w.heap.size w w') : TxtGiven w w' e := ⟨⟨y, h.1⟩, h.2⟩
section
variable {w : World} {D : Nat} {opts : List UInt8} {n : Int} {v : Value} {L : List (List UInt8)} (s : List UInt8)
theorem makes_catR (h : PlanC w D catRN opts n v) :
    Calls Tryz.prog 52 #[.pointer (some ⟨D, 0, none⟩), .string ⟨s.toArray⟩] w fun e w' => TxtGiven w w' e := by
  obtain ⟨c0, c1, c2, c3⟩ := h
  unfold catRN at c0
  go_enter Tryz.func52, Tryz.ntmps52
  go_wp2
  go_ret
  exact ⟨⟨_, rfl⟩, Below.refl _ _⟩
theorem makes_wc (h : PlanC w D wcN opts n v) (hE : Env w) (ho : opts.length ≤ 1000) (hs : s.length ≤ 900) :
    Calls Tryz.prog 52 #[.pointer (some ⟨D, 0, none⟩), .string ⟨s.toArray⟩] w fun e w' => TxtGiven w w' e := by
  have HP := Lib.hid (wc_rd s h hE ho hs)
  obtain ⟨c0, c1, c2, c3⟩ := h
  unfold wcN at c0
  go_enter Tryz.func52, Tryz.ntmps52
  go_wp2_with (go_at_call 92; (refine HP.out.mono ?_); rintro e w1 ⟨⟨y, rfl⟩, hB⟩)
  go_ret
  exact ⟨⟨_, rfl⟩, hB⟩
theorem makes_head (h : PlanC w D headN opts n v) (hE : Env w) (hs : s.length ≤ 900) :
    Calls Tryz.prog 52 #[.pointer (some ⟨D, 0, none⟩), .string ⟨s.toArray⟩] w fun e w' => TxtGiven w w' e := by
  have HP := Lib.hid (head_any s n hs w hE |>.mono fun e w' hT => txt_given hT)
  obtain ⟨c0, c1, c2, c3⟩ := h
  unfold headN at c0
  go_enter Tryz.func52, Tryz.ntmps52
  go_wp2_with (go_at_call 93; (refine HP.out.mono ?_); rintro e w1 ⟨⟨y, rfl⟩, hB⟩)
  go_ret
  exact ⟨⟨_, rfl⟩, hB⟩
theorem makes_tail (h : PlanC w D tailN opts n v) (hE : Env w) (hs : s.length ≤ 900) :
    Calls Tryz.prog 52 #[.pointer (some ⟨D, 0, none⟩), .string ⟨s.toArray⟩] w fun e w' => TxtGiven w w' e := by
  have HP := Lib.hid (tail_any s n hs w hE |>.mono fun e w' hT => txt_given hT)
  obtain ⟨c0, c1, c2, c3⟩ := h
  unfold tailN at c0
  go_enter Tryz.func52, Tryz.ntmps52
  go_wp2_with (go_at_call 94; (refine HP.out.mono ?_); rintro e w1 ⟨⟨y, rfl⟩, hB⟩)
  go_ret
  exact ⟨⟨_, rfl⟩, hB⟩
set_option maxRecDepth 100000 in
theorem makes_sort (h : PlanC w D sortN opts n v) (hE : Env w) (ho : opts.length ≤ 1000) (hs : s.length ≤ 900) :
    Calls Tryz.prog 52 #[.pointer (some ⟨D, 0, none⟩), .string ⟨s.toArray⟩] w fun e w' => TxtGiven w w' e := by
  have HP := Lib.hid (fun b1 b2 => sortT_any s b1 b2 (by omega) w hE |>.mono fun e w' hT => txt_given hT)
  obtain ⟨c0, c1, c2, c3⟩ := h
  have HH := Lib.hid (fun c => has_any2 (w := w) (D := D) opts c c1 (by omega) hE)
  unfold sortN at c0
  obtain ⟨b1, hb1⟩ : ∃ b, hasB opts 114 = b := ⟨_, rfl⟩
  obtain ⟨b2, hb2⟩ : ∃ b, hasB opts 117 = b := ⟨_, rfl⟩
  have H1 := HH.out 114
  have H2 := HH.out 117
  rw [hb1] at H1
  rw [hb2] at H2
  have HH1 := Lib.hid H1
  have HH2 := Lib.hid H2
  clear H1 H2 HH hb1 hb2
  go_enter Tryz.func52, Tryz.ntmps52
  go_wp2_with first
    | (go_at_call 95; (refine (HP.out _ _).mono ?_); rintro e w1 ⟨⟨y, rfl⟩, hB⟩)
    | (go_at_call 74; (with_reducible refine HH1.out.mono ?_); rintro e w' ⟨rfl, rfl⟩)
    | (go_at_call 74; (with_reducible refine HH2.out.mono ?_); rintro e w' ⟨rfl, rfl⟩)
  go_ret
  exact ⟨⟨_, rfl⟩, hB⟩
set_option maxRecDepth 100000 in
theorem makes_uniq (h : PlanC w D uniqN opts n v) (hE : Env w) (ho : opts.length ≤ 1000) (hs : s.length ≤ 900) :
    Calls Tryz.prog 52 #[.pointer (some ⟨D, 0, none⟩), .string ⟨s.toArray⟩] w fun e w' => TxtGiven w w' e := by
  have HP := Lib.hid (fun b1 => uniq_any s b1 hs w hE |>.mono fun e w' hT => txt_given hT)
  obtain ⟨c0, c1, c2, c3⟩ := h
  have H1 := has_any2 (w := w) (D := D) opts 99 c1 (by omega) hE
  unfold uniqN at c0
  obtain ⟨b1, hb1⟩ : ∃ b, hasB opts 99 = b := ⟨_, rfl⟩
  rw [hb1] at H1
  have HH1 := Lib.hid H1
  clear H1 hb1
  go_enter Tryz.func52, Tryz.ntmps52
  go_wp2_with first
    | (go_at_call 96; (refine (HP.out _).mono ?_); rintro e w1 ⟨⟨y, rfl⟩, hB⟩)
    | (go_at_call 74; (with_reducible refine HH1.out.mono ?_); rintro e w' ⟨rfl, rfl⟩)
  go_ret
  exact ⟨⟨_, rfl⟩, hB⟩
set_option maxRecDepth 100000 in
set_option maxHeartbeats 1000000 in
theorem makes_grep (h : PlanC w D grepN opts n v) (hs : Strs w v L) (hE : Env w) (ho : opts.length ≤ 1000) (hl : s.length ≤ 900) (hR : 0 < L.length) :
    Calls Tryz.prog 52 #[.pointer (some ⟨D, 0, none⟩), .string ⟨s.toArray⟩] w fun e w' => TxtGiven w w' e := by
  cases L with
  | nil => simp at hR
  | cons f L =>
    obtain ⟨a, cap, hv, hcap, hat⟩ := hs.shape
    subst hv
    obtain ⟨b, off, rfl, hbl, -, hc, d0, -⟩ := strs_cons hs
    rw [List.length_cons] at h
    have hbd : Below w.heap.size w w.drew := ⟨rfl, rfl, rfl, Nat.le_refl _, fun _ _ => rfl⟩
    have HP := Lib.hid (fun b1 => grep_any s f b1 hl w.drew (hE.below hbd) |>.mono fun e w' hT => (⟨⟨_, hT.1⟩, ⟨hT.2.os, hT.2.tape, hT.2.output, hT.2.size, hT.2.block⟩⟩ : TxtGiven w w' e))
    obtain ⟨c0, c1, c2, c3⟩ := h
    have H1 := has_any2 (w := w.drew) (D := D) opts 118 c1 (by omega) (hE.below hbd)
    unfold grepN at c0
    obtain ⟨b1, hb1⟩ : ∃ b, hasB opts 118 = b := ⟨_, rfl⟩
    rw [hb1] at H1
    have HH1 := Lib.hid H1
    have hp : (0 : Int) < (L.length : Int) + 1 := by omega
    clear H1 hb1 hs hat hcap hE hbd hR
    go_enter Tryz.func52, Tryz.ntmps52
    go_wp2_with fail
    go_region_with (first
      | (go_at_call 97; (with_reducible refine (HP.out _).mono ?_); rintro e w1 ⟨⟨y, rfl⟩, hB⟩)
      | (go_at_call 74; (with_reducible refine HH1.out.mono ?_); rintro e w' ⟨rfl, rfl⟩))
    all_goals
      go_wp2_with fail
      go_ret
      exact ⟨⟨_, rfl⟩, hB⟩
end
end Go.Proofs.YtbecmcjibpamoaaGreatDoor
namespace Go.Proofs.YtbecmcjibpamoaaGreatDoor
open Go.RowKit IntWalk
section
variable {w : World} {D : Nat} {opts : List UInt8} {n : Int} {v : Value} {L : List (List UInt8)} (s : List UInt8)
set_option maxRecDepth 100000 in
set_option maxHeartbeats 1000000 in
theorem makes_tr (h : PlanC w D trN opts n v) (hs : Strs w v L) (hE : Env w) (ho : opts.length ≤ 1000) (hl : s.length ≤ 900) (h5 : ∀ y, y ∈ L → y.length ≤ 500) (hR : TurnsP opts L.length) :
    Calls Tryz.prog 52 #[.pointer (some ⟨D, 0, none⟩), .string ⟨s.toArray⟩] w fun e w' => TxtGiven w w' e := by
  obtain ⟨c0, c1, c2, c3⟩ := h
  have HH := Lib.hid (has_any2 opts 100 c1 (by omega) hE)
  unfold trN at c0
  obtain ⟨a, cap, hv, hcap, hat⟩ := hs.shape
  subst hv
  rcases hR with ⟨hb, h1⟩ | ⟨hb, h1⟩
  · rw [hb] at HH
    obtain ⟨y, rfl⟩ : ∃ y, L = [y] := by
      match L, h1 with
      | [y], _ => exact ⟨y, rfl⟩
    obtain ⟨b, off, rfl, hbl, hat⟩ := hat (by simp)
    have d0 := hat 0 y rfl
    simp only [Nat.add_zero] at d0
    have HD := Lib.hid (dropT_any s y (h5 y (by simp)) hl w |>.mono fun e w' hT => txt_weak hT)
    clear hE hat hs h5 h1
    go_enter Tryz.func52, Tryz.ntmps52
    go_wp2_with first
      | (go_at_call 74; (with_reducible refine HH.out.mono ?_); rintro e w' ⟨rfl, rfl⟩)
      | (go_at_call 98; (with_reducible refine HD.out.mono ?_); rintro e w1 ⟨⟨y1, c1', rfl⟩, hB⟩)
    go_ret
    exact ⟨⟨_, rfl⟩, hB⟩
  · rw [hb] at HH
    obtain ⟨y, z, rfl⟩ : ∃ y z, L = [y, z] := by
      match L, h1 with
      | [y, z], _ => exact ⟨y, z, rfl⟩
    obtain ⟨b, off, rfl, hbl, hat⟩ := hat (by simp)
    have d0 := hat 0 y rfl
    simp only [Nat.add_zero] at d0
    have d1 := hat 1 z rfl
    have HD := Lib.hid (tr_any s y z (h5 y (by simp)) (h5 z (by simp)) hl w.drew |>.mono fun e w' hT => txt_weak hT)
    have HF : RowKit.Hid (∀ (w1 : World) (y1 : List UInt8), Below w.drew.heap.size w.drew w1 → TxtGiven w w1 (.returned (.string ⟨y1.toArray⟩))) := Lib.hid fun w1 y1 hB => ⟨⟨_, rfl⟩, ⟨hB.os, hB.tape, hB.output, hB.size, hB.block⟩⟩
    clear hE hat hs h5 h1
    go_enter Tryz.func52, Tryz.ntmps52
    go_wp2_with first
      | (go_at_call 74; (with_reducible refine HH.out.mono ?_); rintro e w' ⟨rfl, rfl⟩)
    go_region_with (go_at_call 99; (with_reducible refine HD.out.mono ?_); rintro e w1 ⟨⟨y1, c1', rfl⟩, hB⟩)
    all_goals
      go_wp2_with fail
      go_ret
      exact HF.out _ _ hB
theorem makes_rd {x : List UInt8} (hx : x ∈ inL) (h : PlanC w D x opts n v) (hs : Strs w v L) (hE : Env w) (ho : opts.length ≤ 1000) (hl : s.length ≤ 900) (h5 : ∀ y, y ∈ L → y.length ≤ 500) (hR : RightP x opts L.length) :
    Calls Tryz.prog 52 #[.pointer (some ⟨D, 0, none⟩), .string ⟨s.toArray⟩] w fun e w' => TxtGiven w w' e := by
  simp only [inL, List.mem_cons, List.not_mem_nil, or_false] at hx
  rcases hx with rfl | rfl | rfl | rfl | rfl | rfl | rfl | rfl
  · exact makes_catR s h
  · exact makes_wc s h hE ho hl
  · exact makes_head s h hE hl
  · exact makes_tail s h hE hl
  · exact makes_grep s h hs hE ho hl (hR.2.1 rfl)
  · exact makes_sort s h hE ho hl
  · exact makes_uniq s h hE ho hl
  · exact makes_tr s h hs hE ho hl h5 (hR.1 rfl)
end
end Go.Proofs.YtbecmcjibpamoaaGreatDoor
namespace Go.Proofs.YtbecmcjibpamoaaGreatDoor
open Go.RowKit IntWalk
section
variable {W0 : World} {s : Fs} {lay : FId → Nat} {D : Nat} {w : World}
set_option maxRecDepth 100000 in
set_option maxHeartbeats 4000000 in
theorem runs_in {d : Dct} {L : List (List UInt8)} (hEG : EnvG W0) (hE : Env W0) (hM : Mild s) (h : DctAt W0 s lay w D d L) (hx : d.x ∈ inL) :
    Calls Tryz.prog 24 #[.pointer (some ⟨D, 0, none⟩)] w fun e w' => DctRes s lay w w' D d e := by
  have hlt := (Array.getElem?_eq_some_iff.1 h.at_).1
  have hxl : d.x.length ≤ 100 := by
    simp only [inL, List.mem_cons, List.not_mem_nil, or_false] at hx
    rcases hx with q | q | q | q | q | q | q | q <;> (rw [q]; decide)
  have hDd : w.drew.heap[D]? = some (dctG d) := h.at_
  have hbd : Below w.heap.size w w.drew := ⟨rfl, rfl, rfl, Nat.le_refl _, fun _ _ => rfl⟩
  have HI := Lib.hid (input_rd (w := w.drew) hEG hE (h.fs.drewN 1) hM hDd h.F h.out h.low (h.ops.st.below hbd) h.ops.vo hx hxl h.right h.ops.len h.ops.each h.si h.err h.st)
  have c0 := (dctG_plan h.at_).c0
  have HE := Lib.hid (fun (V : World) (hb : Below W0.heap.size W0 V) => hE.below hb)
  have HAt := Lib.hid h
  have HK0 := Lib.hid (FK.drew0 h.fs.is)
  have HMK := Lib.hid (fun (out : List UInt8) (w2 : World) (d2 : Dct) (lay2 : FId → Nat) (hk : FK (some D) s lay w s lay2 w2) (hd : w2.heap[D]? = some (dctG d2)) (e1 : d2.x = d.x) (e2 : d2.opts = d.opts) (e3 : d2.n = d.n) (e4 : d2.v = d.v) (hl : out.length ≤ 900) =>
    makes_rd (w := w2) (D := D) (opts := d.opts) (n := d.n) (v := d.v) (L := L) out (x := d.x) hx (by have := dctG_plan hd; rw [e1, e2, e3, e4] at this; exact this) (h.ops.fk hk) (hE.below (hk.fsInD h.fs h.low).below) h.opts hl (fun y hy => by have := h.ops.each y hy; omega) h.right)
  have hDo := h.out
  clear h hE hEG hbd hDd
  simp only [inL, List.mem_cons, List.not_mem_nil, or_false] at hx
  rcases hx with hx | hx | hx | hx | hx | hx | hx | hx
  all_goals
    rw [hx] at c0
    simp only [catRN, wcN, headN, tailN, grepN, sortN, uniqN, trN] at c0
    clear hx
    go_enter Tryz.func24, Tryz.ntmps24
    go_wp2_with fail
    go_region_with (first
      | (go_at_call 52; (with_reducible refine HMk.out.mono ?_); rintro e w3 ⟨⟨y3, rfl⟩, hb3⟩; have HD3 := Lib.hid ((hb3.block D hlt2).trans HD2.out); have n4 := dctG4 HD3.out; have z4 := dctG_fz HD3.out 4; have HB3 := Lib.hid hb3; clear hb3)
      | (go_at_call 47; (with_reducible refine HI.out.mono ?_); intro e w2 hi; obtain ⟨out2, err2, si2, st2, lay2, rfl, ho2, he2, hs0, hs2, hk2, hd2⟩ := hi; have HK2 := Lib.hid (HK0.out.any.trans hk2); have HD2 := Lib.hid hd2; have hlt2 := (Array.getElem?_eq_some_iff.1 hd2).1; have HMk := Lib.hid (HMK.out out2 w2 _ lay2 HK2.out hd2 rfl rfl rfl rfl ho2); clear hk2 hd2))
    have hfk := (HK2.out.below HB3.out).set (HK2.out.out hlt hDo) 4 (.string ⟨y3.toArray⟩)
    have HFK := Lib.hid hfk
    have HDF := Lib.hid (dctG_out HD3.out y3)
    clear hfk n4 z4 HI HMK HMk
    go_wp2_with fail
    go_end0
    exact ⟨rfl, y3, err2, si2, st2, lay2, hs0, hs2, HFK.out, HDF.out⟩
end
end Go.Proofs.YtbecmcjibpamoaaGreatDoor
namespace Go.Proofs.YtbecmcjibpamoaaGreatDoor
open Go.RowKit IntWalk
section
variable {W0 : World} {s : Fs} {lay : FId → Nat} {D : Nat} {w : World}
set_option maxRecDepth 100000 in
set_option maxHeartbeats 4000000 in
theorem runs_say {d : Dct} {L : List (List UInt8)} (hE : Env W0) (h : DctAt W0 s lay w D d L) (hx : d.x = echoN ∨ d.x = printfN) :
    Calls Tryz.prog 24 #[.pointer (some ⟨D, 0, none⟩)] w fun e w' => DctRes s lay w w' D d e := by
  have hlt := (Array.getElem?_eq_some_iff.1 h.at_).1
  have HSy := Lib.hid (says_rd hx (dctG_plan h.at_) h.ops.st h.right (hE.below h.fs.below) (fun y hy => by have := h.ops.each y hy; omega) (by have := h.ops.len; omega))
  have c0 := (dctG_plan h.at_).c0
  have HAt := Lib.hid h
  clear h hE
  rcases hx with hx | hx
  all_goals
    rw [hx] at c0
    simp only [echoN, printfN] at c0
    clear hx
    go_enter Tryz.func24, Tryz.ntmps24
    go_wp2_with first
      | (go_at_call 51; (with_reducible refine HSy.out.mono ?_); rintro e w3 ⟨⟨y3, rfl⟩, hb3⟩; have HD3 := Lib.hid ((hb3.block D hlt).trans HAt.out.at_); have n4 := dctG4 HD3.out; have z4 := dctG_fz HD3.out 4; have HB3 := Lib.hid hb3; clear hb3)
    go_end0
    exact ⟨rfl, y3, d.err, d.si, d.st, lay, HAt.out.st.1, HAt.out.st.2, ((FK.refl HAt.out.fs.is).below HB3.out).set HAt.out.out 4 _, dctG_out HD3.out y3⟩
set_option maxRecDepth 100000 in
set_option maxHeartbeats 4000000 in
theorem runs_none {d : Dct} {L : List (List UInt8)} (h : DctAt W0 s lay w D d L) (hx : d.x = trueN ∨ d.x = falseN) :
    Calls Tryz.prog 24 #[.pointer (some ⟨D, 0, none⟩)] w fun e w' => DctRes s lay w w' D d e := by
  have c0 := (dctG_plan h.at_).c0
  have HAt := Lib.hid h
  clear h
  rcases hx with hx | hx
  all_goals
    rw [hx] at c0
    simp only [trueN, falseN] at c0
    clear hx
    go_enter Tryz.func24, Tryz.ntmps24
    go_wp2
    go_end0
    exact ⟨rfl, d.out, d.err, d.si, d.st, lay, HAt.out.st.1, HAt.out.st.2, FK.refl HAt.out.fs.is, HAt.out.at_⟩
end
def EndsRes (w w' : World) (D : Nat) (d : Dct) (e : Ending) : Prop := e = .returned (.tuple #[]) ∧ ∃ st' : Int, 0 ≤ st' ∧ st' ≤ 2 ∧ w'.heap[D]? = some (dctG { d with st := st' }) ∧ Turned (fun j => j = D) w w'
set_option maxRecDepth 100000 in
set_option maxHeartbeats 4000000 in
theorem ends_any {w : World} {D : Nat} {d : Dct} (h : w.heap[D]? = some (dctG d)) (h0 : 0 ≤ d.st) (h2 : d.st ≤ 2) :
    Calls Tryz.prog 25 #[.pointer (some ⟨D, 4, none⟩), .pointer (some ⟨D, 0, none⟩)] w fun e w' => EndsRes w w' D d e := by
  have c0 := (dctG_plan h).c0
  have c4 := dctG4 h
  have c6 := dctG6 h
  have z6 := dctG_fz h 6
  have HD := Lib.hid h
  obtain ⟨x, opts, n, v, out, err, st, F, si⟩ := d
  dsimp only at c0 c4 c6 h0 h2
  clear h
  go_enter Tryz.func25, Tryz.ntmps25
  go_wp2
  all_goals
    go_end0
    first
    | exact ⟨rfl, st, h0, h2, HD.out, Turned.refl _ _⟩
    | exact ⟨rfl, max 0 1, by decide, by decide, dctG_st HD.out _, Turned.ofSet D 6 _⟩
    | exact ⟨rfl, max st 1, by omega, by omega, dctG_st HD.out _, Turned.ofSet D 6 _⟩
end Go.Proofs.YtbecmcjibpamoaaGreatDoor
namespace Go.Proofs.YtbecmcjibpamoaaGreatDoor
open Go.RowKit IntWalk
section
variable {W0 : World} {s : Fs} {lay : FId → Nat} {D : Nat} {w : World}
theorem clone_own (g c : Nat) (L : List (List UInt8)) (w : World) (hv : Strs w (.slice (some ⟨g, 0, none⟩) L.length c) L) (hl : L.length ≤ 100000) :
    Calls Tryz.prog 43 #[.slice (some ⟨g, 0, none⟩) L.length c] w fun e w' => (∃ u, e = .returned u ∧ OwnS w' w.heap.size u L) ∧ Below w.heap.size w w' := by
  refine (Tryz.slices_Clone_string g 0 L.length c (L.map fun y => ⟨y.toArray⟩) w (by simp) (by omega) (fun j hj => ?_)).mono ?_
  · rw [List.length_map] at hj
    obtain ⟨a, cap, he, hcap, hat⟩ := hv.shape
    cases he
    obtain ⟨g', o, he, hgl, hr⟩ := hat (by omega)
    cases he
    have := hr j L[j] (List.getElem?_eq_getElem hj)
    rw [this]
    simp [List.getD_eq_getElem?_getD, hj]
  · rintro e w' ⟨v, rfl, hrow, _, hb⟩
    rw [show ((L.map fun y => (⟨y.toArray⟩ : ByteArray)).take L.length) = L.map fun y => ⟨y.toArray⟩ by rw [List.take_of_length_le (by simp)]] at hrow
    exact ⟨⟨v, rfl, by unfold OwnS; rw [List.map_map] at hrow; exact hrow⟩, hb⟩
set_option maxRecDepth 100000 in
set_option maxHeartbeats 4000000 in
theorem runs_ls {d : Dct} {L : List (List UInt8)} (hEG : EnvG W0) (hE : Env W0) (hM : Mild s) (hT : Tr s) (h : DctAt W0 s lay w D d L) (hx : d.x = lsN) :
    Calls Tryz.prog 24 #[.pointer (some ⟨D, 0, none⟩)] w fun e w' => DctRes s lay w w' D d e := by
  have hlt := (Array.getElem?_eq_some_iff.1 h.at_).1
  have hxl : d.x.length ≤ 100 := by rw [hx]; decide
  have c0 := (dctG_plan h.at_).c0
  have c3 := (dctG_plan h.at_).c3
  rw [hx] at c0
  unfold lsN at c0
  obtain ⟨g, c, hv⟩ := h.ops.addr
  have hst := h.ops.st
  rw [hv] at c3 hst
  have HC := Lib.hid (clone_own g c L w hst (by have := h.ops.len; omega))
  have HAt := Lib.hid h
  have hLl := h.ops.len
  have HL := Lib.hid (fun (y : List UInt8) (w2 : World) (hb : Below w.heap.size w w2) (hy : y.length ≤ 1000) => list_rd (w := w2) (D := D) (d := d) y hEG hE (h.fs.kept1 hb) hM hT ((hb.block D hlt).trans h.at_) h.F h.out h.low hy hxl h.err h.ou h.st)
  clear h hE hEG hv hst
  have h5 : ∀ y, y ∈ L ++ [[46]] → y.length ≤ 300 := fun y hy => by
    rcases List.mem_append.1 hy with q | q
    · exact HAt.out.ops.each y q
    · simp at q; subst q; simp
  have H5 := Lib.hid h5
  clear h5
  go_enter Tryz.func24, Tryz.ntmps24
  go_wp2_with first
    | (go_at_call 43; (with_reducible refine HC.out.mono ?_); rintro e w2 ⟨⟨u, rfl, hou⟩, hb2⟩; have HU := Lib.hid hou; have HB2 := Lib.hid hb2; clear hou hb2)
    | (at_builtin; refine append_s rfl _ _ rfl w.heap.size _ _ rfl HU.out [46] rfl (by omega) HB2.out.size ?_; intro v1 w3 hown1 hg1; have hB3 := below_ownS HB2.out HU.out hg1 HB2.out.size; have HB3 := Lib.hid hB3; obtain ⟨M, hM⟩ : ∃ M, L ++ [[46]] = M := ⟨_, rfl⟩; rw [hM] at hown1; have hMl : 0 < M.length := (by rw [← hM]; simp); have hst1 := hown1.strs (fun x hx => by have := H5.out x (hM ▸ hx); unfold maxLen; omega); obtain ⟨a1, k1, hv1, hk1, hat1⟩ := hst1.shape; subst hv1; obtain ⟨b1, o1, ha1, hbl1, hat2⟩ := hat1 hMl; subst ha1; obtain ⟨y, hy⟩ : ∃ y, M[0]? = some y := ⟨_, List.getElem?_eq_getElem hMl⟩; have e0 := hat2 0 y hy; simp only [Nat.add_zero] at e0; have hyl := H5.out y (hM ▸ List.mem_of_getElem? hy); have hMi : (0 : Int) < (M.length : Int) := (by omega); have HLy := Lib.hid (HL.out y w3 HB3.out (by omega)); clear hown1 hg1 hB3 hst1 hat1 hat2 hM hy)
    | (go_at_call 50; (with_reducible refine HLy.out.mono ?_); intro e w4 hd; obtain ⟨rfl, out4, err4, si4, st4, lay4, h40, h42, hk4, hd4⟩ := hd; have HK4 := Lib.hid (FK.preE HB3.out hk4); have HD4 := Lib.hid hd4; clear hk4 hd4)
  go_end0
  exact ⟨rfl, out4, err4, si4, st4, lay4, h40, h42, HK4.out, HD4.out⟩
theorem runs_rd {d : Dct} {L : List (List UInt8)} (hEG : EnvG W0) (hE : Env W0) (hM : Mild s) (hT : Tr s) (hx : d.x ∈ rdL) (h : DctAt W0 s lay w D d L) :
    Calls Tryz.prog 24 #[.pointer (some ⟨D, 0, none⟩)] w fun e w' => DctRes s lay w w' D d e := by
  by_cases hi : d.x ∈ inL
  · exact runs_in hEG hE hM h hi
  · simp only [rdL, List.mem_cons, List.not_mem_nil, or_false] at hx
    simp only [inL, List.mem_cons, List.not_mem_nil, or_false, not_or] at hi
    obtain ⟨i1, i2, i3, i4, i5, i6, i7, i8⟩ := hi
    rcases hx with hx | hx | hx | hx | hx | hx | hx | hx | hx | hx | hx | hx | hx
    all_goals first
      | exact absurd hx (by assumption)
      | exact runs_ls hEG hE hM hT h hx
      | exact runs_say hE h (.inl hx)
      | exact runs_say hE h (.inr hx)
      | exact runs_none h (.inl hx)
      | exact runs_none h (.inr hx)
end
end Go.Proofs.YtbecmcjibpamoaaGreatDoor
namespace Go.Proofs.YtbecmcjibpamoaaGreatDoor
open Go.RowKit IntWalk
theorem done_at {w : World} {b : Nat} {v0 v1 v2 : Value} (h : w.heap[b]? = some (.cells #[v0, v1, v2] 32 (0, 0))) :
    (w.cell? ⟨b, 0, none⟩ = some v0 ∧ w.cell? ⟨b, 1, none⟩ = some v1 ∧ w.cell? ⟨b, 2, none⟩ = some v2) ∧ w.frozen? ⟨b, 0, none⟩ = false ∧ w.frozen? ⟨b, 1, none⟩ = false ∧ w.frozen? ⟨b, 2, none⟩ = false := by
  refine ⟨⟨?_, ?_, ?_⟩, ?_, ?_, ?_⟩
  all_goals first
    | (unfold World.cell?; dsimp only; rw [h]; rfl)
    | simp [World.frozen?, h]
def DoneIs (e : Ending) : Prop := ∃ (out err : List UInt8) (st : Int), e = .returned (.agg #[.string ⟨out.toArray⟩, .string ⟨err.toArray⟩, .int .i64 st]) ∧ 0 ≤ st ∧ st ≤ 2
set_option maxRecDepth 100000 in
theorem misuse_any {w : World} {P : Nat} {x opts : List UInt8} {n : Int} {v : Value} (h : PlanC w P x opts n v) (hx : x.length ≤ 100) :
    Calls Tryz.prog 23 #[.pointer (some ⟨P, 0, none⟩)] w fun e w' => (∃ err : List UInt8, e = .returned (.agg #[.string ⟨#[]⟩, .string ⟨err.toArray⟩, .int .i64 2])) ∧ Below w.heap.size w w' := by
  obtain ⟨c0, c1, c2, c3⟩ := h
  have hPl := World.block_lt_of_cell? w _ c0
  obtain ⟨w1, hw1⟩ : ∃ w1, w.alloc (.cells #[.string ⟨#[]⟩, .string ⟨#[]⟩, .int .i64 0] 32) = w1 := ⟨_, rfl⟩
  have hB1 : Below w.heap.size w w1 := by rw [← hw1]; exact (Below.refl _ w).alloc (Nat.le_refl _) _
  have hR1 : w1.heap[w.heap.size]? = some (.cells #[.string ⟨#[]⟩, .string ⟨#[]⟩, .int .i64 0] 32 (0, 0)) := by rw [← hw1]; exact alloc_at _ _
  have d0 := keep_cell c0 hB1
  obtain ⟨⟨r0, r1, r2⟩, z0, z1, z2⟩ := done_at hR1
  have hf : ¬ 9223372036854775807 < x.length + 10 := by omega
  have HB1 := Lib.hid hB1
  have HR1 := Lib.hid hR1
  have HW1 := Lib.hid hw1
  clear hB1 hR1 c1 c2 c3 hw1 d0 r0 r1 r2 z0 z1 z2
  go_enter Tryz.func23, Tryz.ntmps23
  go_wp2_with fail
  refine bodyPost_ret (done_ret _ _ _ _ _ (alloc_at w _) rfl _ rfl) rfl ?_
  exact ⟨⟨_, rfl⟩, (Below.refl _ w).alloc (Nat.le_refl _) _⟩
def doneZ : Obj := .cells #[.string ⟨#[]⟩, .string ⟨#[]⟩, .int .i64 0] 32 (0, 0)
section
variable {W0 : World} {s : Fs} {lay : FId → Nat}
set_option maxRecDepth 100000 in
set_option maxHeartbeats 4000000 in
theorem direct_rd {w : World} {ga oa ca : Nat} {x si : List UInt8} {L : List (List UInt8)} (hx : x ∈ rdL) (hE : Env W0) (h : FsIn W0 s lay w) (hR : RowAt w ga oa (x :: L)) (hgl : ga < w.heap.size) (hc : L.length + 1 ≤ ca) (hl : L.length ≤ 9) (h5 : ∀ y, y ∈ L → y.length ≤ 300) (hsi : si.length ≤ 500)
    (hRun : ∀ (V : World) (D : Nat) (d : Dct) (M : List (List UInt8)), d.x = x → DctAt W0 s lay V D d M → Calls Tryz.prog 24 #[.pointer (some ⟨D, 0, none⟩)] V fun e w' => DctRes s lay V w' D d e) :
    Calls Tryz.prog 9 #[ptrTo (lay .F), .int .i64 1, .string ⟨si.toArray⟩, .slice (some ⟨ga, oa, none⟩) (L.length + 1) ca] w fun e w' => DoneIs e ∧ ∃ lay', FK none s lay w s lay' w' := by
  have hxl : x.length ≤ 100 := by
    simp only [rdL, List.mem_cons, List.not_mem_nil, or_false] at hx
    rcases hx with rfl | rfl | rfl | rfl | rfl | rfl | rfl | rfl | rfl | rfl | rfl | rfl | rfl <;> decide
  have HKn := Lib.hid (fun (V : World) => known_rd x hx V)
  have HPa := Lib.hid (fun (V : World) (hb : Below w.heap.size w V) (hEV : Env V) => parse_rd x L hx ga oa ca V (hR.below hgl (hb.mono (Nat.le_refl _))) (Nat.lt_of_lt_of_le hgl hb.size) hc (by omega) (fun y hy => by have := h5 y hy; omega) hEV)
  have HRun := Lib.hid hRun
  have HIN := Lib.hid h
  have H5 := Lib.hid h5
  have HE := Lib.hid (fun (V : World) (hb : Below w.heap.size w V) => hE.below (h.kept1 hb).below)
  have d0 := hR 0 x rfl
  simp only [Nat.add_zero] at d0
  have hout : ∀ b, w.heap.size ≤ b → ¬ Owns (s.obj lay) lay b := fun b hb q => by have := h.is.lies.owns_lt q; omega
  have HOut := Lib.hid hout
  have hlow := h.below.size
  obtain ⟨wa, hwa⟩ : ∃ wa, w.alloc (.cells #[.string ⟨#[]⟩, .string ⟨#[]⟩, .int .i64 0] 32) = wa := ⟨_, rfl⟩
  have hBa : Below w.heap.size w wa := by rw [← hwa]; exact (Below.refl _ w).alloc (Nat.le_refl _) _
  have hRa : wa.heap[w.heap.size]? = some doneZ := by rw [← hwa]; exact alloc_at _ _
  have da : wa.cell? ⟨ga, oa, none⟩ = some (.string ⟨x.toArray⟩) := (hBa.cell (p := ⟨ga, oa, none⟩) hgl).trans d0
  have HBa := Lib.hid hBa
  have HRa := Lib.hid hRa
  have h0 : (((L.length + 1 : Nat) : Int) == 0) = false := by rw [beq_eq_false_iff_ne]; omega
  have hp : (0 : Int) < ((L.length + 1 : Nat) : Int) := by omega
  clear hR hRun h hx hBa hRa d0 hout h5 hE
  unfold ptrTo at *
  go_enter Tryz.func9, Tryz.ntmps9
  go_wp2_with first
    | (go_at_call 20; (refine (HKn.out wa).mono ?_); rintro e w1 ⟨rfl, hb1⟩; have HB1 := Lib.hid (HBa.out.trans (hb1.mono HBa.out.size)); have HR1 := Lib.hid ((hb1.block _ (Array.getElem?_eq_some_iff.1 HRa.out).1).trans HRa.out); clear hb1)
  refine (HPa.out w1 HB1.out (HE.out w1 HB1.out)).mono ?_
  intro e w2 hpr
  obtain ⟨⟨opts, n, v, b, M, rfl, hol, hs2, hvb, hml, hmy, hbr⟩, hb2⟩ := hpr
  have HB2 := Lib.hid (HB1.out.trans (hb2.mono HB1.out.size))
  have HR2 := Lib.hid ((hb2.block _ (Array.getElem?_eq_some_iff.1 HR1.out).1).trans HR1.out)
  have hrlt : w.heap.size < w2.heap.size := (Array.getElem?_eq_some_iff.1 HR2.out).1
  have hs12 := hb2.size
  have hs1 := HB1.out.size
  obtain ⟨av, cv, hve, hcv, hav⟩ := hs2.shape
  subst hve
  have HS2 := Lib.hid hs2
  have HVB := Lib.hid hvb
  have HMY := Lib.hid hmy
  have HBR := Lib.hid hbr
  clear hb2 hs2 hvb hmy hbr hav HPa HKn
  cases b with
  | false =>
    have hbE : Below w2.heap.size w2 (w2.alloc (planQ x opts n (.slice av M.length cv))) := (Below.refl _ w2).alloc (Nat.le_refl _) _
    have HMi := Lib.hid (misuse_any (PlanC.of (alloc_at w2 (planQ x opts n (.slice av M.length cv)))) hxl)
    have hRE := (hbE.block _ hrlt).trans HR2.out
    obtain ⟨E1, hE1⟩ : ∃ E1, w2.alloc (planQ x opts n (.slice av M.length cv)) = E1 := ⟨_, rfl⟩
    rw [hE1] at hbE HMi hRE
    have HRE := Lib.hid hRE
    have HBE := Lib.hid (HB2.out.trans (hbE.mono (by omega)))
    have hltE : w.heap.size < E1.heap.size := (Array.getElem?_eq_some_iff.1 hRE).1
    have HE1 := Lib.hid hE1
    unfold planQ at hE1
    have HE2 := Lib.hid hE1
    clear hE1 hbE hRE HBR HVB HMY
    go_wp2_with fail
    rw [HE2.out]
    refine HMi.out.mono ?_
    rintro e w3 ⟨⟨err, rfl⟩, hb3⟩
    have hR3 := (hb3.block _ hltE).trans HRE.out
    unfold doneZ at hR3
    obtain ⟨⟨r0, r1, r2⟩, z0, z1, z2⟩ := done_at hR3
    have HR3 := Lib.hid hR3
    have HB3 := Lib.hid (HBE.out.trans (hb3.mono HBE.out.size))
    clear hb3 hR3
    go_wp2_with fail
    (try simp only [Exit.inBlock, Exit.then])
    refine bodyPost_ret (done_ret _ _ _ _ _ (done_three HR3.out _ _ _) rfl _ rfl) rfl ?_
    have hO := HOut.out w.heap.size (Nat.le_refl _)
    have h1 := (((FK.refl (ex := none) HIN.out.is).below HB3.out).any (ex := some w.heap.size)).set hO 0 (.string ⟨#[]⟩)
    have h2 := h1.set hO 1 (.string ⟨err.toArray⟩)
    have h3 := h2.set hO 2 (.int .i64 2)
    exact ⟨⟨[], err, 2, rfl, by decide, by decide⟩, lay, h3.drop (Nat.le_refl _)⟩
  | true =>
    obtain ⟨hright, gv, cv2, hve⟩ := HBR.out rfl
    have hbd : Below w2.heap.size w2 ((w2.alloc (planQ x opts n (.slice av M.length cv))).alloc (dctG ⟨x, opts, n, .slice av M.length cv, [], [], 0, lay .F, si⟩)) := ((Below.refl _ w2).alloc (Nat.le_refl _) _).alloc (by simp) _
    have hDE : ((w2.alloc (planQ x opts n (.slice av M.length cv))).alloc (dctG ⟨x, opts, n, .slice av M.length cv, [], [], 0, lay .F, si⟩)).heap[w2.heap.size + 1]? = some (dctG ⟨x, opts, n, .slice av M.length cv, [], [], 0, lay .F, si⟩) := by
      have := alloc_at (w2.alloc (planQ x opts n (.slice av M.length cv))) (dctG ⟨x, opts, n, .slice av M.length cv, [], [], 0, lay .F, si⟩)
      simpa using this
    have hs2w := HB2.out.size
    have hbw := HB2.out.trans (hbd.mono hs2w)
    have hRE := (hbd.block _ hrlt).trans HR2.out
    have hls := hbd.size
    have hlts := (Array.getElem?_eq_some_iff.1 hDE).1
    have hAt : DctAt W0 s lay ((w2.alloc (planQ x opts n (.slice av M.length cv))).alloc (dctG ⟨x, opts, n, .slice av M.length cv, [], [], 0, lay .F, si⟩)) (w2.heap.size + 1) ⟨x, opts, n, .slice av M.length cv, [], [], 0, lay .F, si⟩ M :=
      ⟨HIN.out.kept1 hbw, hDE, rfl, HOut.out _ (by omega), by omega, ⟨HS2.out.below hbd, fun q hq => by
        have h1 := HVB.out q hq
        exact ⟨by omega, HOut.out q (by omega)⟩, by omega, fun y hy => H5.out y (HMY.out y hy), ⟨gv, cv2, hve⟩⟩, hright, by show opts.length ≤ 1000; omega, hsi, by simp, by simp, by simp⟩
    have HC := Lib.hid (HRun.out _ (w2.heap.size + 1) ⟨x, opts, n, .slice av M.length cv, [], [], 0, lay .F, si⟩ M rfl hAt)
    obtain ⟨E0, hE0⟩ : ∃ E0, ((w2.alloc (planQ x opts n (.slice av M.length cv))).alloc (dctG ⟨x, opts, n, .slice av M.length cv, [], [], 0, lay .F, si⟩)) = E0 := ⟨_, rfl⟩
    rw [hE0] at hRE HC hbw hls hlts
    have HRE := Lib.hid hRE
    have HBW := Lib.hid hbw
    clear hbd hDE hbw hRE hAt HRun HBR HVB HMY hright hve
    unfold dctG dctGV ptrTo planQ at hE0
    dsimp only at hE0
    rw [show (List.toArray ([] : List UInt8)) = #[] from rfl] at hE0
    have HE0 := Lib.hid hE0
    clear hE0
    go_wp2_with fail
    rw [HE0.out]
    refine HC.out.mono ?_
    intro e w3 hdr
    obtain ⟨rfl, out, err, si3, st3, lay3, hst0, hst2, hk3, hD3⟩ := hdr
    have hwlt : w.heap.size < E0.heap.size := by omega
    have hoD : ¬ Owns (s.obj lay) lay (w2.heap.size + 1) := HOut.out _ (by omega)
    have hoD3 := hk3.out hlts hoD
    have hO := hk3.out hwlt (HOut.out _ (Nat.le_refl _))
    have hR3 := (hk3.heap hwlt (HOut.out _ (Nat.le_refl _)) (by intro q; have := Option.some.inj q; omega)).trans HRE.out
    have hD3d : w3.drew.heap[w2.heap.size + 1]? = some (dctG ⟨x, opts, n, .slice av M.length cv, out, err, st3, lay .F, si3⟩) := hD3
    have HEn := Lib.hid (ends_any hD3d hst0 hst2)
    have HK3 := Lib.hid ((FK.preE HBW.out hk3).trans (FK.drew0 hk3.is).any)
    have HR3 := Lib.hid (show w3.drew.heap[w.heap.size]? = some doneZ from hR3)
    have hr3lt : w.heap.size < w3.drew.heap.size := (Array.getElem?_eq_some_iff.1 hR3).1
    clear hk3 hD3 hD3d hR3 HC HE0
    go_wp2_with fail
    go_region_with (go_at_call 25; (with_reducible refine HEn.out.mono ?_); rintro e w4 ⟨rfl, st4, h40, h42, hD4, ht4⟩; have f4 := dctG4 hD4; have f5 := dctG5 hD4; have f6 := dctG6 hD4; have hR4 := (ht4.block w.heap.size hr3lt (by omega)).trans HR3.out; unfold doneZ at hR4; obtain ⟨⟨r0, r1, r2⟩, z0, z1, z2⟩ := done_at hR4; have HR4 := Lib.hid hR4; have HK4 := Lib.hid ((HK3.out.trans (FK.ofTurned HK3.out.is ht4 hoD3)).drop (by omega)); clear hD4 ht4 hR4)
    all_goals
      go_wp2_with fail
      (try simp only [Exit.inBlock, Exit.then])
      refine bodyPost_ret (done_ret _ _ _ _ _ (done_three HR4.out _ _ _) rfl _ rfl) rfl ?_
      have h1 := (HK4.out.any (ex := some w.heap.size)).set hO 0 (.string ⟨out.toArray⟩)
      have h2 := h1.set hO 1 (.string ⟨err.toArray⟩)
      have h3 := h2.set hO 2 (.int .i64 st4)
      exact ⟨⟨out, err, st4, rfl, h40, h42⟩, lay3, h3.drop (Nat.le_refl _)⟩
end
end Go.Proofs.YtbecmcjibpamoaaGreatDoor
