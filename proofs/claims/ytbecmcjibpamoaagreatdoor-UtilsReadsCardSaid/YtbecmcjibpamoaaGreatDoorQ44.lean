/- UrG UrM UrMd OwnS Open UrT -/
import Derived.Test.YtbecmcjibpamoaaGreatDoorQ43
import Derived.Test.YtbecmcjibpamoaaGreatDoorQ39
import Derived.Test.YtbecmcjibpamoaaGreatDoorQ40
import Derived.Test.YtbecmcjibpamoaaGreatDoorQ01
import Derived.ProofKit
import Derived.OpenShut
import Derived.Deep.Strs
import Derived.Deep.Slices
import Derived.SliceStrings
import Derived.Test.YtbecmcjibpamoaaGreatDoorQ37
import Derived.Laws.AppendOwnNone
set_option linter.unusedVariables false
set_option linter.unusedSimpArgs false
set_option linter.deprecated false
set_option linter.unnecessarySimpa false
namespace Go.Proofs.YtbecmcjibpamoaaGreatDoor
open Go.RowKit IntWalk
def inL : List (List UInt8) := [catRN, wcN, headN, tailN, grepN, sortN, uniqN, trN]
def SrcRes (u : Value) (w w' : World) (L : List (List UInt8)) (e : Ending) : Prop :=
  (∃ (v : Value) (M : List (List UInt8)), e = .returned v ∧ Strs w' v M ∧ M.length ≤ L.length + 1 ∧ (∀ y, y ∈ M → y = [45] ∨ y ∈ L) ∧ ∀ b, vblk v = some b → vblk u = some b ∨ w.heap.size ≤ b) ∧ Below w.heap.size w w'
theorem src_own {w : World} {v : Value} {L : List (List UInt8)} (h : Strs w v L) : SrcRes v w w L (.returned v) := ⟨⟨v, L, rfl, h, by omega, fun y hy => .inr hy, fun b hb => .inl hb⟩, Below.refl _ _⟩
theorem src_in {u : Value} {w : World} {L : List (List UInt8)} : SrcRes u w (w.alloc (.cells #[.string ⟨#[45]⟩] 9)) L (.returned (.slice (some ⟨w.heap.size, 0, none⟩) 1 1)) :=
  ⟨⟨_, [[45]], rfl, strs_lit w [[45]] _ 1 rfl (by simp) (by intro x hx; simp at hx; subst hx; unfold maxLen; simp) (by simp) _, by simp, fun y hy => .inl (by simpa using hy), fun b hb => .inr (by cases hb; exact Nat.le_refl _)⟩, below_alloc _ _⟩
theorem strs_cons {w : World} {a : Option Addr} {n cap : Nat} {f : List UInt8} {L : List (List UInt8)} (h : Strs w (.slice a n cap) (f :: L)) : ∃ b off, a = some ⟨b, off, none⟩ ∧ b < w.heap.size ∧ n = L.length + 1 ∧ L.length + 1 ≤ cap ∧ w.cell? ⟨b, off, none⟩ = some (.string ⟨f.toArray⟩) ∧
    ∃ o', (if cap = 1 then some (⟨b, off, none⟩ : Addr) else some ⟨b, off + 1, none⟩) = some ⟨b, o', none⟩ ∧ Strs w (.slice (some ⟨b, o', none⟩) L.length (cap - 1)) L := by
  obtain ⟨a', c', he, hc, hat⟩ := h.shape
  cases he
  obtain ⟨b, off, rfl, hbl, hat⟩ := hat (by simp)
  have d0 := hat 0 f rfl
  simp only [Nat.add_zero] at d0
  rw [List.length_cons] at hc
  have hr : RowAt w b off (f :: L) := fun i y hy => hat i y hy
  obtain ⟨o', ho', hr'⟩ := row_after (k := 1) (c := cap) hr (by simp) (by simpa using hc)
  rw [List.drop_succ_cons, List.drop_zero] at hr'
  refine ⟨b, off, rfl, hbl, by simp, hc, d0, o', ho', ?_⟩
  exact ⟨by have := h.len; simp at this; omega, ⟨_, _, rfl, by omega, fun hp => ⟨b, o', rfl, hbl, fun i y hy => hr' i y hy⟩⟩, fun i y hy => h.ok (i + 1) y (by simpa using hy)⟩
set_option maxRecDepth 100000 in
set_option maxHeartbeats 2000000 in
theorem sources_rd {w : World} {D : Nat} {x opts : List UInt8} {n : Int} {v : Value} {L : List (List UInt8)} (hx : x ∈ inL) (h : PlanC w D x opts n v) (hs : Strs w v L) (hR : RightP x opts L.length) :
    Calls Tryz.prog 83 #[.pointer (some ⟨D, 0, none⟩)] w fun e w' => SrcRes v w w' L e := by
  obtain ⟨c0, c1, c2, c3⟩ := h
  by_cases htr : x = trN
  · subst htr
    obtain ⟨a, cap, hv, hcap, hat⟩ := hs.shape
    subst hv
    clear hs hR hcap hat
    unfold trN at c0
    have HS := Lib.hid (@src_in (.slice a L.length cap) w L)
    go_enter Tryz.func83, Tryz.ntmps83
    go_wp2
    go_ret
    exact HS.out
  by_cases hgr : x = grepN
  · have hl := hR.2.1 hgr
    subst hgr
    clear hR
    unfold grepN at c0
    cases L with
    | nil => simp at hl
    | cons f L =>
      obtain ⟨a, cap, hv, hcap, hat⟩ := hs.shape
      subst hv
      obtain ⟨b, off, rfl, hbl, -, hc, d0, o', ho', hs'⟩ := strs_cons hs
      rw [List.length_cons] at c3
      have HS := Lib.hid (fun w' => @src_in (.slice (some ⟨b, off, none⟩) (f :: L).length cap) w' (f :: L))
      have hso := src_own hs'
      have HS2 := Lib.hid (show SrcRes (.slice (some ⟨b, off, none⟩) (f :: L).length cap) w w (f :: L) (.returned (.slice (some ⟨b, o', none⟩) L.length (cap - 1))) from ⟨let ⟨v, M, h1, h2, h3, h4, h5⟩ := hso.1; ⟨v, M, h1, h2, by simp; omega, fun y hy => (h4 y hy).elim .inl fun q => .inr (by simp [q]), fun q hq => (h5 q hq).elim (fun z => .inl z) .inr⟩, hso.2⟩)
      have HO := Lib.hid ho'
      have h12 : (1 : Int) ≤ (L.length : Int) + 1 := by omega
      have h13 : (L.length : Int) + 1 ≤ (cap : Int) := by omega
      clear hs hs' hat hso ho' hcap hl
      go_enter Tryz.func83, Tryz.ntmps83
      go_wp2_with fail
      all_goals
        have e1 := HO.out
        first | rw [if_pos (by assumption)] at e1 | rw [if_neg (by assumption)] at e1
        cases e1
        go_ret
        first | exact HS2.out | exact HS.out _ | (have hc1 : cap = 1 := by assumption
                                                  subst hc1
                                                  exact HS2.out)
  · obtain ⟨a, cap, hv, hcap, hat⟩ := hs.shape
    subst hv
    have HS := Lib.hid (@src_in (.slice a L.length cap) w L)
    have HS2 := Lib.hid (src_own hs)
    obtain ⟨k, hk⟩ : ∃ k, L.length = k := ⟨_, rfl⟩
    rw [hk] at c3 HS2 HS ⊢
    simp only [inL, List.mem_cons, List.not_mem_nil, or_false] at hx
    clear hR hs hat hcap hk
    rcases hx with rfl | rfl | rfl | rfl | rfl | rfl | rfl | rfl
    all_goals first
      | exact absurd rfl hgr
      | exact absurd rfl htr
      | (simp only [catRN, wcN, headN, tailN, sortN, uniqN] at c0
         clear hgr htr
         go_enter Tryz.func83, Tryz.ntmps83
         go_wp2
         all_goals
           go_ret
           first | exact HS2.out | exact HS.out)
end Go.Proofs.YtbecmcjibpamoaaGreatDoor
namespace Go.Proofs.YtbecmcjibpamoaaGreatDoor
open Go.RowKit IntWalk
section
variable {W0 : World} {s : Fs} {lay lay' : FId → Nat} {D : Nat} {w w' : World}
theorem FK.fsInD (h : FK (some D) s lay w s lay' w') (hF : FsIn W0 s lay w) (hD : W0.heap.size ≤ D) : FsIn W0 s lay' w' :=
  ⟨h.is, fun k hk => (h.own k hk).elim (hF.low k) (fun q => Nat.le_trans hF.below.size q), ⟨h.turned.os.trans hF.below.os, h.turned.tape.trans hF.below.tape, h.turned.output.trans hF.below.output, Nat.le_trans hF.below.size h.turned.size, fun k hk => (h.turned.block k (Nat.lt_of_lt_of_le hk hF.below.size) (fun q => q.elim (fun q => by have := hF.low k q; omega) (fun q => by cases q; omega))).trans (hF.below.block k hk)⟩, hF.whole⟩
theorem FK.preE {s' : Fs} {ex : Option Nat} {w1 : World} (hb : Below w.heap.size w w1) (h : FK ex s lay w1 s' lay' w') : FK ex s lay w s' lay' w' :=
  ⟨h.is, h.F, ⟨h.turned.os.trans hb.os, h.turned.tape.trans hb.tape, h.turned.output.trans hb.output, Nat.le_trans hb.size h.turned.size, fun k hk hn => (h.turned.block k (Nat.lt_of_lt_of_le hk hb.size) hn).trans (hb.block k hk)⟩, fun k hk => (h.own k hk).elim .inl (fun q => .inr (Nat.le_trans hb.size q))⟩
theorem FK.ofTurned (h : FsIs s lay w) (ht : Turned (fun j => j = D) w w') (ho : ¬ Owns (s.obj lay) lay D) : FK (some D) s lay w s lay w' :=
  ⟨⟨h.lies.kept fun i hi => ht.block _ (h.lies.owns_lt ⟨i, hi, rfl⟩) (fun q => ho (q ▸ ⟨i, hi, rfl⟩)), h.ok⟩, rfl, ⟨ht.os, ht.tape, ht.output, ht.size, fun k hk hn => ht.block k hk (fun q => hn (.inr (by rw [q])))⟩, fun _ hk => .inl hk⟩
theorem FK.drew0 (h : FsIs s lay w) : FK none s lay w s lay w.drew := FK.of ((Step.refl h).drewN 1) rfl
theorem rd_none {c : Int} {y : List UInt8} (hEG : EnvG W0) (h : FsIn W0 s lay w) (hy : y.length ≤ 100000) (ho : s.openS 1 y 1 = (none, c, s)) :
    Calls Tryz.prog 84 #[ptrTo (lay .F), .int .i64 1, .string ⟨y.toArray⟩, .int .i64 1] w fun e w' => e = .returned (.tuple #[.pointer none, .int .i64 c]) ∧ ∃ lay', FK none s lay w s lay' w' := by
  refine (open_any hEG 1 y 1 hy w h flags1).mono ?_
  rw [ho]
  rintro e w' ⟨lay', hF, hst, he⟩
  exact ⟨he, lay', FK.of hst hF⟩
theorem rd_some {i : Int} {s1 : Fs} {y : List UInt8} (hEG : EnvG W0) (h : FsIn W0 s lay w) (hy : y.length ≤ 100000) (ho : s.openS 1 y 1 = (some i, 0, s1)) :
    Calls Tryz.prog 84 #[ptrTo (lay .F), .int .i64 1, .string ⟨y.toArray⟩, .int .i64 1] w fun e w' => ∃ b lay', e = .returned (.tuple #[ptrTo b, .int .i64 0]) ∧ FK none s lay w s1 lay' w' ∧ w.heap.size ≤ b ∧ ¬ Owns (s1.obj lay') lay' b ∧ w'.heap[b]? = some (.cells (fileV lay' i 0 1 false) 177 (0, 0)) := by
  refine (open_any hEG 1 y 1 hy w h flags1).mono ?_
  rw [ho]
  rintro e w' ⟨lay', hF, hst, b, hb1, hb2, hb3, he⟩
  exact ⟨b, lay', he, FK.of hst hF, hb1, hb2, by unfold fileV at hb3 ⊢; rw [hF]; exact hb3⟩
def InRes (s : Fs) (lay : FId → Nat) (w w' : World) (D : Nat) (d : Dct) (e : Ending) : Prop :=
  ∃ (out err si : List UInt8) (st : Int) (lay' : FId → Nat), e = .returned (.string ⟨out.toArray⟩) ∧ out.length ≤ 900 ∧ err.length ≤ 100000 ∧ 0 ≤ st ∧ st ≤ 2 ∧ FK (some D) s lay w s lay' w' ∧ w'.heap[D]? = some (dctG { d with err := err, st := st, si := si })
structure InAt (s : Fs) (lay : FId → Nat) (w wr : World) (D : Nat) (d : Dct) (i : Nat) (out err si : List UInt8) (st : Int) (lay' : FId → Nat) : Prop where
  len : out.length + si.length ≤ 500 + 13 * i
  fk : FK (some D) s lay w s lay' wr
  at_ : wr.heap[D]? = some (dctG { d with err := err, st := st, si := si })
  el : err.length ≤ d.err.length + 2000 * i
  s0 : 0 ≤ st
  s2 : st ≤ 2
set_option maxRecDepth 100000 in
set_option maxHeartbeats 4000000 in
theorem input_rd {d : Dct} {L : List (List UInt8)} (hEG : EnvG W0) (hE : Env W0) (h : FsIn W0 s lay w) (hM : Mild s) (hD : w.heap[D]? = some (dctG d)) (hF : d.F = lay .F) (hDo : ¬ Owns (s.obj lay) lay D) (hD0 : W0.heap.size ≤ D)
    (hs : Strs w d.v L) (hvo : ∀ b, vblk d.v = some b → b ≠ D ∧ ¬ Owns (s.obj lay) lay b) (hx : d.x ∈ inL) (hxl : d.x.length ≤ 100) (hR : RightP d.x d.opts L.length) (hl : L.length ≤ 9) (h5 : ∀ y, y ∈ L → y.length ≤ 300) (hsi : d.si.length ≤ 500) (herr : d.err.length ≤ 1000) (hst : 0 ≤ d.st ∧ d.st ≤ 2) :
    Calls Tryz.prog 47 #[.pointer (some ⟨D, 0, none⟩)] w fun e w' => InRes s lay w w' D d e := by
  have HS := Lib.hid (sources_rd hx (dctG_plan hD) hs hR)
  have hlt := (Array.getElem?_eq_some_iff.1 hD).1
  have HIN := Lib.hid h
  have HD := Lib.hid hD
  have HVO := Lib.hid hvo
  have H5 := Lib.hid h5
  have hout : ∀ b, w.heap.size ≤ b → ¬ Owns (s.obj lay) lay b := fun b hb q => by have := h.is.lies.owns_lt q; omega
  have HOut := Lib.hid hout
  have hE' := fun (V : World) (hb : Below W0.heap.size W0 V) => hE.below hb
  have HE := Lib.hid hE'
  have HEG := Lib.hid hEG
  clear h hD hs hvo hx hR h5 hout hE' hE hEG
  go_enter Tryz.func47, Tryz.ntmps47
  go_wp2_with (go_at_call 83; (refine HS.out.mono ?_); intro e w1 hsr; obtain ⟨⟨v2, M, rfl, hs2, hml, hmy, hvb⟩, hb1⟩ := hsr; obtain ⟨a, cap, hv2, hcap, hat⟩ := hs2.shape; subst hv2; have HAT := Lib.hid hat; have HMY := Lib.hid hmy; have HVB := Lib.hid hvb; have HB1 := Lib.hid hb1; clear hat hmy hvb hb1 hs2)
  have HIN1 := Lib.hid (HIN.out.kept1 HB1.out)
  have hD1 := (HB1.out.block D hlt).trans HD.out
  have HD1 := Lib.hid hD1
  have hs1 := HB1.out.size
  obtain ⟨N, hN⟩ : ∃ N, M.length = N := ⟨_, rfl⟩
  have HN := Lib.hid hN
  rw [hN] at hml hcap ⊢
  have hN10 : N ≤ 10 := by omega
  clear hD1 HS hN
  go_loopw [3, 15] (fun ov iv wr => ∃ (i : Nat) (out err si : List UInt8) (st : Int) (lay' : FId → Nat), ov = .string ⟨out.toArray⟩ ∧ iv = .int .i64 i ∧ i ≤ N ∧ RowKit.Hid (InAt s lay w1 wr D d i out err si st lay')) (fun _ iv _ => N - (intOf iv).toNat)
  case atStart => exact ⟨0, [], d.err, d.si, d.st, lay, rfl, rfl, by omega, Lib.hid ⟨by simp; omega, FK.refl HIN1.out.is, HD1.out, by omega, hst.1, hst.2⟩⟩
  case round =>
    obtain ⟨i, out, err, si, st, lay2, rfl, rfl, hi, HA⟩ := hrel
    have hlen := HA.out.len
    have hel := HA.out.el
    by_cases hlt2 : i < N
    · have hil : (i : Int) < (N : Int) := by omega
      obtain ⟨b, off, rfl, hbl, hatb⟩ := HAT.out (by have := HN.out; omega)
      obtain ⟨y, hy⟩ : ∃ y, M[i]? = some y := ⟨_, List.getElem?_eq_getElem (by have := HN.out; omega)⟩
      have hyl : y.length ≤ 300 := by
        rcases HMY.out y (List.mem_of_getElem? hy) with rfl | q
        · simp
        · exact H5.out y q
      have hbo : b ≠ D ∧ ¬ Owns (s.obj lay) lay b := by
        rcases HVB.out b rfl with q | q
        · exact HVO.out b q
        · exact ⟨by omega, HOut.out b q⟩
      have hrow := (HA.out.fk.heap (D := b) hbl hbo.2 (by simpa using Ne.symm hbo.1))
      have hc : wr.cell? ⟨b, off + i, none⟩ = some (.string ⟨y.toArray⟩) := (World.cell?_of_block (a := ⟨b, off + i, none⟩) hrow).trans (hatb i y hy)
      have c9 := dctG9 HA.out.at_
      have z9 := dctG_fz HA.out.at_ 9
      clear hrow hatb hy
      by_cases hd : y = [45]
      · subst hd
        have hf : ¬ 9223372036854775807 < out.length + si.length := by omega
        have hoD := HA.out.fk.out (D := D) (Nat.lt_of_lt_of_le hlt hs1) hDo
        go_wp2_with fail
        exact ⟨⟨i + 1, out ++ si, err, [], st, lay2, rfl, by go_num, by omega, Lib.hid ⟨by simp; omega, HA.out.fk.set hoD 9 _, dctG_si HA.out.at_ [], by omega, HA.out.s0, HA.out.s2⟩⟩, by simp [intOf]; omega⟩
      · have hdb : (y == [45]) = false := by simpa using hd
        have hltD : D < w1.heap.size := Nat.lt_of_lt_of_le hlt hs1
        have hltW : D < wr.heap.size := (Array.getElem?_eq_some_iff.1 HA.out.at_).1
        have hoD := HA.out.fk.out (D := D) hltD hDo
        have HINr := Lib.hid (HA.out.fk.fsInD HIN1.out hD0)
        have hFl : lay2 .F = lay .F := (HA.out.fk.F.trans hF.symm).trans hF
        have HFl := Lib.hid hFl
        have HDr := Lib.hid (show wr.drew.heap[D]? = some (dctG { d with err := err, st := st, si := si }) from HA.out.at_)
        have f7 : wr.drew.cell? ⟨D, 7, none⟩ = some (.pointer (some ⟨lay .F, 0, none⟩)) := by rw [← hF]; exact dctG7 (d := { d with err := err, st := st, si := si }) HDr.out
        have f8 := dctG8 HDr.out
        have HK0 := Lib.hid (FK.drew0 HA.out.fk.is)
        rcases open_read s y with ⟨c, hc0, hc1, hc2, ho⟩ | ⟨i2, hk2, ho⟩
        · have hO := rd_none (w := wr.drew) HEG.out (HINr.out.drewN 1) (by omega) ho
          rw [hFl] at hO
          have HO := Lib.hid hO
          have hcb : (c != 0) = true := by simpa using hc0
          clear ho c9 z9 hO hFl
          unfold ptrTo at HO
          go_wp2_with fail
          go_region_held3 (fun W => W.cell? ⟨D, 7, none⟩ = some (.pointer (some ⟨lay .F, 0, none⟩)) ∧ W.cell? ⟨D, 8, none⟩ = some (.int .i64 1)) (first | exact ⟨f7, f8⟩ | exact ⟨m7, m8⟩ | go_keep) (first | (go_at_call 84; (with_reducible refine HO.out.mono ?_); rintro e w2 ⟨rfl, lay3, hk3⟩; have hD2 := (hk3.heap (D := D) hltW hoD (by simp)).trans HDr.out; have m7 : w2.cell? ⟨D, 7, none⟩ = some (.pointer (some ⟨lay .F, 0, none⟩)) := (by rw [← hF]; exact dctG7 (d := { d with err := err, st := st, si := si }) hD2); have m8 := dctG8 hD2))
          have HK3 := Lib.hid (HK0.out.trans hk3)
          have HD2 := Lib.hid (show w2.drew.heap[D]? = some (dctG { d with err := err, st := st, si := si }) from hD2)
          have HE2 := Lib.hid (HE.out w2.drew (HK3.out.fsIn HINr.out hM.gen.whole).below.drew)
          have HWr := Lib.hid (wrong_any HD2.out y c hc1 (by omega) HE2.out hxl (by omega) (by show err.length ≤ _; omega))
          clear hk3 hD2 m7 m8 f7 f8 HO
          go_wp2_with fail
          go_region_with (go_at_call 80; (with_reducible refine HWr.out.mono ?_); rintro e w3 ⟨rfl, err3, st3, he3, hs3, hd3, ht3⟩; have HE3 := Lib.hid he3; have HS3 := Lib.hid hs3; have HD3 := Lib.hid hd3; have HT3 := Lib.hid ht3; clear he3 hs3 hd3 ht3)
          have hoD3 := HK3.out.out (D := D) hltW hoD
          have hfk := (HA.out.fk.trans HK3.out.any).trans ((FK.drew0 HK3.out.is).any.trans (FK.ofTurned (FK.drew0 HK3.out.is).is HT3.out hoD3))
          have h3 : err3.length ≤ err.length + 2000 := HE3.out
          have hs3 := HS3.out
          have HFK := Lib.hid hfk
          clear hfk HT3
          go_wp2_with fail
          exact ⟨⟨i + 1, out, err3, si, st3, lay3, rfl, by go_num, by omega, Lib.hid ⟨by omega, HFK.out, HD3.out, by omega, by omega, by omega⟩⟩, by simp [intOf]; omega⟩
        · have hO := rd_some (w := wr.drew) HEG.out (HINr.out.drewN 1) (by omega) ho
          rw [hFl] at hO
          have HO := Lib.hid hO
          obtain ⟨⟨cL, hloose⟩, hgen, hread⟩ := hM.back hk2
          have HLo := Lib.hid hloose
          have HGe := Lib.hid hgen
          have HRe := Lib.hid hread
          clear ho c9 z9 hO hFl hloose hgen hread
          generalize (s.holdS i2).2 = s1 at *
          unfold ptrTo at HO
          go_wp2_with fail
          go_region_held3 (fun W => W.cell? ⟨D, 7, none⟩ = some (.pointer (some ⟨lay .F, 0, none⟩)) ∧ W.cell? ⟨D, 8, none⟩ = some (.int .i64 1)) (first | exact ⟨f7, f8⟩ | exact ⟨m7, m8⟩ | go_keep) (first | (go_at_call 84; (with_reducible refine HO.out.mono ?_); rintro e w2 ⟨bf, lay3, rfl, hk3, hb3, ho3, hf3⟩; have hD2 := (hk3.heap (D := D) hltW hoD (by simp)).trans HDr.out; have m7 : w2.cell? ⟨D, 7, none⟩ = some (.pointer (some ⟨lay .F, 0, none⟩)) := (by rw [← hF]; exact dctG7 (d := { d with err := err, st := st, si := si }) hD2); have m8 := dctG8 hD2))
          have HRD := Lib.hid (fread_le bf w2 hk3.is ho3 hf3 HGe.out HRe.out)
          have HK3 := Lib.hid ((HK0.out.trans hk3).any (ex := some bf))
          have HO3 := Lib.hid ho3
          have hbw : wr.heap.size ≤ bf := hb3
          have HD2 := Lib.hid hD2
          unfold ptrTo at HRD
          clear hk3 hb3 ho3 hf3 hD2 m7 m8 f7 f8 HO
          go_wp2_with first
            | (go_at_call 86; (refine (fclose_all bf w3 HK4.out.is HO4.out HF4.out HLo.out).mono ?_); rintro e w4 ⟨rfl, hk5⟩; have HK5 := Lib.hid (((HK3.out.trans HK4.out).trans hk5).drop hbw); clear hk5)
            | (go_at_call 85; (refine HRD.out.mono ?_); rintro e w3 ⟨⟨t, ct, htl, rfl⟩, hk4, nf, hf4⟩; have HK4 := Lib.hid hk4; have HF4 := Lib.hid hf4; have HO4 := Lib.hid (fun (q : Owns (s1.obj lay3) lay3 bf) => HO3.out q); have hft : ¬ 9223372036854775807 < out.length + t.length := (by omega); clear hk4 hf4)
          exact ⟨⟨i + 1, out ++ t, err, si, st, lay3, rfl, by go_num, by omega, Lib.hid ⟨by simp; omega, HA.out.fk.trans HK5.out.any, (HK5.out.heap (D := D) hltW hoD (by simp)).trans HA.out.at_, by omega, HA.out.s0, HA.out.s2⟩⟩, by simp [intOf]; omega⟩
    · obtain rfl : i = N := by omega
      have hil : ¬ (i : Int) < (i : Int) := by omega
      go_wp2
      go_ret
      exact ⟨out, err, si, st, lay2, rfl, by omega, by omega, HA.out.s0, HA.out.s2, FK.preE HB1.out HA.out.fk, HA.out.at_⟩
end
end Go.Proofs.YtbecmcjibpamoaaGreatDoor
namespace Go.Proofs.YtbecmcjibpamoaaGreatDoor
open Go.RowKit IntWalk
def DctRes (s : Fs) (lay : FId → Nat) (w w' : World) (D : Nat) (d : Dct) (e : Ending) : Prop :=
  e = .returned (.tuple #[]) ∧ ∃ (out err si : List UInt8) (st : Int) (lay' : FId → Nat), 0 ≤ st ∧ st ≤ 2 ∧ FK (some D) s lay w s lay' w' ∧ w'.heap[D]? = some (dctG { d with out := out, err := err, st := st, si := si })
structure OpsAt (s : Fs) (lay : FId → Nat) (w : World) (D : Nat) (d : Dct) (L : List (List UInt8)) : Prop where
  st : Strs w d.v L
  vo : ∀ b, vblk d.v = some b → b ≠ D ∧ ¬ Owns (s.obj lay) lay b
  len : L.length ≤ 9
  each : ∀ y, y ∈ L → y.length ≤ 300
  addr : ∃ g c, d.v = .slice (some ⟨g, 0, none⟩) L.length c
theorem OpsAt.fk {s s' : Fs} {lay lay' : FId → Nat} {D : Nat} {w w' : World} {d : Dct} {L : List (List UInt8)} (h : OpsAt s lay w D d L) (hk : FK (some D) s lay w s' lay' w') : Strs w' d.v L :=
  h.st.turned hk.turned (fun b hb hS => hS.elim (h.vo b hb).2 (fun q => (h.vo b hb).1 (by cases q; rfl)))
structure DctAt (W0 : World) (s : Fs) (lay : FId → Nat) (w : World) (D : Nat) (d : Dct) (L : List (List UInt8)) : Prop where
  fs : FsIn W0 s lay w
  at_ : w.heap[D]? = some (dctG d)
  F : d.F = lay .F
  out : ¬ Owns (s.obj lay) lay D
  low : W0.heap.size ≤ D
  ops : OpsAt s lay w D d L
  right : RightP d.x d.opts L.length
  opts : d.opts.length ≤ 1000
  si : d.si.length ≤ 500
  err : d.err.length ≤ 1000
  ou : d.out.length ≤ 1000
  st : 0 ≤ d.st ∧ d.st ≤ 2
end Go.Proofs.YtbecmcjibpamoaaGreatDoor
namespace Go.Proofs.YtbecmcjibpamoaaGreatDoor
open Go.RowKit
def OwnS (w : World) (base : Nat) (v : Value) (L : List (List UInt8)) : Prop := w.ownsRow base 9 1 v L.length (L.map fun x => Value.string ⟨x.toArray⟩)
theorem info_str : (Tryz.prog.info? 9).map (fun i => (i.zero, i.size, i.bytes)) = some (some (.string ByteArray.empty), 1, 16) := by kernel_rfl
theorem OwnS.nil (w : World) (base : Nat) : OwnS w base (.slice none 0 0) [] := World.ownsRow_nil w base _ _
theorem OwnS.drew {w : World} {base v L} (h : OwnS w base v L) : OwnS w.drew base v L := h
theorem OwnS.alloc {w : World} {base v L} (h : OwnS w base v L) (o : Obj) : OwnS (w.alloc o) base v L := World.ownsRow.alloc h o
theorem OwnS.below {w w' : World} {base v L} (h : OwnS w base v L) (hb : Below w.heap.size w w') : OwnS w' base v L :=
  World.ownsRow.kept h (w' := w') (row := none) ⟨hb.os, hb.tape, hb.output, hb.size, fun k hk _ => hb.block k hk⟩ (by cases v.ownBlock <;> simp)
theorem below_ownS {w w1 w2 : World} {v : Value} {L : List (List UInt8)} {base : Nat} (hb : Below base w w1) (hown : OwnS w1 base v L) (hg : w1.grownBy w2 v.ownBlock) (hs : base ≤ w1.heap.size) : Below base w w2 :=
  hb.grown hg hs (fun k e => (World.ownsRow.lt hown k e).1)
theorem OwnS.lt {w : World} {base v L} (h : OwnS w base v L) : ∀ k, v.ownBlock = some k → base ≤ k ∧ k < w.heap.size := World.ownsRow.lt h
theorem append_s {ops : Array Oper} {rest : List Oper} {o : Oper} {a : Act} {Q : Exit → Act → World → Prop} {w : World} (hgd : o.guard = none) (s x : Operand)
    (ho : o.op = .call { callee := .builtin .append, args := #[s, x], argTypes := #[36, 36] }) (base : Nat) (v : Value) (L : List (List UInt8)) (hs : a.eval s = v) (hown : OwnS w base v L)
    (b : List UInt8) (hx : a.eval x = .slice (some ⟨w.heap.size, 0, none⟩) 1 1)
    (hlen : L.length + 1 ≤ 1000000000000) (hbase : base ≤ w.heap.size)
    (h : ∀ v' w', OwnS w' base v' (L ++ [b]) → w.grownBy w' v.ownBlock → wpList Tryz.prog ops Q rest (a.put o.dst v') w') :
    wpList Tryz.prog ops Q (o :: rest) a (w.alloc (.cells #[.string ⟨b.toArray⟩] 9)) := by
  obtain ⟨i0, hi, hz0, hz1, hz2⟩ := info_parts info_str
  refine wpList_append_own _ hgd s x 36 ho base 9 i0 (.string ByteArray.empty) 1 16 (by kernel_rfl) hi hz0 hz1 hz2 rfl (by omega) v L.length _ hs (hown.alloc _) ⟨w.heap.size, 0, none⟩ 1 1 [.string ⟨b.toArray⟩] hx rfl ?_ ?_ (by simp only [maxLen]; omega) (by omega) (by simp; omega) ?_
  · intro j u hj
    match j, hj with
    | 0, hj => simp at hj; subst hj; simp [Addr.add]
  · intro u hu; simp at hu; subst hu; rfl
  · intro v' w' h1 h2 _
    refine h v' w' (by simpa [OwnS] using h1) ?_
    exact ⟨h2.os, h2.tape, h2.output, by have := h2.size; simp at this; omega, fun k hk hne => by
      rw [h2.block k (by simp; omega) hne, Below.heap_alloc _ _ _ hk]⟩
theorem OwnS.strs {w : World} {base v L} (h : OwnS w base v L) (h5 : ∀ x, x ∈ L → x.length ≤ maxLen) : Strs w v L := by
  obtain ⟨hxs, hr⟩ := h
  rcases hr with ⟨rfl, hn⟩ | ⟨g, cap, cur, rfl, hb, hg, hnc, hcm, hcs, htk⟩
  · have : L = [] := List.eq_nil_of_length_eq_zero hn
    subst this
    exact ⟨by simp, ⟨none, 0, rfl, by simp, fun h => by simp at h⟩, fun i x h => by simp at h⟩
  · refine ⟨by omega, ⟨some ⟨g, 0, none⟩, cap, rfl, hnc, fun _ => ⟨g, 0, rfl, ?_, fun j x hj => ?_⟩⟩, fun i x hx => h5 x (List.mem_of_getElem? hx)⟩
    · rcases Nat.lt_or_ge g w.heap.size with h' | h'
      · exact h'
      · rw [Array.getElem?_eq_none h'] at hg; cases hg
    · rw [Nat.zero_add]
      have hjl : j < L.length := (List.getElem?_eq_some_iff.1 hj).1
      have h1 : (cur.toList.take (L.length * 1))[j]? = some (.string ⟨x.toArray⟩) := by rw [htk, List.getElem?_map, hj]; rfl
      rw [List.getElem?_take_of_lt (by omega), Array.getElem?_toList] at h1
      simp [World.cell?, hg, h1]
theorem OwnS.len {w : World} {base v L} (h : OwnS w base v L) : ∃ a cap, v = .slice a L.length cap := by
  obtain ⟨hxs, hr⟩ := h
  rcases hr with ⟨rfl, hn⟩ | ⟨g, cap, cur, rfl, _⟩
  · exact ⟨none, 0, by rw [hn]⟩
  · exact ⟨_, cap, rfl⟩
end Go.Proofs.YtbecmcjibpamoaaGreatDoor
namespace Go.Proofs.YtbecmcjibpamoaaGreatDoor
open Go.ChangeShapes Go.WideShapes Go.ChangeAt Go.RowKit
theorem str_list (s : ByteArray) (h : s.size ≤ maxLen) : ∃ l : List UInt8, s = ⟨l.toArray⟩ ∧ l.length ≤ maxLen :=
  ⟨s.data.toList, by rw [Array.toArray_toList], by rw [Array.length_toList]; exact h⟩
theorem wf_i64 {n : Int} (h : (Lit.int .i64 n).wf = true) : -9223372036854775808 ≤ n ∧ n ≤ 9223372036854775807 := by
  simpa [Lit.wf, IntKind.min, IntKind.max, IntKind.signed, IntKind.bits] using h
theorem cell_plain {w : World} {a : Addr} {v : Value} (h : w.cell? a = some v) : a = ⟨a.block, a.off, none⟩ := by
  cases a with
  | mk b o s =>
    cases s with
    | none => rfl
    | some x => simp [World.cell?] at h; split at h <;> simp_all
theorem add_mk (b o k : Nat) : (⟨b, o, none⟩ : Addr).add k = ⟨b, o + k, none⟩ := by unfold Addr.add; split <;> simp_all
structure OpR where
  ask : Int
  n : Int
  data : List UInt8
structure OpR.ok (o : OpR) : Prop where
  ask : -9223372036854775808 ≤ o.ask ∧ o.ask ≤ 9223372036854775807
  n : -9223372036854775808 ≤ o.n ∧ o.n ≤ 9223372036854775807
  data : o.data.length ≤ maxLen
theorem open_strs {H : Type} {enc : TypeId × Value → H} {P : Program} {W : World} {base : Nat} {t e : TypeId} {v : Value} {d : DataW H} {ps : List MemPlace} {r : Reach}
    (ht : P.underlying t = some (.slice e)) (he : P.underlying e = some .string) (hc : P.cellsOf e = 1)
    (hval : Value.okWide P W r base t v) (h : DataW.Trod enc P W 0 (fun _ => true) true t v d ps) : ∃ L, Strs W v L := by
  obtain ⟨a0, len, cap, rfl⟩ := okWide_slice ht hval
  obtain ⟨fuel, hf⟩ := h
  rcases open_strings ht he hc hf with ⟨hcs, _⟩ | ⟨a, l, c, ss, hcs, _, hl, hm, hss, _, hcell, hsz⟩
  · simp [Value.cells] at hcs
    obtain ⟨rfl, rfl, rfl⟩ := hcs
    exact ⟨[], by simp, ⟨none, 0, rfl, by simp, fun h => by simp at h⟩, fun i x h => by simp at h⟩
  · simp [Value.cells] at hcs
    obtain ⟨rfl, rfl, rfl⟩ := hcs
    simp only [if_true] at hss
    have hget : ∀ (i : Nat) (x : List UInt8), ((ss.take len).map fun s => s.data.toList)[i]? = some x → i < len ∧ ∃ s, ss[i]? = some s ∧ x = s.data.toList := by
      intro i x hx
      rw [List.getElem?_map] at hx
      rcases Nat.lt_or_ge i len with h' | h'
      · rw [List.getElem?_take_of_lt h'] at hx
        cases hs : ss[i]? with
        | none => rw [hs] at hx; cases hx
        | some s => rw [hs] at hx; cases hx; exact ⟨h', s, rfl, rfl⟩
      · rw [List.getElem?_eq_none (by simp; omega)] at hx; cases hx
    have hlen : ((ss.take len).map fun s => s.data.toList).length = len := by simp; omega
    refine ⟨(ss.take len).map fun s => s.data.toList, by rw [hlen]; omega, ⟨some a, cap, by rw [hlen], by rw [hlen]; exact hl, fun hp => ?_⟩, fun i x hx => ?_⟩
    · rw [hlen] at hp
      have h0 := hcell 0 (by omega)
      have ha : a = ⟨a.block, a.off, none⟩ := cell_plain (by simpa [Addr.add] using h0)
      refine ⟨a.block, a.off, by rw [← ha], World.block_lt_of_cell? W a (by simpa [Addr.add] using h0), fun i x hx => ?_⟩
      obtain ⟨hi, s, hs, rfl⟩ := hget i x hx
      have h1 := hcell i (by omega)
      rw [ha, add_mk] at h1
      rw [h1]
      have : ss.getD i ByteArray.empty = s := by simp [List.getD, hs]
      rw [this]
    · obtain ⟨hi, s, hs, rfl⟩ := hget i x hx
      have := hsz s (List.mem_of_getElem? hs)
      rw [Array.length_toList]; exact this
end Go.Proofs.YtbecmcjibpamoaaGreatDoor
namespace Go.Proofs.YtbecmcjibpamoaaGreatDoor
open Go.RowKit Go.WideShapes Go.ChangeShapes Go.ChangeAt IntWalk
def mildB (s : Fs) : Bool := s.nodes.all fun o => match o with
  | some x => decide (x.users = 0) && (decide (x.kind = 2) || decide (x.names = 1)) && (decide (fileE x.kind ≠ 0) || decide (x.size ≤ 13))
  | none => true
theorem mildB_ok : mildB beginS = true := by kernel_rfl
theorem begin_mild (hG : Gen beginS) : Mild beginS := by
  refine ⟨hG, fun k x hk => ?_⟩
  have h := mildB_ok
  unfold mildB at h
  rw [List.all_eq_true] at h
  have := h (some x) (List.mem_of_getElem? hk)
  simp only [Bool.and_eq_true, Bool.or_eq_true, decide_eq_true_eq] at this
  obtain ⟨⟨h1, h2⟩, h3⟩ := this
  exact ⟨h1, fun q => h2.resolve_left q, fun q => h3.resolve_left (fun z => z q)⟩
def StrsN (w : World) (v : Value) (L : List (List UInt8)) : Prop := Strs w v L ∧ ∀ n c, v = .slice none n c → n = 0 ∧ c = 0
theorem open_strsN {H : Type} {enc : TypeId × Value → H} {P : Program} {W : World} {base : Nat} {t e : TypeId} {v : Value} {d : DataW H} {ps : List MemPlace} {r : Reach}
    (ht : P.underlying t = some (.slice e)) (he : P.underlying e = some .string) (hc : P.cellsOf e = 1)
    (hval : Value.okWide P W r base t v) (h : DataW.Trod enc P W 0 (fun _ => true) true t v d ps) : ∃ L, StrsN W v L := by
  obtain ⟨L, hL⟩ := open_strs ht he hc hval h
  refine ⟨L, hL, ?_⟩
  obtain ⟨a0, len, cap, rfl⟩ := okWide_slice ht hval
  obtain ⟨fuel, hf⟩ := h
  rintro n c hv
  cases hv
  rcases open_strings ht he hc hf with ⟨hcs, _⟩ | ⟨a, l, c, ss, hcs, _⟩
  · simp [Value.cells] at hcs
    exact hcs
  · simp [Value.cells] at hcs
def FewRes (L : List (List UInt8)) (e : Ending) : Prop := ∃ b : Bool, e = .returned (.bool b) ∧ RowKit.Hid (b = true → ∀ y, y ∈ L → y.length ≤ 300)
theorem few_rd (v : Value) (L : List (List UInt8)) (w : World) (hv : Strs w v L) (hl : L.length ≤ 10) :
    Calls Tryz.prog 11 #[v] w fun e w' => FewRes L e ∧ w = w' := by
  obtain ⟨a, cap, hv0, hcap, hat⟩ := hv.shape
  subst hv0
  have HAT := Lib.hid hat
  have HOK := Lib.hid hv.ok
  obtain ⟨n, hn⟩ : ∃ n, L.length = n := ⟨_, rfl⟩
  have HN := Lib.hid hn
  rw [hn] at hl hcap ⊢
  have hli : ¬ (10 : Int) < (n : Int) := by omega
  clear hat hv hn
  go_enter Tryz.func11, Tryz.ntmps11
  go_wp2_with fail
  go_loopw [3] (fun iv wr => ∃ i : Nat, iv = .int .i64 i ∧ i ≤ n ∧ RowKit.Hid (∀ y, y ∈ L.take i → y.length ≤ 300) ∧ w = wr) (fun iv _ => n - (intOf iv).toNat)
  case atStart => exact ⟨0, rfl, Nat.zero_le _, Lib.hid (by simp), by first | rfl | trivial⟩
  case round =>
    obtain ⟨i, rfl, hi, HL, rfl⟩ := hrel
    by_cases hlt : i < n
    · have hil : (i : Int) < (n : Int) := by omega
      obtain ⟨b, off, rfl, hbl, hatb⟩ := HAT.out (by have := HN.out; omega)
      obtain ⟨y, hy⟩ : ∃ y, L[i]? = some y := ⟨_, List.getElem?_eq_getElem (by have := HN.out; omega)⟩
      have d0 := hatb i y hy
      have HT := Lib.hid (show L.take (i + 1) = L.take i ++ [y] by rw [List.take_add_one, hy]; rfl)
      have hok : y.length ≤ maxLen := HOK.out i y hy
      unfold maxLen at hok
      clear hy hatb
      by_cases h3 : 300 < y.length
      · have h3i : (300 : Int) < (y.length : Int) := by omega
        go_wp2
        go_ret
        exact ⟨⟨false, rfl, Lib.hid (fun q => by cases q)⟩, by first | rfl | trivial⟩
      · have h3i : ¬ (300 : Int) < (y.length : Int) := by omega
        have hnx : RowKit.Hid (∀ z, z ∈ L.take (i + 1) → z.length ≤ 300) := Lib.hid (by
          rw [HT.out]
          intro z hz
          rcases List.mem_append.1 hz with q | q
          · exact HL.out z q
          · simp at q; subst q; omega)
        go_wp2
        all_goals
          go_roundw
          case rel => exact ⟨i + 1, by go_num, by omega, hnx, by first | rfl | trivial⟩
          case measure => simp [intOf]; omega
    · obtain rfl : i = n := by omega
      have hil : ¬ (i : Int) < (i : Int) := by omega
      have hfin : RowKit.Hid (∀ y, y ∈ L → y.length ≤ 300) := Lib.hid (by
        have := HL.out
        rw [List.take_of_length_le (by have := HN.out; omega)] at this
        exact this)
      go_wp2
      go_ret
      exact ⟨⟨true, rfl, Lib.hid (fun _ => hfin.out)⟩, by first | rfl | trivial⟩
theorem append_name {ops : Array Oper} {rest : List Oper} {o : Oper} {a : Act} {Q : Exit → Act → World → Prop} {w : World} (hgd : o.guard = none) (s x : Operand)
    (ho : o.op = .call { callee := .builtin .append, args := #[s, x], argTypes := #[36, 36] }) (nm : List UInt8) (v : Value) (L : List (List UInt8)) (hs : a.eval s = .slice (some ⟨w.heap.size, 0, none⟩) 1 1) (hx : a.eval x = v) (hv : StrsN w v L) (hl : L.length ≤ 1000) (hnm : nm.length ≤ 100)
    (h : ∀ g c w', RowAt w' g 0 (nm :: L) → g < w'.heap.size → L.length + 1 ≤ c → Below w.heap.size w w' → wpList Tryz.prog ops Q rest (a.put o.dst (.slice (some ⟨g, 0, none⟩) (L.length + 1) c)) w') :
    wpList Tryz.prog ops Q (o :: rest) a (w.alloc (.cells #[.string ⟨nm.toArray⟩] 9)) := by
  obtain ⟨i0, hi, hz0, hz1, hz2⟩ := info_parts info_str
  have hB1 : Below w.heap.size w (w.alloc (.cells #[.string ⟨nm.toArray⟩] 9)) := (Below.refl _ w).alloc (Nat.le_refl _) _
  have hown : OwnS (w.alloc (.cells #[.string ⟨nm.toArray⟩] 9)) w.heap.size (.slice (some ⟨w.heap.size, 0, none⟩) 1 1) [nm] :=
    ⟨by simp, .inr ⟨w.heap.size, 1, #[.string ⟨nm.toArray⟩], rfl, Nat.le_refl _, alloc_at _ _, Nat.le_refl _, by unfold maxLen; omega, by simp, by simp⟩⟩
  have hv1 := hv.1.below hB1
  obtain ⟨av, cv, rfl, hcv, hat⟩ := hv1.shape
  have hfin : ∀ (v' : Value) (w' : World), OwnS w' w.heap.size v' (nm :: L) → (w.alloc (.cells #[.string ⟨nm.toArray⟩] 9)).grownBy w' (some w.heap.size) → wpList Tryz.prog ops Q rest (a.put o.dst v') w' := fun v' w' hv' hg => by
    have hB2 := below_ownS hB1 hown hg hB1.size
    have hst := hv'.strs (fun y hy => by
      rcases List.mem_cons.1 hy with rfl | q
      · unfold maxLen; omega
      · obtain ⟨i, hi⟩ := List.getElem?_of_mem q
        exact hv.1.ok i y hi)
    rcases hv'.2 with ⟨rfl, h0⟩ | ⟨g, cap, cur, rfl, hbg, hg2, hnc, hcm, hcs, htk⟩
    · simp at h0
    · obtain ⟨a2, c2, he, hc2, hat2⟩ := hst.shape
      cases he
      obtain ⟨b2, o2, he, hb2, hr2⟩ := hat2 (by simp)
      cases he
      exact h g cap w' (fun i y hi => hr2 i y hi) hb2 hc2 hB2
  cases av with
  | none =>
    obtain ⟨hn0, rfl⟩ := hv.2 _ _ rfl
    obtain rfl : L = [] := List.eq_nil_of_length_eq_zero hn0
    refine wpList_append_own_none hgd s x 36 ho w.heap.size 9 i0 1 (by kernel_rfl) hi _ 1 _ hs hown hx ?_
    exact hfin _ _ hown ⟨rfl, rfl, rfl, Nat.le_refl _, fun _ _ _ => rfl⟩
  | some ad =>
    refine wpList_append_own _ hgd s x 36 ho w.heap.size 9 i0 (.string ByteArray.empty) 1 16 (by kernel_rfl) hi hz0 hz1 hz2 rfl (by omega) _ 1 _ hs hown ad L.length cv (L.map fun y => Value.string ⟨y.toArray⟩) hx (by simp) ?_ ?_ (by simp only [maxLen]; omega) (by omega) (by simp) ?_
    · intro j u hj
      rw [List.getElem?_map] at hj
      cases hy : L[j]? with
      | none => rw [hy] at hj; cases hj
      | some y =>
        rw [hy] at hj
        cases hj
        obtain ⟨b, off, he, hb, hr⟩ := hat (by have := (List.getElem?_eq_some_iff.1 hy).1; omega)
        cases he
        have := hr j y hy
        by_cases hj0 : j = 0
        · subst hj0
          simpa [Addr.add] using this
        · simpa [Addr.add, hj0] using this
    · intro u hu
      obtain ⟨y, _, rfl⟩ := List.mem_map.1 hu
      rfl
    · intro v' w' h1 h2 _
      refine hfin v' w' ?_ h2
      rw [Nat.add_comm] at h1
      exact h1
end Go.Proofs.YtbecmcjibpamoaaGreatDoor
