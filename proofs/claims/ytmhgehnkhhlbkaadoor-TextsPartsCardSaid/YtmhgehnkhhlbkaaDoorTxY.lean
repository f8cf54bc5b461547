/- Texts: by a pattern (the reference's side). -/
import Derived.Test.YtmhgehnkhhlbkaaDoorTxX
namespace Go.Proofs.YtmhgehnkhhlbkaaDoor
open Go.RowKit

/-- what two bytes say -/
def oneS (c d : UInt8) (st : PSt) : Option PSt :=
  if c = 37 then pctS d st else (escV d).map fun v => ⟨st.out ++ [v], st.rest, st.took⟩
def OneRes (base : Nat) (w w' : World) (pb : Nat) : Option PSt → Prop
  | none => (∃ out rv took, RPrt base w' pb out rv took true) ∧ Below base w w'
  | some st => (∃ rv, RPrt base w' pb st.out rv st.took false ∧ RestB base w' rv st.rest) ∧ Below base w w'
theorem rtook {base : Nat} {w w' : World} {pb : Nat} {out rv L} {took : Bool} (h : RPrt base w' pb out rv took false) (hr : RestB base w rv L) (hb : Below base w w') : OneRes base w w' pb (some ⟨out, L, took⟩) := ⟨⟨rv, h, hr.below hb⟩, hb⟩
set_option maxRecDepth 100000 in
theorem one_bad (base pb : Nat) (w : World) (l : List UInt8) (out : List UInt8) (rv : Value) (took : Bool) (h : RPrt base w pb out rv took false)
    (h1 : l ≠ [37, 37]) (h2 : l ≠ [37, 115]) (h3 : l ≠ [37, 100]) (h4 : l ≠ [92, 110]) (h5 : l ≠ [92, 116]) (h6 : l ≠ [92, 92]) :
    Calls Tryd.prog 42 #[.pointer (some ⟨pb, 0, none⟩), .string ⟨l.toArray⟩] w fun e w' => e = .returned (.tuple #[]) ∧ OneRes base w w' pb none := by
  obtain ⟨c0, c1, c2, c3, hf, hbp⟩ := h.cells
  have hf3 := hf 3
  have HR := Lib.hid (show OneRes base w (w.setCell ⟨pb, 3, none⟩ (.bool true)) pb none from ⟨⟨_, _, _, (h.bd true).1⟩, (h.bd true).2⟩)
  have q1 : (l == [37, 37]) = false := by simp [h1]
  have q2 : (l == [37, 115]) = false := by simp [h2]
  have q3 : (l == [37, 100]) = false := by simp [h3]
  have q4 : (l == [92, 110]) = false := by simp [h4]
  have q5 : (l == [92, 116]) = false := by simp [h5]
  have q6 : (l == [92, 92]) = false := by simp [h6]
  clear h h1 h2 h3 h4 h5 h6 hf
  go_enter Tryd.func42, Tryd.ntmps42
  go_wp2_with fail
  go_end0
  exact ⟨rfl, HR.out⟩
set_option maxRecDepth 100000 in
set_option maxHeartbeats 1600000 in
theorem one_any (base pb : Nat) (w : World) (c d : UInt8) (hc : c = 37 ∨ c = 92) (st : PSt) (rv : Value) (h : RPrt base w pb st.out rv st.took false) (hr : RestB base w rv st.rest) (hl : st.out.length ≤ 10000000000) :
    Calls Tryd.prog 42 #[.pointer (some ⟨pb, 0, none⟩), .string ⟨[c, d].toArray⟩] w fun e w' => e = .returned (.tuple #[]) ∧ OneRes base w w' pb (oneS c d st) := by
  obtain ⟨out, L, took⟩ := st
  simp only at h hr hl
  have hhl := head_len (rest5 hr)
  obtain ⟨c0, c1, c2, c3, hf, hbp⟩ := h.cells
  have hf0 := hf 0
  have hf2 := hf 2
  have hf3 := hf 3
  have HH := Lib.hid h
  have HHr := Lib.hid hr
  clear h hr hf
  rcases hc with rfl | rfl
  · by_cases e1 : d = 37
    · subst e1
      have HR := Lib.hid (show OneRes base w (w.setCell ⟨pb, 0, none⟩ (.string ⟨(out ++ [37]).toArray⟩)) pb (oneS 37 37 ⟨out, L, took⟩) from rtook (HH.out.out _).1 HHr.out (HH.out.out _).2)
      go_enter Tryd.func42, Tryd.ntmps42
      go_wp2_with fail
      go_end0
      exact ⟨rfl, HR.out⟩
    by_cases e2 : d = 115
    · subst e2
      have ht := HH.out.tk true
      have hr2 := HHr.out.below ht.2
      have HN := Lib.hid (rnext_any base pb (w.setCell ⟨pb, 2, none⟩ (.bool true)).drew out rv true false L ht.1 hr2)
      have HRR := Lib.hid (fun (w' : World) (rv' : Value) (h' : RPrt base w' pb out rv' true false) => h'.out (out ++ L.headD []))
      have HC := Lib.hid (fun (w' : World) (rv' : Value) (h' : RPrt base w' pb out rv' true false) => h'.cells)
      have hB0 : Below base w (w.setCell ⟨pb, 2, none⟩ (.bool true)) := ht.2
      have hS := Lib.hid (show oneS 37 115 ⟨out, L, took⟩ = some ⟨out ++ L.headD [], L.tail, true⟩ from rfl)
      clear ht hr2 e1
      go_enter Tryd.func42, Tryd.ntmps42
      go_wp2_with fail
      go_region_with (go_at_call 63; refine HN.out.mono ?_; rintro e w1 ⟨rfl, rv1, hP1, hR1, hB1⟩; obtain ⟨y, hy⟩ : ∃ y, L.headD [] = y := ⟨_, rfl⟩; rw [hy]; have hyl : y.length ≤ 500 := hy ▸ hhl; have HY := Lib.hid hy; clear hy; obtain ⟨d0, _, _, _, g, _⟩ := HC.out w1 rv1 hP1; have g0 := g 0; clear g)
      all_goals
        go_wp2_with fail
        go_end0
        have hB1' : Below base (w.setCell ⟨pb, 2, none⟩ (.bool true)) w1 := ⟨hB1.os, hB1.tape, hB1.output, hB1.size, hB1.block⟩
        have hZ := HRR.out w1 rv1 hP1
        rw [hS.out]
        rw [HY.out] at hZ ⊢
        exact ⟨rfl, ⟨⟨rv1, hZ.1, hR1.below hZ.2⟩, (hB0.trans hB1').trans hZ.2⟩⟩
    by_cases e3 : d = 100
    · subst e3
      have ht := HH.out.tk true
      have hr2 := HHr.out.below ht.2
      have HN := Lib.hid (rnext_any base pb (w.setCell ⟨pb, 2, none⟩ (.bool true)) out rv true false L ht.1 hr2)
      have hB0 : Below base w (w.setCell ⟨pb, 2, none⟩ (.bool true)) := ht.2
      have hS := Lib.hid (show oneS 37 100 ⟨out, L, took⟩ = (numL (L.headD [])).map fun n => ⟨out ++ n, L.tail, true⟩ from rfl)
      clear ht hr2 e1 e2
      obtain ⟨x, hx⟩ : ∃ x, L.headD [] = x := ⟨_, rfl⟩
      rw [hx] at HN hS hhl
      clear hx
      obtain ⟨t, ht0, htn, htl, htx⟩ : ∃ t, t ≠ [] ∧ numL x = numL t ∧ t.length ≤ 500 ∧ ((x = [] ∧ t = [48]) ∨ (x ≠ [] ∧ t = x)) := by
        by_cases hx : x = []
        · exact ⟨[48], by simp, by rw [hx]; rfl, by simp, .inl ⟨hx, rfl⟩⟩
        · exact ⟨x, hx, rfl, hhl, .inr ⟨hx, rfl⟩⟩
      have HM := Lib.hid (rnumber_any t ht0 htl)
      rw [htn] at hS
      have HRb := Lib.hid (fun (w' : World) (rv' : Value) (h' : RPrt base w' pb out rv' true false) (b : Bool) => h'.bd b)
      have HRo := Lib.hid (fun (w' : World) (rv' : Value) (b : Bool) (o : List UInt8) (h' : RPrt base w' pb out rv' true b) => h'.out o)
      have HC := Lib.hid (fun (w' : World) (rv' : Value) (h' : RPrt base w' pb out rv' true false) => h'.cells)
      cases hn : numL t with
      | none =>
        rw [hn] at hS HM
        unfold numRet at HM
        have HM2 := Lib.hid (show ∀ w, Calls Tryd.prog 64 #[.string ⟨t.toArray⟩] w fun e w' => e = .returned (.tuple #[.string ⟨#[]⟩, .bool false]) ∧ w = w' from HM.out)
        have HT0 := Lib.hid ht0
        clear hn htn HM ht0
        rcases htx with ⟨rfl, rfl⟩ | ⟨hx0, rfl⟩
        · go_enter Tryd.func42, Tryd.ntmps42
          go_wp2_with fail
          refine HN.out.mono ?_
          rintro e w1 ⟨rfl, rv1, hP1, hR1, hB1⟩
          obtain ⟨d0, _, d2, d3, g, _⟩ := HC.out w1 rv1 hP1
          have g0 := g 0
          have g3 := g 3
          have hZ1 := HRb.out w1 rv1 hP1 true
          have hZ2 := HRo.out _ rv1 true (out ++ []) hZ1.1
          have hfin := Lib.hid (show OneRes base w ((w1.setCell ⟨pb, 3, none⟩ (.bool true)).setCell ⟨pb, 0, none⟩ (.string ⟨(out ++ []).toArray⟩)) pb none from ⟨⟨_, _, _, hZ2.1⟩, ((hB0.trans hB1).trans hZ1.2).trans hZ2.2⟩)
          rw [List.append_nil] at hfin
          clear g hZ1 hZ2
          go_wp2_with fail
          refine (HM2.out w1).mono ?_
          rintro e w2 ⟨rfl, rfl⟩
          go_wp2_with fail
          go_end0
          rw [hS.out]
          exact ⟨rfl, hfin.out⟩
        · have q1 : (t == []) = false := by simp [hx0]
          have q2 : t.isEmpty = false := by simp [hx0]
          clear hx0
          go_enter Tryd.func42, Tryd.ntmps42
          go_wp2_with fail
          refine HN.out.mono ?_
          rintro e w1 ⟨rfl, rv1, hP1, hR1, hB1⟩
          obtain ⟨d0, _, d2, d3, g, _⟩ := HC.out w1 rv1 hP1
          have g0 := g 0
          have g3 := g 3
          have hZ1 := HRb.out w1 rv1 hP1 true
          have hZ2 := HRo.out _ rv1 true (out ++ []) hZ1.1
          have hfin := Lib.hid (show OneRes base w ((w1.setCell ⟨pb, 3, none⟩ (.bool true)).setCell ⟨pb, 0, none⟩ (.string ⟨(out ++ []).toArray⟩)) pb none from ⟨⟨_, _, _, hZ2.1⟩, ((hB0.trans hB1).trans hZ1.2).trans hZ2.2⟩)
          rw [List.append_nil] at hfin
          clear g hZ1 hZ2
          go_wp2_with fail
          refine (HM2.out w1).mono ?_
          rintro e w2 ⟨rfl, rfl⟩
          go_wp2_with fail
          go_end0
          rw [hS.out]
          exact ⟨rfl, hfin.out⟩
      | some y =>
        rw [hn] at hS HM
        unfold numRet at HM
        have HM2 := Lib.hid (show ∀ w, Calls Tryd.prog 64 #[.string ⟨t.toArray⟩] w fun e w' => e = .returned (.tuple #[.string ⟨y.toArray⟩, .bool true]) ∧ w = w' from HM.out)
        have hyl := numL_len hn
        have HT0 := Lib.hid ht0
        clear hn htn HM ht0
        rcases htx with ⟨rfl, rfl⟩ | ⟨hx0, rfl⟩
        · go_enter Tryd.func42, Tryd.ntmps42
          go_wp2_with fail
          refine HN.out.mono ?_
          rintro e w1 ⟨rfl, rv1, hP1, hR1, hB1⟩
          obtain ⟨d0, _, d2, d3, g, _⟩ := HC.out w1 rv1 hP1
          have g0 := g 0
          have g3 := g 3
          have hZ1 := HRb.out w1 rv1 hP1 false
          have hZ2 := HRo.out _ rv1 false (out ++ y) hZ1.1
          have hfin := Lib.hid (show OneRes base w ((w1.setCell ⟨pb, 3, none⟩ (.bool false)).setCell ⟨pb, 0, none⟩ (.string ⟨(out ++ y).toArray⟩)) pb (some ⟨out ++ y, L.tail, true⟩) from ⟨⟨_, hZ2.1, (hR1.below hZ1.2).below hZ2.2⟩, ((hB0.trans hB1).trans hZ1.2).trans hZ2.2⟩)
          clear g hZ1 hZ2
          go_wp2_with fail
          refine (HM2.out w1).mono ?_
          rintro e w2 ⟨rfl, rfl⟩
          go_wp2_with fail
          go_end0
          rw [hS.out]
          exact ⟨rfl, hfin.out⟩
        · have q1 : (t == []) = false := by simp [hx0]
          have q2 : t.isEmpty = false := by simp [hx0]
          clear hx0
          go_enter Tryd.func42, Tryd.ntmps42
          go_wp2_with fail
          refine HN.out.mono ?_
          rintro e w1 ⟨rfl, rv1, hP1, hR1, hB1⟩
          obtain ⟨d0, _, d2, d3, g, _⟩ := HC.out w1 rv1 hP1
          have g0 := g 0
          have g3 := g 3
          have hZ1 := HRb.out w1 rv1 hP1 false
          have hZ2 := HRo.out _ rv1 false (out ++ y) hZ1.1
          have hfin := Lib.hid (show OneRes base w ((w1.setCell ⟨pb, 3, none⟩ (.bool false)).setCell ⟨pb, 0, none⟩ (.string ⟨(out ++ y).toArray⟩)) pb (some ⟨out ++ y, L.tail, true⟩) from ⟨⟨_, hZ2.1, (hR1.below hZ1.2).below hZ2.2⟩, ((hB0.trans hB1).trans hZ1.2).trans hZ2.2⟩)
          clear g hZ1 hZ2
          go_wp2_with fail
          refine (HM2.out w1).mono ?_
          rintro e w2 ⟨rfl, rfl⟩
          go_wp2_with fail
          go_end0
          rw [hS.out]
          exact ⟨rfl, hfin.out⟩
    · have HS := Lib.hid (show oneS 37 d ⟨out, L, took⟩ = none by simp [oneS, pctS, e1, e2, e3])
      rw [HS.out]
      exact one_bad base pb w [37, d] out rv took HH.out (by simp [e1]) (by simp [e2]) (by simp [e3]) (by simp) (by simp) (by simp)
  · cases hv : escV d with
    | none =>
      have n1 : d ≠ 110 := fun e => by subst e; cases hv
      have n2 : d ≠ 116 := fun e => by subst e; cases hv
      have n3 : d ≠ 92 := fun e => by subst e; cases hv
      have HS := Lib.hid (show oneS 92 d ⟨out, L, took⟩ = none by simp [oneS, hv])
      rw [HS.out]
      exact one_bad base pb w [92, d] out rv took HH.out (by simp) (by simp) (by simp) (by simp [n1]) (by simp [n2]) (by simp [n3])
    | some v =>
      have hcv : d = 110 ∧ v = 10 ∨ d = 116 ∧ v = 9 ∨ d = 92 ∧ v = 92 := by
        unfold escV at hv; split at hv
        · cases hv; exact .inl ⟨by assumption, rfl⟩
        · split at hv
          · cases hv; exact .inr (.inl ⟨by assumption, rfl⟩)
          · split at hv
            · cases hv; exact .inr (.inr ⟨by assumption, rfl⟩)
            · cases hv
      have HR := Lib.hid (show OneRes base w (w.setCell ⟨pb, 0, none⟩ (.string ⟨(out ++ [v]).toArray⟩)) pb (oneS 92 d ⟨out, L, took⟩) by
        rw [show oneS 92 d ⟨out, L, took⟩ = some ⟨out ++ [v], L, took⟩ by simp [oneS, hv]]
        exact rtook (HH.out.out _).1 HHr.out (HH.out.out _).2)
      clear hv
      rcases hcv with ⟨rfl, rfl⟩ | ⟨rfl, rfl⟩ | ⟨rfl, rfl⟩
      all_goals
        go_enter Tryd.func42, Tryd.ntmps42
        go_wp2_with fail
        go_end0
        exact ⟨rfl, HR.out⟩
end Go.Proofs.YtmhgehnkhhlbkaaDoor
