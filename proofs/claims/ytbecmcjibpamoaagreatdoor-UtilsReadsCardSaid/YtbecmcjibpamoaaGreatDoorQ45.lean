/- UrN UrH UrI TxL TxM TxJ -/
import Derived.Test.YtbecmcjibpamoaaGreatDoorQ44
import Derived.Test.YtbecmcjibpamoaaGreatDoorQ37
import Derived.Lib.ItoaLen
import Derived.Test.YtbecmcjibpamoaaGreatDoorQ43
import Derived.Test.YtbecmcjibpamoaaGreatDoorQ41
import Derived.Lib.SplitLaws
import Derived.Lib.Join
import Derived.Test.YtbecmcjibpamoaaGreatDoorQ42
import Derived.Lib.IndexMore
set_option linter.unusedVariables false
set_option linter.unusedSimpArgs false
set_option linter.deprecated false
set_option linter.unnecessarySimpa false
namespace Go.Proofs.YtbecmcjibpamoaaGreatDoor
open Go.RowKit IntWalk
theorem own_vblk {w : World} {base : Nat} {v : Value} {L : List (List UInt8)} (h : OwnS w base v L) : ∀ b, vblk v = some b → base ≤ b := fun b hb => by
  rcases h.2 with ⟨rfl, _⟩ | ⟨g, cap, cur, rfl, hbg, hg, hnc, hcm, hcs, htk⟩
  · cases hb
  · cases hb; exact hbg
section
variable {W0 : World} {s : Fs} {lay lay' : FId → Nat} {D : Nat} {w w' : World}
structure LsAt (s : Fs) (lay : FId → Nat) (w wr : World) (D : Nat) (d : Dct) (i : Nat) (out : List UInt8) : Prop where
  len : out.length ≤ d.out.length + 1001 * i
  fk : FK (some D) s lay w s lay wr
  at_ : wr.heap[D]? = some (dctG { d with out := out })
set_option maxRecDepth 100000 in
set_option maxHeartbeats 4000000 in
theorem list_rd {d : Dct} (y : List UInt8) (hEG : EnvG W0) (hE : Env W0) (h : FsIn W0 s lay w) (hM : Mild s) (hT : Tr s) (hD : w.heap[D]? = some (dctG d)) (hF : d.F = lay .F) (hDo : ¬ Owns (s.obj lay) lay D) (hD0 : W0.heap.size ≤ D)
    (hy : y.length ≤ 1000) (hxl : d.x.length ≤ 100) (herr : d.err.length ≤ 1000) (hou : d.out.length ≤ 1000) (hst : 0 ≤ d.st ∧ d.st ≤ 2) :
    Calls Tryz.prog 50 #[.pointer (some ⟨D, 0, none⟩), .string ⟨y.toArray⟩] w fun e w' => DctRes s lay w w' D d e := by
  have hlt := (Array.getElem?_eq_some_iff.1 hD).1
  have hDd : w.drew.heap[D]? = some (dctG d) := hD
  have HDd := Lib.hid hDd
  have f7 : w.drew.cell? ⟨D, 7, none⟩ = some (.pointer (some ⟨lay .F, 0, none⟩)) := by rw [← hF]; exact dctG7 hDd
  have f8 := dctG8 hDd
  have hcd := walk_code s 1 y true
  have hW := walk_any hEG 1 y true w.drew (h.drewN 1)
  obtain ⟨i, c, hw⟩ : ∃ i c, s.walkS 1 y true = (i, c) := ⟨_, _, rfl⟩
  rw [hw] at hcd hW
  have HW := Lib.hid hW
  have HIN := Lib.hid h
  have HK0 := Lib.hid (FK.drew0 h.is)
  have HE := Lib.hid (fun (V : World) (hb : Below W0.heap.size W0 V) => hE.below hb)
  have HT := Lib.hid hT
  clear h hD hDd hE hEG hw hW hT
  unfold ptrTo at HW
  go_enter Tryz.func50, Tryz.ntmps50
  go_wp2_with fail
  go_region_held3 (fun W => W.cell? ⟨D, 7, none⟩ = some (.pointer (some ⟨lay .F, 0, none⟩)) ∧ W.cell? ⟨D, 8, none⟩ = some (.int .i64 1)) (first | exact ⟨f7, f8⟩ | exact ⟨m7, m8⟩ | go_keep) (first | (go_at_call 10; (with_reducible refine HW.out.mono ?_); rintro e w2 ⟨rfl, hst2⟩; have hD2 := (hst2.turned.block D hlt hDo).trans HDd.out; have m7 : w2.cell? ⟨D, 7, none⟩ = some (.pointer (some ⟨lay .F, 0, none⟩)) := (by rw [← hF]; exact dctG7 hD2); have m8 := dctG8 hD2))
  have HK2 := Lib.hid (HK0.out.trans (FK.of (ex := none) hst2 rfl))
  have HD2 := Lib.hid hD2
  clear hst2 hD2 f7 f8
  by_cases hc : c = 0
  · subst hc
    have hFI := HK2.out.is
    have HL := Lib.hid (nlist_any hFI HT.out i)
    have HLN := Lib.hid (list_len HT.out i)
    have m7 : w2.cell? ⟨D, 7, none⟩ = some (.pointer (some ⟨lay .F, 0, none⟩)) := by rw [← hF]; exact dctG7 HD2.out
    unfold ptrTo at HL
    clear hFI
    go_wp2_with fail
    refine HL.out.mono ?_
    rintro e w3 ⟨v, z, rfl, hl⟩
    have hlt3 : D < w2.heap.size := (Array.getElem?_eq_some_iff.1 HD2.out).1
    have hB3 := hl.below
    have HK3 := Lib.hid (HK2.out.below hB3)
    have HD3 := Lib.hid ((hB3.block D hlt3).trans HD2.out)
    have hown : OwnS w3 (w2.heap.size + 1) v (s.listS i) := hl.own
    have hsz3 := hB3.size
    clear hB3 HL HK0 HDd HW HIN hcd
    by_cases hz : z = 0
    · subst hz
      have hst3 := hown.strs (fun x hx => by have := (HLN.out.2 x hx).2; unfold maxLen; omega)
      have hvb3 := own_vblk hown
      obtain ⟨M, hM3⟩ : ∃ M, s.listS i = M := ⟨_, rfl⟩
      rw [hM3] at hst3 HLN
      have HM := Lib.hid (show ∀ u, u ∈ M → u.length ≤ 1000 from fun u hu => by have := (HLN.out.2 u hu).2; omega)
      obtain ⟨a, cap, hv, hcap, hat⟩ := hst3.shape
      subst hv
      have HAT := Lib.hid hat
      have HVB := Lib.hid (show ∀ b, vblk (.slice a M.length cap) = some b → D < b from fun b hb => by have := hvb3 b hb; omega)
      obtain ⟨N, hN⟩ : ∃ N, M.length = N := ⟨_, rfl⟩
      have HN := Lib.hid hN
      rw [hN] at hcap ⊢
      have hN100 : N ≤ 100 := by have := HLN.out.1; omega
      have HK4 := HK3
      have HD4 := HD3
      clear hst3 hvb3 hown hl hM3 hat hN HLN m7
      go_wp2_with fail
      go_loopw [48] (fun iv wr => ∃ (k : Nat) (out : List UInt8), iv = .int .i64 k ∧ k ≤ N ∧ RowKit.Hid (LsAt s lay w wr D d k out ∧ Turned (fun j => j = D) w3 wr)) (fun iv _ => N - (intOf iv).toNat)
      case atStart => exact ⟨0, d.out, rfl, by omega, Lib.hid ⟨⟨by omega, HK4.out.any, HD4.out⟩, Turned.refl _ _⟩⟩
      case round =>
        obtain ⟨k, out, rfl, hk, HA⟩ := hrel
        have hlen := HA.out.1.len
        by_cases hlt2 : k < N
        · have hil : (k : Int) < (N : Int) := by omega
          obtain ⟨b, off, rfl, hbl, hatb⟩ := HAT.out (by have := HN.out; omega)
          obtain ⟨u, hu⟩ : ∃ u, M[k]? = some u := ⟨_, List.getElem?_eq_getElem (by have := HN.out; omega)⟩
          have hul := HM.out u (List.mem_of_getElem? hu)
          have hbD : b ≠ D := by have := HVB.out b rfl; omega
          have hc : wr.cell? ⟨b, off + k, none⟩ = some (.string ⟨u.toArray⟩) := (World.cell?_of_block (a := ⟨b, off + k, none⟩) (HA.out.2.block b hbl hbD)).trans (hatb k u hu)
          have c4 := dctG4 HA.out.1.at_
          have z4 := dctG_fz HA.out.1.at_ 4
          have hoD := HA.out.1.fk.out (D := D) hlt hDo
          have hf1 : ¬ 9223372036854775807 < u.length + 1 := by omega
          have hf2 : ¬ 9223372036854775807 < out.length + (u.length + 1) := by omega
          clear hatb hu
          go_wp2_with fail
          exact ⟨⟨k + 1, out ++ (u ++ [10]), by go_num, by omega, Lib.hid ⟨⟨by simp; omega, HA.out.1.fk.set hoD 4 _, dctG_out HA.out.1.at_ _⟩, HA.out.2.set1 4 _⟩⟩, by simp [intOf]; omega⟩
        · obtain rfl : k = N := by omega
          have hil : ¬ (k : Int) < (k : Int) := by omega
          go_wp2
          go_end0
          exact ⟨rfl, out, d.err, d.si, d.st, lay, hst.1, hst.2, HA.out.1.fk, HA.out.1.at_⟩
    · have hzb : (z != 0) = true := by simpa using hz
      have hst3 := strs_lit w3 [y] #[.string ⟨y.toArray⟩] 1 rfl (by simp) (by intro x hx; simp at hx; subst hx; unfold maxLen; omega) (by simp) 9
      have HK4 := Lib.hid (HK3.out.below ((Below.refl _ w3).alloc (Nat.le_refl _) (.cells #[.string ⟨y.toArray⟩] 9)))
      have HD4 := Lib.hid ((Below.heap_alloc w3 (.cells #[.string ⟨y.toArray⟩] 9) D (by omega)).trans HD3.out)
      obtain ⟨w4, hw4⟩ : ∃ w4, w3.alloc (.cells #[.string ⟨y.toArray⟩] 9) = w4 := ⟨_, rfl⟩
      have HW4 := Lib.hid hw4
      rw [hw4] at HK4 HD4 hst3
      obtain ⟨M, hM3⟩ : ∃ M, [y] = M := ⟨_, rfl⟩
      have hM1 : M.length = 1 := by rw [← hM3]; rfl
      rw [hM3] at hst3
      have HM := Lib.hid (show ∀ u, u ∈ M → u.length ≤ 1000 from fun u hu => by rw [← hM3] at hu; simp at hu; subst hu; exact hy)
      obtain ⟨a, cap, hv, hcap, hat⟩ := hst3.shape
      have ha := (Value.slice.inj hv).1
      have hcp := (Value.slice.inj hv).2.2
      subst ha hcp
      clear hv
      have HAT := Lib.hid hat
      have HVB := Lib.hid (show ∀ b, vblk (.slice (some ⟨w3.heap.size, 0, none⟩) 1 1) = some b → D < b from fun b hb => by have q : w3.heap.size = b := Option.some.inj hb; omega)
      obtain ⟨N, hN⟩ : ∃ N, M.length = N := ⟨_, rfl⟩
      have HN := Lib.hid hN
      have hN1 : N = 1 := by omega
      clear hst3 hown hl hM3 hat hN HLN m7 hw4
      go_wp2_with fail
      rw [HW4.out]
      subst hN1
      go_loopw [48] (fun iv wr => ∃ (k : Nat) (out : List UInt8), iv = .int .i64 k ∧ k ≤ 1 ∧ RowKit.Hid (LsAt s lay w wr D d k out ∧ Turned (fun j => j = D) w4 wr)) (fun iv _ => 1 - (intOf iv).toNat)
      case atStart => exact ⟨0, d.out, rfl, by omega, Lib.hid ⟨⟨by omega, HK4.out.any, HD4.out⟩, Turned.refl _ _⟩⟩
      case round =>
        obtain ⟨k, out, rfl, hk, HA⟩ := hrel
        have hlen := HA.out.1.len
        by_cases hlt2 : k < 1
        · have hil : (k : Int) < ((1 : Nat) : Int) := by omega
          obtain ⟨b, off, hbe, hbl, hatb⟩ := HAT.out (by have := HN.out; omega)
          cases hbe
          obtain ⟨u, hu⟩ : ∃ u, M[k]? = some u := ⟨_, List.getElem?_eq_getElem (by have := HN.out; omega)⟩
          have hul := HM.out u (List.mem_of_getElem? hu)
          have hbD : w3.heap.size ≠ D := by have := HVB.out w3.heap.size rfl; omega
          have hc : wr.cell? ⟨w3.heap.size, 0 + k, none⟩ = some (.string ⟨u.toArray⟩) := (World.cell?_of_block (a := ⟨w3.heap.size, 0 + k, none⟩) (HA.out.2.block w3.heap.size hbl hbD)).trans (hatb k u hu)
          have c4 := dctG4 HA.out.1.at_
          have z4 := dctG_fz HA.out.1.at_ 4
          have hoD := HA.out.1.fk.out (D := D) hlt hDo
          obtain rfl : k = 0 := by omega
          have hf1 : ¬ 9223372036854775807 < u.length + 1 := by omega
          have hf2 : ¬ 9223372036854775807 < out.length + (u.length + 1) := by omega
          clear hatb hu
          go_wp2_with fail
          exact ⟨⟨1, out ++ (u ++ [10]), by go_num, by omega, Lib.hid ⟨⟨by simp; omega, HA.out.1.fk.set hoD 4 _, dctG_out HA.out.1.at_ _⟩, HA.out.2.set1 4 _⟩⟩, by simp [intOf]⟩
        · obtain rfl : k = 1 := by omega
          go_wp2
          go_end0
          exact ⟨rfl, out, d.err, d.si, d.st, lay, hst.1, hst.2, HA.out.1.fk, HA.out.1.at_⟩
  · have hcb : (c != 0) = true := by simpa using hc
    have HD3 := Lib.hid (show w2.drew.heap[D]? = some (dctG d) from HD2.out)
    have HE2 := Lib.hid (HE.out w2.drew (HK2.out.fsIn HIN.out hM.gen.whole).below.drew)
    have HWr := Lib.hid (wrong_any HD3.out y c hcd.1 (by have := hcd.2; omega) HE2.out hxl hy (by omega))
    go_wp2_with fail
    go_region_with (go_at_call 80; (with_reducible refine HWr.out.mono ?_); rintro e w3 ⟨rfl, err3, st3, he3, hs3, hd3, ht3⟩; have HS3 := Lib.hid hs3; have HDD := Lib.hid hd3; have HT3 := Lib.hid ht3; clear he3 hs3 hd3 ht3)
    have hoD3 := HK2.out.out (D := D) hlt hDo
    have hfk := HK2.out.any.trans ((FK.drew0 HK2.out.is).any.trans (FK.ofTurned (FK.drew0 HK2.out.is).is HT3.out hoD3))
    have hs3 := HS3.out
    have HFK := Lib.hid hfk
    clear hfk HT3
    go_wp2_with fail
    refine bodyPost_ret (results_none rfl _ _ _) rfl ?_
    exact ⟨rfl, d.out, err3, d.si, st3, lay, by omega, by omega, HFK.out, HDD.out⟩
end
end Go.Proofs.YtbecmcjibpamoaaGreatDoor
namespace Go.Proofs.YtbecmcjibpamoaaGreatDoor
open Go.RowKit IntWalk
def TxtGiven (w w' : World) (e : Ending) : Prop := (∃ y : List UInt8, e = .returned (.string ⟨y.toArray⟩)) ∧ Below w.heap.size w w'
theorem has_w {w : World} {D : Nat} (opts : List UInt8) (c : ByteArray) (h1 : w.cell? ⟨D, 1, none⟩ = some (.string ⟨opts.toArray⟩)) (ho : opts.length ≤ 100000) (hE : Env w) :
    Calls Tryz.prog 74 #[.pointer (some ⟨D, 0, none⟩), .string c] w fun e w' => (∃ b : Bool, e = .returned (.bool b)) ∧ w = w' := by
  obtain ⟨m, hm⟩ := hE.maxlen
  have HC := Lib.hid (Tryz.strings_Contains ⟨opts.toArray⟩ c m w (by rw [str_size]; omega) hm)
  obtain ⟨q, hq⟩ : ∃ q, Lib.contains (⟨opts.toArray⟩ : ByteArray).data.toList c.data.toList = q := ⟨_, rfl⟩
  rw [hq] at HC
  clear hq
  go_enter Tryz.func74, Tryz.ntmps74
  go_wp2_with (go_at_call 73; (refine HC.out.mono ?_); rintro e w' ⟨rfl, rfl⟩)
  go_ret
  exact ⟨⟨q, rfl⟩, by first | rfl | trivial⟩
set_option maxRecDepth 100000 in
set_option maxHeartbeats 2000000 in
theorem says_rd {w : World} {D : Nat} {x opts : List UInt8} {n : Int} {v : Value} {L : List (List UInt8)} (hx : x = echoN ∨ x = printfN) (h : PlanC w D x opts n v) (hs : Strs w v L) (hR : RightP x opts L.length) (hE : Env w) (h5 : ∀ y, y ∈ L → y.length ≤ 500) (hl : L.length ≤ 20) :
    Calls Tryz.prog 51 #[.pointer (some ⟨D, 0, none⟩)] w fun e w' => TxtGiven w w' e := by
  obtain ⟨c0, c1, c2, c3⟩ := h
  have hbd : Below w.heap.size w w.drew := ⟨rfl, rfl, rfl, Nat.le_refl _, fun _ _ => rfl⟩
  rcases hx with rfl | rfl
  · have HP := Lib.hid (echo_any v L w hs h5 (by omega))
    obtain ⟨a, cap, hv, hcap, hat⟩ := hs.shape
    subst hv
    clear hs hR hcap hat h5
    unfold echoN at c0
    go_enter Tryz.func51, Tryz.ntmps51
    go_wp2_with (go_at_call 91; (refine HP.out.mono ?_); rintro e w1 ⟨rfl, hB⟩)
    go_ret
    exact ⟨⟨_, rfl⟩, hB⟩
  · have hl0 := hR.2.2.1 rfl
    clear hR
    unfold printfN at c0
    cases L with
    | nil => simp at hl0
    | cons f L =>
      obtain ⟨a, cap, hv, hcap, hat⟩ := hs.shape
      subst hv
      obtain ⟨b, off, rfl, hbl, -, hc, d0, o', ho', hs'⟩ := strs_cons hs
      rw [List.length_cons] at c3
      have HP := Lib.hid (printf_any f _ L (h5 f (by simp)) w.drew (hs'.below hbd) (fun z hz => h5 z (by simp [hz])) (by simp at hl; omega) (hE.below hbd) |>.mono fun e w' hT => txt_weak hT)
      have h12 : (1 : Int) ≤ (L.length : Int) + 1 := by omega
      have h13 : (L.length : Int) + 1 ≤ (cap : Int) := by omega
      have HF : RowKit.Hid (∀ (w1 : World) (y1 : List UInt8), Below w.drew.heap.size w.drew w1 → TxtGiven w w1 (.returned (.string ⟨y1.toArray⟩))) := Lib.hid fun w1 y1 hB => ⟨⟨_, rfl⟩, ⟨hB.os, hB.tape, hB.output, hB.size, hB.block⟩⟩
      clear hs hs' hat hcap hl0 h5 hE
      by_cases hc1 : cap = 1
      · rw [if_pos hc1] at ho'
        cases ho'
        subst hc1
        have hL0 : L.length = 0 := by omega
        rw [hL0] at HP c3 h12 h13
        go_enter Tryz.func51, Tryz.ntmps51
        go_wp2_with fail
        go_region_with (go_at_call 77; (with_reducible refine HP.out.mono ?_); rintro e w1 ⟨⟨y1, c1', rfl⟩, hB⟩)
        all_goals
          go_wp2_with fail
          go_ret
          exact HF.out _ _ hB
      · rw [if_neg hc1] at ho'
        cases ho'
        go_enter Tryz.func51, Tryz.ntmps51
        go_wp2_with fail
        go_region_with (go_at_call 77; (with_reducible refine HP.out.mono ?_); rintro e w1 ⟨⟨y1, c1', rfl⟩, hB⟩)
        all_goals
          go_wp2_with fail
          go_ret
          exact HF.out _ _ hB
end Go.Proofs.YtbecmcjibpamoaaGreatDoor
namespace Go.Proofs.YtbecmcjibpamoaaGreatDoor
open Go.RowKit IntWalk
theorem words_len : ∀ (l : List UInt8) (b : Bool), wordsAt b l ≤ l.length
  | [], _ => by simp [wordsAt]
  | c :: t, b => by
    have h1 := words_len t true
    have h2 := words_len t false
    unfold wordsAt
    split
    · simp; omega
    · split <;> (simp; omega)
theorem wc_rel {w2 w6 : World} {v1 iv : Value} {G : List (List UInt8)} {y : List UInt8} (i : Nat) (hyl : y.length ≤ 21) (ho : OwnS w6 w2.heap.size v1 (G ++ [y])) (hB : Below w2.heap.size w2 w6) (hG : ∀ y, y ∈ G → y.length ≤ 21) (hi : G.length + 1 ≤ i ∧ i ≤ 3) (he : iv = .int .i64 i) :
    ∃ (i : Nat) (G : List (List UInt8)), iv = .int .i64 i ∧ i ≤ 3 ∧ RowKit.Hid (OwnS w6 w2.heap.size v1 G) ∧ G.length ≤ i ∧ RowKit.Hid (∀ y, y ∈ G → y.length ≤ 21) ∧ RowKit.Hid (Below w2.heap.size w2 w6) :=
  ⟨i, G ++ [y], he, hi.2, Lib.hid ho, by simp; omega, Lib.hid (fun z hz => by
    rcases List.mem_append.1 hz with q | q
    · exact hG z q
    · simp at q; subst q; exact hyl), Lib.hid hB⟩
set_option maxRecDepth 100000 in
set_option maxHeartbeats 2000000 in
theorem wc_rd {w : World} {D : Nat} {x opts : List UInt8} {n : Int} {v : Value} (s : List UInt8) (h : PlanC w D x opts n v) (hE : Env w) (ho : opts.length ≤ 1000) (hs : s.length ≤ 900) :
    Calls Tryz.prog 92 #[.pointer (some ⟨D, 0, none⟩), .string ⟨s.toArray⟩] w fun e w' => TxtGiven w w' e := by
  have HW := Lib.hid (wc_any s (by omega) w)
  have HE := Lib.hid (fun V (hb : Below w.heap.size w V) => hE.below hb)
  obtain ⟨c0, c1, c2, c3⟩ := h
  have hDl := World.block_lt_of_cell? w _ c1
  have HH := Lib.hid (fun V (hb : Below w.heap.size w V) (c : ByteArray) => has_w (w := V) (D := D) opts c (keep_cell c1 hb) (by omega) (HE.out V hb))
  have hn1 : s.count 10 ≤ 900 := Nat.le_trans List.count_le_length hs
  have hn2 : wordsAt true s ≤ 900 := Nat.le_trans (words_len s true) hs
  obtain ⟨n1, hn1e⟩ : ∃ n1, s.count 10 = n1 := ⟨_, rfl⟩
  obtain ⟨n2, hn2e⟩ : ∃ n2, wordsAt true s = n2 := ⟨_, rfl⟩
  obtain ⟨n3, hn3e⟩ : ∃ n3, s.length = n3 := ⟨_, rfl⟩
  have hC1 := Lib.hid c1
  rw [hn1e] at HW hn1
  rw [hn2e] at HW hn2
  rw [hn3e] at HW hs
  clear hE hn1e hn2e hn3e
  go_enter Tryz.func92, Tryz.ntmps92
  go_wp2_with (go_at_call 129; (refine HW.out.mono ?_); rintro e w1 ⟨rfl, hb1⟩)
  have hb2 := hb1.alloc hb1.size (.cells #[.int .i64 n1, .int .i64 n2, .int .i64 n3] 3)
  have hT := alloc_at w1 (.cells #[.int .i64 n1, .int .i64 n2, .int .i64 n3] 3)
  have hs1 := hb1.size
  generalize w1.alloc (.cells #[.int .i64 n1, .int .i64 n2, .int .i64 n3] 3) = w2 at *
  generalize w1.heap.size = g at *
  have hgl := (Array.getElem?_eq_some_iff.1 hT).1
  have HB2 := Lib.hid hb2
  have HT := Lib.hid hT
  clear hb1 hb2 hT c0 c1 c2 c3 HW
  go_loopw [5, 22] (fun lv iv wr => ∃ (i : Nat) (G : List (List UInt8)), iv = .int .i64 i ∧ i ≤ 3 ∧ RowKit.Hid (OwnS wr w2.heap.size lv G) ∧ G.length ≤ i ∧ RowKit.Hid (∀ y, y ∈ G → y.length ≤ 21) ∧ RowKit.Hid (Below w2.heap.size w2 wr)) (fun _ iv _ => 3 - (intOf iv).toNat)
  case atStart => exact ⟨0, [], rfl, by omega, Lib.hid (OwnS.nil _ _), by simp, Lib.hid (by simp), Lib.hid (Below.refl _ _)⟩
  case round =>
    obtain ⟨i, G, rfl, hi, HO, hGl, HG, HB⟩ := hrel
    have hBw := HB2.out.trans (HB.out.mono HB2.out.size)
    have c1 := keep_cell hC1.out hBw
    have hsz := HB.out.size
    have hsz0 := hBw.size
    have hi4 : i = 3 ∨ i = 0 ∨ i = 1 ∨ i = 2 := by omega
    have HH2 := Lib.hid (HH.out wr hBw)
    have hT := (HB.out.block g hgl).trans HT.out
    have k0 : wr.cell? ⟨g, 0, none⟩ = some (.int .i64 n1) := cell_of_row wr _ 0 _ _ _ hT
    have k1 : wr.cell? ⟨g, 1, none⟩ = some (.int .i64 n2) := cell_of_row wr _ 1 _ _ _ hT
    have k2 : wr.cell? ⟨g, 2, none⟩ = some (.int .i64 n3) := cell_of_row wr _ 2 _ _ _ hT
    have HI := Lib.hid (fun (m : Nat) (hm : m ≤ 900) => itoa_any m (by omega) (by omega) wr (HE.out wr hBw))
    have HBW := Lib.hid hBw
    clear hT hBw HB2 HT
    rcases hi4 with rfl | hi4
    · have hst := HO.out.strs (fun y hy => by have := HG.out y hy; unfold maxLen; omega)
      have HP := Lib.hid (echo_any _ G wr hst (fun y hy => by have := HG.out y hy; omega) (by omega))
      clear hst HH HH2 HI
      go_wp2_with (go_at_call 91; (refine HP.out.mono ?_); rintro e w5 ⟨rfl, hB5⟩)
      go_ret
      exact ⟨⟨_, rfl⟩, HBW.out.trans (hB5.mono hsz0)⟩
    · have HI0 := Lib.hid (HI.out n1 hn1)
      have HI1 := Lib.hid (HI.out n2 hn2)
      have HI2 := Lib.hid (HI.out n3 hs)
      clear HI HH
      by_cases hop : opts = []
      · subst hop
        rcases hi4 with rfl | rfl | rfl
        all_goals
          go_wp2_with first
            | (go_at_call 41; first | (refine HI0.out.mono ?_; rintro e w5 ⟨⟨y, hyl, rfl⟩, hB5⟩) | (refine HI1.out.mono ?_; rintro e w5 ⟨⟨y, hyl, rfl⟩, hB5⟩) | (refine HI2.out.mono ?_; rintro e w5 ⟨⟨y, hyl, rfl⟩, hB5⟩))
            | (at_builtin; refine append_s rfl _ _ rfl w2.heap.size _ _ rfl (HO.out.below hB5) y rfl (by omega) (Nat.le_trans hsz hB5.size) ?_; intro v1 w6 hown1 hg1; have hB6 := below_ownS (HB.out.trans (hB5.mono hsz)) (HO.out.below hB5) hg1 (Nat.le_trans hsz hB5.size))
          all_goals
            go_roundw
            case rel =>
              first
              | exact wc_rel 1 hyl hown1 hB6 HG.out (by omega) (by go_num)
              | exact wc_rel 2 hyl hown1 hB6 HG.out (by omega) (by go_num)
              | exact wc_rel 3 hyl hown1 hB6 HG.out (by omega) (by go_num)
              | exact ⟨1, G, by go_num, by omega, HO, by omega, HG, HB⟩
              | exact ⟨2, G, by go_num, by omega, HO, by omega, HG, HB⟩
              | exact ⟨3, G, by go_num, by omega, HO, by omega, HG, HB⟩
            case measure => simp [intOf]
      · have hop1 : (opts == []) = false := by simpa using hop
        rcases hi4 with rfl | rfl | rfl
        all_goals
          go_wp2_with first
            | (go_at_call 74; (refine (HH2.out _).mono ?_); rintro e w' ⟨⟨bh, rfl⟩, rfl⟩)
            | (go_at_call 41; first | (refine HI0.out.mono ?_; rintro e w5 ⟨⟨y, hyl, rfl⟩, hB5⟩) | (refine HI1.out.mono ?_; rintro e w5 ⟨⟨y, hyl, rfl⟩, hB5⟩) | (refine HI2.out.mono ?_; rintro e w5 ⟨⟨y, hyl, rfl⟩, hB5⟩))
            | (at_builtin; refine append_s rfl _ _ rfl w2.heap.size _ _ rfl (HO.out.below hB5) y rfl (by omega) (Nat.le_trans hsz hB5.size) ?_; intro v1 w6 hown1 hg1; have hB6 := below_ownS (HB.out.trans (hB5.mono hsz)) (HO.out.below hB5) hg1 (Nat.le_trans hsz hB5.size))
          all_goals
            go_roundw
            case rel =>
              first
              | exact wc_rel 1 hyl hown1 hB6 HG.out (by omega) (by go_num)
              | exact wc_rel 2 hyl hown1 hB6 HG.out (by omega) (by go_num)
              | exact wc_rel 3 hyl hown1 hB6 HG.out (by omega) (by go_num)
              | exact ⟨1, G, by go_num, by omega, HO, by omega, HG, HB⟩
              | exact ⟨2, G, by go_num, by omega, HO, by omega, HG, HB⟩
              | exact ⟨3, G, by go_num, by omega, HO, by omega, HG, HB⟩
            case measure => simp [intOf]
end Go.Proofs.YtbecmcjibpamoaaGreatDoor
namespace Go.Proofs.YtbecmcjibpamoaaGreatDoor
open Go.Lib
def onto (c : UInt8) : List (List UInt8) → List (List UInt8)
  | [] => [[c]]
  | x :: r => (c :: x) :: r
def linesL : List UInt8 → List (List UInt8)
  | [] => []
  | c :: t => if c = 10 then [] :: linesL t else onto c (linesL t)
def cutL (f : List UInt8) : List UInt8 → List (List UInt8)
  | [] => [[]]
  | c :: t => if c = 10 then f :: cutL f t else onto c (cutL f t)
def joinL (l : List (List UInt8)) : List UInt8 := (l.map (· ++ [10])).flatten
theorem cutL_ne (f : List UInt8) : ∀ l, cutL f l ≠ []
  | [] => by simp [cutL]
  | c :: t => by
    unfold cutL; split
    · simp
    · cases h : cutL f t <;> simp [onto]
theorem cut_lines : ∀ l : List UInt8, (∃ r, cutL [] l = r ++ [[]] ∧ linesL l = r) ∨ (linesL l = cutL [] l ∧ ∃ r x, cutL [] l = r ++ [x] ∧ x ≠ [])
  | [] => .inl ⟨[], rfl, rfl⟩
  | c :: t => by
    by_cases h : c = 10
    · rw [cutL, if_pos h, linesL, if_pos h]
      rcases cut_lines t with ⟨r, h1, h2⟩ | ⟨h1, r, x, h2, h3⟩
      · exact .inl ⟨[] :: r, by rw [h1]; rfl, by rw [h2]⟩
      · exact .inr ⟨by rw [h1], [] :: r, x, by rw [h2]; rfl, h3⟩
    · rw [cutL, if_neg h, linesL, if_neg h]
      rcases cut_lines t with ⟨r, h1, h2⟩ | ⟨h1, r, x, h2, h3⟩
      · cases r with
        | nil => exact .inr ⟨by rw [h1, h2]; rfl, [], [c], by rw [h1]; rfl, by simp⟩
        | cons y r => exact .inl ⟨(c :: y) :: r, by rw [h1]; rfl, by rw [h2]; rfl⟩
      · refine .inr ⟨by rw [h1], ?_⟩
        cases r with
        | nil => exact ⟨[], c :: x, by rw [h2]; rfl, by simp⟩
        | cons y r => exact ⟨(c :: y) :: r, x, by rw [h2]; rfl, h3⟩
theorem cutL_none (f : List UInt8) : ∀ l, (10 : UInt8) ∉ l → cutL f l = [l]
  | [], _ => rfl
  | c :: t, h => by
    rw [cutL, if_neg (fun e => h (by rw [e]; simp)), cutL_none f t (fun e => h (List.mem_cons_of_mem _ e))]; rfl
theorem cutL_some (f : List UInt8) : ∀ (a t : List UInt8), (10 : UInt8) ∉ a → cutL f (a ++ 10 :: t) = (a ++ f) :: cutL f t
  | [], t, _ => by rw [List.nil_append, cutL, if_pos rfl]; rfl
  | c :: a, t, h => by
    rw [List.cons_append, cutL, if_neg (fun e => h (by rw [e]; simp)), cutL_some f a t (fun e => h (List.mem_cons_of_mem _ e))]; rfl
theorem index_ten : ∀ (a t : List UInt8), (10 : UInt8) ∉ a → index (a ++ 10 :: t) [10] = a.length
  | [], t, _ => by rw [index_one]; simp [indexByte]
  | c :: a, t, h => by
    have ih := index_ten a t (fun e => h (List.mem_cons_of_mem _ e))
    rw [index_one] at ih ⊢
    have hc : (c == 10) = false := by rw [beq_eq_false_iff_ne]; exact fun e => h (by rw [e]; simp)
    rw [List.cons_append, indexByte, hc, ih]
    have : ((a.length : Int) == -1) = false := by rw [beq_eq_false_iff_ne]; omega
    rw [this]; simp
theorem splitK_cut (sv : Nat) (hsv : sv ≤ 1) : ∀ (k : Nat) (l : List UInt8), l.length ≤ k → splitK [10] sv (l.count 10) l = cutL (List.replicate sv 10) l := by
  intro k
  induction k with
  | zero => intro l hl; obtain rfl := List.eq_nil_of_length_eq_zero (Nat.le_zero.1 hl); rfl
  | succ k ih =>
    intro l hl
    by_cases hm : (10 : UInt8) ∈ l
    · obtain ⟨a, t, rfl, ha⟩ := List.eq_append_cons_of_mem hm
      have hc : (a ++ 10 :: t).count 10 = t.count 10 + 1 := by rw [List.count_append, List.count_eq_zero.2 ha, List.count_cons_self]; omega
      have hi := index_ten a t ha
      have hne : (((a.length : Nat) : Int) == -1) = false := by rw [beq_eq_false_iff_ne]; omega
      rw [hc, splitK, hi, hne, cutL_some _ _ _ ha]
      have hd : (a ++ 10 :: t).drop (a.length + 1) = t := by rw [← List.drop_drop]; simp
      have ht : (a ++ 10 :: t).take (a.length + sv) = a ++ List.replicate sv 10 := by
        rw [List.take_length_add_append]
        rcases (show sv = 0 ∨ sv = 1 by omega) with rfl | rfl <;> simp
      simp only [Int.toNat_natCast, List.length_singleton, hd, ht]
      rw [ih t (by simp at hl; omega)]; simp
    · have hc : l.count 10 = 0 := List.count_eq_zero.2 hm
      rw [hc, cutL_none _ _ hm]; rfl
theorem splitB_cut (sv : Nat) (hsv : sv ≤ 1) (l : List UInt8) : (splitB ⟨#[10]⟩ sv (l.count 10) ⟨l.toArray⟩).map (·.data.toList) = cutL (List.replicate sv 10) l := by
  have := splitB_data ⟨#[10]⟩ sv (l.count 10) ⟨l.toArray⟩
  rw [this]; exact splitK_cut sv hsv _ l (Nat.le_refl _)
theorem join_flat (l : List (List UInt8)) : join l [] = l.flatten := by
  cases l with
  | nil => rfl
  | cons x r => rw [join_cons, joinTail]; simp
theorem cut_flat : ∀ l : List UInt8, (cutL [10] l).flatten = l
  | [] => rfl
  | c :: t => by
    have ih := cut_flat t
    rw [cutL]; split
    · rename_i h; rw [h]; simp [ih]
    · cases h : cutL [10] t with
      | nil => exact absurd h (cutL_ne _ _)
      | cons x r => rw [h] at ih; simp only [onto, List.flatten_cons] at ih ⊢; rw [List.cons_append, ih]
theorem lines_len : ∀ l : List UInt8, (linesL l).length ≤ l.length
  | [] => by simp [linesL]
  | c :: t => by
    have ih := lines_len t
    rw [linesL]; split
    · simp; exact ih
    · cases ht : linesL t <;> rw [ht] at ih <;> simp [onto] at ih ⊢ <;> omega
theorem lines_sum : ∀ l : List UInt8, (linesL l).flatten.length ≤ l.length
  | [] => by simp [linesL]
  | c :: t => by
    have ih := lines_sum t
    rw [linesL]; split
    · simp at ih ⊢; omega
    · cases ht : linesL t <;> rw [ht] at ih <;> simp [onto] at ih ⊢ <;> omega
theorem joinL_len (l : List (List UInt8)) : (joinL l).length = l.flatten.length + l.length := by
  induction l with
  | nil => rfl
  | cons x r ih => simp [joinL] at ih ⊢; omega
theorem mem_flat_len : ∀ (l : List (List UInt8)) (x : List UInt8), x ∈ l → x.length ≤ l.flatten.length
  | y :: r, x, h => by
    rcases List.mem_cons.1 h with rfl | h
    · simp
    · have := mem_flat_len r x h; simp at this ⊢; omega
end Go.Proofs.YtbecmcjibpamoaaGreatDoor
namespace Go.Proofs.YtbecmcjibpamoaaGreatDoor
open Go.RowKit
structure SB (w : World) (b : Nat) (L : List (List UInt8)) : Prop where
  lt : b < w.heap.size
  cell : ∀ (j : Nat) (x : List UInt8), L[j]? = some x → w.cell? ⟨b, j, none⟩ = some (.string ⟨x.toArray⟩)
  free : ∀ j, j < L.length → w.frozen? ⟨b, j, none⟩ = false
theorem SB.below {w w' : World} {b L} (h : SB w b L) (hb : Below w.heap.size w w') : SB w' b L :=
  ⟨Nat.lt_of_lt_of_le h.lt hb.size, fun j c hj => keep_cell (h.cell j c hj) hb, fun j hj => (hb.frozen (p := ⟨b, j, none⟩) h.lt).trans (h.free j hj)⟩
theorem SB.take {w : World} {b L R} (h : SB w b (L ++ R)) : SB w b L :=
  ⟨h.lt, fun j c hj => h.cell j c (by rw [List.getElem?_append_left (List.getElem?_eq_some_iff.1 hj).1]; exact hj), fun j hj => h.free j (by simp; omega)⟩
theorem SB.strs {w : World} {b cap : Nat} {L : List (List UInt8)} (h : SB w b L) (hc : L.length ≤ cap) (hl : L.length ≤ 100000) (h5 : ∀ x, x ∈ L → x.length ≤ 100000) : Strs w (.slice (some ⟨b, 0, none⟩) L.length cap) L :=
  ⟨by unfold maxLen; omega, ⟨_, cap, rfl, hc, fun _ => ⟨b, 0, rfl, h.lt, fun i x hx => by rw [Nat.zero_add]; exact h.cell i x hx⟩⟩, fun i x hx => by have := h5 x (List.mem_of_getElem? hx); unfold maxLen; omega⟩
theorem sb_new (w : World) (L : List (List UInt8)) (cs : Array Value) (hcs : cs.toList = L.map fun x => Value.string ⟨x.toArray⟩) (t : TypeId) : SB (w.alloc (.cells cs t)) w.heap.size L := by
  refine ⟨by simp, fun j x hj => ?_, fun j hj => ?_⟩
  · rw [World.cell?_alloc_new]
    show cs[j]? = _
    rw [← Array.getElem?_toList, hcs, List.getElem?_map, hj]; rfl
  · have hn : (w.alloc (.cells cs t)).heap[w.heap.size]? = some (.cells cs t) := by
      show (w.heap.push _)[w.heap.size]? = _
      simp
    simp only [World.frozen?, hn]
    simp
theorem splitT_any (s : List UInt8) (hs : s.length ≤ 100000) (w : World) (hE : Env w) : Calls Tryz.prog 55 #[.string ⟨s.toArray⟩, .string ⟨#[10]⟩] w fun e w' =>
    e = .returned (.slice (some ⟨w.heap.size, 0, none⟩) (cutL [] s).length (cutL [] s).length) ∧ SB w' w.heap.size (cutL [] s) ∧ Below w.heap.size w w' := by
  obtain ⟨m, hm⟩ := hE.maxlen
  have h := Tryz.strings_Split ⟨s.toArray⟩ ⟨#[10]⟩ m w (by rw [str_size]; omega) hm (by decide)
  have hd : (ByteArray.mk s.toArray).data.toList = s := by simp
  have hd2 : (ByteArray.mk #[10]).data.toList = [10] := rfl
  have hc : Lib.countB ⟨s.toArray⟩ ⟨#[10]⟩ = s.count 10 := by
    show Lib.count _ _ = _
    rw [hd, hd2, Lib.count_one]
  have hcut := splitB_cut 0 (by decide) s
  have hlen : (cutL [] s).length = s.count 10 + 1 := by
    have := congrArg List.length hcut
    rw [List.length_map, ← hc, Lib.splitB_all _ (by decide) 0 _ _ rfl] at this
    rw [← hc]; exact this.symm
  rw [hc, ← hlen] at h
  refine h.mono ?_
  rintro e w' ⟨rfl, rfl⟩
  refine ⟨rfl, sb_new w _ _ ?_ _, below_alloc w _⟩
  show ((Lib.splitB ⟨#[10]⟩ 0 (s.count 10) ⟨s.toArray⟩).map Value.string) = _
  rw [show cutL [] s = cutL (List.replicate 0 10) s from rfl, ← hcut, List.map_map]
  refine List.map_congr_left (fun x _ => ?_)
  show Value.string x = Value.string ⟨x.data.toList.toArray⟩
  rw [Array.toArray_toList]
theorem line_len {s x : List UInt8} (h : x ∈ linesL s) : x.length ≤ s.length := Nat.le_trans (mem_flat_len _ _ h) (lines_sum s)
def LinesRes (w w' : World) (e : Ending) (L : List (List UInt8)) : Prop :=
  ∃ b cap, e = .returned (.slice (some ⟨b, 0, none⟩) L.length cap) ∧ w.heap.size ≤ b ∧ SB w' b L ∧ L.length ≤ cap ∧ Below w.heap.size w w'
set_option maxRecDepth 100000 in
theorem lines_any (s : List UInt8) (hs : s.length ≤ 100000) (w : World) (hE : Env w) : Calls Tryz.prog 131 #[.string ⟨s.toArray⟩] w fun e w' => LinesRes w w' e (linesL s) := by
  have H := Lib.hid (splitT_any s hs w hE)
  have hcut := cut_lines s
  have hll := lines_len s
  rcases hcut with ⟨r, h1, h2⟩ | ⟨h1, r, x, h2, h3⟩
  · rw [h1] at H
    rw [h2]
    have hrl : r.length ≤ 100000 := by rw [h2] at hll; omega
    clear h1 h2 hll
    obtain ⟨n, hn⟩ : ∃ n, (r ++ [[]]).length = n := ⟨_, rfl⟩
    rw [hn] at H
    have hn1 : n = r.length + 1 := by rw [← hn]; simp
    have HN := Lib.hid hn1
    have hn2 : (n : Int) - 1 = (r.length : Int) := by omega
    have hn3 : r.length < n := by omega
    have hn4 : n ≤ 200000 := by omega
    clear hn hn1
    go_enter Tryz.func131, Tryz.ntmps131
    go_wp2_with fail
    refine H.out.mono ?_
    rintro e w1 ⟨rfl, hSB, hB⟩
    have hc := hSB.cell r.length [] (by rw [List.getElem?_append_right (Nat.le_refl _)]; simp)
    have hSB2 := hSB.take
    clear hSB
    go_wp2_with fail
    go_ret
    exact ⟨w.heap.size, n, rfl, Nat.le_refl _, hSB2, by omega, hB⟩
  · rw [h2] at H
    rw [h1, h2]
    have hrl : (r ++ [x]).length ≤ 100000 := by rw [← h2, ← h1]; omega
    clear h1 h2 hll
    obtain ⟨n, hn⟩ : ∃ n, (r ++ [x]).length = n := ⟨_, rfl⟩
    rw [hn] at H hrl
    have hn1 : n = r.length + 1 := by rw [← hn]; simp
    have hn2 : (n : Int) - 1 = (r.length : Int) := by omega
    have hn3 : r.length < n := by omega
    have HN := Lib.hid hn
    have hx1 : (x == []) = false := by simp [h3]
    have hx2 : x.isEmpty = false := by simp [h3]
    clear hn hn1 h3
    go_enter Tryz.func131, Tryz.ntmps131
    go_wp2_with fail
    refine H.out.mono ?_
    rintro e w1 ⟨rfl, hSB, hB⟩
    have hc := hSB.cell r.length x (by rw [List.getElem?_append_right (Nat.le_refl _)]; simp)
    go_wp2_with fail
    go_ret
    exact ⟨w.heap.size, n, by rw [HN.out]; rfl, Nat.le_refl _, hSB, Nat.le_of_eq HN.out, hB⟩
end Go.Proofs.YtbecmcjibpamoaaGreatDoor
namespace Go.Proofs.YtbecmcjibpamoaaGreatDoor
open Go.RowKit Go.Sort
theorem joinL_take {L : List (List UInt8)} {k : Nat} {x : List UInt8} (h : L[k]? = some x) : joinL (L.take (k + 1)) = joinL (L.take k) ++ (x ++ [10]) := by
  rw [List.take_add_one, h]; simp [joinL]
theorem joinL_append (a b : List (List UInt8)) : joinL (a ++ b) = joinL a ++ joinL b := by simp [joinL]
theorem joinL_take_len (L : List (List UInt8)) (k : Nat) : (joinL (L.take k)).length ≤ (joinL L).length := by
  have : joinL L = joinL (L.take k) ++ joinL (L.drop k) := by rw [← joinL_append, List.take_append_drop]
  rw [this, List.length_append]; omega
set_option maxRecDepth 100000 in
set_option maxHeartbeats 1600000 in
theorem joined_any (v : Value) (L : List (List UInt8)) (w : World) (hv : Strs w v L) (hl : (joinL L).length ≤ 1000000) (h5 : ∀ x, x ∈ L → x.length ≤ 100000) (hLn : L.length ≤ 1000000) :
    Calls Tryz.prog 134 #[v] w fun e w' => e = .returned (.string ⟨(joinL L).toArray⟩) ∧ Below w.heap.size w w' := by
  obtain ⟨a0, cap, hv0, hcap, hat⟩ := hv.shape
  obtain ⟨n, hn⟩ : ∃ n, L.length = n := ⟨_, rfl⟩
  have HN := Lib.hid hn
  rw [hn] at hv0 hat hLn
  subst hv0
  have H5 := Lib.hid h5
  have HJ := Lib.hid (joinL_take_len L)
  have HL := Lib.hid hl
  have hA := below_alloc w (.cells #[.pointer none, .slice none 0 0] 71)
  have hB0 : Lib.IsBuilderF 71 5 w.heap.size w.heap.size (Lib.byteCells []) (w.alloc (.cells #[.pointer none, .slice none 0 0] 71)) := by
    refine .inl ⟨Nat.le_refl _, .slice none 0 0, ?_, ⟨by simp [Lib.byteCells], .inl ⟨rfl, rfl⟩⟩, (fun e => by cases e)⟩
    show (w.heap.push _)[w.heap.size]? = _
    simp
  obtain ⟨base, hbase⟩ : ∃ base, base = w.heap.size := ⟨_, rfl⟩
  rw [← hbase] at hA hB0
  have hblt : ∀ b, b < w.heap.size → b < base := fun b h => by omega
  have HB := Lib.hid hbase
  clear hv hn h5 hl hbase
  go_enter Tryz.func134, Tryz.ntmps134
  go_wp2_with fail
  rw [← HB.out]
  go_loopw [8] (fun i W => ∃ k : Nat, k ≤ n ∧ i = .int .i64 k ∧ Lib.IsBuilderF 71 5 base base (Lib.byteCells (joinL (L.take k))) W ∧ Below base w W) (fun i _ => n - (intOf i).toNat)
  case atStart => exact ⟨0, by omega, rfl, hB0, hA⟩
  case round =>
    clear hB0 hA
    obtain ⟨k, hk, rfl, hBd, hB⟩ := hrel
    have hbs : base ≤ wr.heap.size := by have := hB.size; have := HB.out; omega
    by_cases hkn : k < n
    · obtain ⟨b, off, rfl, hb, hcs⟩ := hat (by omega)
      obtain ⟨x, hx⟩ : ∃ x, L[k]? = some x := ⟨L[k]'(by rw [HN.out]; exact hkn), List.getElem?_eq_getElem _⟩
      have hcell := (hB.cell (p := ⟨b, off + k, none⟩) (hblt b hb)).trans (hcs k x hx)
      have hxl := H5.out x (List.mem_of_getElem? hx)
      have hj := joinL_take hx
      have hjl := HJ.out (k + 1)
      rw [hj] at hjl
      have hll := HL.out
      have HW := Lib.hid (Tryz.Builder_WriteString_k base base (Lib.byteCells (joinL (L.take k))) ⟨(x ++ [10]).toArray⟩ wr hBd (by rw [Lib.byteCells_length, str_size]; simp only [List.length_append] at hjl ⊢; omega) hbs)
      have HJ2 := Lib.hid (show Lib.byteCells (joinL (L.take k)) ++ Lib.strCells ⟨(x ++ [10]).toArray⟩ = Lib.byteCells (joinL (L.take (k + 1))) by rw [hj]; simp [Lib.byteCells, Lib.strCells])
      clear hx hj hjl hll hcs hat hBd
      go_wp2_with fail
      refine HW.out.mono ?_
      rintro e w1 ⟨rfl, hAt, hB1, _⟩
      rw [HJ2.out] at hAt
      go_wp2_with fail
      go_round
      case rel => exact ⟨k + 1, by omega, by go_num, .inr hAt, hB.trans hB1⟩
      case measure => simp [intOf]; omega
    · obtain rfl : k = n := by omega
      rw [← HN.out, List.take_length] at hBd
      have HS := Lib.hid (Tryz.Builder_String_any_k base base (joinL L) wr hBd hbs)
      clear hat hBd
      go_wp2_with fail
      refine HS.out.mono ?_
      rintro e w1 ⟨rfl, _, hB1, _⟩
      go_wp2_with fail
      go_ret
      exact ⟨rfl, HB.out ▸ hB.trans hB1⟩
structure LT where
  val : List UInt8
  ok : val.length ≤ 1000
instance : Inhabited LT := ⟨⟨[], by simp⟩⟩
def encL (x : LT) : Value := .string ⟨x.val.toArray⟩
def lts : (L : List (List UInt8)) → (∀ x, x ∈ L → x.length ≤ 1000) → List LT
  | [], _ => []
  | x :: r, h => ⟨x, h x (by simp)⟩ :: lts r (fun y hy => h y (List.mem_cons_of_mem _ hy))
theorem lts_map : ∀ (L : List (List UInt8)) (h : ∀ x, x ∈ L → x.length ≤ 1000), (lts L h).map (fun x => x.val) = L
  | [], _ => rfl
  | x :: r, h => by rw [lts, List.map_cons, lts_map r]
theorem lts_len (L : List (List UInt8)) (h : ∀ x, x ∈ L → x.length ≤ 1000) : (lts L h).length = L.length := by
  have := congrArg List.length (lts_map L h)
  rwa [List.length_map] at this
theorem lts_get {L : List (List UInt8)} {h : ∀ x, x ∈ L → x.length ≤ 1000} {j : Nat} (hj : j < (lts L h).length) : L[j]? = some (lts L h)[j].val := by
  have h1 := congrArg (fun l => l[j]?) (lts_map L h)
  simp only [List.getElem?_map] at h1
  rw [← h1, List.getElem?_eq_getElem hj]; rfl
theorem SB.holds {w : World} {b : Nat} {L : List (List UInt8)} (h : SB w b L) (h5 : ∀ x, x ∈ L → x.length ≤ 1000) : Holds encL w b 0 (lts L h5).toArray := by
  intro j hj
  rw [Nat.zero_add]
  have hj' : j < (lts L h5).length := by simpa using hj
  refine ⟨?_, h.free j (by rw [← lts_len L h5]; exact hj')⟩
  rw [h.cell j _ (lts_get hj'), getElem!_pos _ j hj]; rfl
theorem SB.of_holds {w : World} {b : Nat} {l : List LT} (hb : b < w.heap.size) (h : Holds encL w b 0 l.toArray) : SB w b (l.map (fun x => x.val)) := by
  refine ⟨hb, fun j c hj => ?_, fun j hj => ?_⟩
  · rw [List.getElem?_map] at hj
    cases hl : l[j]? with
    | none => rw [hl] at hj; cases hj
    | some x =>
      rw [hl] at hj; cases hj
      obtain ⟨h1, h2⟩ := List.getElem?_eq_some_iff.1 hl
      have := (h j (by simpa using h1)).1
      rw [Nat.zero_add, getElem!_pos l.toArray j (by simpa using h1)] at this
      rw [this]
      show some (encL l[j]) = _
      rw [h2]; rfl
  · have := (h j (by simpa using hj)).2
    rwa [Nat.zero_add] at this
def gone (t : List UInt8) (others : Bool) (x : List UInt8) : Bool := Lib.contains x t == others
theorem grepf_any (W : World) (pt po : Nat) (t : List UInt8) (others : Bool) (x : List UInt8) (hx : x.length ≤ 1000) (h1 : W.cell? ⟨pt, 0, none⟩ = some (.string ⟨t.toArray⟩)) (h2 : W.cell? ⟨po, 0, none⟩ = some (.bool others)) (m : Int) (hm : W.cell? ⟨0, 0, none⟩ = some (.int .i64 m)) :
    Calls Tryz.prog 136 #[.string ⟨x.toArray⟩, .pointer (some ⟨pt, 0, none⟩), .pointer (some ⟨po, 0, none⟩)] W fun e w' => e = .returned (.bool (gone t others x)) ∧ ∃ q, w' = W.drewN q := by
  have HC := Lib.hid (fun W' (hm' : W'.cell? ⟨0, 0, none⟩ = some (.int .i64 m)) => Tryz.strings_Contains ⟨x.toArray⟩ ⟨t.toArray⟩ m W' (by rw [str_size]; omega) hm')
  have hb : ∀ p q : Bool, (if p = true then q else !q) = (p == q) := by decide
  have HG := Lib.hid (show gone t others x = (Lib.contains x t == others) from rfl)
  go_enter Tryz.func136, Tryz.ntmps136
  go_wp2_with fail
  go_quiet ((go_at_call 73; exact Calls.quiet_of_same (HC.out _ hm)))
  go_wp2_with fail
  go_ret
  exact ⟨rfl, nq, rfl⟩
theorem filter_lts (L : List (List UInt8)) (h : ∀ x, x ∈ L → x.length ≤ 1000) (p : List UInt8 → Bool) : ((lts L h).filter fun x => p x.val).map (fun x => x.val) = L.filter p := by
  conv => rhs; rw [← lts_map L h]
  rw [List.filter_map]; rfl
theorem dels_any (w : World) (b cap pt po : Nat) (L : List (List UInt8)) (t : List UInt8) (others : Bool) (h : SB w b L) (hcap : L.length ≤ cap) (hl : L.length ≤ 100000) (h5 : ∀ x, x ∈ L → x.length ≤ 1000)
    (h1 : w.cell? ⟨pt, 0, none⟩ = some (.string ⟨t.toArray⟩)) (h2 : w.cell? ⟨po, 0, none⟩ = some (.bool others)) (m : Int) (hm : w.cell? ⟨0, 0, none⟩ = some (.int .i64 m))
    (hpt : pt ≠ b) (hpo : po ≠ b) (hmb : 0 ≠ b) :
    Calls Tryz.prog 135 #[.slice (some ⟨b, 0, none⟩) L.length cap, .func (.func 136) #[] #[.pointer (some ⟨pt, 0, none⟩), .pointer (some ⟨po, 0, none⟩)]] w fun e w' =>
      e = .returned (.slice (some ⟨b, 0, none⟩) (L.filter fun x => !gone t others x).length cap) ∧ SB w' b (L.filter fun x => !gone t others x) ∧ w.grownBy w' (some b) := by
  have l1 := World.block_lt_of_cell? w _ h1
  have l2 := World.block_lt_of_cell? w _ h2
  have l3 := World.block_lt_of_cell? w _ hm
  have hmain := Tryz.slices_DeleteFunc (α := LT) encL (fun x => rfl) (fun x => gone t others x.val) 136 #[.pointer (some ⟨pt, 0, none⟩), .pointer (some ⟨po, 0, none⟩)] (enters_of Tryz.func136 (by kernel_rfl) rfl) ⟨[], by simp⟩ (by intro w; kernel_rfl)
    b 0 cap (lts L h5).toArray w
    (fun W x hB => grepf_any W pt po t others x.val x.ok (keep_cell h1 hB) (keep_cell h2 hB) m (keep_cell hm hB))
    (fun n os dk x hdk => by
      have cellk : ∀ g j u, g < w.heap.size → g ≠ b → w.cell? ⟨g, j, none⟩ = some u → (sortWorld encL w b 0 n dk os).cell? ⟨g, j, none⟩ = some u := by
        intro g j u hg hgb hu
        rw [sortWorld, cell?_grow _ _ _ (by rw [size_putRow]; exact hg), cell?_putRow_other _ _ _ _ _ _ (.inl hgb)]
        exact hu
      exact grepf_any _ pt po t others x.val x.ok (cellk _ _ _ l1 hpt h1) (cellk _ _ _ l2 hpo h2) m (cellk _ _ _ l3 hmb hm))
    (h.holds h5) (by simp [lts_len]; omega) (by simpa [lts_len] using hcap)
  have hsz : (lts L h5).toArray.size = L.length := by simp [lts_len]
  have hfl : ((lts L h5).toArray.toList.filter fun x => !gone t others x.val).length = (L.filter fun x => !gone t others x).length := by
    show ((lts L h5).filter fun x => !gone t others x.val).length = _
    have := congrArg List.length (filter_lts L h5 (fun x => !gone t others x))
    rwa [List.length_map] at this
  have hle := List.length_filter_le (fun x => !gone t others x) L
  rw [hsz] at hmain
  rw [hfl] at hmain
  refine hmain.mono ?_
  rintro e w' ⟨rfl, q, rfl⟩
  refine ⟨rfl, ?_, grown_put _ _ _ _ _ _⟩
  have hh := SB.of_holds (w := putRow encL (Sort.ahead w q) b 0 ((((lts L h5).filter fun (x : LT) => !gone t others x.val) ++ List.replicate (L.length - (L.filter fun x => !gone t others x).length) (⟨[], by simp⟩ : LT)).toArray : Array LT)) (b := b) (by rw [size_putRow]; exact h.lt)
    (holds_putRow encL _ b 0 (lts L h5).toArray _ (h.holds h5) (by
      rw [List.size_toArray, List.size_toArray, List.length_append, List.length_replicate, lts_len]
      show ((lts L h5).toArray.toList.filter _).length + _ = _
      rw [hfl]; omega))
  have hmap : ((((lts L h5).filter fun (x : LT) => !gone t others x.val) ++ List.replicate (L.length - (L.filter fun x => !gone t others x).length) (⟨[], by simp⟩ : LT)).map fun x => x.val) = (L.filter fun x => !gone t others x) ++ (List.replicate (L.length - (L.filter fun x => !gone t others x).length) (⟨[], by simp⟩ : LT)).map fun x => x.val := by
    rw [List.map_append, filter_lts L h5 (fun x => !gone t others x)]
  rw [hmap] at hh
  exact hh.take
def grepL (s t : List UInt8) (others : Bool) : List UInt8 := joinL ((linesL s).filter fun x => !gone t others x)
theorem joinL_filter_len (p : List UInt8 → Bool) : ∀ L : List (List UInt8), (joinL (L.filter p)).length ≤ (joinL L).length
  | [] => by simp
  | x :: r => by
    have ih := joinL_filter_len p r
    rw [List.filter_cons]
    split
    · simp [joinL] at ih ⊢; omega
    · simp [joinL] at ih ⊢; omega
theorem joinLines_len (s : List UInt8) : (joinL (linesL s)).length ≤ 2 * s.length := by
  rw [joinL_len]
  have h1 := lines_sum s
  have h2 := lines_len s
  omega
set_option maxRecDepth 100000 in
theorem grep_any (s t : List UInt8) (others : Bool) (hs : s.length ≤ 900) (w : World) (hE : Env w) : Calls Tryz.prog 97 #[.string ⟨s.toArray⟩, .string ⟨t.toArray⟩, .bool others] w fun e w' => e = .returned (.string ⟨(grepL s t others).toArray⟩) ∧ Below w.heap.size w w' := by
  have HG := Lib.hid (show grepL s t others = joinL ((linesL s).filter fun x => !gone t others x) from rfl)
  have HLl := Lib.hid (lines_len s)
  have HL5 := Lib.hid (fun x (h : x ∈ linesL s) => line_len h)
  have HJl := Lib.hid (Nat.le_trans (joinL_filter_len (fun x => !gone t others x) (linesL s)) (joinLines_len s))
  obtain ⟨W, hW⟩ : ∃ W, W = (w.alloc (.cells #[.string ⟨t.toArray⟩] 9)).alloc (.cells #[.bool others] 4) := ⟨_, rfl⟩
  have hBW : Below w.heap.size w W := by rw [hW]; exact below_tr (below_alloc w _) (below_alloc _ _)
  have hWs : W.heap.size = w.heap.size + 2 := by rw [hW]; simp
  have hc1 : W.cell? ⟨w.heap.size, 0, none⟩ = some (.string ⟨t.toArray⟩) := by
    rw [hW, World.cell?_alloc_old _ _ _ (by simp), World.cell?_alloc_new]; rfl
  have hc2 : W.cell? ⟨w.heap.size + 1, 0, none⟩ = some (.bool others) := by
    have h1 := World.cell?_alloc_new (w := w.alloc (.cells #[.string ⟨t.toArray⟩] 9)) #[.bool others] 4 0
    rw [show (w.alloc (.cells #[.string ⟨t.toArray⟩] 9)).heap.size = w.heap.size + 1 by simp] at h1
    rw [hW, h1]; rfl
  have hEW := hE.below hBW
  have HL := Lib.hid (lines_any s (by omega) W hEW)
  have hsz := hBW.size
  go_enter Tryz.func97, Tryz.ntmps97
  go_wp2_with fail
  rw [← hW]
  refine HL.out.mono ?_
  rintro e w1 ⟨b, cap, rfl, hb, hSB, hcap, hB1⟩
  have hE1 := hEW.below hB1
  obtain ⟨m, hm⟩ := hE1.maxlen
  have hm0 := World.block_lt_of_cell? _ _ (hE.maxlen.choose_spec)
  have hm0' : 0 < w.heap.size := hm0
  have HD := Lib.hid (dels_any w1 b cap w.heap.size (w.heap.size + 1) (linesL s) t others hSB hcap (by have := HLl.out; omega) (fun x hx => by have := HL5.out x hx; omega) (keep_cell hc1 hB1) (keep_cell hc2 hB1) m hm (by omega) (by omega) (by omega))
  have hB2 := below_tr hBW hB1
  have hb2 := hB1.size
  have hFc := Lib.hid (show ((linesL s).filter fun x => !gone t others x).length ≤ cap from Nat.le_trans (List.length_filter_le _ _) hcap)
  clear hm hSB hcap hc1 hc2 hm0 hm0' hEW HL
  obtain ⟨n, hn⟩ : ∃ n, (linesL s).length = n := ⟨_, rfl⟩
  rw [hn] at HD ⊢
  have hFl := Lib.hid (show ((linesL s).filter fun x => !gone t others x).length ≤ 900 from Nat.le_trans (List.length_filter_le _ _) (by have := HLl.out; omega))
  have hF5 := Lib.hid (show ∀ x, x ∈ ((linesL s).filter fun x => !gone t others x) → x.length ≤ 900 from fun x hx => by have := HL5.out x (List.mem_filter.1 hx).1; omega)
  obtain ⟨F, hF⟩ : ∃ F, ((linesL s).filter fun x => !gone t others x) = F := ⟨_, rfl⟩
  rw [hF] at HD HJl hFl hF5 HG hFc
  clear hF hn hW
  go_wp2_with fail
  refine HD.out.mono ?_
  rintro e w2 ⟨rfl, hSB2, hg2⟩
  have hB3 := hB2.grown hg2 hB2.size (fun k hk => by cases hk; omega)
  have HJ := Lib.hid (joined_any (.slice (some ⟨b, 0, none⟩) F.length cap) F w2 (hSB2.strs hFc.out (by have := hFl.out; omega) (fun x hx => by have := hF5.out x hx; omega)) (by have := HJl.out; omega) (fun x hx => by have := hF5.out x hx; omega) (by have := hFl.out; omega))
  clear hSB2 hg2
  obtain ⟨nf, hnf⟩ : ∃ nf, F.length = nf := ⟨_, rfl⟩
  rw [hnf] at HJ ⊢
  clear hnf
  go_wp2_with fail
  refine HJ.out.mono ?_
  rintro e w3 ⟨rfl, hB4⟩
  go_wp2_with fail
  go_ret
  rw [HG.out]
  exact ⟨rfl, below_tr hB3 hB4⟩
end Go.Proofs.YtbecmcjibpamoaaGreatDoor
