/- Texts: other bytes in the place of some (the reference's side). -/
import Derived.Test.YtmhgehnkhhlbkaaDoorTxC
import Derived.Test.YtmhgehnkhhlbkaaDoorTxD
namespace Go.Proofs.YtmhgehnkhhlbkaaDoor
open Go.RowKit

theorem below_drewN {n : Nat} {w w' : World} (h : Below n w w') (k : Nat) : Below n w (w'.drewN k) := ⟨h.os, h.tape, h.output, h.size, h.block⟩
theorem tr_if {a b : List UInt8} {x d : UInt8} {k : Nat} (hd : a[k]? = some d) (e : d = x) : trAt a b x (k + 1) = b.getD (min k (b.length - 1)) 0 := by
  rw [trAt, if_pos (by simp [List.getD, hd, e])]
theorem tr_no {a b : List UInt8} {x d : UInt8} {k : Nat} (hd : a[k]? = some d) (e : d ≠ x) : trAt a b x (k + 1) = trAt a b x k := by
  rw [trAt, if_neg (by simp [List.getD, hd, e])]
set_option maxRecDepth 100000 in
set_option maxHeartbeats 3200000 in
theorem rtr_any (s f t : List UInt8) (hf : f.length ≤ 500) (ht : t.length ≤ 500) (hs : s.length ≤ 500) (w : World) : Calls Tryd.prog 16 #[.string ⟨s.toArray⟩, .string ⟨f.toArray⟩, .string ⟨t.toArray⟩] w fun e w' => TxtRes w w' e (trL s f t) := by
  go_enter Tryd.func16, Tryd.ntmps16
  go_wp2_with fail
  refine (rset_any f hf w).mono ?_
  rintro e w1 hr1
  cases ha : setL f with
  | none =>
    rw [ha] at hr1
    obtain ⟨rfl, hB1⟩ := hr1
    have hres := Lib.hid (show trL s f t = none by simp [trL, ha])
    clear ha
    go_wp2_with fail
    refine (rset_any t ht _).mono ?_
    rintro e w2 hr2
    cases hb : setL t with
    | none =>
      rw [hb] at hr2
      obtain ⟨rfl, hB2⟩ := hr2
      clear hb
      go_wp2_with fail
      go_ret2
      rw [hres.out]
      exact ⟨rfl, hB1.trans (hB2.mono hB1.size)⟩
    | some b =>
      rw [hb] at hr2
      obtain ⟨v2, rfl, hown2, hl2, hB2⟩ := hr2
      clear hb
      go_wp2_with fail
      go_ret2
      rw [hres.out]
      exact ⟨rfl, hB1.trans (hB2.mono hB1.size)⟩
  | some a =>
    rw [ha] at hr1
    obtain ⟨v1, rfl, hown1, hl1, hB1⟩ := hr1
    go_wp2_with fail
    refine (rset_any t ht _).mono ?_
    rintro e w2 hr2
    cases hb : setL t with
    | none =>
      rw [hb] at hr2
      obtain ⟨rfl, hB2⟩ := hr2
      have hres := Lib.hid (show trL s f t = none by simp [trL, ha, hb])
      clear ha hb
      go_wp2_with fail
      go_ret2
      rw [hres.out]
      exact ⟨rfl, hB1.trans (hB2.mono hB1.size)⟩
    | some b =>
      rw [hb] at hr2
      obtain ⟨v2, rfl, hown2, hl2, hB2⟩ := hr2
      have hown1 := hown1.below hB2
      have hBB := hB1.trans (hB2.mono hB1.size)
      have hsz1 := hB1.size
      have hsz2 := hBB.size
      obtain ⟨a1, c1, hv1⟩ := hown1.len
      obtain ⟨a2, c2, hv2⟩ := hown2.len
      obtain ⟨na, hna⟩ : ∃ na, a.length = na := ⟨_, rfl⟩
      obtain ⟨nb, hnb⟩ : ∃ nb, b.length = nb := ⟨_, rfl⟩
      rw [hna] at hv1 hl1
      rw [hnb] at hv2 hl2
      subst hv1 hv2
      have HA := Lib.hid hna
      have HB := Lib.hid hnb
      by_cases hbad : nb = 0 ∧ 0 < na
      · have hres := Lib.hid (show trL s f t = none by
          simp only [trL, ha, hb]; rw [if_pos ⟨List.eq_nil_of_length_eq_zero (hnb.trans hbad.1), fun e => by rw [e] at hna; simp at hna; omega⟩])
        clear ha hb hna hnb
        obtain ⟨rfl, hpos⟩ := hbad
        go_wp2_with fail
        go_ret2
        rw [hres.out]
        exact ⟨rfl, hBB⟩
      · have hok : 0 < na → 0 < nb := fun h => by omega
        have hres := Lib.hid (show trL s f t = some (s.map fun x => trAt a b x na) by
          simp only [trL, ha, hb]; rw [if_neg (fun e => hbad ⟨by rw [← hnb, e.1]; rfl, by rw [← hna]; exact List.length_pos_iff.2 e.2⟩), hna])
        clear ha hb hna hnb
        have hcase : (nb ≤ 0 ∧ na ≤ 0 ∧ decide (0 < na) = false ∧ decide ((0 : Int) < na) = false) ∨ 0 < nb := by
          rcases Nat.eq_zero_or_pos nb with h | h
          · exact .inl ⟨by omega, by omega, by rw [decide_eq_false_iff_not]; omega, by rw [decide_eq_false_iff_not]; omega⟩
          · exact .inr h
        clear hbad
        obtain ⟨sl, hsl⟩ : ∃ sl, s.length = sl := ⟨_, rfl⟩
        have HSL := Lib.hid hsl
        have hsl5 : sl ≤ 500 := by omega
        rcases hcase with ⟨hz1, hz2, hz3, hz4⟩ | hnb0
        all_goals go_wp2_with fail
        all_goals
          go_loopw [12, 13] (fun v i W => ∃ (j : Nat) (O : List UInt8), j ≤ sl ∧ i = .int .i64 j ∧ OwnB W w2.heap.size v O ∧ Below w2.heap.size w2 W ∧ Hid (O = (s.take j).map (fun x => trAt a b x na))) (fun _ i _ => sl - (intOf i).toNat)
          case atStart => exact ⟨0, [], by omega, rfl, OwnB.nil _ _, Below.refl _ _, Lib.hid (by simp)⟩
          case round =>
            obtain ⟨j, O, hj, rfl, hO, hBW, HO⟩ := hrel
            by_cases hjl : j < sl
            · have hA := hown1.below hBW
              have hBo := hown2.below hBW
              obtain ⟨x, _, hg, hx⟩ := str_at s j (by omega)
              have hxn := x.toNat_lt
              have HO' := Lib.hid (show O ++ [trAt a b x na] = (s.take (j + 1)).map (fun x => trAt a b x na) by rw [HO.out, List.take_add_one, hx]; simp)
              have hOl : O.length ≤ 500 := by rw [HO.out]; simp; omega
              clear hx
              go_wp2_with fail
              obtain ⟨wo, hwo⟩ : ∃ wo : World, wo = wr := ⟨_, rfl⟩
              subst hwo
              go_loopw [14, 15] (fun c i W => ∃ k : Nat, k ≤ na ∧ i = .int .i64 k ∧ c = .int .u8 (trAt a b x k).toNat ∧ Below wo.heap.size wo W) (fun _ i _ => na - (intOf i).toNat)
              case atStart => exact ⟨0, by omega, rfl, rfl, Below.refl _ _⟩
              case round =>
                obtain ⟨k, hk, rfl, rfl, hBk⟩ := hrel
                by_cases hkl : k < na
                · have hnb1 := hok (by omega)
                  try (exfalso; omega)
                  all_goals
                    have hA := hA.below hBk
                    have hBo := hBo.below hBk
                    have hae : a ≠ [] := fun e => by have := HA.out; rw [e] at this; simp at this; omega
                    have hbe : b ≠ [] := fun e => by have := HB.out; rw [e] at this; simp at this; omega
                    obtain ⟨ga, ca, hva, _, _, hcA, _⟩ := hA.at hae
                    obtain ⟨gb, cb, hvb, _, _, hcB, _⟩ := hBo.at hbe
                    rw [HA.out] at hva
                    rw [HB.out] at hvb
                    cases hva
                    cases hvb
                    obtain ⟨d, hd⟩ : ∃ d, a[k]? = some d := ⟨a[k]'(by rw [HA.out]; exact hkl), List.getElem?_eq_getElem _⟩
                    have hd' := hcA k d hd
                    by_cases hdx : d = x
                    · subst hdx
                      obtain ⟨m, hm⟩ : ∃ m, min k (nb - 1) = m := ⟨_, rfl⟩
                      have hmb : m < nb := by omega
                      obtain ⟨y, hy⟩ : ∃ y, b[m]? = some y := ⟨b[m]'(by rw [HB.out]; exact hmb), List.getElem?_eq_getElem _⟩
                      have hy' := hcB m y hy
                      have HT := Lib.hid (show trAt a b d (k + 1) = y by rw [tr_if hd rfl, HB.out, hm]; simp [List.getD, hy])
                      clear hcA hcB hd hy hA hBo
                      obtain ⟨n1, hn1⟩ : ∃ n1, nb - 1 = n1 := ⟨_, rfl⟩
                      have hq : (nb : Int) - 1 = (n1 : Int) := by omega
                      rw [hn1] at hm
                      generalize trAt a b d k = y0 at *
                      have heq : ((d.toNat : Int) == (d.toNat : Int)) = true := by simp
                      have hk0 : (0 : Int) ≤ k := by omega
                      have hki : (k : Int) < na := by omega
                      have hj0 : (0 : Int) ≤ j := by omega
                      have hji : (j : Int) < sl := by omega
                      go_wp2_with fail
                      go_quiet (fail)
                      by_cases hkm : k ≤ n1
                      · obtain rfl : k = m := by omega
                        have hmin : (k : Int) ≤ (n1 : Int) := by omega
                        have hmin2 : min (k : Int) (n1 : Int) = k := by omega
                        clear hm hn1
                        go_wp2_with fail
                        go_round
                        case rel => exact ⟨k + 1, by omega, by go_num, by rw [HT.out], below_drewN hBk _⟩
                        case measure => simp [intOf]; omega
                      · obtain rfl : m = n1 := by omega
                        have hmin : ¬ (k : Int) ≤ (m : Int) := by omega
                        have hmin2 : min (k : Int) (m : Int) = m := by omega
                        clear hm hn1
                        go_wp2_with fail
                        go_round
                        case rel => exact ⟨k + 1, by omega, by go_num, by rw [HT.out], below_drewN hBk _⟩
                        case measure => simp [intOf]; omega
                    · have HT := Lib.hid (tr_no (b := b) hd hdx)
                      have hnt : ¬ d.toNat = x.toNat := fun e => hdx (UInt8.toNat_inj.1 e)
                      have hne : ((d.toNat : Int) == (x.toNat : Int)) = false := by rw [beq_eq_false_iff_ne]; omega
                      clear hcA hcB hd hA hBo hdx
                      have hk0 : (0 : Int) ≤ k := by omega
                      have hki : (k : Int) < na := by omega
                      have hj0 : (0 : Int) ≤ j := by omega
                      have hji : (j : Int) < sl := by omega
                      go_wp2_with fail
                      go_quiet (fail)
                      go_wp2_with fail
                      go_round
                      case rel => exact ⟨k + 1, by omega, by go_num, by rw [HT.out], below_drewN hBk _⟩
                      case measure => simp [intOf]; omega
                · obtain rfl : k = na := by omega
                  have hO' := hO.below hBk
                  have hBW' := hBW.trans (hBk.mono hBW.size)
                  have hsz' := hBW'.size
                  clear hA hBo
                  generalize trAt a b x k = y at *
                  go_wp2_with (at_builtin; refine append_lit rfl _ _ rfl w2.heap.size _ _ rfl hO' [y] _ rfl 1 rfl rfl (by first | omega | (simp; omega)) hsz' ?_; intro v1 wz hown1 hg1'; have hB1 := below_own hBW' hO' hg1' hsz')
                  go_round
                  case rel => exact ⟨j + 1, _, by omega, by go_num, hown1, hB1, HO'⟩
                  case measure => simp [intOf]; omega
            · obtain rfl : j = sl := by omega
              have hcv := hO.conv
              have HRe := Lib.hid (show O = s.map (fun x => trAt a b x na) by rw [HO.out, ← hsl]; simp)
              have hB4 := hBB.trans (hBW.mono hsz2)
              go_wp2_with fail
              go_ret2
              refine ⟨?_, hB4⟩
              rw [hres.out, HRe.out]
              rfl
end Go.Proofs.YtmhgehnkhhlbkaaDoor
