/- Texts: by a pattern (the reference's side), whole. -/
import Derived.Test.YtmhgehnkhhlbkaaDoorTxY
namespace Go.Proofs.YtmhgehnkhhlbkaaDoor
open Go.RowKit

/-- within the pattern: k bytes of it are done; or it is bad -/
def RSt (base : Nat) (W : World) (n k m : Nat) (f : List UInt8) (R : Option PSt) : Prop :=
  (∃ s1 rv1, k ≤ n ∧ Hid (passS (f.drop k) s1 = R) ∧ RPrt base W base s1.out rv1 s1.took false ∧ RestB base W rv1 s1.rest ∧ s1.out.length + 500 * (n - k) ≤ m) ∨ (R = none ∧ ∃ out rv took, RPrt base W base out rv took true)
theorem one_len {c d : UInt8} {st st' : PSt} (h : oneS c d st = some st') (h5 : ∀ x, x ∈ st.rest → x.length ≤ 500) : st'.out.length ≤ st.out.length + 500 := by
  unfold oneS at h
  split at h
  · exact pct_len h h5
  · cases hv : escV d with
    | none => rw [hv] at h; cases h
    | some v => rw [hv] at h; cases h; simp
theorem passS_one (c d : UInt8) (t : List UInt8) (st : PSt) (hc : c = 37 ∨ c = 92) : passS (c :: d :: t) st = (oneS c d st).bind (passS t) := by
  rcases hc with rfl | rfl
  · rw [passS_pct]; rfl
  · rw [passS_esc]; simp [oneS]; cases escV d <;> rfl
theorem drewP {base : Nat} {w : World} {pb : Nat} {out rv} {took bad : Bool} (h : RPrt base w pb out rv took bad) : RPrt base w.drew pb out rv took bad := h
theorem take_at {f : List UInt8} {k : Nat} {c : UInt8} (h : f[k]? = some c) : (f.drop k).take 1 = [c] := by rw [drop_cons h]; rfl
theorem take_at2 {f : List UInt8} {k : Nat} {c d : UInt8} (h : f[k]? = some c) (h2 : f[k + 1]? = some d) : (f.drop k).take 2 = [c, d] := by rw [drop_cons h, drop_cons h2]; rfl
theorem lt_of_meas {a b c d : Nat} (h1 : a = c) (h2 : b = d) (h : c < d) : a < b := by omega
set_option maxRecDepth 100000 in
set_option maxHeartbeats 3200000 in
theorem rprintf_any (f : List UInt8) (v : Value) (L : List (List UInt8)) (hf : f.length ≤ 500) (w : World) (hv : Strs w v L) (h5 : ∀ x, x ∈ L → x.length ≤ 500) (hLl : L.length ≤ 100) :
    Calls Tryd.prog 20 #[.string ⟨f.toArray⟩, v] w fun e w' => TxtRes w w' e (printfL f L) := by
  obtain ⟨a0, cap, hv0, hcap, hat⟩ := hv.shape
  obtain ⟨n0, hn0⟩ : ∃ n0, L.length = n0 := ⟨_, rfl⟩
  have hRB0 : RestB w.heap.size w v L := ⟨a0, L.length, cap, hv0, rfl, hcap, by omega, h5, fun hp => hat hp⟩
  rw [hn0] at hv0
  subst hv0
  have hA : Below w.heap.size w (w.alloc (.cells #[.string ⟨#[]⟩, .slice a0 n0 cap, .bool false, .bool false] 65)) := (Below.refl _ _).alloc (Nat.le_refl _) _
  have hP0 : RPrt w.heap.size (w.alloc (.cells #[.string ⟨#[]⟩, .slice a0 n0 cap, .bool false, .bool false] 65)) w.heap.size [] (.slice a0 n0 cap) false false := by
    refine ⟨Nat.le_refl _, ?_⟩
    show (w.heap.push _)[w.heap.size]? = _
    simp
  have hR0 := hRB0.below hA
  obtain ⟨R, hR⟩ : ∃ R, printfL f L = R := ⟨_, rfl⟩
  rw [hR]
  have HR := Lib.hid (show printfS f (L.length + 1) ⟨[], L, false⟩ = R from hR)
  obtain ⟨base, hbase⟩ : ∃ base, base = w.heap.size := ⟨_, rfl⟩
  rw [← hbase] at hA hP0 hR0
  have HB := Lib.hid hbase
  obtain ⟨n, hn⟩ : ∃ n, f.length = n := ⟨_, rfl⟩
  have HN := Lib.hid hn
  clear hR hRB0 hat hv hn0 hbase
  go_enter Tryd.func20, Tryd.ntmps20
  go_wp2_with fail
  rw [← HB.out]
  go_loopw [75] (fun _ W => ∃ (k : Nat) (st : PSt) (rv : Value), Hid (printfS f (k + 1) st = R) ∧ st.rest.length ≤ k ∧ k ≤ 100 ∧ (st.took = true → takes f = true) ∧ RPrt base W base st.out rv st.took false ∧ RestB base W rv st.rest ∧ Below base w W ∧ st.out.length + capN (k + 1) ≤ 100000000) (fun _ W => match W.cell? ⟨base, 1, none⟩ with | some (.slice _ n _) => n | _ => 0)
  case atStart => exact ⟨L.length, ⟨[], L, false⟩, .slice a0 n0 cap, HR, Nat.le_refl _, hLl, (fun h => by cases h), hP0, hR0, hA, by have := capN_le (L.length + 1) (by omega); simp; omega⟩
  case round =>
    clear hP0 hR0 hA HR
    obtain ⟨k, st, rv, HS, hrk, hk1, htk, hP, hRb, hB, hol⟩ := hrel
    have Htk := Lib.hid htk
    have HT := Lib.hid (fun st' (h : passS f st = some st') => pass_took _ f st st' (Nat.le_refl _) h)
    obtain ⟨Q, hQ⟩ : ∃ Q, passS f st = Q := ⟨_, rfl⟩
    have HQ := Lib.hid hQ
    have hmeas : (match wr.cell? ⟨base, 1, none⟩ with | some (.slice _ n _) => n | _ => 0) = st.rest.length := by
      rw [hP.cells.2.1]
      obtain ⟨a, nn, cp, rfl, hnn, _⟩ := hRb
      exact hnn
    have HME := Lib.hid hmeas
    obtain ⟨m, hm⟩ : ∃ m, st.out.length + 500 * n = m := ⟨_, rfl⟩
    have hm2 : m ≤ 10000000000 - 1000 := by omega
    have HM := Lib.hid hm
    clear hQ hmeas htk hm
    obtain ⟨wo, hwo⟩ : ∃ wo : World, wo = wr := ⟨_, rfl⟩
    subst hwo
    go_wp2_with fail
    go_loopw [7] (fun i W => ∃ k : Nat, i = .int .i64 k ∧ k ≤ n + 1 ∧ RSt base W n k m f Q ∧ Below base wo W) (fun i _ => n + 2 - (intOf i).toNat)
    case atStart => exact ⟨0, rfl, by omega, .inl ⟨st, rv, by omega, HQ, hP, hRb, by rw [Nat.sub_zero]; exact Nat.le_of_eq HM.out⟩, Below.refl _ _⟩
    case round =>
      clear hP hRb
      obtain ⟨i, rfl, hin, hst, hBi⟩ := hrel
      rcases hst with ⟨s1, rv1, hi, HS1, hP, hRb, hol1⟩ | ⟨rfl, out1, rv1, took1, hP⟩
      · obtain ⟨d0, d1, d2, d3, hf, _⟩ := hP.cells
        have hf0 := hf 0
        clear hf
        by_cases hin2 : i < n
        · obtain ⟨c, _, hg, hc⟩ := str_at f i (by omega)
          have hd := drop_cons hc
          by_cases hpl : c = 37 ∨ c = 92
          · by_cases hi2 : i + 1 < n
            · obtain ⟨d, _, hg2, hc2⟩ := str_at f (i + 1) (by omega)
              have hd2 := drop_cons hc2
              have hs := HS1.out
              rw [hd, hd2, passS_one c d _ _ hpl] at hs
              have HO := Lib.hid (one_any base base wr c d hpl s1 rv1 hP hRb (by omega))
              have HT2 := Lib.hid (take_at2 hc hc2)
              have HL := Lib.hid (fun s2 (h2 : oneS c d s1 = some s2) => one_len h2 (rest5 hRb))
              have hmin : min ((i : Int) + 2) (n : Int) = (i : Int) + 2 := by omega
              have hmin2 : (i : Int) + 2 ≤ (n : Int) := by omega
              clear hd hd2 hc hc2 HS1
              rcases hpl with rfl | rfl
              all_goals
                go_wp2_with fail
                rw [HT2.out]
                refine HO.out.mono ?_
                rintro e w1 ⟨rfl, hOR⟩
                go_wp2_with fail
                go_round
                case rel =>
                  cases ho : oneS _ d s1 with
                  | none =>
                    rw [ho] at hOR hs
                    obtain ⟨⟨o2, r2, t2, hP2⟩, hB2⟩ := hOR
                    exact ⟨i + 2, by go_num, by omega, .inr ⟨hs.symm, o2, r2, t2, hP2⟩, hBi.trans hB2⟩
                  | some s2 =>
                    have hl2 := HL.out s2 ho
                    rw [ho] at hOR hs
                    obtain ⟨⟨r2, hP2, hR2⟩, hB2⟩ := hOR
                    exact ⟨i + 2, by go_num, by omega, .inl ⟨s2, r2, by omega, Lib.hid hs, hP2, hR2, by omega⟩, hBi.trans hB2⟩
                case measure => simp [intOf]; omega
            · have hi3 : n = i + 1 := by omega
              have hs := HS1.out
              rw [hd, show f.drop (i + 1) = [] from List.drop_eq_nil_of_le (by omega), passS_last c s1 hpl] at hs
              have HO := Lib.hid (one_bad base base wr [c] s1.out rv1 s1.took hP (by simp) (by simp) (by simp) (by simp) (by simp) (by simp))
              have HT2 := Lib.hid (show (f.drop i).take (n - i) = [c] by rw [hd, show f.drop (i + 1) = [] from List.drop_eq_nil_of_le (by omega), show n - i = 1 by omega]; rfl)
              have hmin : min ((i : Int) + 2) (n : Int) = (n : Int) := by omega
              have hmin2 : ¬ (i : Int) + 2 ≤ (n : Int) := by omega
              clear hd hc HS1 hi3
              rcases hpl with rfl | rfl
              all_goals
                go_wp2_with fail
                rw [HT2.out]
                refine HO.out.mono ?_
                rintro e w1 ⟨rfl, ⟨o2, r2, t2, hP2⟩, hB2⟩
                go_wp2_with fail
                go_round
                case rel => exact ⟨i + 2, by go_num, by omega, .inr ⟨hs.symm, o2, r2, t2, hP2⟩, hBi.trans hB2⟩
                case measure => simp [intOf]; omega
          · have e1 : c ≠ 37 := fun e => hpl (.inl e)
            have e2 : c ≠ 92 := fun e => hpl (.inr e)
            have n1 := ne_int (k := 37) (by omega) e1
            have n2 := ne_int (k := 92) (by omega) e2
            have m1 : ((c.toNat : Int) != 37) = true := by rw [bne_iff_ne]; exact n1
            have m2 : ((c.toNat : Int) != 92) = true := by rw [bne_iff_ne]; exact n2
            have hs := HS1.out
            rw [hd, passS_plain c _ s1 e1 e2] at hs
            have HS2 := Lib.hid hs
            have HT2 := Lib.hid (take_at hc)
            have HO := Lib.hid (fun o => hP.out o)
            have hi0 : (0 : Int) ≤ i := by omega
            have hi1 : (i : Int) + 1 ≤ n := by omega
            have hol3 : s1.out.length ≤ 10000000000 - 1000 := by omega
            clear hs hd hc hP HS1 e1 e2 hpl
            go_wp2_with fail
            go_region
            all_goals
              rw [HT2.out]
              go_wp2_with fail
              go_round
              case rel =>
                have hO := HO.out (s1.out ++ [c])
                have hB2 : Below base wo (wr.setCell ⟨base, 0, none⟩ (.string ⟨(s1.out ++ [c]).toArray⟩)).drew := (hBi.trans hO.2).drew
                exact ⟨i + 1, by go_num, by omega, .inl ⟨⟨s1.out ++ [c], s1.rest, s1.took⟩, rv1, by omega, HS2, hO.1, hRb.below hO.2.drew, by simp; omega⟩, hB2⟩
              case measure => simp [intOf]; omega
        · obtain rfl : i = n := by omega
          have hs := HS1.out
          rw [← HN.out, List.drop_length, passS_nil] at hs
          obtain ⟨t1, t2, t3⟩ := HT.out s1 (HQ.out.trans hs.symm)
          have hs2 := HS.out
          rw [printf_one, HQ.out, ← hs] at hs2
          have Hs := Lib.hid hs2
          have Ht1 := Lib.hid t1
          have Ht3 := Lib.hid t3
          have hBB := hB.trans hBi
          have hBB' := HB.out ▸ hBB
          clear hs hs2 HS HS1 t1 t3
          cases htook : s1.took with
          | false =>
            rw [htook] at d2
            have hRs := Lib.hid (show R = some s1.out by rw [← Hs.out]; show (if s1.took = false ∨ s1.rest = [] then some s1.out else printfS f k s1) = _; rw [if_pos (.inl htook)])
            clear htook
            go_wp2_with fail
            go_ret2
            rw [hRs.out]
            exact ⟨rfl, hBB'⟩
          | true =>
            rw [htook] at d2
            obtain ⟨a2, n2, cap2, hrv2, hn2, _⟩ := id hRb
            by_cases hz : s1.rest = []
            · have hRs := Lib.hid (show R = some s1.out by rw [← Hs.out]; show (if s1.took = false ∨ s1.rest = [] then some s1.out else printfS f k s1) = _; rw [if_pos (.inr hz)])
              rw [hz] at hn2
              obtain rfl : n2 = 0 := by simpa using hn2
              subst hrv2
              clear htook hz hn2 hRb
              go_wp2_with fail
              go_ret2
              rw [hRs.out]
              exact ⟨rfl, hBB'⟩
            · have hpos : 0 < s1.rest.length := List.length_pos_iff.2 hz
              have htf : takes f = true := by
                cases h : st.took with
                | true => exact Htk.out h
                | false => have := Ht1.out; rw [htook, h] at this; simpa using this.symm
              have hlt := Ht3.out htf (fun e => by rw [e] at t2; simp at t2; exact hz t2)
              obtain ⟨k2, rfl⟩ : ∃ k2, k = k2 + 1 := ⟨k - 1, by omega⟩
              have HS2 := Lib.hid (show printfS f (k2 + 1) s1 = R by rw [← Hs.out]; show _ = (if s1.took = false ∨ s1.rest = [] then some s1.out else printfS f (k2 + 1) s1); rw [if_neg (fun h => h.elim (fun h => by rw [htook] at h; cases h) hz)])
              have HTK := Lib.hid (show s1.took = true → takes f = true from fun _ => htf)
              have hne0 : ((n2 : Int) == 0) = false := by rw [beq_eq_false_iff_ne]; omega
              have hlm := HM.out
              have hol2 : s1.out.length + capN (k2 + 1) ≤ 100000000 := olen (n := i) (by omega) (by omega) hol
              have hrk2 : s1.rest.length ≤ k2 := by omega
              have hme2 : (match wr.cell? ⟨base, 1, none⟩ with | some (.slice _ n _) => n | _ => 0) = s1.rest.length := by rw [d1, hrv2]; exact hn2
              have HME2 := Lib.hid hme2
              have HLT := Lib.hid hlt
              subst hrv2
              clear htook hz hn2 htf hlm hme2 hlt
              go_wp2_with fail
              go_round
              case rel => exact ⟨k2, s1, _, HS2, hrk2, by omega, HTK.out, hP, hRb, hBB, hol2⟩
              case measure =>
                exact lt_of_meas HME2.out HME.out HLT.out
      · obtain ⟨d0, d1, d2, d3, hf, _⟩ := hP.cells
        have hs2 := HS.out
        rw [printf_one, HQ.out] at hs2
        have hRn := Lib.hid (show R = none from hs2.symm)
        have hBB := HB.out ▸ hB.trans hBi
        clear hs2 HS hf HQ HT
        by_cases hin2 : i < n
        all_goals
          go_wp2_with fail
          go_ret2
          rw [hRn.out]
          exact ⟨rfl, hBB⟩
end Go.Proofs.YtmhgehnkhhlbkaaDoor
