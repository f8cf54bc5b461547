/- Texts: by a pattern (the library's side): the pattern once, and as often as it takes. -/
import Derived.Test.YtmhgehnkhhlbkaaGreatDoorTxR
namespace Go.Proofs.YtmhgehnkhhlbkaaGreatDoor
open Go.RowKit

theorem passS_nil (st : PSt) : passS [] st = some st := by rw [passS]
theorem passS_plain (c : UInt8) (t : List UInt8) (st : PSt) (h1 : c ≠ 37) (h2 : c ≠ 92) : passS (c :: t) st = passS t ⟨st.out ++ [c], st.rest, st.took⟩ := by
  cases t with
  | nil => simp [passS, h1, h2]
  | cons d r => simp [passS, h1, h2]
theorem passS_last (c : UInt8) (st : PSt) (h : c = 37 ∨ c = 92) : passS [c] st = none := by simp [passS, h]
theorem passS_pct (d : UInt8) (t : List UInt8) (st : PSt) : passS (37 :: d :: t) st = (pctS d st).bind (passS t) := by simp [passS]
theorem passS_esc (d : UInt8) (t : List UInt8) (st : PSt) : passS (92 :: d :: t) st = (escV d).bind fun v => passS t ⟨st.out ++ [v], st.rest, st.took⟩ := by simp [passS]
/-- does the pattern take texts up? -/
def takes : List UInt8 → Bool
  | [] => false
  | [_] => false
  | c :: d :: t => if c = 37 then d == 115 || d == 100 || takes t else if c = 92 then takes t else takes (d :: t)
theorem takes_plain (c : UInt8) (t : List UInt8) (h1 : c ≠ 37) (h2 : c ≠ 92) : takes (c :: t) = takes t := by
  cases t with
  | nil => simp [takes]
  | cons d r => simp [takes, h1, h2]
theorem pct_len {d : UInt8} {st st' : PSt} (h : pctS d st = some st') (h5 : ∀ x, x ∈ st.rest → x.length ≤ 500) : st'.out.length ≤ st.out.length + 500 := by
  have hh := head_len h5
  unfold pctS at h
  split at h
  · cases h; simp
  · split at h
    · cases h; simp at hh ⊢; omega
    · split at h
      · cases hn : numL (st.rest.headD []) with
        | none => rw [hn] at h; cases h
        | some y => rw [hn] at h; cases h; have := numL_len hn; simp; omega
      · cases h
theorem pct_took {d : UInt8} {st st' : PSt} (h : pctS d st = some st') : st'.took = (st.took || (d == 115 || d == 100)) ∧ st'.rest.length ≤ st.rest.length ∧ ((d == 115 || d == 100) = true → st.rest ≠ [] → st'.rest.length < st.rest.length) := by
  have tl : st.rest.tail.length ≤ st.rest.length ∧ (st.rest ≠ [] → st.rest.tail.length < st.rest.length) := by
    cases st.rest with
    | nil => simp
    | cons x r => simp
  unfold pctS at h
  split at h
  · rename_i e; subst e; cases h; simp
  · split at h
    · rename_i e; subst e; cases h; simp; simpa using tl
    · split at h
      · rename_i e; subst e
        cases hn : numL (st.rest.headD []) with
        | none => rw [hn] at h; cases h
        | some y => rw [hn] at h; cases h; simp; simpa using tl
      · cases h
theorem pass_took : ∀ (n : Nat) (f : List UInt8) (st st' : PSt), f.length ≤ n → passS f st = some st' → st'.took = (st.took || takes f) ∧ st'.rest.length ≤ st.rest.length ∧ (takes f = true → st.rest ≠ [] → st'.rest.length < st.rest.length)
  | n, [], st, st', _, h => by rw [passS_nil] at h; cases h; simp [takes]
  | 0, c :: t, _, _, hn, _ => by simp at hn
  | n + 1, c :: t, st, st', hn, h => by
    have hn' : t.length ≤ n := by simpa using hn
    by_cases h1 : c = 37
    · subst h1
      cases t with
      | nil => rw [passS_last _ _ (.inl rfl)] at h; cases h
      | cons d r =>
        rw [passS_pct] at h
        cases hp : pctS d st with
        | none => rw [hp] at h; cases h
        | some s1 =>
          rw [hp] at h
          obtain ⟨a1, a2, a3⟩ := pct_took hp
          obtain ⟨b1, b2, b3⟩ := pass_took n r s1 st' (by simp at hn'; omega) h
          rw [show takes (37 :: d :: r) = (d == 115 || d == 100 || takes r) by simp [takes]]
          refine ⟨by rw [b1, a1, Bool.or_assoc], by omega, fun ht hne => ?_⟩
          rcases Bool.or_eq_true _ _ ▸ ht with ht | ht
          · have := a3 ht hne; omega
          · by_cases hz : s1.rest = []
            · have : 0 < st.rest.length := List.length_pos_iff.2 hne
              rw [hz] at b2; simp at b2; rw [b2]; simpa using this
            · have := b3 ht hz; omega
    · by_cases h2 : c = 92
      · subst h2
        cases t with
        | nil => rw [passS_last _ _ (.inr rfl)] at h; cases h
        | cons d r =>
          rw [passS_esc] at h
          cases hp : escV d with
          | none => rw [hp] at h; cases h
          | some v =>
            rw [hp] at h
            have := pass_took n r _ st' (by simp at hn'; omega) h
            rw [show takes (92 :: d :: r) = takes r by simp [takes]]
            exact this
      · rw [passS_plain c t st h1 h2] at h
        have := pass_took n t _ st' hn' h
        rw [takes_plain c t h1 h2]
        exact this
def PassRes (base : Nat) (w w' : World) (pb : Nat) (e : Ending) (m : Nat) : Option PSt → Prop
  | none => e = .returned (.bool false) ∧ Below base w w'
  | some st => e = .returned (.bool true) ∧ (∃ rv', Prt base w' pb st.out rv' st.took ∧ RestB base w' rv' st.rest) ∧ Below base w w' ∧ st.out.length ≤ m
theorem rest5 {base : Nat} {w : World} {rv L} (hr : RestB base w rv L) : ∀ x, x ∈ L → x.length ≤ 500 := let ⟨_, _, _, _, _, _, _, h5, _⟩ := hr; h5
set_option maxRecDepth 100000 in
set_option maxHeartbeats 3200000 in
theorem pass_any (base pb : Nat) (w : World) (f : List UInt8) (st : PSt) (rv : Value) (hf : f.length ≤ 500) (hl : st.out.length ≤ 10000000000) (h : Prt base w pb st.out rv st.took) (hr : RestB base w rv st.rest) (hE : ∀ w', Below base w w' → Env w') :
    Calls Tryz.prog 30 #[.pointer (some ⟨pb, 0, none⟩), .string ⟨f.toArray⟩] w fun e w' => PassRes base w w' pb e (st.out.length + 500 * f.length) (passS f st) := by
  obtain ⟨n, hn⟩ : ∃ n, f.length = n := ⟨_, rfl⟩
  have HNl := Lib.hid hn
  rw [hn] at hf
  have HE := Lib.hid hE
  obtain ⟨R, hR⟩ : ∃ R, passS f st = R := ⟨_, rfl⟩
  obtain ⟨m, hm⟩ : ∃ m, st.out.length + 500 * n = m := ⟨_, rfl⟩
  have hm2 : m ≤ 20000000000 := by omega
  rw [hn, hm, hR]
  have HR := Lib.hid hR
  have HM := Lib.hid hm
  clear hR hE hm
  go_enter Tryz.func30, Tryz.ntmps30
  go_wp2_with fail
  go_loopw [5] (fun i W => ∃ (k : Nat) (s1 : PSt) (rv1 : Value), k ≤ n ∧ i = .int .i64 k ∧ Hid (passS (f.drop k) s1 = R) ∧ Prt base W pb s1.out rv1 s1.took ∧ RestB base W rv1 s1.rest ∧ Below base w W ∧ s1.out.length + 500 * (n - k) ≤ m) (fun i _ => n - (intOf i).toNat)
  case atStart => exact ⟨0, st, rv, by omega, rfl, by rw [List.drop_zero]; exact HR, h, hr, Below.refl _ _, by rw [Nat.sub_zero, HM.out]; omega⟩
  case round =>
    obtain ⟨k, s1, rv1, hk, rfl, HS, hP, hRb, hB, hol⟩ := hrel
    by_cases hkn : k < n
    · obtain ⟨c, _, hg, hc⟩ := str_at f k (by omega)
      have hd := drop_cons hc
      by_cases hpl : c = 37 ∨ c = 92
      · by_cases hk1 : k + 1 < n
        · obtain ⟨d, _, hg2, hc2⟩ := str_at f (k + 1) (by omega)
          have hd2 := drop_cons hc2
          rcases hpl with rfl | rfl
          · have hs := HS.out
            rw [hd, hd2, passS_pct] at hs
            have HP := Lib.hid (pct_any base pb wr s1 rv1 d (by omega) hP hRb (fun w' hb => HE.out w' (hB.trans hb)))
            have HL := Lib.hid (fun s2 (h2 : pctS d s1 = some s2) => pct_len h2 (rest5 hRb))
            cases hp : pctS d s1 with
            | none =>
              rw [hp] at hs HP
              have hRn := Lib.hid (show R = none from hs.symm)
              clear hs hd hd2 hc hc2 hP hRb HS HL hp
              go_wp2_with fail
              refine HP.out.mono ?_
              rintro e w1 ⟨rfl, hB1⟩
              go_wp2_with fail
              go_ret
              rw [hRn.out]
              exact ⟨rfl, hB.trans hB1⟩
            | some s2 =>
              rw [hp] at hs HP
              have HS2 := Lib.hid (show passS (f.drop (k + 1 + 1)) s2 = R from hs)
              have hl2 := HL.out s2 hp
              clear hs hd hd2 hc hc2 hP hRb HS HL hp
              go_wp2_with fail
              refine HP.out.mono ?_
              rintro e w1 ⟨rfl, ⟨rv2, hP2, hR2⟩, hB1⟩
              go_wp2_with fail
              go_round
              case rel => exact ⟨k + 1 + 1, s2, rv2, by omega, by go_num, HS2, hP2, hR2, hB.trans hB1, by omega⟩
              case measure => simp [intOf]; omega
          · have hs := HS.out
            rw [hd, hd2, passS_esc] at hs
            cases hv : escV d with
            | none =>
              rw [hv] at hs
              have hRn := Lib.hid (show R = none from hs.symm)
              have HF := Lib.hid (fescape_any d wr)
              rw [hv] at HF
              clear hs hd hd2 hc hc2 hP hRb HS hv
              go_wp2_with fail
              refine HF.out.mono ?_
              rintro e w1 ⟨rfl, rfl⟩
              simp only [Option.getD_none, Option.isSome_none]
              go_wp2_with fail
              go_ret
              rw [hRn.out]
              exact ⟨rfl, hB⟩
            | some v =>
              rw [hv] at hs
              have HS2 := Lib.hid (show passS (f.drop (k + 1 + 1)) ⟨s1.out ++ [v], s1.rest, s1.took⟩ = R from hs)
              have HF := Lib.hid (fescape_any d wr)
              rw [hv] at HF
              have HW := Lib.hid (pbyte_any base pb wr s1.out rv1 s1.took v (by omega) hP)
              clear hs hd hd2 hc hc2 hP HS hv
              go_wp2_with fail
              refine HF.out.mono ?_
              rintro e w1 ⟨rfl, rfl⟩
              simp only [Option.getD_some, Option.isSome_some]
              go_wp2_with fail
              refine HW.out.mono ?_
              rintro e w1 ⟨rfl, hP2, hB1⟩
              have hR2 := hRb.below hB1
              go_wp2_with fail
              go_round
              case rel => exact ⟨k + 1 + 1, ⟨s1.out ++ [v], s1.rest, s1.took⟩, rv1, by omega, by go_num, HS2, hP2, hR2, hB.trans hB1, by simp; omega⟩
              case measure => simp [intOf]; omega
        · have hk2 : n = k + 1 := by omega
          have hdn : f.drop (k + 1) = [] := List.drop_eq_nil_of_le (by omega)
          have hs := HS.out
          rw [hd, hdn, passS_last c s1 hpl] at hs
          have hRn := Lib.hid (show R = none from hs.symm)
          have heq : (((k : Int) + 1) == (n : Int)) = true := by rw [beq_iff_eq]; omega
          clear hs hd hdn hc hP hRb HS hk2
          rcases hpl with rfl | rfl
          all_goals
            go_wp2_with fail
            go_ret
            rw [hRn.out]
            exact ⟨rfl, hB⟩
      · have e1 : c ≠ 37 := fun e => hpl (.inl e)
        have e2 : c ≠ 92 := fun e => hpl (.inr e)
        have n1 := ne_int (k := 37) (by omega) e1
        have n2 := ne_int (k := 92) (by omega) e2
        have m1 : ((c.toNat : Int) != 37) = true := by rw [bne_iff_ne]; exact n1
        have m2 : ((c.toNat : Int) != 92) = true := by rw [bne_iff_ne]; exact n2
        have hs := HS.out
        rw [hd, passS_plain c _ s1 e1 e2] at hs
        have HS2 := Lib.hid hs
        have HW := Lib.hid (pbyte_any base pb wr s1.out rv1 s1.took c (by omega) hP)
        clear hs hd hc hP HS e1 e2 hpl
        go_wp2_with fail
        refine HW.out.mono ?_
        rintro e w1 ⟨rfl, hP2, hB1⟩
        have hR2 := hRb.below hB1
        go_wp2_with fail
        go_round
        case rel => exact ⟨k + 1, ⟨s1.out ++ [c], s1.rest, s1.took⟩, rv1, by omega, by go_num, HS2, hP2, hR2, hB.trans hB1, by simp; omega⟩
        case measure => simp [intOf]; omega
    · obtain rfl : k = n := by omega
      have hs := HS.out
      rw [← HNl.out, List.drop_length, passS_nil] at hs
      have hRn := Lib.hid (show R = some s1 from hs.symm)
      clear hs HS
      go_wp2_with fail
      go_ret
      rw [hRn.out]
      exact ⟨rfl, ⟨rv1, hP, hRb⟩, hB, by omega⟩
end Go.Proofs.YtmhgehnkhhlbkaaGreatDoor
