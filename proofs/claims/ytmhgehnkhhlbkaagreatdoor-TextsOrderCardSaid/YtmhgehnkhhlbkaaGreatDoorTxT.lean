/- Texts: by a pattern (the library's side), whole. -/
import Derived.Test.YtmhgehnkhhlbkaaGreatDoorTxS
namespace Go.Proofs.YtmhgehnkhhlbkaaGreatDoor
open Go.RowKit

theorem printf_one (f : List UInt8) (k : Nat) (st : PSt) : printfS f (k + 1) st = (passS f st).bind fun st' => if st'.took = false ∨ st'.rest = [] then some st'.out else printfS f k st' := rfl
def capN (k : Nat) : Nat := (List.replicate k 250000).sum
theorem capN_succ (k : Nat) : capN (k + 1) = capN k + 250000 := by simp [capN, List.replicate_succ, Nat.add_comm]
theorem capN_le : ∀ k : Nat, k ≤ 101 → capN k ≤ 30000000 := by decide
theorem olen {a b n k : Nat} (h1 : a ≤ b + 500 * n) (h2 : n ≤ 500) (h3 : b + capN (k + 1 + 1) ≤ 100000000) : a + capN (k + 1) ≤ 100000000 := by
  rw [capN_succ] at h3
  generalize capN (k + 1) = q at *
  omega
def restN (w : World) (pb : Nat) : Nat := match w.cell? ⟨pb, 2, none⟩ with | some (.slice _ n _) => n | _ => 0
theorem restN_of {base : Nat} {w : World} {pb : Nat} {out rv L} {took : Bool} (h : Prt base w pb out rv took) (hr : RestB base w rv L) : restN w pb = L.length := by
  obtain ⟨c2, _⟩ := prt_cells h
  obtain ⟨a, n, cap, rfl, hn, _⟩ := hr
  rw [restN, c2]; exact hn
set_option maxRecDepth 100000 in
set_option maxHeartbeats 1600000 in
theorem printf_any (f : List UInt8) (v : Value) (L : List (List UInt8)) (hf : f.length ≤ 500) (w : World) (hv : Strs w v L) (h5 : ∀ x, x ∈ L → x.length ≤ 500) (hLl : L.length ≤ 100) (hE : Env w) :
    Calls Tryz.prog 19 #[.string ⟨f.toArray⟩, v] w fun e w' => TxtRes w w' e (printfL f L) := by
  obtain ⟨a0, cap, hv0, hcap, hat⟩ := hv.shape
  obtain ⟨n, hn⟩ : ∃ n, L.length = n := ⟨_, rfl⟩
  have hRB0 : RestB w.heap.size w v L := ⟨a0, L.length, cap, hv0, rfl, hcap, by omega, h5, fun hp => hat hp⟩
  rw [hn] at hv0
  subst hv0
  obtain ⟨pb, hpb⟩ : ∃ pb, w.heap.size = pb := ⟨_, rfl⟩
  have hA : Below w.heap.size w (w.alloc (.cells #[.pointer none, .slice none 0 0, .slice a0 n cap, .bool false] 61)) := (Below.refl _ _).alloc (Nat.le_refl _) _
  have hP0 : Prt w.heap.size (w.alloc (.cells #[.pointer none, .slice none 0 0, .slice a0 n cap, .bool false] 61)) w.heap.size [] (.slice a0 n cap) false := by
    refine ⟨Nat.le_refl _, .pointer none, .slice none 0 0, ?_, .inl rfl, OwnB.nil _ _, (fun e => by cases e), fun _ => rfl⟩
    show (w.heap.push _)[w.heap.size]? = _
    simp
  have hR0 := hRB0.below hA
  have HE := Lib.hid (fun w' (hb : Below w.heap.size w w') => hE.below hb)
  obtain ⟨R, hR⟩ : ∃ R, printfL f L = R := ⟨_, rfl⟩
  rw [hR]
  have HR := Lib.hid (show printfS f (L.length + 1) ⟨[], L, false⟩ = R from hR)
  have hlf := hf
  obtain ⟨base, hbase⟩ : ∃ base, base = w.heap.size := ⟨_, rfl⟩
  rw [← hbase] at hA hP0 hR0 HE
  have HB := Lib.hid hbase
  clear hR hRB0 hat hv hpb hE hn hbase
  go_enter Tryz.func19, Tryz.ntmps19
  go_wp2_with fail
  rw [← HB.out]
  go_loopw [26] (fun _ W => ∃ (k : Nat) (st : PSt) (rv : Value), Hid (printfS f (k + 1) st = R) ∧ st.rest.length ≤ k ∧ k ≤ 100 ∧ (st.took = true → takes f = true) ∧ Prt base W base st.out rv st.took ∧ RestB base W rv st.rest ∧ Below base w W ∧ st.out.length + capN (k + 1) ≤ 100000000) (fun _ W => restN W base)
  case atStart => exact ⟨L.length, ⟨[], L, false⟩, .slice a0 n cap, HR, Nat.le_refl _, hLl, (fun h => by cases h), hP0, hR0, hA, by have := capN_le (L.length + 1) (by omega); simp; omega⟩
  case round =>
    clear hP0 hR0 hA HR
    obtain ⟨k, st, rv, HS, hrk, hk1, htk, hP, hRb, hB, hol⟩ := hrel
    have hs := HS.out
    rw [printf_one] at hs
    have hrn := restN_of hP hRb
    have HP := Lib.hid (pass_any base base wr f st rv hf (by omega) hP hRb (fun w' hb => HE.out w' (hB.trans hb)))
    have HT := Lib.hid (fun st' (h : passS f st = some st') => pass_took _ f st st' (Nat.le_refl _) h)
    cases hp : passS f st with
    | none =>
      rw [hp] at hs HP
      have hRn := Lib.hid (show R = none from hs.symm)
      clear hs HS hP hRb HT hp htk
      go_wp2_with fail
      refine HP.out.mono ?_
      rintro e w1 ⟨rfl, hB1⟩
      go_wp2_with fail
      go_ret2
      rw [hRn.out]
      exact ⟨rfl, HB.out ▸ hB.trans hB1⟩
    | some s1 =>
      rw [hp] at hs HP
      obtain ⟨t1, t2, t3⟩ := HT.out s1 hp
      have Htk := Lib.hid htk
      have Ht1 := Lib.hid t1
      have Ht3 := Lib.hid t3
      have Hs := Lib.hid hs
      clear hs HS hP hRb HT hp htk t1 t3
      go_wp2_with fail
      refine HP.out.mono ?_
      rintro e w1 ⟨rfl, ⟨rv2, hP2, hR2⟩, hB1, hl2⟩
      obtain ⟨c2, c3, _, _⟩ := prt_cells hP2
      have hBB := hB.trans hB1
      cases htook : s1.took with
      | false =>
        rw [htook] at c3
        have hRs := Lib.hid (show R = some s1.out by rw [← Hs.out]; show (if s1.took = false ∨ s1.rest = [] then some s1.out else printfS f k s1) = _; rw [if_pos (.inl htook)])
        have HO := Lib.hid (pout_any base base w1 s1.out rv2 s1.took (by omega) hP2)
        clear c2 htook
        go_wp2_with fail
        refine HO.out.mono ?_
        rintro e w2 ⟨rfl, hB2⟩
        go_wp2_with fail
        go_ret2
        rw [hRs.out]
        exact ⟨rfl, HB.out ▸ hBB.trans hB2⟩
      | true =>
        rw [htook] at c3
        have hrn2 := restN_of hP2 hR2
        obtain ⟨a2, n2, cap2, hrv2, hn2, _⟩ := id hR2
        by_cases hz : s1.rest = []
        · have hRs := Lib.hid (show R = some s1.out by rw [← Hs.out]; show (if s1.took = false ∨ s1.rest = [] then some s1.out else printfS f k s1) = _; rw [if_pos (.inr hz)])
          have HO := Lib.hid (pout_any base base w1 s1.out rv2 s1.took (by omega) hP2)
          rw [hz] at hn2
          obtain rfl : n2 = 0 := by simpa using hn2
          subst hrv2
          clear htook hz hn2 hR2 hrn2
          go_wp2_with fail
          refine HO.out.mono ?_
          rintro e w2 ⟨rfl, hB2⟩
          go_wp2_with fail
          go_ret2
          rw [hRs.out]
          exact ⟨rfl, HB.out ▸ hBB.trans hB2⟩
        · have hpos : 0 < s1.rest.length := List.length_pos_iff.2 hz
          have htf : takes f = true := by
            cases h : st.took with
            | true => exact Htk.out h
            | false => have := Ht1.out; rw [htook, h] at this; simpa using this.symm
          have hlt := Ht3.out htf (fun e => by rw [e] at t2; simp at t2; exact hz t2)
          obtain ⟨k2, rfl⟩ : ∃ k2, k = k2 + 1 := ⟨k - 1, by omega⟩
          have HS2 := Lib.hid (show printfS f (k2 + 1) s1 = R by rw [← Hs.out]; show _ = (if s1.took = false ∨ s1.rest = [] then some s1.out else printfS f (k2 + 1) s1); rw [if_neg (fun h => h.elim (fun h => by rw [htook] at h; cases h) hz)])
          have HTK := Lib.hid (show s1.took = true → takes f = true from fun _ => htf)
          have hne0 : ((n2 : Int) == 0) = false := by rw [beq_eq_false_iff_ne]; omega
          have hol2 : s1.out.length + capN (k2 + 1) ≤ 100000000 := olen hl2 hf hol
          have hrk2 : s1.rest.length ≤ k2 := by omega
          subst hrv2
          have Hn2 := Lib.hid hn2
          have HTT := Lib.hid htook
          clear htook hz hn2 htf
          go_wp2_with fail
          go_round
          case rel => exact ⟨k2, s1, _, HS2, hrk2, by omega, HTK.out, hP2, hR2, hBB, hol2⟩
          case measure => omega
end Go.Proofs.YtmhgehnkhhlbkaaGreatDoor
