/- TxR TxS TxT TxU UrA UrB -/
import Derived.Test.YtbecmcjibpamoaaGreatDoorQ41
import Derived.Deep.DeepCutAuto
import Derived.Deep.RegionWith
import Derived.Test.YtbecmcjibpamoaaGreatDoorQ38
set_option linter.unusedVariables false
set_option linter.unusedSimpArgs false
set_option linter.deprecated false
set_option linter.unnecessarySimpa false
namespace Go.Proofs.YtbecmcjibpamoaaGreatDoor
open Go.RowKit
def RestB (base : Nat) (w : World) (rv : Value) (L : List (List UInt8)) : Prop :=
  ∃ a n cap, rv = .slice a n cap ∧ n = L.length ∧ n ≤ cap ∧ n ≤ 1000 ∧ (∀ x, x ∈ L → x.length ≤ 500) ∧ (0 < n → ∃ b off, a = some ⟨b, off, none⟩ ∧ b < base ∧ ∀ (i : Nat) x, L[i]? = some x → w.cell? ⟨b, off + i, none⟩ = some (.string ⟨x.toArray⟩))
theorem RestB.below {base : Nat} {w w' : World} {rv L} (h : RestB base w rv L) (hb : Below base w w') : RestB base w' rv L := by
  obtain ⟨a, n, cap, h1, h2, h3, h4, h5, h6⟩ := h
  refine ⟨a, n, cap, h1, h2, h3, h4, h5, fun hn => ?_⟩
  obtain ⟨b, off, e1, e2, e3⟩ := h6 hn
  exact ⟨b, off, e1, e2, fun i x hx => (hb.cell (p := ⟨b, off + i, none⟩) e2).trans (e3 i x hx)⟩
theorem prt_took {base : Nat} {w : World} {pb : Nat} {out rv} {took : Bool} (h : Prt base w pb out rv took) (t : Bool) : Prt base (w.setCell ⟨pb, 3, none⟩ (.bool t)) pb out rv t ∧ Below base w (w.setCell ⟨pb, 3, none⟩ (.bool t)) := by
  obtain ⟨hb, a, v, hp, ha, hown, hne, hnil⟩ := h
  exact ⟨⟨hb, a, v, by rw [heap_setCell_same w pb 3 _ _ _ hp]; rfl, ha, hown.set _ _ _ hne, hne, hnil⟩, below_setT (Below.refl _ _) hb _⟩
theorem prt_rest {base : Nat} {w : World} {pb : Nat} {out rv} {took : Bool} (h : Prt base w pb out rv took) (r : Value) : Prt base (w.setCell ⟨pb, 2, none⟩ r) pb out r took ∧ Below base w (w.setCell ⟨pb, 2, none⟩ r) := by
  obtain ⟨hb, a, v, hp, ha, hown, hne, hnil⟩ := h
  exact ⟨⟨hb, a, v, by rw [heap_setCell_same w pb 2 _ _ _ hp]; rfl, ha, hown.set _ _ _ hne, hne, hnil⟩, below_setT (Below.refl _ _) hb _⟩
theorem prt_cells {base : Nat} {w : World} {pb : Nat} {out rv} {took : Bool} (h : Prt base w pb out rv took) : w.cell? ⟨pb, 2, none⟩ = some rv ∧ w.cell? ⟨pb, 3, none⟩ = some (.bool took) ∧ (∀ i, w.frozen? ⟨pb, i, none⟩ = false) ∧ base ≤ pb := by
  obtain ⟨hb, a, v, hp, ha, hown, hne, hnil⟩ := h
  exact ⟨by rw [cell_heap hp]; rfl, by rw [cell_heap hp]; rfl, free_heap hp, hb⟩
def NextRes (base : Nat) (w w' : World) (pb : Nat) (out : List UInt8) (L : List (List UInt8)) : Prop :=
  ∃ rv', Prt base w' pb out rv' true ∧ RestB base w' rv' L.tail ∧ Below base w w'
set_option maxRecDepth 100000 in
theorem next_any (base pb : Nat) (w : World) (out : List UInt8) (rv : Value) (took : Bool) (L : List (List UInt8)) (h : Prt base w pb out rv took) (hr : RestB base w rv L) :
    Calls Tryz.prog 207 #[.pointer (some ⟨pb, 0, none⟩)] w fun e w' => e = .returned (.string ⟨(L.headD []).toArray⟩) ∧ NextRes base w w' pb out L := by
  obtain ⟨h1, hB1⟩ := prt_took h true
  obtain ⟨c2, c3, hf, hbp⟩ := prt_cells h
  have hf2 := hf 2
  have hf3 := hf 3
  have hr1 := hr.below hB1
  obtain ⟨a, n, cap, rfl, hn, hnc, hn1, hx5, hat⟩ := hr1
  cases L with
  | nil =>
    obtain rfl : n = 0 := by simpa using hn
    have hN : NextRes base w (w.setCell ⟨pb, 3, none⟩ (.bool true)) pb out [] := ⟨_, h1, ⟨a, 0, cap, rfl, rfl, hnc, hn1, hx5, hat⟩, hB1⟩
    clear hat hx5 hr h hf hn
    go_enter Tryz.func207, Tryz.ntmps207
    go_wp2_with fail
    go_ret
    exact ⟨rfl, hN⟩
  | cons x r =>
    have hn0 : 0 < n := by simp at hn; omega
    obtain ⟨b, off, rfl, hbb, hcs⟩ := hat hn0
    have hx := hcs 0 x rfl
    rw [Nat.add_zero] at hx
    have hne : (⟨pb, 3, none⟩ : Addr) ≠ ⟨b, off, none⟩ := by intro e; cases e; omega
    rw [cs_other hne] at hx
    have hres : ∀ a', (1 < n → a' = some ⟨b, off + 1, none⟩) → NextRes base w ((w.setCell ⟨pb, 3, none⟩ (.bool true)).setCell ⟨pb, 2, none⟩ (.slice a' (n - 1) (cap - 1))) pb out (x :: r) := by
      intro a' ha'
      obtain ⟨h2, hB2⟩ := prt_rest h1 (.slice a' (n - 1) (cap - 1))
      refine ⟨_, h2, ⟨a', n - 1, cap - 1, rfl, by simp at hn ⊢; omega, by omega, by omega, fun y hy => hx5 y (List.mem_cons_of_mem _ hy), fun hp => ?_⟩, hB1.trans hB2⟩
      refine ⟨b, off + 1, ha' (by omega), hbb, fun i y hy => ?_⟩
      have := hcs (i + 1) y hy
      rw [show off + 1 + i = off + (i + 1) by omega]
      exact (hB2.cell (p := ⟨b, off + (i + 1), none⟩) hbb).trans this
    have Hres := Lib.hid hres
    have hne2 : ¬ b = pb := by omega
    clear hres hcs hat hx5 hr h hf hn hne
    have hnc' : (n : Int) ≤ cap := by omega
    have hne0 : ((n : Int) == 0) = false := by rw [beq_eq_false_iff_ne]; omega
    by_cases hcap : cap = 1
    · subst hcap
      obtain rfl : n = 1 := by omega
      go_enter Tryz.func207, Tryz.ntmps207
      go_wp2_with fail
      go_ret
      exact ⟨rfl, Hres.out _ (fun h => by omega)⟩
    · go_enter Tryz.func207, Tryz.ntmps207
      go_wp2_with fail
      go_ret
      exact ⟨rfl, Hres.out _ (fun h => rfl)⟩
structure PSt where
  out : List UInt8
  rest : List (List UInt8)
  took : Bool
def pctS (c : UInt8) (st : PSt) : Option PSt :=
  if c = 37 then some ⟨st.out ++ [37], st.rest, st.took⟩
  else if c = 115 then some ⟨st.out ++ st.rest.headD [], st.rest.tail, true⟩
  else if c = 100 then (numL (st.rest.headD [])).map fun n => ⟨st.out ++ n, st.rest.tail, true⟩
  else none
def passS : List UInt8 → PSt → Option PSt
  | [], st => some st
  | [c], st => if c = 37 ∨ c = 92 then none else some ⟨st.out ++ [c], st.rest, st.took⟩
  | c :: d :: t, st =>
    if c = 37 then (pctS d st).bind (passS t)
    else if c = 92 then (escV d).bind fun v => passS t ⟨st.out ++ [v], st.rest, st.took⟩
    else passS (d :: t) ⟨st.out ++ [c], st.rest, st.took⟩
termination_by l => l.length
def printfS (f : List UInt8) : Nat → PSt → Option (List UInt8)
  | 0, _ => none
  | k + 1, st => (passS f st).bind fun st' => if st'.took = false ∨ st'.rest = [] then some st'.out else printfS f k st'
def printfL (f : List UInt8) (L : List (List UInt8)) : Option (List UInt8) := printfS f (L.length + 1) ⟨[], L, false⟩
def PctRes (base : Nat) (w w' : World) (pb : Nat) (e : Ending) : Option PSt → Prop
  | none => e = .returned (.bool false) ∧ Below base w w'
  | some st => e = .returned (.bool true) ∧ (∃ rv', Prt base w' pb st.out rv' st.took ∧ RestB base w' rv' st.rest) ∧ Below base w w'
theorem head_len {L : List (List UInt8)} (h : ∀ x, x ∈ L → x.length ≤ 500) : (L.headD []).length ≤ 500 := by
  cases L with
  | nil => simp
  | cons x r => exact h x (by simp)
theorem prt_lt {base : Nat} {w : World} {pb : Nat} {out rv} {took : Bool} (h : Prt base w pb out rv took) : base ≤ w.heap.size := by
  obtain ⟨hb, a, v, hp, _⟩ := h
  have := lt_heap hp; omega
theorem prt_keep {base : Nat} {w w' : World} {pb : Nat} {out rv} {took : Bool} (h : Prt base w pb out rv took) (hB : Below w.heap.size w w') : Prt base w' pb out rv took := by
  obtain ⟨hb, a, v, hp, ha, hown, hne, hnil⟩ := h
  exact ⟨hb, a, v, by rw [hB.block pb (lt_heap hp)]; exact hp, ha, hown.below hB, hne, hnil⟩
set_option maxRecDepth 100000 in
set_option maxHeartbeats 1600000 in
theorem pct_any (base pb : Nat) (w : World) (st : PSt) (rv : Value) (c : UInt8) (hl : st.out.length + 500 ≤ 100000000000) (h : Prt base w pb st.out rv st.took) (hr : RestB base w rv st.rest) (hE : ∀ w', Below base w w' → Env w') :
    Calls Tryz.prog 166 #[.pointer (some ⟨pb, 0, none⟩), .int .u8 c.toNat] w fun e w' => PctRes base w w' pb e (pctS c st) := by
  obtain ⟨out, L, took⟩ := st
  simp only at hl h hr
  have hx5 := (let ⟨_, _, _, _, _, _, _, h5, _⟩ := hr; h5)
  have hhl := head_len hx5
  by_cases e1 : c = 37
  · subst e1
    have HB := Lib.hid (pbyte_any base pb w out rv took 37 (by omega) h)
    have HR := Lib.hid (fun w' (hb : Below base w w') => hr.below hb)
    have hS := Lib.hid (show pctS 37 ⟨out, L, took⟩ = some ⟨out ++ [37], L, took⟩ from rfl)
    clear h hr hx5
    go_enter Tryz.func166, Tryz.ntmps166
    go_wp2_with fail
    refine HB.out.mono ?_
    rintro e w1 ⟨rfl, hP, hB⟩
    go_wp2_with fail
    go_ret
    rw [hS.out]
    exact ⟨rfl, ⟨_, hP, HR.out _ hB⟩, hB⟩
  by_cases e2 : c = 115
  · subst e2
    have HN := Lib.hid (next_any base pb w.drew out rv took L h hr)
    have HW := Lib.hid (fun (w' : World) (rv' : Value) => pstr_any base pb w' out rv' true (L.headD []) (by omega))
    have hS := Lib.hid (show pctS 115 ⟨out, L, took⟩ = some ⟨out ++ L.headD [], L.tail, true⟩ from rfl)
    clear h hr hx5
    go_enter Tryz.func166, Tryz.ntmps166
    go_wp2_with fail
    go_region_with (first
      | (go_at_call 207; refine HN.out.mono ?_; rintro e w1 ⟨rfl, rv1, hP1, hR1, hB1⟩; obtain ⟨y, hy⟩ : ∃ y, L.headD [] = y := ⟨_, rfl⟩; rw [hy]; have HW1 := Lib.hid (hy ▸ HW.out w1 rv1 hP1); have HY := Lib.hid hy; clear hy)
      | (go_at_call 59; refine HW1.out.mono ?_; rintro e w2 ⟨rfl, hP2, hB2⟩))
    go_wp2_with fail
    go_ret
    rw [hS.out, HY.out]
    exact ⟨rfl, ⟨_, hP2, hR1.below hB2⟩, (show Below base w w1 from ⟨hB1.os, hB1.tape, hB1.output, hB1.size, hB1.block⟩).trans hB2⟩
  by_cases e3 : c = 100
  · subst e3
    have HN := Lib.hid (next_any base pb w out rv took L h hr)
    have HW := Lib.hid (fun (w' : World) (rv' : Value) (y : List UInt8) (hy : y.length ≤ 20) => pstr_any base pb w' out rv' true y (by omega))
    have hS := Lib.hid (show pctS 100 ⟨out, L, took⟩ = (numL (L.headD [])).map fun n => ⟨out ++ n, L.tail, true⟩ from rfl)
    have hbw := prt_lt h
    have HE := Lib.hid hE
    clear h hr hx5 hE
    obtain ⟨x, hx⟩ : ∃ x, L.headD [] = x := ⟨_, rfl⟩
    rw [hx] at HN hS hhl
    clear hx
    go_enter Tryz.func166, Tryz.ntmps166
    go_wp2_with fail
    refine HN.out.mono ?_
    rintro e w1 ⟨rfl, rv1, hP1, hR1, hB1⟩
    have hE1 := HE.out w1 hB1
    have hb1 := prt_lt hP1
    go_wp2_with fail
    refine (number_any x hhl w1 hE1).mono ?_
    rintro e w2 ⟨rfl, hB2⟩
    have hB2' : Below base w1 w2 := hB2.mono hb1
    have hP2 := prt_keep hP1 hB2
    have hR2 := hR1.below hB2'
    have hB12 := hB1.trans hB2'
    cases hn : numL x with
    | none =>
      have hS2 := Lib.hid (show pctS 100 ⟨out, L, took⟩ = none by rw [hS.out, hn]; rfl)
      have HW2 := Lib.hid (HW.out w2 rv1 [] (by simp) hP2)
      clear hn hE1
      unfold numRet
      simp only [Option.getD_none, Option.isSome_none]
      go_wp2_with fail
      refine HW2.out.mono ?_
      rintro e w3 ⟨rfl, hP3, hB3⟩
      go_wp2_with fail
      go_ret
      rw [hS2.out]
      exact ⟨rfl, hB12.trans hB3⟩
    | some y =>
      have hS2 := Lib.hid (show pctS 100 ⟨out, L, took⟩ = some ⟨out ++ y, L.tail, true⟩ by rw [hS.out, hn]; rfl)
      have HW2 := Lib.hid (HW.out w2 rv1 y (numL_len hn) hP2)
      clear hn hE1
      unfold numRet
      simp only [Option.getD_some, Option.isSome_some]
      go_wp2_with fail
      refine HW2.out.mono ?_
      rintro e w3 ⟨rfl, hP3, hB3⟩
      go_wp2_with fail
      go_ret
      rw [hS2.out]
      exact ⟨rfl, ⟨_, hP3, hR2.below hB3⟩, hB12.trans hB3⟩
  · have hS := Lib.hid (show pctS c ⟨out, L, took⟩ = none by simp [pctS, e1, e2, e3])
    have n1 := ne_int (k := 37) (by omega) e1
    have n2 := ne_int (k := 115) (by omega) e2
    have n3 := ne_int (k := 100) (by omega) e3
    have m1 : ((c.toNat : Int) == 37) = false := by rw [beq_eq_false_iff_ne]; exact n1
    have m2 : ((c.toNat : Int) == 115) = false := by rw [beq_eq_false_iff_ne]; exact n2
    have m3 : ((c.toNat : Int) == 100) = false := by rw [beq_eq_false_iff_ne]; exact n3
    clear e1 e2 e3 h hr hx5 hE
    go_enter Tryz.func166, Tryz.ntmps166
    go_wp2_with fail
    go_ret
    rw [hS.out]
    exact ⟨rfl, Below.refl _ _⟩
end Go.Proofs.YtbecmcjibpamoaaGreatDoor
namespace Go.Proofs.YtbecmcjibpamoaaGreatDoor
open Go.RowKit
theorem passS_nil (st : PSt) : passS [] st = some st := by rw [passS]
theorem passS_plain (c : UInt8) (t : List UInt8) (st : PSt) (h1 : c ≠ 37) (h2 : c ≠ 92) : passS (c :: t) st = passS t ⟨st.out ++ [c], st.rest, st.took⟩ := by
  cases t with
  | nil => simp [passS, h1, h2]
  | cons d r => simp [passS, h1, h2]
theorem passS_last (c : UInt8) (st : PSt) (h : c = 37 ∨ c = 92) : passS [c] st = none := by simp [passS, h]
theorem passS_pct (d : UInt8) (t : List UInt8) (st : PSt) : passS (37 :: d :: t) st = (pctS d st).bind (passS t) := by simp [passS]
theorem passS_esc (d : UInt8) (t : List UInt8) (st : PSt) : passS (92 :: d :: t) st = (escV d).bind fun v => passS t ⟨st.out ++ [v], st.rest, st.took⟩ := by simp [passS]
def takes : List UInt8 → Bool
  | [] => false
  | [_] => false
  | c :: d :: t => if c = 37 then d == 115 || d == 100 || takes t else if c = 92 then takes t else takes (d :: t)
theorem takes_plain (c : UInt8) (t : List UInt8) (h1 : c ≠ 37) (h2 : c ≠ 92) : takes (c :: t) = takes t := by
  cases t with
  | nil => simp [takes]
  | cons d r => simp [takes, h1, h2]
theorem pct_len {d : UInt8} {st st' : PSt} (h : pctS d st = some st') (h5 : ∀ x, x ∈ st.rest → x.length ≤ 500) : st'.out.length ≤ st.out.length + 500 := by
  have hh := head_len h5
  unfold pctS at h
  split at h
  · cases h; simp
  · split at h
    · cases h; simp at hh ⊢; omega
    · split at h
      · cases hn : numL (st.rest.headD []) with
        | none => rw [hn] at h; cases h
        | some y => rw [hn] at h; cases h; have := numL_len hn; simp; omega
      · cases h
theorem pct_took {d : UInt8} {st st' : PSt} (h : pctS d st = some st') : st'.took = (st.took || (d == 115 || d == 100)) ∧ st'.rest.length ≤ st.rest.length ∧ ((d == 115 || d == 100) = true → st.rest ≠ [] → st'.rest.length < st.rest.length) := by
  have tl : st.rest.tail.length ≤ st.rest.length ∧ (st.rest ≠ [] → st.rest.tail.length < st.rest.length) := by
    cases st.rest with
    | nil => simp
    | cons x r => simp
  unfold pctS at h
  split at h
  · rename_i e; subst e; cases h; simp
  · split at h
    · rename_i e; subst e; cases h; simp; simpa using tl
    · split at h
      · rename_i e; subst e
        cases hn : numL (st.rest.headD []) with
        | none => rw [hn] at h; cases h
        | some y => rw [hn] at h; cases h; simp; simpa using tl
      · cases h
theorem pass_took : ∀ (n : Nat) (f : List UInt8) (st st' : PSt), f.length ≤ n → passS f st = some st' → st'.took = (st.took || takes f) ∧ st'.rest.length ≤ st.rest.length ∧ (takes f = true → st.rest ≠ [] → st'.rest.length < st.rest.length)
  | n, [], st, st', _, h => by rw [passS_nil] at h; cases h; simp [takes]
  | 0, c :: t, _, _, hn, _ => by simp at hn
  | n + 1, c :: t, st, st', hn, h => by
    have hn' : t.length ≤ n := by simpa using hn
    by_cases h1 : c = 37
    · subst h1
      cases t with
      | nil => rw [passS_last _ _ (.inl rfl)] at h; cases h
      | cons d r =>
        rw [passS_pct] at h
        cases hp : pctS d st with
        | none => rw [hp] at h; cases h
        | some s1 =>
          rw [hp] at h
          obtain ⟨a1, a2, a3⟩ := pct_took hp
          obtain ⟨b1, b2, b3⟩ := pass_took n r s1 st' (by simp at hn'; omega) h
          rw [show takes (37 :: d :: r) = (d == 115 || d == 100 || takes r) by simp [takes]]
          refine ⟨by rw [b1, a1, Bool.or_assoc], by omega, fun ht hne => ?_⟩
          rcases Bool.or_eq_true _ _ ▸ ht with ht | ht
          · have := a3 ht hne; omega
          · by_cases hz : s1.rest = []
            · have : 0 < st.rest.length := List.length_pos_iff.2 hne
              rw [hz] at b2; simp at b2; rw [b2]; simpa using this
            · have := b3 ht hz; omega
    · by_cases h2 : c = 92
      · subst h2
        cases t with
        | nil => rw [passS_last _ _ (.inr rfl)] at h; cases h
        | cons d r =>
          rw [passS_esc] at h
          cases hp : escV d with
          | none => rw [hp] at h; cases h
          | some v =>
            rw [hp] at h
            have := pass_took n r _ st' (by simp at hn'; omega) h
            rw [show takes (92 :: d :: r) = takes r by simp [takes]]
            exact this
      · rw [passS_plain c t st h1 h2] at h
        have := pass_took n t _ st' hn' h
        rw [takes_plain c t h1 h2]
        exact this
def PassRes (base : Nat) (w w' : World) (pb : Nat) (e : Ending) (m : Nat) : Option PSt → Prop
  | none => e = .returned (.bool false) ∧ Below base w w'
  | some st => e = .returned (.bool true) ∧ (∃ rv', Prt base w' pb st.out rv' st.took ∧ RestB base w' rv' st.rest) ∧ Below base w w' ∧ st.out.length ≤ m
theorem rest5 {base : Nat} {w : World} {rv L} (hr : RestB base w rv L) : ∀ x, x ∈ L → x.length ≤ 500 := let ⟨_, _, _, _, _, _, _, h5, _⟩ := hr; h5
set_option maxRecDepth 100000 in
set_option maxHeartbeats 3200000 in
theorem pass_any (base pb : Nat) (w : World) (f : List UInt8) (st : PSt) (rv : Value) (hf : f.length ≤ 500) (hl : st.out.length ≤ 10000000000) (h : Prt base w pb st.out rv st.took) (hr : RestB base w rv st.rest) (hE : ∀ w', Below base w w' → Env w') :
    Calls Tryz.prog 118 #[.pointer (some ⟨pb, 0, none⟩), .string ⟨f.toArray⟩] w fun e w' => PassRes base w w' pb e (st.out.length + 500 * f.length) (passS f st) := by
  obtain ⟨n, hn⟩ : ∃ n, f.length = n := ⟨_, rfl⟩
  have HNl := Lib.hid hn
  rw [hn] at hf
  have HE := Lib.hid hE
  obtain ⟨R, hR⟩ : ∃ R, passS f st = R := ⟨_, rfl⟩
  obtain ⟨m, hm⟩ : ∃ m, st.out.length + 500 * n = m := ⟨_, rfl⟩
  have hm2 : m ≤ 20000000000 := by omega
  rw [hn, hm, hR]
  have HR := Lib.hid hR
  have HM := Lib.hid hm
  clear hR hE hm
  go_enter Tryz.func118, Tryz.ntmps118
  go_wp2_with fail
  go_loopw [5] (fun i W => ∃ (k : Nat) (s1 : PSt) (rv1 : Value), k ≤ n ∧ i = .int .i64 k ∧ Hid (passS (f.drop k) s1 = R) ∧ Prt base W pb s1.out rv1 s1.took ∧ RestB base W rv1 s1.rest ∧ Below base w W ∧ s1.out.length + 500 * (n - k) ≤ m) (fun i _ => n - (intOf i).toNat)
  case atStart => exact ⟨0, st, rv, by omega, rfl, by rw [List.drop_zero]; exact HR, h, hr, Below.refl _ _, by rw [Nat.sub_zero, HM.out]; omega⟩
  case round =>
    obtain ⟨k, s1, rv1, hk, rfl, HS, hP, hRb, hB, hol⟩ := hrel
    by_cases hkn : k < n
    · obtain ⟨c, _, hg, hc⟩ := str_at f k (by omega)
      have hd := drop_cons hc
      by_cases hpl : c = 37 ∨ c = 92
      · by_cases hk1 : k + 1 < n
        · obtain ⟨d, _, hg2, hc2⟩ := str_at f (k + 1) (by omega)
          have hd2 := drop_cons hc2
          rcases hpl with rfl | rfl
          · have hs := HS.out
            rw [hd, hd2, passS_pct] at hs
            have HP := Lib.hid (pct_any base pb wr s1 rv1 d (by omega) hP hRb (fun w' hb => HE.out w' (hB.trans hb)))
            have HL := Lib.hid (fun s2 (h2 : pctS d s1 = some s2) => pct_len h2 (rest5 hRb))
            cases hp : pctS d s1 with
            | none =>
              rw [hp] at hs HP
              have hRn := Lib.hid (show R = none from hs.symm)
              clear hs hd hd2 hc hc2 hP hRb HS HL hp
              go_wp2_with fail
              refine HP.out.mono ?_
              rintro e w1 ⟨rfl, hB1⟩
              go_wp2_with fail
              go_ret
              rw [hRn.out]
              exact ⟨rfl, hB.trans hB1⟩
            | some s2 =>
              rw [hp] at hs HP
              have HS2 := Lib.hid (show passS (f.drop (k + 1 + 1)) s2 = R from hs)
              have hl2 := HL.out s2 hp
              clear hs hd hd2 hc hc2 hP hRb HS HL hp
              go_wp2_with fail
              refine HP.out.mono ?_
              rintro e w1 ⟨rfl, ⟨rv2, hP2, hR2⟩, hB1⟩
              go_wp2_with fail
              go_round
              case rel => exact ⟨k + 1 + 1, s2, rv2, by omega, by go_num, HS2, hP2, hR2, hB.trans hB1, by omega⟩
              case measure => simp [intOf]; omega
          · have hs := HS.out
            rw [hd, hd2, passS_esc] at hs
            cases hv : escV d with
            | none =>
              rw [hv] at hs
              have hRn := Lib.hid (show R = none from hs.symm)
              have HF := Lib.hid (fescape_any d wr)
              rw [hv] at HF
              clear hs hd hd2 hc hc2 hP hRb HS hv
              go_wp2_with fail
              refine HF.out.mono ?_
              rintro e w1 ⟨rfl, rfl⟩
              simp only [Option.getD_none, Option.isSome_none]
              go_wp2_with fail
              go_ret
              rw [hRn.out]
              exact ⟨rfl, hB⟩
            | some v =>
              rw [hv] at hs
              have HS2 := Lib.hid (show passS (f.drop (k + 1 + 1)) ⟨s1.out ++ [v], s1.rest, s1.took⟩ = R from hs)
              have HF := Lib.hid (fescape_any d wr)
              rw [hv] at HF
              have HW := Lib.hid (pbyte_any base pb wr s1.out rv1 s1.took v (by omega) hP)
              clear hs hd hd2 hc hc2 hP HS hv
              go_wp2_with fail
              refine HF.out.mono ?_
              rintro e w1 ⟨rfl, rfl⟩
              simp only [Option.getD_some, Option.isSome_some]
              go_wp2_with fail
              refine HW.out.mono ?_
              rintro e w1 ⟨rfl, hP2, hB1⟩
              have hR2 := hRb.below hB1
              go_wp2_with fail
              go_round
              case rel => exact ⟨k + 1 + 1, ⟨s1.out ++ [v], s1.rest, s1.took⟩, rv1, by omega, by go_num, HS2, hP2, hR2, hB.trans hB1, by simp; omega⟩
              case measure => simp [intOf]; omega
        · have hk2 : n = k + 1 := by omega
          have hdn : f.drop (k + 1) = [] := List.drop_eq_nil_of_le (by omega)
          have hs := HS.out
          rw [hd, hdn, passS_last c s1 hpl] at hs
          have hRn := Lib.hid (show R = none from hs.symm)
          have heq : (((k : Int) + 1) == (n : Int)) = true := by rw [beq_iff_eq]; omega
          clear hs hd hdn hc hP hRb HS hk2
          rcases hpl with rfl | rfl
          all_goals
            go_wp2_with fail
            go_ret
            rw [hRn.out]
            exact ⟨rfl, hB⟩
      · have e1 : c ≠ 37 := fun e => hpl (.inl e)
        have e2 : c ≠ 92 := fun e => hpl (.inr e)
        have n1 := ne_int (k := 37) (by omega) e1
        have n2 := ne_int (k := 92) (by omega) e2
        have m1 : ((c.toNat : Int) != 37) = true := by rw [bne_iff_ne]; exact n1
        have m2 : ((c.toNat : Int) != 92) = true := by rw [bne_iff_ne]; exact n2
        have hs := HS.out
        rw [hd, passS_plain c _ s1 e1 e2] at hs
        have HS2 := Lib.hid hs
        have HW := Lib.hid (pbyte_any base pb wr s1.out rv1 s1.took c (by omega) hP)
        clear hs hd hc hP HS e1 e2 hpl
        go_wp2_with fail
        refine HW.out.mono ?_
        rintro e w1 ⟨rfl, hP2, hB1⟩
        have hR2 := hRb.below hB1
        go_wp2_with fail
        go_round
        case rel => exact ⟨k + 1, ⟨s1.out ++ [c], s1.rest, s1.took⟩, rv1, by omega, by go_num, HS2, hP2, hR2, hB.trans hB1, by simp; omega⟩
        case measure => simp [intOf]; omega
    · obtain rfl : k = n := by omega
      have hs := HS.out
      rw [← HNl.out, List.drop_length, passS_nil] at hs
      have hRn := Lib.hid (show R = some s1 from hs.symm)
      clear hs HS
      go_wp2_with fail
      go_ret
      rw [hRn.out]
      exact ⟨rfl, ⟨rv1, hP, hRb⟩, hB, by omega⟩
end Go.Proofs.YtbecmcjibpamoaaGreatDoor
namespace Go.Proofs.YtbecmcjibpamoaaGreatDoor
open Go.RowKit
theorem printf_one (f : List UInt8) (k : Nat) (st : PSt) : printfS f (k + 1) st = (passS f st).bind fun st' => if st'.took = false ∨ st'.rest = [] then some st'.out else printfS f k st' := rfl
def capN (k : Nat) : Nat := (List.replicate k 250000).sum
theorem capN_succ (k : Nat) : capN (k + 1) = capN k + 250000 := by simp [capN, List.replicate_succ, Nat.add_comm]
theorem capN_le : ∀ k : Nat, k ≤ 101 → capN k ≤ 30000000 := by decide
theorem olen {a b n k : Nat} (h1 : a ≤ b + 500 * n) (h2 : n ≤ 500) (h3 : b + capN (k + 1 + 1) ≤ 100000000) : a + capN (k + 1) ≤ 100000000 := by
  rw [capN_succ] at h3
  generalize capN (k + 1) = q at *
  omega
def restN (w : World) (pb : Nat) : Nat := match w.cell? ⟨pb, 2, none⟩ with | some (.slice _ n _) => n | _ => 0
theorem restN_of {base : Nat} {w : World} {pb : Nat} {out rv L} {took : Bool} (h : Prt base w pb out rv took) (hr : RestB base w rv L) : restN w pb = L.length := by
  obtain ⟨c2, _⟩ := prt_cells h
  obtain ⟨a, n, cap, rfl, hn, _⟩ := hr
  rw [restN, c2]; exact hn
set_option maxRecDepth 100000 in
set_option maxHeartbeats 1600000 in
theorem printf_any (f : List UInt8) (v : Value) (L : List (List UInt8)) (hf : f.length ≤ 500) (w : World) (hv : Strs w v L) (h5 : ∀ x, x ∈ L → x.length ≤ 500) (hLl : L.length ≤ 100) (hE : Env w) :
    Calls Tryz.prog 77 #[.string ⟨f.toArray⟩, v] w fun e w' => TxtRes w w' e (printfL f L) := by
  obtain ⟨a0, cap, hv0, hcap, hat⟩ := hv.shape
  obtain ⟨n, hn⟩ : ∃ n, L.length = n := ⟨_, rfl⟩
  have hRB0 : RestB w.heap.size w v L := ⟨a0, L.length, cap, hv0, rfl, hcap, by omega, h5, fun hp => hat hp⟩
  rw [hn] at hv0
  subst hv0
  obtain ⟨pb, hpb⟩ : ∃ pb, w.heap.size = pb := ⟨_, rfl⟩
  have hA : Below w.heap.size w (w.alloc (.cells #[.pointer none, .slice none 0 0, .slice a0 n cap, .bool false] 169)) := (Below.refl _ _).alloc (Nat.le_refl _) _
  have hP0 : Prt w.heap.size (w.alloc (.cells #[.pointer none, .slice none 0 0, .slice a0 n cap, .bool false] 169)) w.heap.size [] (.slice a0 n cap) false := by
    refine ⟨Nat.le_refl _, .pointer none, .slice none 0 0, ?_, .inl rfl, OwnB.nil _ _, (fun e => by cases e), fun _ => rfl⟩
    show (w.heap.push _)[w.heap.size]? = _
    simp
  have hR0 := hRB0.below hA
  have HE := Lib.hid (fun w' (hb : Below w.heap.size w w') => hE.below hb)
  obtain ⟨R, hR⟩ : ∃ R, printfL f L = R := ⟨_, rfl⟩
  rw [hR]
  have HR := Lib.hid (show printfS f (L.length + 1) ⟨[], L, false⟩ = R from hR)
  have hlf := hf
  obtain ⟨base, hbase⟩ : ∃ base, base = w.heap.size := ⟨_, rfl⟩
  rw [← hbase] at hA hP0 hR0 HE
  have HB := Lib.hid hbase
  clear hR hRB0 hat hv hpb hE hn hbase
  go_enter Tryz.func77, Tryz.ntmps77
  go_wp2_with fail
  rw [← HB.out]
  go_loopw [26] (fun _ W => ∃ (k : Nat) (st : PSt) (rv : Value), Hid (printfS f (k + 1) st = R) ∧ st.rest.length ≤ k ∧ k ≤ 100 ∧ (st.took = true → takes f = true) ∧ Prt base W base st.out rv st.took ∧ RestB base W rv st.rest ∧ Below base w W ∧ st.out.length + capN (k + 1) ≤ 100000000) (fun _ W => restN W base)
  case atStart => exact ⟨L.length, ⟨[], L, false⟩, .slice a0 n cap, HR, Nat.le_refl _, hLl, (fun h => by cases h), hP0, hR0, hA, by have := capN_le (L.length + 1) (by omega); simp; omega⟩
  case round =>
    clear hP0 hR0 hA HR
    obtain ⟨k, st, rv, HS, hrk, hk1, htk, hP, hRb, hB, hol⟩ := hrel
    have hs := HS.out
    rw [printf_one] at hs
    have hrn := restN_of hP hRb
    have HP := Lib.hid (pass_any base base wr f st rv hf (by omega) hP hRb (fun w' hb => HE.out w' (hB.trans hb)))
    have HT := Lib.hid (fun st' (h : passS f st = some st') => pass_took _ f st st' (Nat.le_refl _) h)
    cases hp : passS f st with
    | none =>
      rw [hp] at hs HP
      have hRn := Lib.hid (show R = none from hs.symm)
      clear hs HS hP hRb HT hp htk
      go_wp2_with fail
      refine HP.out.mono ?_
      rintro e w1 ⟨rfl, hB1⟩
      go_wp2_with fail
      go_ret2
      rw [hRn.out]
      exact ⟨rfl, HB.out ▸ hB.trans hB1⟩
    | some s1 =>
      rw [hp] at hs HP
      obtain ⟨t1, t2, t3⟩ := HT.out s1 hp
      have Htk := Lib.hid htk
      have Ht1 := Lib.hid t1
      have Ht3 := Lib.hid t3
      have Hs := Lib.hid hs
      clear hs HS hP hRb HT hp htk t1 t3
      go_wp2_with fail
      refine HP.out.mono ?_
      rintro e w1 ⟨rfl, ⟨rv2, hP2, hR2⟩, hB1, hl2⟩
      obtain ⟨c2, c3, _, _⟩ := prt_cells hP2
      have hBB := hB.trans hB1
      cases htook : s1.took with
      | false =>
        rw [htook] at c3
        have hRs := Lib.hid (show R = some s1.out by rw [← Hs.out]; show (if s1.took = false ∨ s1.rest = [] then some s1.out else printfS f k s1) = _; rw [if_pos (.inl htook)])
        have HO := Lib.hid (pout_any base base w1 s1.out rv2 s1.took (by omega) hP2)
        clear c2 htook
        go_wp2_with fail
        refine HO.out.mono ?_
        rintro e w2 ⟨rfl, hB2⟩
        go_wp2_with fail
        go_ret2
        rw [hRs.out]
        exact ⟨rfl, HB.out ▸ hBB.trans hB2⟩
      | true =>
        rw [htook] at c3
        have hrn2 := restN_of hP2 hR2
        obtain ⟨a2, n2, cap2, hrv2, hn2, _⟩ := id hR2
        by_cases hz : s1.rest = []
        · have hRs := Lib.hid (show R = some s1.out by rw [← Hs.out]; show (if s1.took = false ∨ s1.rest = [] then some s1.out else printfS f k s1) = _; rw [if_pos (.inr hz)])
          have HO := Lib.hid (pout_any base base w1 s1.out rv2 s1.took (by omega) hP2)
          rw [hz] at hn2
          obtain rfl : n2 = 0 := by simpa using hn2
          subst hrv2
          clear htook hz hn2 hR2 hrn2
          go_wp2_with fail
          refine HO.out.mono ?_
          rintro e w2 ⟨rfl, hB2⟩
          go_wp2_with fail
          go_ret2
          rw [hRs.out]
          exact ⟨rfl, HB.out ▸ hBB.trans hB2⟩
        · have hpos : 0 < s1.rest.length := List.length_pos_iff.2 hz
          have htf : takes f = true := by
            cases h : st.took with
            | true => exact Htk.out h
            | false => have := Ht1.out; rw [htook, h] at this; simpa using this.symm
          have hlt := Ht3.out htf (fun e => by rw [e] at t2; simp at t2; exact hz t2)
          obtain ⟨k2, rfl⟩ : ∃ k2, k = k2 + 1 := ⟨k - 1, by omega⟩
          have HS2 := Lib.hid (show printfS f (k2 + 1) s1 = R by rw [← Hs.out]; show _ = (if s1.took = false ∨ s1.rest = [] then some s1.out else printfS f (k2 + 1) s1); rw [if_neg (fun h => h.elim (fun h => by rw [htook] at h; cases h) hz)])
          have HTK := Lib.hid (show s1.took = true → takes f = true from fun _ => htf)
          have hne0 : ((n2 : Int) == 0) = false := by rw [beq_eq_false_iff_ne]; omega
          have hol2 : s1.out.length + capN (k2 + 1) ≤ 100000000 := olen hl2 hf hol
          have hrk2 : s1.rest.length ≤ k2 := by omega
          subst hrv2
          have Hn2 := Lib.hid hn2
          have HTT := Lib.hid htook
          clear htook hz hn2 htf
          go_wp2_with fail
          go_round
          case rel => exact ⟨k2, s1, _, HS2, hrk2, by omega, HTK.out, hP2, hR2, hBB, hol2⟩
          case measure => omega
end Go.Proofs.YtbecmcjibpamoaaGreatDoor
namespace Go.Proofs.YtbecmcjibpamoaaGreatDoor
open Go.RowKit
theorem below_alloc (w : World) (o : Obj) : Below w.heap.size w (w.alloc o) := (Below.refl _ _).alloc (Nat.le_refl _) _
theorem below_tr {w w1 w2 : World} (h1 : Below w.heap.size w w1) (h2 : Below w1.heap.size w1 w2) : Below w.heap.size w w2 := h1.trans (h2.mono h1.size)
theorem strs_lit (w : World) (L : List (List UInt8)) (cs : Array Value) (n : Nat) (hn : n = L.length) (hl : L.length ≤ 1000) (h5 : ∀ x, x ∈ L → x.length ≤ maxLen) (hcs : cs.toList = L.map fun x => Value.string ⟨x.toArray⟩) (t : TypeId) :
    Strs (w.alloc (.cells cs t)) (.slice (some ⟨w.heap.size, 0, none⟩) n n) L := by
  subst hn
  refine ⟨by unfold maxLen; omega, ⟨_, L.length, rfl, Nat.le_refl _, fun _ => ⟨w.heap.size, 0, rfl, by simp, fun i x hx => ?_⟩⟩, fun i x hx => h5 x (List.mem_of_getElem? hx)⟩
  rw [Nat.zero_add, World.cell?_alloc_new]
  have : cs.toList[i]? = some (.string ⟨x.toArray⟩) := by rw [hcs, List.getElem?_map, hx]; rfl
  rw [Array.getElem?_toList] at this
  exact this
end Go.Proofs.YtbecmcjibpamoaaGreatDoor
namespace Go.Proofs.YtbecmcjibpamoaaGreatDoor
open Go.RowKit IntWalk
def wcN : List UInt8 := [119, 99]
def headN : List UInt8 := [104, 101, 97, 100]
def tailN : List UInt8 := [116, 97, 105, 108]
def trN : List UInt8 := [116, 114]
def grepN : List UInt8 := [103, 114, 101, 112]
def sortN : List UInt8 := [115, 111, 114, 116]
def uniqN : List UInt8 := [117, 110, 105, 113]
def catRN : List UInt8 := [99, 97, 116]
def lsN : List UInt8 := [108, 115]
def echoN : List UInt8 := [101, 99, 104, 111]
def printfN : List UInt8 := [112, 114, 105, 110, 116, 102]
def trueN : List UInt8 := [116, 114, 117, 101]
def falseN : List UInt8 := [102, 97, 108, 115, 101]
def rdL : List (List UInt8) := [catRN, wcN, headN, tailN, grepN, sortN, uniqN, trN, lsN, echoN, printfN, trueN, falseN]
def optL : List (List UInt8 × List UInt8) := [(wcN, [108, 119, 99]), (headN, [110]), (tailN, [110]), (trN, [100]), (grepN, [118]), (sortN, [114, 117]), (uniqN, [99])]
def bareR : List (List UInt8) := [catRN, lsN, echoN, printfN, trueN, falseN]
theorem options_own (x all : List UInt8) (hx : (x, all) ∈ optL) (w : World) :
    Calls Tryz.prog 40 #[.string ⟨x.toArray⟩] w fun e w' => e = .returned (.tuple #[.string ⟨all.toArray⟩, .bool true]) ∧ Below w.heap.size w w' := by
  simp only [optL, wcN, headN, tailN, trN, grepN, sortN, uniqN, List.mem_cons, List.not_mem_nil, or_false, Prod.mk.injEq] at hx
  rcases hx with ⟨rfl, rfl⟩ | ⟨rfl, rfl⟩ | ⟨rfl, rfl⟩ | ⟨rfl, rfl⟩ | ⟨rfl, rfl⟩ | ⟨rfl, rfl⟩ | ⟨rfl, rfl⟩
  all_goals
    go_enter Tryz.func40, Tryz.ntmps40
    go_wp2
    go_ret2
    exact ⟨rfl, Below.refl _ _⟩
theorem options_no (x : List UInt8) (hx : x ∈ bareR) (w : World) :
    Calls Tryz.prog 40 #[.string ⟨x.toArray⟩] w fun e w' => e = .returned (.tuple #[.string ⟨#[]⟩, .bool true]) ∧ Below w.heap.size w w' := by
  have hw1 := (Below.refl w.heap.size w).alloc (Nat.le_refl _) (.cells (bareU.map fun y => Value.string ⟨y.toArray⟩).toArray 9)
  have hrow : RowAt (w.alloc (.cells (bareU.map fun y => Value.string ⟨y.toArray⟩).toArray 9)) w.heap.size 0 bareU := fun i y hi => by
    have : (w.alloc (.cells (bareU.map fun y => Value.string ⟨y.toArray⟩).toArray 9)).heap[w.heap.size]? = _ := alloc_at _ _
    unfold World.cell?
    dsimp only
    rw [this]
    simp [hi]
  have HC := Lib.hid (contains_str w.heap.size 0 11 bareU x _ hrow (by decide))
  have HW := Lib.hid hw1
  clear hw1 hrow
  have hb : bareU.contains x = true := by
    simp only [bareR, catRN, lsN, echoN, printfN, trueN, falseN, List.mem_cons, List.not_mem_nil, or_false] at hx
    rcases hx with rfl | rfl | rfl | rfl | rfl | rfl <;> rfl
  rw [hb] at HC
  have hl : bareU.length = 11 := rfl
  rw [hl] at HC
  simp only [bareU, List.map_cons, List.map_nil] at HC HW
  simp only [bareR, catRN, lsN, echoN, printfN, trueN, falseN, List.mem_cons, List.not_mem_nil, or_false] at hx
  rcases hx with rfl | rfl | rfl | rfl | rfl | rfl
  all_goals
    go_enter Tryz.func40, Tryz.ntmps40
    go_wp2_with first
      | (go_at_call 71; (refine HC.out.mono ?_); rintro e w' ⟨rfl, rfl⟩)
    go_ret2
    exact ⟨rfl, HW.out⟩
theorem options_rd (x : List UInt8) (hx : x ∈ rdL) : ∃ all : List UInt8, all.length ≤ 3 ∧ ∀ w, Calls Tryz.prog 40 #[.string ⟨x.toArray⟩] w fun e w' => e = .returned (.tuple #[.string ⟨all.toArray⟩, .bool true]) ∧ Below w.heap.size w w' := by
  have hb : (x ∈ bareR) ∨ ∃ all : List UInt8, all.length ≤ 3 ∧ (x, all) ∈ optL := by
    simp only [rdL, List.mem_cons, List.not_mem_nil, or_false] at hx
    rcases hx with rfl | rfl | rfl | rfl | rfl | rfl | rfl | rfl | rfl | rfl | rfl | rfl | rfl
    · exact .inl (by decide)
    · exact .inr ⟨_, (by decide : ([108, 119, 99] : List UInt8).length ≤ 3), by decide⟩
    · exact .inr ⟨_, (by decide : ([110] : List UInt8).length ≤ 3), by decide⟩
    · exact .inr ⟨_, (by decide : ([110] : List UInt8).length ≤ 3), by decide⟩
    · exact .inr ⟨_, (by decide : ([118] : List UInt8).length ≤ 3), by decide⟩
    · exact .inr ⟨_, (by decide : ([114, 117] : List UInt8).length ≤ 3), by decide⟩
    · exact .inr ⟨_, (by decide : ([99] : List UInt8).length ≤ 3), by decide⟩
    · exact .inr ⟨_, (by decide : ([100] : List UInt8).length ≤ 3), by decide⟩
    all_goals exact .inl (by decide)
  rcases hb with h | ⟨all, h1, h2⟩
  · exact ⟨[], by decide, options_no x h⟩
  · exact ⟨all, h1, options_own x all h2⟩
theorem known_rd (x : List UInt8) (hx : x ∈ rdL) (w : World) :
    Calls Tryz.prog 20 #[.string ⟨x.toArray⟩] w fun e w' => e = .returned (.bool true) ∧ Below w.heap.size w w' := by
  obtain ⟨all, _, h⟩ := options_rd x hx
  have HO := Lib.hid (h w)
  clear hx h
  go_enter Tryz.func20, Tryz.ntmps20
  go_wp2_with first
    | (go_at_call 40; (refine HO.out.mono ?_); rintro e w' ⟨rfl, hb⟩)
  go_ret
  exact ⟨rfl, hb⟩
def hasB (opts : List UInt8) (c : UInt8) : Bool := Lib.contains opts [c]
theorem has_any2 {w : World} {D : Nat} (opts : List UInt8) (c : UInt8) (h1 : w.cell? ⟨D, 1, none⟩ = some (.string ⟨opts.toArray⟩)) (ho : opts.length ≤ 100000) (hE : Env w) :
    Calls Tryz.prog 74 #[.pointer (some ⟨D, 0, none⟩), .string ⟨#[c]⟩] w fun e w' => e = .returned (.bool (hasB opts c)) ∧ w = w' := by
  obtain ⟨m, hm⟩ := hE.maxlen
  have HC := Lib.hid (Tryz.strings_Contains ⟨opts.toArray⟩ ⟨#[c]⟩ m w (by rw [str_size]; omega) hm)
  have hc : Lib.contains (⟨opts.toArray⟩ : ByteArray).data.toList (⟨#[c]⟩ : ByteArray).data.toList = hasB opts c := by unfold hasB; simp
  rw [hc] at HC
  go_enter Tryz.func74, Tryz.ntmps74
  go_wp2_with (go_at_call 73; (refine HC.out.mono ?_); rintro e w' ⟨rfl, rfl⟩)
  go_ret
  exact ⟨rfl, by first | rfl | trivial⟩
theorem unum_any (x : List UInt8) (hl : x.length ≤ 100000) (w : World) : Calls Tryz.prog 75 #[.string ⟨x.toArray⟩] w fun e w' => (∃ (n : Int) (b : Bool), e = .returned (.tuple #[.int .i64 n, .bool b])) ∧ Below w.heap.size w w' := by
  by_cases h0 : x = []
  · subst h0
    go_enter Tryz.func75, Tryz.ntmps75
    go_wp2_with fail
    go_ret2
    exact ⟨⟨_, _, rfl⟩, Below.refl _ _⟩
  have hne1 : (x == []) = false := by simp [h0]
  by_cases h9 : 9 < x.length
  · have hl9 : (9 : Int) < (x.length : Int) := by omega
    go_enter Tryz.func75, Tryz.ntmps75
    go_wp2_with fail
    go_ret2
    exact ⟨⟨_, _, rfl⟩, Below.refl _ _⟩
  have hl9 : ¬ (9 : Int) < (x.length : Int) := by omega
  have HT := Lib.hid (trimD_any x (by omega) w)
  have Hiff := Lib.hid (trim_nil_iff x)
  have hn := Lib.hid h0
  clear h0
  cases hd : x.all digB with
  | false =>
    have hne : Lib.trimS x digs ≠ [] := fun e => by rw [Hiff.out.1 e] at hd; cases hd
    obtain ⟨t, ht⟩ : ∃ t, Lib.trimS x digs = t := ⟨_, rfl⟩
    rw [ht] at HT hne
    have ht1 : (t == []) = false := by simp [hne]
    clear hd ht hne
    go_enter Tryz.func75, Tryz.ntmps75
    go_wp2_with first
      | (go_at_call 116; (refine HT.out.mono ?_); rintro e w1 ⟨rfl, hB⟩)
    go_ret2
    exact ⟨⟨_, _, rfl⟩, hB⟩
  | true =>
    have hus : unsg x = x := by
      unfold unsg
      rw [if_neg]
      intro h
      have hm : (45 : UInt8) ∈ x := List.mem_of_mem_head? (by rw [h]; rfl)
      have := List.all_eq_true.1 hd _ hm
      exact absurd this (by decide)
    obtain ⟨v, hv1, hv2, hv3, hv4⟩ := num_atoi x hn.out (by rw [hus]; simp [badNum, hd, hn.out]; omega)
    have he : Lib.trimS x digs = [] := Hiff.out.2 hd
    rw [he] at HT
    have HAt := Lib.hid (Tryz.strconv_Atoi_ok ⟨x.toArray⟩ (by rw [str_size]; omega) v (by rw [show (ByteArray.mk x.toArray).data.toList = x by simp]; exact hv1))
    clear hd he hv1 hv4 hus
    go_enter Tryz.func75, Tryz.ntmps75
    go_wp2_with first
      | (go_at_call 116; (refine HT.out.mono ?_); rintro e w1 ⟨rfl, hB⟩)
      | (go_at_call 117; (refine (HAt.out _).mono ?_); rintro e w2 ⟨rfl, hw2⟩; have hB2 : Below w1.heap.size w1 w2 := (by (rcases hw2 with rfl | ⟨t, rfl⟩); exact Below.refl _ _; exact below_bytesWorld _ _ _); clear hw2)
    go_ret2
    exact ⟨⟨_, _, rfl⟩, hB.trans (hB2.mono hB.size)⟩
end Go.Proofs.YtbecmcjibpamoaaGreatDoor
namespace Go.Proofs.YtbecmcjibpamoaaGreatDoor
open Go.RowKit IntWalk
def planQ (x opts : List UInt8) (n : Int) (v : Value) : Obj := .cells #[.string ⟨x.toArray⟩, .string ⟨opts.toArray⟩, .int .i64 n, v] 55 (0, 0)
theorem planQ_cell {w : World} {D : Nat} {x opts : List UInt8} {n : Int} {v : Value} (h : w.heap[D]? = some (planQ x opts n v)) : w.cell? ⟨D, 0, none⟩ = some (.string ⟨x.toArray⟩) ∧ w.cell? ⟨D, 1, none⟩ = some (.string ⟨opts.toArray⟩) ∧ w.cell? ⟨D, 2, none⟩ = some (.int .i64 n) ∧ w.cell? ⟨D, 3, none⟩ = some v := by
  unfold planQ at h
  refine ⟨?_, ?_, ?_, ?_⟩ <;> (unfold World.cell?; dsimp only; rw [h]; rfl)
theorem planQ_set1 {w : World} {D : Nat} {x opts : List UInt8} {n : Int} {v : Value} (h : w.heap[D]? = some (planQ x opts n v)) (o' : List UInt8) : (w.setCell ⟨D, 1, none⟩ (.string ⟨o'.toArray⟩)).heap[D]? = some (planQ x o' n v) := set_rowN (k := 1) h
theorem planQ_set2 {w : World} {D : Nat} {x opts : List UInt8} {n : Int} {v : Value} (h : w.heap[D]? = some (planQ x opts n v)) (n' : Int) : (w.setCell ⟨D, 2, none⟩ (.int .i64 n')).heap[D]? = some (planQ x opts n' v) := set_rowN (k := 2) h
def OptR (r : Int) (k : Nat) : Prop := r = -1 ∨ r = 0 ∨ (r = 1 ∧ 1 ≤ k) ∨ (r = 2 ∧ 2 ≤ k)
def OptRes (w w' : World) (D : Nat) (x opts : List UInt8) (v : Value) (k : Nat) (e : Ending) : Prop :=
  ∃ (r : Int) (opts' : List UInt8) (n' : Int), e = .returned (.int .i64 r) ∧ OptR r k ∧ opts'.length ≤ opts.length + 1 ∧ w'.heap[D]? = some (planQ x opts' n' v) ∧ Turned (fun j => j = D) w w'
theorem opt_zero {w : World} {D : Nat} {x opts : List UInt8} {n : Int} {v : Value} {k : Nat} (h : w.heap[D]? = some (planQ x opts n v)) : OptRes w w D x opts v k (.returned (.int .i64 0)) :=
  ⟨0, opts, n, rfl, .inr (.inl rfl), by omega, h, Turned.refl _ _⟩
theorem Turned.ofBelow {S : Nat → Prop} {w w' : World} (h : Below w.heap.size w w') : Turned S w w' := ⟨h.os, h.tape, h.output, h.size, fun k hk _ => h.block k hk⟩
theorem Turned.set1 {w w' : World} {D : Nat} (h : Turned (fun j => j = D) w w') (k : Nat) (v : Value) : Turned (fun j => j = D) w (w'.setCell ⟨D, k, none⟩ v) :=
  ⟨h.os, h.tape, h.output, by simpa [World.setCell] using h.size, fun j hj hn => by
    rw [Below.heap_setCell _ _ _ _ (by show j ≠ D; exact hn)]; exact h.block j hj hn⟩
set_option maxRecDepth 100000 in
set_option maxHeartbeats 1000000 in
theorem option_any (D g o c : Nat) (x all opts : List UInt8) (n : Int) (v : Value) (L : List (List UInt8)) (w : World) (hD : w.heap[D]? = some (planQ x opts n v)) (hE : Env w) (ho : opts.length ≤ 1000) (ha : all.length ≤ 3) (hL : RowAt w g o L) (hg : g ≠ D) (h5 : ∀ y, y ∈ L → y.length ≤ 1000) (hl : L.length ≤ 1000) :
    Calls Tryz.prog 42 #[.pointer (some ⟨D, 0, none⟩), .string ⟨all.toArray⟩, .slice (some ⟨g, o, none⟩) L.length c] w fun e w' => OptRes w w' D x opts v L.length e := by
  obtain ⟨m, hm⟩ := hE.maxlen
  have hz := opt_zero (k := L.length) hD
  cases L with
  | nil =>
    clear hm hL
    rw [List.length_nil] at hz ⊢
    go_enter Tryz.func42, Tryz.ntmps42
    go_wp2
    go_ret
    exact hz
  | cons y L =>
    by_cases hy : y.length ≠ 2
    · refine (option_none D g o c all y L w hL hy (by have := h5 y (by simp); omega)).mono ?_
      rintro e w' ⟨rfl, rfl⟩
      exact hz
    obtain ⟨a, b, rfl⟩ : ∃ a b, y = [a, b] := by
      match y, hy with
      | [a, b], _ => exact ⟨a, b, rfl⟩
      | [], h => exact absurd (by simp) h
      | [_], h => exact absurd (by simp) h
      | _ :: _ :: _ :: _, h => exact absurd (by simp) h
    have d0 := hL 0 _ rfl
    simp only [Nat.add_zero] at d0
    obtain ⟨k, hk⟩ : ∃ k, L.length = k := ⟨_, rfl⟩
    rw [List.length_cons, hk] at hz ⊢
    have h0 : (((k + 1 : Nat) : Int) == 0) = false := by rw [beq_eq_false_iff_ne]; omega
    have hp : (0 : Int) < ((k + 1 : Nat) : Int) := by omega
    by_cases h45 : a ≠ 45
    · have hn45 : ¬ (((⟨#[a, b]⟩ : ByteArray)[0]'(by show 0 < 2; decide)).toNat : Int) = 45 := by
        intro q; apply h45; apply UInt8.toNat_inj.1; exact_mod_cast q
      clear hm hL
      go_enter Tryz.func42, Tryz.ntmps42
      go_wp2
      go_ret
      exact hz
    obtain rfl : a = 45 := Classical.byContradiction h45
    have he45 : (((⟨#[45, b]⟩ : ByteArray)[0]'(by show 0 < 2; decide)).toNat : Int) = 45 := rfl
    have HC := Lib.hid (Tryz.strings_Contains ⟨all.toArray⟩ ⟨#[b]⟩ m w (by rw [str_size]; omega) hm)
    obtain ⟨inb, hinb⟩ : ∃ q, Lib.contains (⟨all.toArray⟩ : ByteArray).data.toList (⟨#[b]⟩ : ByteArray).data.toList = q := ⟨_, rfl⟩
    rw [hinb] at HC
    have HH := Lib.hid (has_any2 opts b (planQ_cell hD).2.1 (by omega) hE)
    obtain ⟨hs, hhs⟩ : ∃ q, hasB opts b = q := ⟨_, rfl⟩
    rw [hhs] at HH
    clear hinb hhs hm h45
    by_cases hfree : inb = true ∧ hs = false
    · obtain ⟨rfl, rfl⟩ := hfree
      have hlt := (Array.getElem?_eq_some_iff.1 hD).1
      have c1 := (planQ_cell hD).2.1
      have z1 : w.frozen? ⟨D, 1, none⟩ = false := by unfold planQ at hD; simp [World.frozen?, hD]
      have HD := Lib.hid (show ((w.setCell ⟨D, 1, none⟩ (.string ⟨(opts ++ [b]).toArray⟩)).drew).heap[D]? = some (planQ x (opts ++ [b]) n v) from planQ_set1 hD (opts ++ [b]))
      have HT := Lib.hid (((Turned.refl (fun j => j = D) w).set1 1 (.string ⟨(opts ++ [b]).toArray⟩)).drew)
      have HR := Lib.hid (show RowAt ((w.setCell ⟨D, 1, none⟩ (.string ⟨(opts ++ [b]).toArray⟩)).drew) g o ([45, b] :: L) from RowAt.set (k := 1) (v := .string ⟨(opts ++ [b]).toArray⟩) hL (Ne.symm hg))
      have hle : (opts ++ [b]).length ≤ opts.length + 1 := by simp
      have hL5 := Lib.hid h5
      obtain ⟨o2, ho2⟩ : ∃ o2, opts ++ [b] = o2 := ⟨_, rfl⟩
      have HO2 := Lib.hid ho2
      rw [ho2] at HD HT HR hle
      have hf : ¬ 9223372036854775807 < o2.length := by omega
      clear hz hL hD h5 hl ho2
      go_enter Tryz.func42, Tryz.ntmps42
      go_wp2_with first
        | (go_at_call 73; (refine HC.out.mono ?_); rintro e w' ⟨rfl, rfl⟩)
        | (go_at_call 74; (refine HH.out.mono ?_); rintro e w' ⟨rfl, rfl⟩)
      go_region
      rw [HO2.out]
      generalize (w'.setCell ⟨D, 1, none⟩ (.string ⟨o2.toArray⟩)).drew = w2 at *
      have e0 := HR.out 0 _ rfl
      simp only [Nat.add_zero] at e0
      by_cases hb : b = 110
      · subst hb
        clear d0
        cases L with
        | nil =>
          have hk0 : k = 0 := by simpa using hk.symm
          subst hk0
          clear h0 hp
          go_wp2_with fail
          go_ret
          exact ⟨-1, o2, n, rfl, .inl rfl, hle, HD.out, HT.out⟩
        | cons z L =>
          have e1 := HR.out 1 z rfl
          have hk2 : (((k + 1 : Nat) : Int)) ≥ 2 := by simp at hk; omega
          have hzl := hL5.out z (by simp)
          have HN := Lib.hid (unum_any z (by omega) w2)
          have z2 : w2.frozen? ⟨D, 2, none⟩ = false := by have := HD.out; unfold planQ at this; simp [World.frozen?, this]
          have c2 := (planQ_cell HD.out).2.2.1
          go_wp2_with fail
          refine HN.out.mono ?_
          rintro e w3 ⟨⟨n3, b3, rfl⟩, hb3⟩
          have hlt2 := (Array.getElem?_eq_some_iff.1 HD.out).1
          have hD3 := (hb3.block D hlt2).trans HD.out
          have HT3 := Lib.hid (HT.out.trans (Turned.ofBelow (S := fun j => j = D) hb3) (fun _ q _ => q))
          have c3 := (planQ_cell hD3).2.2.1
          have z3 : w3.frozen? ⟨D, 2, none⟩ = false := by unfold planQ at hD3; simp [World.frozen?, hD3]
          have HD3 := Lib.hid hD3
          clear hD3 hb3 c2 z2 HN HR e0 e1 HH HC c1 z1
          cases b3 with
          | false =>
            go_wp2_with fail
            go_ret
            exact ⟨-1, o2, n, rfl, .inl rfl, hle, HD3.out, HT3.out⟩
          | true =>
            go_wp2_with fail
            go_ret
            exact ⟨2, o2, n3, rfl, .inr (.inr (.inr ⟨rfl, by simp at hk; omega⟩)), hle, planQ_set2 HD3.out n3, HT3.out.set1 2 _⟩
      · have hbn : ([45, b] : List UInt8) ≠ [45, 110] := fun q => hb (by simpa using q)
        have hbq : (([45, b] : List UInt8) == [45, 110]) = false := by simpa using hb
        go_wp2_with fail
        go_ret
        exact ⟨1, o2, n, rfl, .inr (.inr (.inl ⟨rfl, by omega⟩)), hle, HD.out, HT.out⟩
    · have hz2 := Lib.hid hz
      clear hz hL
      cases inb with
      | false =>
        go_enter Tryz.func42, Tryz.ntmps42
        go_wp2_with first
          | (go_at_call 73; (refine HC.out.mono ?_); rintro e w' ⟨rfl, rfl⟩)
        go_ret
        exact hz2.out
      | true =>
        cases hs with
        | false => exact absurd ⟨rfl, rfl⟩ hfree
        | true =>
          go_enter Tryz.func42, Tryz.ntmps42
          go_wp2_with first
            | (go_at_call 73; (refine HC.out.mono ?_); rintro e w' ⟨rfl, rfl⟩)
            | (go_at_call 74; (refine HH.out.mono ?_); rintro e w' ⟨rfl, rfl⟩)
          go_ret
          exact hz2.out
end Go.Proofs.YtbecmcjibpamoaaGreatDoor
