/- Texts: by a pattern (the library's side). -/
import Derived.Test.YtmhgehnkhhlbkaaGreatDoorTxQ
import Derived.Deep.DeepCutAuto
import Derived.Deep.RegionWith
namespace Go.Proofs.YtmhgehnkhhlbkaaGreatDoor
open Go.RowKit

/-- a slice of texts below base -/
def RestB (base : Nat) (w : World) (rv : Value) (L : List (List UInt8)) : Prop :=
  ∃ a n cap, rv = .slice a n cap ∧ n = L.length ∧ n ≤ cap ∧ n ≤ 1000 ∧ (∀ x, x ∈ L → x.length ≤ 500) ∧ (0 < n → ∃ b off, a = some ⟨b, off, none⟩ ∧ b < base ∧ ∀ (i : Nat) x, L[i]? = some x → w.cell? ⟨b, off + i, none⟩ = some (.string ⟨x.toArray⟩))
theorem RestB.below {base : Nat} {w w' : World} {rv L} (h : RestB base w rv L) (hb : Below base w w') : RestB base w' rv L := by
  obtain ⟨a, n, cap, h1, h2, h3, h4, h5, h6⟩ := h
  refine ⟨a, n, cap, h1, h2, h3, h4, h5, fun hn => ?_⟩
  obtain ⟨b, off, e1, e2, e3⟩ := h6 hn
  exact ⟨b, off, e1, e2, fun i x hx => (hb.cell (p := ⟨b, off + i, none⟩) e2).trans (e3 i x hx)⟩
theorem prt_took {base : Nat} {w : World} {pb : Nat} {out rv} {took : Bool} (h : Prt base w pb out rv took) (t : Bool) : Prt base (w.setCell ⟨pb, 3, none⟩ (.bool t)) pb out rv t ∧ Below base w (w.setCell ⟨pb, 3, none⟩ (.bool t)) := by
  obtain ⟨hb, a, v, hp, ha, hown, hne, hnil⟩ := h
  exact ⟨⟨hb, a, v, by rw [heap_setCell_same w pb 3 _ _ _ hp]; rfl, ha, hown.set _ _ _ hne, hne, hnil⟩, below_set (Below.refl _ _) hb _⟩
theorem prt_rest {base : Nat} {w : World} {pb : Nat} {out rv} {took : Bool} (h : Prt base w pb out rv took) (r : Value) : Prt base (w.setCell ⟨pb, 2, none⟩ r) pb out r took ∧ Below base w (w.setCell ⟨pb, 2, none⟩ r) := by
  obtain ⟨hb, a, v, hp, ha, hown, hne, hnil⟩ := h
  exact ⟨⟨hb, a, v, by rw [heap_setCell_same w pb 2 _ _ _ hp]; rfl, ha, hown.set _ _ _ hne, hne, hnil⟩, below_set (Below.refl _ _) hb _⟩
theorem prt_cells {base : Nat} {w : World} {pb : Nat} {out rv} {took : Bool} (h : Prt base w pb out rv took) : w.cell? ⟨pb, 2, none⟩ = some rv ∧ w.cell? ⟨pb, 3, none⟩ = some (.bool took) ∧ (∀ i, w.frozen? ⟨pb, i, none⟩ = false) ∧ base ≤ pb := by
  obtain ⟨hb, a, v, hp, ha, hown, hne, hnil⟩ := h
  exact ⟨by rw [cell_heap hp]; rfl, by rw [cell_heap hp]; rfl, free_heap hp, hb⟩
def NextRes (base : Nat) (w w' : World) (pb : Nat) (out : List UInt8) (L : List (List UInt8)) : Prop :=
  ∃ rv', Prt base w' pb out rv' true ∧ RestB base w' rv' L.tail ∧ Below base w w'
set_option maxRecDepth 100000 in
theorem next_any (base pb : Nat) (w : World) (out : List UInt8) (rv : Value) (took : Bool) (L : List (List UInt8)) (h : Prt base w pb out rv took) (hr : RestB base w rv L) :
    Calls Tryz.prog 61 #[.pointer (some ⟨pb, 0, none⟩)] w fun e w' => e = .returned (.string ⟨(L.headD []).toArray⟩) ∧ NextRes base w w' pb out L := by
  obtain ⟨h1, hB1⟩ := prt_took h true
  obtain ⟨c2, c3, hf, hbp⟩ := prt_cells h
  have hf2 := hf 2
  have hf3 := hf 3
  have hr1 := hr.below hB1
  obtain ⟨a, n, cap, rfl, hn, hnc, hn1, hx5, hat⟩ := hr1
  cases L with
  | nil =>
    obtain rfl : n = 0 := by simpa using hn
    have hN : NextRes base w (w.setCell ⟨pb, 3, none⟩ (.bool true)) pb out [] := ⟨_, h1, ⟨a, 0, cap, rfl, rfl, hnc, hn1, hx5, hat⟩, hB1⟩
    clear hat hx5 hr h hf hn
    go_enter Tryz.func61, Tryz.ntmps61
    go_wp2_with fail
    go_ret
    exact ⟨rfl, hN⟩
  | cons x r =>
    have hn0 : 0 < n := by simp at hn; omega
    obtain ⟨b, off, rfl, hbb, hcs⟩ := hat hn0
    have hx := hcs 0 x rfl
    rw [Nat.add_zero] at hx
    have hne : (⟨pb, 3, none⟩ : Addr) ≠ ⟨b, off, none⟩ := by intro e; cases e; omega
    rw [cs_other hne] at hx
    have hres : ∀ a', (1 < n → a' = some ⟨b, off + 1, none⟩) → NextRes base w ((w.setCell ⟨pb, 3, none⟩ (.bool true)).setCell ⟨pb, 2, none⟩ (.slice a' (n - 1) (cap - 1))) pb out (x :: r) := by
      intro a' ha'
      obtain ⟨h2, hB2⟩ := prt_rest h1 (.slice a' (n - 1) (cap - 1))
      refine ⟨_, h2, ⟨a', n - 1, cap - 1, rfl, by simp at hn ⊢; omega, by omega, by omega, fun y hy => hx5 y (List.mem_cons_of_mem _ hy), fun hp => ?_⟩, hB1.trans hB2⟩
      refine ⟨b, off + 1, ha' (by omega), hbb, fun i y hy => ?_⟩
      have := hcs (i + 1) y hy
      rw [show off + 1 + i = off + (i + 1) by omega]
      exact (hB2.cell (p := ⟨b, off + (i + 1), none⟩) hbb).trans this
    have Hres := Lib.hid hres
    have hne2 : ¬ b = pb := by omega
    clear hres hcs hat hx5 hr h hf hn hne
    have hnc' : (n : Int) ≤ cap := by omega
    have hne0 : ((n : Int) == 0) = false := by rw [beq_eq_false_iff_ne]; omega
    by_cases hcap : cap = 1
    · subst hcap
      obtain rfl : n = 1 := by omega
      go_enter Tryz.func61, Tryz.ntmps61
      go_wp2_with fail
      go_ret
      exact ⟨rfl, Hres.out _ (fun h => by omega)⟩
    · go_enter Tryz.func61, Tryz.ntmps61
      go_wp2_with fail
      go_ret
      exact ⟨rfl, Hres.out _ (fun h => rfl)⟩
/-- the printer's state: what is written, the texts that are left, whether one was taken up -/
structure PSt where
  out : List UInt8
  rest : List (List UInt8)
  took : Bool
/-- what a byte behind a percent sign writes -/
def pctS (c : UInt8) (st : PSt) : Option PSt :=
  if c = 37 then some ⟨st.out ++ [37], st.rest, st.took⟩
  else if c = 115 then some ⟨st.out ++ st.rest.headD [], st.rest.tail, true⟩
  else if c = 100 then (numL (st.rest.headD [])).map fun n => ⟨st.out ++ n, st.rest.tail, true⟩
  else none
/-- the pattern once -/
def passS : List UInt8 → PSt → Option PSt
  | [], st => some st
  | [c], st => if c = 37 ∨ c = 92 then none else some ⟨st.out ++ [c], st.rest, st.took⟩
  | c :: d :: t, st =>
    if c = 37 then (pctS d st).bind (passS t)
    else if c = 92 then (escV d).bind fun v => passS t ⟨st.out ++ [v], st.rest, st.took⟩
    else passS (d :: t) ⟨st.out ++ [c], st.rest, st.took⟩
termination_by l => l.length
/-- the pattern, as often as it takes -/
def printfS (f : List UInt8) : Nat → PSt → Option (List UInt8)
  | 0, _ => none
  | k + 1, st => (passS f st).bind fun st' => if st'.took = false ∨ st'.rest = [] then some st'.out else printfS f k st'
def printfL (f : List UInt8) (L : List (List UInt8)) : Option (List UInt8) := printfS f (L.length + 1) ⟨[], L, false⟩
def PctRes (base : Nat) (w w' : World) (pb : Nat) (e : Ending) : Option PSt → Prop
  | none => e = .returned (.bool false) ∧ Below base w w'
  | some st => e = .returned (.bool true) ∧ (∃ rv', Prt base w' pb st.out rv' st.took ∧ RestB base w' rv' st.rest) ∧ Below base w w'
theorem head_len {L : List (List UInt8)} (h : ∀ x, x ∈ L → x.length ≤ 500) : (L.headD []).length ≤ 500 := by
  cases L with
  | nil => simp
  | cons x r => exact h x (by simp)
theorem prt_lt {base : Nat} {w : World} {pb : Nat} {out rv} {took : Bool} (h : Prt base w pb out rv took) : base ≤ w.heap.size := by
  obtain ⟨hb, a, v, hp, _⟩ := h
  have := lt_heap hp; omega
theorem prt_keep {base : Nat} {w w' : World} {pb : Nat} {out rv} {took : Bool} (h : Prt base w pb out rv took) (hB : Below w.heap.size w w') : Prt base w' pb out rv took := by
  obtain ⟨hb, a, v, hp, ha, hown, hne, hnil⟩ := h
  exact ⟨hb, a, v, by rw [hB.block pb (lt_heap hp)]; exact hp, ha, hown.below hB, hne, hnil⟩
set_option maxRecDepth 100000 in
set_option maxHeartbeats 1600000 in
theorem pct_any (base pb : Nat) (w : World) (st : PSt) (rv : Value) (c : UInt8) (hl : st.out.length + 500 ≤ 100000000000) (h : Prt base w pb st.out rv st.took) (hr : RestB base w rv st.rest) (hE : ∀ w', Below base w w' → Env w') :
    Calls Tryz.prog 50 #[.pointer (some ⟨pb, 0, none⟩), .int .u8 c.toNat] w fun e w' => PctRes base w w' pb e (pctS c st) := by
  obtain ⟨out, L, took⟩ := st
  simp only at hl h hr
  have hx5 := (let ⟨_, _, _, _, _, _, _, h5, _⟩ := hr; h5)
  have hhl := head_len hx5
  by_cases e1 : c = 37
  · subst e1
    have HB := Lib.hid (pbyte_any base pb w out rv took 37 (by omega) h)
    have HR := Lib.hid (fun w' (hb : Below base w w') => hr.below hb)
    have hS := Lib.hid (show pctS 37 ⟨out, L, took⟩ = some ⟨out ++ [37], L, took⟩ from rfl)
    clear h hr hx5
    go_enter Tryz.func50, Tryz.ntmps50
    go_wp2_with fail
    refine HB.out.mono ?_
    rintro e w1 ⟨rfl, hP, hB⟩
    go_wp2_with fail
    go_ret
    rw [hS.out]
    exact ⟨rfl, ⟨_, hP, HR.out _ hB⟩, hB⟩
  by_cases e2 : c = 115
  · subst e2
    have HN := Lib.hid (next_any base pb w.drew out rv took L h hr)
    have HW := Lib.hid (fun (w' : World) (rv' : Value) => pstr_any base pb w' out rv' true (L.headD []) (by omega))
    have hS := Lib.hid (show pctS 115 ⟨out, L, took⟩ = some ⟨out ++ L.headD [], L.tail, true⟩ from rfl)
    clear h hr hx5
    go_enter Tryz.func50, Tryz.ntmps50
    go_wp2_with fail
    go_region_with (first
      | (go_at_call 61; refine HN.out.mono ?_; rintro e w1 ⟨rfl, rv1, hP1, hR1, hB1⟩; obtain ⟨y, hy⟩ : ∃ y, L.headD [] = y := ⟨_, rfl⟩; rw [hy]; have HW1 := Lib.hid (hy ▸ HW.out w1 rv1 hP1); have HY := Lib.hid hy; clear hy)
      | (go_at_call 24; refine HW1.out.mono ?_; rintro e w2 ⟨rfl, hP2, hB2⟩))
    go_wp2_with fail
    go_ret
    rw [hS.out, HY.out]
    exact ⟨rfl, ⟨_, hP2, hR1.below hB2⟩, (show Below base w w1 from ⟨hB1.os, hB1.tape, hB1.output, hB1.size, hB1.block⟩).trans hB2⟩
  by_cases e3 : c = 100
  · subst e3
    have HN := Lib.hid (next_any base pb w out rv took L h hr)
    have HW := Lib.hid (fun (w' : World) (rv' : Value) (y : List UInt8) (hy : y.length ≤ 20) => pstr_any base pb w' out rv' true y (by omega))
    have hS := Lib.hid (show pctS 100 ⟨out, L, took⟩ = (numL (L.headD [])).map fun n => ⟨out ++ n, L.tail, true⟩ from rfl)
    have hbw := prt_lt h
    have HE := Lib.hid hE
    clear h hr hx5 hE
    obtain ⟨x, hx⟩ : ∃ x, L.headD [] = x := ⟨_, rfl⟩
    rw [hx] at HN hS hhl
    clear hx
    go_enter Tryz.func50, Tryz.ntmps50
    go_wp2_with fail
    refine HN.out.mono ?_
    rintro e w1 ⟨rfl, rv1, hP1, hR1, hB1⟩
    have hE1 := HE.out w1 hB1
    have hb1 := prt_lt hP1
    go_wp2_with fail
    refine (number_any x hhl w1 hE1).mono ?_
    rintro e w2 ⟨rfl, hB2⟩
    have hB2' : Below base w1 w2 := hB2.mono hb1
    have hP2 := prt_keep hP1 hB2
    have hR2 := hR1.below hB2'
    have hB12 := hB1.trans hB2'
    cases hn : numL x with
    | none =>
      have hS2 := Lib.hid (show pctS 100 ⟨out, L, took⟩ = none by rw [hS.out, hn]; rfl)
      have HW2 := Lib.hid (HW.out w2 rv1 [] (by simp) hP2)
      clear hn hE1
      unfold numRet
      simp only [Option.getD_none, Option.isSome_none]
      go_wp2_with fail
      refine HW2.out.mono ?_
      rintro e w3 ⟨rfl, hP3, hB3⟩
      go_wp2_with fail
      go_ret
      rw [hS2.out]
      exact ⟨rfl, hB12.trans hB3⟩
    | some y =>
      have hS2 := Lib.hid (show pctS 100 ⟨out, L, took⟩ = some ⟨out ++ y, L.tail, true⟩ by rw [hS.out, hn]; rfl)
      have HW2 := Lib.hid (HW.out w2 rv1 y (numL_len hn) hP2)
      clear hn hE1
      unfold numRet
      simp only [Option.getD_some, Option.isSome_some]
      go_wp2_with fail
      refine HW2.out.mono ?_
      rintro e w3 ⟨rfl, hP3, hB3⟩
      go_wp2_with fail
      go_ret
      rw [hS2.out]
      exact ⟨rfl, ⟨_, hP3, hR2.below hB3⟩, hB12.trans hB3⟩
  · have hS := Lib.hid (show pctS c ⟨out, L, took⟩ = none by simp [pctS, e1, e2, e3])
    have n1 := ne_int (k := 37) (by omega) e1
    have n2 := ne_int (k := 115) (by omega) e2
    have n3 := ne_int (k := 100) (by omega) e3
    have m1 : ((c.toNat : Int) == 37) = false := by rw [beq_eq_false_iff_ne]; exact n1
    have m2 : ((c.toNat : Int) == 115) = false := by rw [beq_eq_false_iff_ne]; exact n2
    have m3 : ((c.toNat : Int) == 100) = false := by rw [beq_eq_false_iff_ne]; exact n3
    clear e1 e2 e3 h hr hx5 hE
    go_enter Tryz.func50, Tryz.ntmps50
    go_wp2_with fail
    go_ret
    rw [hS.out]
    exact ⟨rfl, Below.refl _ _⟩
end Go.Proofs.YtmhgehnkhhlbkaaGreatDoor
