/- SysPipes: what a round does to what is read, to what is in the pipe, and to what is left; and that it comes to an end. -/
import Derived.Test.YtckmcajnhobkpaaGreatDoorSpE
namespace Go.Proofs.YtckmcajnhobkpaaGreatDoor
open Go.RowKit
set_option linter.unusedVariables false
set_option linter.unusedSimpArgs false

/-- how the kernel stands: both may go on; the reader waits; the writer waits; the writer has ended -/
inductive Shp where
  | a | b | c | d
  deriving DecidableEq
def shS : Shp → List (Nat × Zz.ABlk)
  | .a => spA
  | .b => spB
  | .c => spC
  | .d => spD
def shW : Shp → Nat
  | .d => 0
  | _ => 1
structure Val (text rest got l : List UInt8) (s : Shp) : Prop where
  all : got ++ (l ++ rest) = text
  len : l.length ≤ 64
  b : s = .b → l = []
  c : s = .c → l.length = 64 ∧ rest ≠ []
  d : s = .d → rest = []
def gEven (rest l : List UInt8) (s : Shp) : Nat := if s = .d then l.length + 1 else rest.length + 67 + (if l.length = 64 then 1 else 0)
def gOdd (rest l : List UInt8) (s : Shp) : Nat := if s = .d then l.length else rest.length + 67
def pot (i : Nat) (rest l : List UInt8) (s : Shp) : Nat := if i % 2 = 0 then 2 * gEven rest l s else 2 * gOdd rest l s + 1
def Inv (T i : Nat) (rest l : List UInt8) (s : Shp) : Prop := T ≤ i → pot i rest l s + (i - T) ≤ 2140
theorem Val.lens {text rest got l s} (h : Val text rest got l s) : got.length + l.length + rest.length = text.length := by
  have := congrArg List.length h.all
  simp at this
  omega
theorem pot_le {text rest got l s} (h : Val text rest got l s) (ht : text.length ≤ 1000) (i : Nat) : pot i rest l s ≤ 2140 := by
  have h1 := h.lens
  have h2 := h.len
  unfold pot gEven gOdd
  split <;> split <;> (try split) <;> omega
theorem Inv.first {T : Nat} {text rest got l s} (h : Val text rest got l s) (ht : text.length ≤ 1000) (i : Nat) (hi : i ≤ T) : Inv T i rest l s := by
  intro h1
  have := pot_le h ht i
  omega
theorem Inv.lt {T i : Nat} {rest l s} (h : Inv T i rest l s) : i < T + 3000 := by
  rcases Nat.lt_or_ge i T with q | q
  · omega
  · have := h q
    omega
/-- a reader's step -/
theorem Inv.read {T i : Nat} {rest l l' : List UInt8} {s s' : Shp} {text got' : List UInt8} (h : Inv T i rest l s) (hi : i < T ∨ i % 2 = 1) (hv : Val text rest got' l' s') (ht : text.length ≤ 1000) (hg : gEven rest l' s' ≤ gOdd rest l s) : Inv T (i + 1) rest l' s' := by
  rcases Nat.lt_or_ge i T with q | q
  · exact Inv.first hv ht _ (by omega)
  · intro _
    have h1 := h q
    have ho : i % 2 = 1 := by omega
    have e1 : pot i rest l s = 2 * gOdd rest l s + 1 := by unfold pot; rw [if_neg (by omega)]
    have e2 : pot (i + 1) rest l' s' = 2 * gEven rest l' s' := by unfold pot; rw [if_pos (by omega)]
    rw [e1] at h1
    rw [e2]
    omega
theorem Inv.write {T i : Nat} {rest rest' l l' : List UInt8} {s s' : Shp} {text got' : List UInt8} (h : Inv T i rest l s) (hi : i < T ∨ i % 2 = 0) (hv : Val text rest' got' l' s') (ht : text.length ≤ 1000) (hg : gOdd rest' l' s' + 1 ≤ gEven rest l s) : Inv T (i + 1) rest' l' s' := by
  rcases Nat.lt_or_ge i T with q | q
  · exact Inv.first hv ht _ (by omega)
  · intro _
    have h1 := h q
    have ho : i % 2 = 0 := by omega
    have e1 : pot i rest l s = 2 * gEven rest l s := by unfold pot; rw [if_pos (by omega)]
    have e2 : pot (i + 1) rest' l' s' = 2 * gOdd rest' l' s' + 1 := by unfold pot; rw [if_neg (by omega)]
    rw [e1] at h1
    rw [e2]
    omega
/-- the world of a round -/
structure KS (W0 : World) (text rest got l : List UInt8) (s : Shp) (K Pb : Nat) (w : World) : Prop where
  ker : Ker W0 (shS s) l (shW s) K Pb w
  val : Val text rest got l s
theorem KS.grow {W0 text rest got l s K Pb w w'} (h : KS W0 text rest got l s K Pb w) (hB : Below w.heap.size w w') : KS W0 text rest got l s K Pb w' := ⟨h.ker.grow hB, h.val⟩
theorem p_A : rowIs (Zz.stL spA 2000) 1900 pList 32 = true := by kernel_rfl
theorem p_B : rowIs (Zz.stL spB 2000) 1900 pList 32 = true := by kernel_rfl
theorem p_C : rowIs (Zz.stL spC 2000) 1900 pList 32 = true := by kernel_rfl
theorem p_D : rowIs (Zz.stL spD 2000) 1900 pList 32 = true := by kernel_rfl
theorem KS.p {W0 text rest got l s K Pb w} (h : KS W0 text rest got l s K Pb w) : w.cell? ⟨Pb, 1, none⟩ = some (.int .i64 3) ∧ w.cell? ⟨Pb, 2, none⟩ = some (.int .i64 4) := by
  cases s with
  | a => exact Ker.p1 p_A h.ker
  | b => exact Ker.p1 p_B h.ker
  | c => exact Ker.p1 p_C h.ker
  | d => exact Ker.p1 p_D h.ker
theorem in_14 (s : Shp) : Zz.inL 1014 (shS s) = true := by cases s <;> kernel_rfl
theorem in_19 (s : Shp) : Zz.inL 1900 (shS s) = true := by cases s <;> kernel_rfl
theorem ok_s (s : Shp) : okS (shS s) (shS s) = true := by
  cases s with
  | a => exact ok_A
  | b => exact ok_B
  | c => exact ok_C
  | d => exact ok_D
theorem self_s (s : Shp) : Zz.subSt 10 (Zz.stL (shS s) 2000) (shS s) = true := by
  cases s with
  | a => exact self_A
  | b => exact self_B
  | c => exact self_C
  | d => exact self_D
section
variable {W0 : World} {text rest got l : List UInt8} {s : Shp} {K Pb T i : Nat} {w : World}
/-- what a read comes to -/
def ReadPost (W0 : World) (text rest got : List UInt8) (K Pb T i : Nat) (er : Int) (t : List UInt8) (w' : World) : Prop :=
  (er = 0 ∧ t = [] ∧ rest = [] ∧ got = text ∧ Ker W0 spD [] 0 K Pb w') ∨
  (((er = 0 ∧ t ≠ []) ∨ (er = 30 ∧ t = [])) ∧ ∃ l' s', KS W0 text rest (got ++ t) l' s' K Pb w' ∧ Inv T (i + 1) rest l' s')
theorem read_round (h : KS W0 text rest got l s K Pb w) (ht : text.length ≤ 1000) (hI : Inv T i rest l s) (hi : i < T ∨ i % 2 = 1) (n : Int) (hn : 0 < n) :
    Calls Tryz.prog 6 #[ptrK K, .int .i64 1, callV 1 3 n [] []] w fun e w' => ∃ er t, e = .returned (repV er 0 0 t) ∧ ReadPost W0 text rest got K Pb T i er t w' := by
  obtain ⟨hk, hv⟩ := h
  by_cases hl : l = []
  · subst hl
    cases s with
    | a =>
      refine (do_rw (S := spA) run_A_rw ok_A self_A ok_B (in_14 .a) (in_19 .a) (in_14 .b) (in_19 .b) hk n hn).mono ?_
      rintro e w' ⟨rfl, hK⟩
      have hv' : Val text rest (got ++ []) [] .b := ⟨by rw [List.append_nil]; exact hv.all, by simp, fun _ => rfl, fun q => (by cases q), fun q => (by cases q)⟩
      exact ⟨30, [], rfl, .inr ⟨.inr ⟨rfl, rfl⟩, [], .b, ⟨hK, hv'⟩, hI.read hi hv' ht (by simp [gEven, gOdd])⟩⟩
    | b =>
      refine (do_rw (S := spB) run_B_rw ok_B self_B ok_B (in_14 .b) (in_19 .b) (in_14 .b) (in_19 .b) hk n hn).mono ?_
      rintro e w' ⟨rfl, hK⟩
      have hv' : Val text rest (got ++ []) [] .b := ⟨by rw [List.append_nil]; exact hv.all, by simp, fun _ => rfl, fun q => (by cases q), fun q => (by cases q)⟩
      exact ⟨30, [], rfl, .inr ⟨.inr ⟨rfl, rfl⟩, [], .b, ⟨hK, hv'⟩, hI.read hi hv' ht (by simp [gEven, gOdd])⟩⟩
    | c =>
      have := (hv.c rfl).1
      simp at this
    | d =>
      refine (do_rok (S := spD) run_D_rok ok_D self_D ok_D (in_14 .d) (in_19 .d) (in_14 .d) (in_19 .d) hk n hn (.inr rfl)).mono ?_
      rintro e w' ⟨rfl, hK⟩
      have hr := hv.d rfl
      have ha := hv.all
      rw [hr] at ha
      exact ⟨0, [], by simp, .inl ⟨rfl, rfl, hr, by simpa using ha, by rw [List.drop_nil] at hK; exact hK⟩⟩
  · have hl0 : 0 < l.length := List.length_pos_iff.2 hl
    have hnn : 0 < n.toNat := by omega
    have htn : l.take n.toNat ≠ [] := fun q => by
      have h1 := congrArg List.length q
      rw [List.length_take, List.length_nil] at h1
      omega
    have hall : (got ++ l.take n.toNat) ++ (l.drop n.toNat ++ rest) = text := by
      rw [List.append_assoc, ← List.append_assoc (l.take n.toNat), List.take_append_drop]; exact hv.all
    have hlen : (l.drop n.toNat).length ≤ 64 := by rw [List.length_drop]; have := hv.len; omega
    have hlen2 : (l.drop n.toNat).length < l.length := by rw [List.length_drop]; omega
    cases s with
    | a =>
      refine (do_rok (S := spA) run_A_rok ok_A self_A ok_A (in_14 .a) (in_19 .a) (in_14 .a) (in_19 .a) hk n hn (.inl hl)).mono ?_
      rintro e w' ⟨rfl, hK⟩
      have hv' : Val text rest (got ++ l.take n.toNat) (l.drop n.toNat) .a := ⟨hall, hlen, fun q => (by cases q), fun q => (by cases q), fun q => (by cases q)⟩
      refine ⟨0, l.take n.toNat, rfl, .inr ⟨.inl ⟨rfl, htn⟩, _, .a, ⟨hK, hv'⟩, hI.read hi hv' ht ?_⟩⟩
      have := hv.len
      unfold gEven gOdd
      have hq : ¬ l.length - n.toNat = 64 := by omega
      simp [hq]
    | b => exact absurd (hv.b rfl) hl
    | c =>
      refine (do_rok (S := spC) run_C_rok ok_C self_C ok_A (in_14 .c) (in_19 .c) (in_14 .a) (in_19 .a) hk n hn (.inl hl)).mono ?_
      rintro e w' ⟨rfl, hK⟩
      have hv' : Val text rest (got ++ l.take n.toNat) (l.drop n.toNat) .a := ⟨hall, hlen, fun q => (by cases q), fun q => (by cases q), fun q => (by cases q)⟩
      refine ⟨0, l.take n.toNat, rfl, .inr ⟨.inl ⟨rfl, htn⟩, _, .a, ⟨hK, hv'⟩, hI.read hi hv' ht ?_⟩⟩
      have := hv.len
      unfold gEven gOdd
      have hq : ¬ l.length - n.toNat = 64 := by omega
      simp [hq]
    | d =>
      refine (do_rok (S := spD) run_D_rok ok_D self_D ok_D (in_14 .d) (in_19 .d) (in_14 .d) (in_19 .d) hk n hn (.inr rfl)).mono ?_
      rintro e w' ⟨rfl, hK⟩
      have hv' : Val text rest (got ++ l.take n.toNat) (l.drop n.toNat) .d := ⟨hall, hlen, fun q => (by cases q), fun q => (by cases q), fun _ => hv.d rfl⟩
      refine ⟨0, l.take n.toNat, rfl, .inr ⟨.inl ⟨rfl, htn⟩, _, .d, ⟨hK, hv'⟩, hI.read hi hv' ht ?_⟩⟩
      unfold gEven gOdd
      rw [if_pos rfl, if_pos rfl]
      omega
/-- what a write comes to -/
def WritePost (W0 : World) (text rest got : List UInt8) (K Pb T i : Nat) (er : Int) (k : Nat) (w' : World) : Prop :=
  (er = 0 ∨ er = 30) ∧ k ≤ rest.length ∧ ∃ l' s', KS W0 text (rest.drop k) got l' s' K Pb w' ∧ Inv T (i + 1) (rest.drop k) l' s'
theorem write_round (h : KS W0 text rest got l s K Pb w) (ht : text.length ≤ 1000) (hI : Inv T i rest l s) (hi : i < T ∨ i % 2 = 0) (hr : rest ≠ []) :
    Calls Tryz.prog 6 #[ptrK K, .int .i64 2, callV 2 4 0 [] rest] w fun e w' => ∃ (er : Int) (k : Nat), e = .returned (repV er k 0 []) ∧ WritePost W0 text rest got K Pb T i er k w' := by
  obtain ⟨hk, hv⟩ := h
  have hls := hv.lens
  have hr0 : 0 < rest.length := List.length_pos_iff.2 hr
  have h64 := hv.len
  by_cases hfull : l.length = 64
  · have hne : l ≠ [] := fun q => by rw [q] at hfull; simp at hfull
    have hv' : Val text (rest.drop 0) got l .c := ⟨by simpa using hv.all, hv.len, fun q => (by cases q), fun _ => ⟨hfull, by simpa using hr⟩, fun q => (by cases q)⟩
    have hg : s ≠ .d → gOdd (rest.drop 0) l .c + 1 ≤ gEven rest l s := fun hs => by
      unfold gOdd gEven
      rw [if_neg (by decide), if_neg hs, if_pos hfull]
      simp
    cases s with
    | a =>
      refine (do_ww (S := spA) run_A_ww ok_A self_A ok_C (in_14 .a) (in_19 .a) (in_14 .c) (in_19 .c) hk rest (by omega) hr hfull).mono ?_
      rintro e w' ⟨rfl, hK⟩
      exact ⟨30, 0, rfl, .inr rfl, by omega, l, .c, ⟨hK, hv'⟩, hI.write hi hv' ht (hg (by decide))⟩
    | b => exact absurd (hv.b rfl) hne
    | c =>
      refine (do_ww (S := spC) run_C_ww ok_C self_C ok_C (in_14 .c) (in_19 .c) (in_14 .c) (in_19 .c) hk rest (by omega) hr hfull).mono ?_
      rintro e w' ⟨rfl, hK⟩
      exact ⟨30, 0, rfl, .inr rfl, by omega, l, .c, ⟨hK, hv'⟩, hI.write hi hv' ht (hg (by decide))⟩
    | d => exact absurd (hv.d rfl) hr
  · obtain ⟨k, hkd⟩ : ∃ k, k = min rest.length (64 - l.length) := ⟨_, rfl⟩
    have htk : rest.take (64 - l.length) = rest.take k := by
      rw [hkd]
      rcases Nat.le_total rest.length (64 - l.length) with q | q
      · rw [Nat.min_eq_left q, List.take_of_length_le q, List.take_of_length_le (Nat.le_refl _)]
      · rw [Nat.min_eq_right q]
    have hv' : Val text (rest.drop k) got (l ++ rest.take k) .a := ⟨by rw [List.append_assoc, List.take_append_drop]; exact hv.all, by rw [List.length_append, List.length_take]; omega, fun q => (by cases q), fun q => (by cases q), fun q => (by cases q)⟩
    have hg : s ≠ .d → gOdd (rest.drop k) (l ++ rest.take k) .a + 1 ≤ gEven rest l s := fun hs => by
      unfold gOdd gEven
      rw [if_neg (by decide), if_neg hs, List.length_drop]
      split <;> omega
    cases s with
    | a =>
      refine (do_wok (S := spA) run_A_wok ok_A self_A ok_A (in_14 .a) (in_19 .a) (in_14 .a) (in_19 .a) hk rest (by omega) hfull).mono ?_
      rintro e w' ⟨rfl, hK⟩
      rw [htk] at hK
      rw [← hkd]
      exact ⟨0, k, rfl, .inl rfl, by omega, _, .a, ⟨hK, hv'⟩, hI.write hi hv' ht (hg (by decide))⟩
    | b =>
      refine (do_wok (S := spB) run_B_wok ok_B self_B ok_A (in_14 .b) (in_19 .b) (in_14 .a) (in_19 .a) hk rest (by omega) hfull).mono ?_
      rintro e w' ⟨rfl, hK⟩
      rw [htk] at hK
      rw [← hkd]
      exact ⟨0, k, rfl, .inl rfl, by omega, _, .a, ⟨hK, hv'⟩, hI.write hi hv' ht (hg (by decide))⟩
    | c => exact absurd (hv.c rfl).1 hfull
    | d => exact absurd (hv.d rfl) hr
/-- the writer ends, or has ended -/
theorem exit_round (h : KS W0 text [] got l s K Pb w) (ht : text.length ≤ 1000) (hI : Inv T i [] l s) (hi : i < T ∨ i % 2 = 0) :
    Calls Tryz.prog 6 #[ptrK K, .int .i64 2, callV 8 5 0 [] []] w fun e w' => ∃ er, e = .returned (repV er 0 0 []) ∧ KS W0 text [] got l .d K Pb w' ∧ Inv T (i + 1) [] l .d := by
  obtain ⟨hk, hv⟩ := h
  have h64 := hv.len
  have hv' : Val text [] got l .d := ⟨hv.all, hv.len, fun q => (by cases q), fun q => (by cases q), fun _ => rfl⟩
  have hg : gOdd [] l .d + 1 ≤ gEven [] l s := by
    unfold gOdd gEven
    rw [if_pos rfl]
    split
    · omega
    · simp; omega
  cases s with
  | a =>
    refine (do_ex (S := spA) run_A_ex ok_A self_A ok_D (in_14 .a) (in_19 .a) (in_14 .d) (in_19 .d) hk).mono ?_
    rintro e w' ⟨rfl, hK⟩
    exact ⟨0, rfl, ⟨hK, hv'⟩, hI.write hi hv' ht hg⟩
  | b =>
    refine (do_ex (S := spB) run_B_ex ok_B self_B ok_D (in_14 .b) (in_19 .b) (in_14 .d) (in_19 .d) hk).mono ?_
    rintro e w' ⟨rfl, hK⟩
    exact ⟨0, rfl, ⟨hK, hv'⟩, hI.write hi hv' ht hg⟩
  | c => exact absurd rfl (hv.c rfl).2
  | d =>
    refine (do_dex hk).mono ?_
    rintro e w' ⟨rfl, hK⟩
    exact ⟨23, rfl, ⟨hK, hv'⟩, hI.write hi hv' ht hg⟩
end
end Go.Proofs.YtckmcajnhobkpaaGreatDoor
