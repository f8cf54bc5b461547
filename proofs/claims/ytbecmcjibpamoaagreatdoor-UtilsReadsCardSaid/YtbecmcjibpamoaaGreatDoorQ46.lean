/- TxSp TxK TxGp TxG TxHp TxH -/
import Derived.Lib.SlicesCompact
import Derived.Test.YtbecmcjibpamoaaGreatDoorQ45
import Derived.Lib.RowBridge
import Derived.Lib.ItoaNum
import Derived.Deep.RegionLaw
import Derived.IntWalk
import Derived.Test.YtbecmcjibpamoaaGreatDoorQ43
set_option linter.unusedVariables false
set_option linter.unusedSimpArgs false
set_option linter.deprecated false
set_option linter.unnecessarySimpa false
namespace Go.Proofs.YtbecmcjibpamoaaGreatDoor
open Go.Sort
def lineLe (x y : List UInt8) : Bool := decide (x ≤ y)
theorem lineLe_total (a b : List UInt8) : lineLe a b = true ∨ lineLe b a = true := by
  simp only [lineLe, decide_eq_true_eq]; exact Std.le_total
theorem lineLe_trans {a b c : List UInt8} (h1 : lineLe a b = true) (h2 : lineLe b c = true) : lineLe a c = true := by
  simp only [lineLe, decide_eq_true_eq] at *; exact Std.le_trans h1 h2
theorem lineLe_anti {a b : List UInt8} (h1 : lineLe a b = true) (h2 : lineLe b a = true) : a = b := by
  simp only [lineLe, decide_eq_true_eq] at *; exact Std.le_antisymm h1 h2
def leB (back : Bool) (y x : List UInt8) : Bool := if back then lineLe x y else lineLe y x
theorem leB_total (back : Bool) (a b : List UInt8) : leB back a b = true ∨ leB back b a = true := by
  cases back
  · exact lineLe_total a b
  · exact lineLe_total b a
theorem leB_anti (back : Bool) {a b : List UInt8} (h1 : leB back a b = true) (h2 : leB back b a = true) : a = b := by
  cases back
  · exact lineLe_anti h1 h2
  · exact lineLe_anti h2 h1
theorem leB_refl (back : Bool) (a : List UInt8) : leB back a a = true := (leB_total back a a).elim id id
def ltB (back : Bool) (y x : List UInt8) : Prop := leB back y x = true ∧ y ≠ x
theorem compact_sorted (z : List (List UInt8)) (hz : z.Pairwise (leB false · · = true)) : (∀ y, y ∈ Lib.compact z ↔ y ∈ z) ∧ (Lib.compact z).Pairwise (ltB false) := by
  have hd : ∀ j, j < z.length → z[j]? = some (z.toArray[j]!) := fun j hj => by simp [hj]
  have hle : ∀ i j, i ≤ j → j < z.length → leB false (z.toArray[i]!) (z.toArray[j]!) = true := by
    intro i j hij hj
    rcases Nat.lt_or_eq_of_le hij with h | rfl
    · have := List.pairwise_iff_getElem.1 hz i j (by omega) hj h
      simpa [hj, show i < z.length by omega] using this
    · exact leB_refl _ _
  have key : ∀ m, m ≤ z.length → (∀ y, y ∈ Lib.compactUpTo z.toArray m ↔ ∃ j, j < m ∧ z.toArray[j]! = y) ∧ (Lib.compactUpTo z.toArray m).Pairwise (ltB false) := by
    intro m
    induction m with
    | zero => intro _; simp [Lib.compactUpTo]
    | succ m ih =>
      intro hm
      obtain ⟨i1, i2⟩ := ih (by omega)
      rw [Lib.compactUpTo_succ]
      by_cases hk : Lib.keeps z.toArray m = true
      · rw [if_pos hk]
        constructor
        · intro y
          rw [List.mem_append, i1, List.mem_singleton]
          constructor
          · rintro (⟨j, hj, e⟩ | rfl)
            · exact ⟨j, by omega, e⟩
            · exact ⟨m, by omega, rfl⟩
          · rintro ⟨j, hj, e⟩
            rcases Nat.lt_or_eq_of_le (Nat.le_of_lt_succ hj) with h | rfl
            · exact .inl ⟨j, h, e⟩
            · exact .inr e.symm
        · rw [List.pairwise_append]
          refine ⟨i2, by simp, fun a ha b hb => ?_⟩
          obtain rfl := List.mem_singleton.1 hb
          obtain ⟨j, hj, rfl⟩ := (i1 a).1 ha
          refine ⟨hle j m (by omega) (by omega), fun e => ?_⟩
          have h0 : m ≠ 0 := by omega
          have hne : z.toArray[m]! ≠ z.toArray[m - 1]! := by
            simp only [Lib.keeps, decide_eq_true_eq] at hk; exact hk.resolve_left h0
          have h1 := hle j (m - 1) (by omega) (by omega)
          rw [e] at h1
          exact hne (leB_anti false h1 (hle (m - 1) m (by omega) (by omega)))
      · rw [if_neg hk, List.append_nil]
        refine ⟨fun y => ?_, i2⟩
        rw [i1]
        constructor
        · rintro ⟨j, hj, e⟩; exact ⟨j, by omega, e⟩
        · rintro ⟨j, hj, e⟩
          rcases Nat.lt_or_eq_of_le (Nat.le_of_lt_succ hj) with h | rfl
          · exact ⟨j, h, e⟩
          · simp only [Lib.keeps, decide_eq_true_eq, not_or, Decidable.not_not] at hk
            exact ⟨j - 1, by omega, hk.2 ▸ e⟩
  obtain ⟨k1, k2⟩ := key z.length (Nat.le_refl _)
  refine ⟨fun y => ?_, k2⟩
  show y ∈ Lib.compactUpTo z.toArray z.length ↔ _
  rw [k1]
  constructor
  · rintro ⟨j, hj, rfl⟩; exact List.mem_of_getElem? (hd j hj)
  · intro hy
    obtain ⟨j, hj, e⟩ := List.getElem_of_mem hy
    exact ⟨j, hj, by simpa [hj] using e⟩
def libL (back once : Bool) (l : List (List UInt8)) : List (List UInt8) :=
  let m := l.mergeSort fun x y => decide (x ≤ y)
  let c := if once then Lib.compact m else m
  if back then c.reverse else c
end Go.Proofs.YtbecmcjibpamoaaGreatDoor
namespace Go.Proofs.YtbecmcjibpamoaaGreatDoor
open Go.RowKit
open Go.Sort (Holds putRow grow holds_ahead cell?_grow frozen?_grow heap_grow_old cell?_putRow frozen?_putRow frozen?_ahead grow_empty)
theorem SB.holdsS {w : World} {b : Nat} {L : List (List UInt8)} (h : SB w b L) : Holds encStr w b 0 L.toArray := by
  intro j hj
  have hj' : j < L.length := by simpa using hj
  rw [Nat.zero_add]
  refine ⟨?_, h.free j hj'⟩
  rw [h.cell j _ (List.getElem?_eq_getElem hj')]
  simp [encStr, hj']
theorem sb_put {w : World} {b : Nat} {L M : List (List UInt8)} (h : SB w b L) (hl : M.length = L.length) (n : Nat) (os : Array Obj) :
    SB (grow (putRow encStr (Go.Sort.ahead w n) b 0 M.toArray) os) b M ∧ ∀ base, base ≤ b → Below base w (grow (putRow encStr (Go.Sort.ahead w n) b 0 M.toArray) os) := by
  have hH := holds_ahead encStr w n b 0 L.toArray h.holdsS
  have hb := h.lt
  have hlt : b < (putRow encStr (Go.Sort.ahead w n) b 0 M.toArray).heap.size := by simpa using h.lt
  refine ⟨⟨by simp; omega, fun j x hj => ?_, fun j hj => ?_⟩, fun base hbb => ⟨rfl, rfl, rfl, by simp, fun k hk => ?_⟩⟩
  · rw [cell?_grow _ _ _ hlt]
    have hjl := (List.getElem?_eq_some_iff.1 hj).1
    have := cell?_putRow encStr (Go.Sort.ahead w n) b 0 L.toArray M.toArray hH (by simpa using hl) j (by simpa using hjl)
    rw [Nat.zero_add] at this
    rw [this]
    simp [encStr, hjl, (List.getElem?_eq_some_iff.1 hj).2]
  · rw [frozen?_grow _ _ _ hlt, frozen?_putRow, frozen?_ahead]; exact h.free j (by omega)
  · rw [heap_grow_old _ _ (by omega)]
    show (w.heap.modify b _)[k]? = w.heap[k]?
    rw [Array.getElem?_modify, if_neg (by omega)]
theorem sortS_any (b cap n : Nat) (L : List (List UInt8)) (hn : L.length = n) (w : World) (h : SB w b L) (hl : n ≤ 100000) : Calls Tryz.prog 104 #[.slice (some ⟨b, 0, none⟩) n cap] w fun e w' =>
    e = .returned (.tuple #[]) ∧ SB w' b (L.mergeSort fun x y => decide (x ≤ y)) ∧ ∀ base, base ≤ b → Below base w w' := by
  subst hn
  refine (Tryz.slices_Sort_string b 0 cap L w h.holdsS h.lt (by omega)).mono ?_
  rintro e w' ⟨rfl, k, os, rfl⟩
  exact ⟨rfl, sb_put h (List.length_mergeSort _) k os⟩
theorem compactS_any (b cap n : Nat) (L : List (List UInt8)) (hn : L.length = n) (w : World) (h : SB w b L) (hl : n ≤ 100000) (hc : n ≤ cap) : Calls Tryz.prog 132 #[.slice (some ⟨b, 0, none⟩) n cap] w fun e w' =>
    e = .returned (.slice (some ⟨b, 0, none⟩) (Lib.compact L).length cap) ∧ SB w' b (Lib.compact L) ∧ ∀ base, base ≤ b → Below base w w' := by
  subst hn
  refine (Tryz.slices_Compact_string b 0 cap L w h.holdsS (by omega) hc).mono ?_
  rintro e w' ⟨rfl, k, rfl⟩
  have hcl := Lib.compact_length_le L
  have := sb_put h (M := Lib.compact L ++ List.replicate (L.length - (Lib.compact L).length) []) (by simp; omega) k #[]
  rw [grow_empty] at this
  exact ⟨rfl, this.1.take, this.2⟩
theorem reverseS_any (b cap n : Nat) (L : List (List UInt8)) (hn : L.length = n) (w : World) (h : SB w b L) (hl : n ≤ 100000) : Calls Tryz.prog 133 #[.slice (some ⟨b, 0, none⟩) n cap] w fun e w' =>
    e = .returned (.tuple #[]) ∧ SB w' b L.reverse ∧ ∀ base, base ≤ b → Below base w w' := by
  subst hn
  refine (Tryz.slices_Reverse_string b 0 cap L w h.holdsS (by omega)).mono ?_
  rintro e w' ⟨rfl, k, rfl⟩
  have := sb_put h (M := L.reverse) (by simp) k #[]
  rw [grow_empty] at this
  exact ⟨rfl, this⟩
theorem joinL_boundK (n : Nat) : ∀ L : List (List UInt8), (∀ x, x ∈ L → x.length ≤ n) → (joinL L).length ≤ L.length * (n + 1)
  | [], _ => by simp [joinL]
  | x :: r, h => by
    have ih := joinL_boundK n r (fun y hy => h y (List.mem_cons_of_mem _ hy))
    have hx := h x (by simp)
    simp only [joinL, List.map_cons, List.flatten_cons, List.length_append, List.length_cons, List.length_nil] at ih ⊢
    rw [Nat.succ_mul]; omega
theorem done_any (b cap n : Nat) (M L : List (List UInt8)) (hn : M.length = n) (hM : ∀ x, x ∈ M → x ∈ L) (hMl : M.length ≤ L.length) (hl : L.length ≤ 901) (h5 : ∀ x, x ∈ L → x.length ≤ 901) (hc : n ≤ cap) (w : World) (h : SB w b M) :
    Calls Tryz.prog 134 #[.slice (some ⟨b, 0, none⟩) n cap] w fun e w' => e = .returned (.string ⟨(joinL M).toArray⟩) ∧ Below w.heap.size w w' := by
  subst hn
  have hx : ∀ x, x ∈ M → x.length ≤ 901 := fun x hx => h5 x (hM x hx)
  have hj := joinL_boundK 901 M hx
  have : M.length * (901 + 1) ≤ 901 * 902 := Nat.mul_le_mul (by omega) (Nat.le_refl _)
  exact joined_any _ M w (h.strs hc (by omega) (fun x h => by have := hx x h; omega)) (by omega) (fun x h => by have := hx x h; omega) (by omega)
theorem sort_len (l : List (List UInt8)) : (l.mergeSort fun x y => decide (x ≤ y)).length = l.length := List.length_mergeSort _
theorem sort_mem (l : List (List UInt8)) (x : List UInt8) (h : x ∈ (l.mergeSort fun x y => decide (x ≤ y))) : x ∈ l := (List.mergeSort_perm _ _).mem_iff.1 h
theorem compact_mem (l : List (List UInt8)) (x : List UInt8) (h : x ∈ Lib.compact (l.mergeSort fun x y => decide (x ≤ y))) : x ∈ l :=
  sort_mem l x (((compact_sorted _ (List.pairwise_mergeSort (le := fun x y => decide (x ≤ y)) (fun a b c h1 h2 => lineLe_trans h1 h2) (fun a b => by have := lineLe_total a b; simpa [lineLe] using this) l)).1 x).1 h)
set_option maxRecDepth 100000 in
theorem sortT_any (s : List UInt8) (back once : Bool) (hs : s.length ≤ 901) (w : World) (hE : Env w) : Calls Tryz.prog 95 #[.string ⟨s.toArray⟩, .bool back, .bool once] w fun e w' =>
    e = .returned (.string ⟨(joinL (libL back once (linesL s))).toArray⟩) ∧ Below w.heap.size w w' := by
  have HL := Lib.hid (lines_any s (by omega) w hE)
  have hLl := lines_len s
  have H5 := Lib.hid (fun x (h : x ∈ linesL s) => Nat.le_trans (line_len h) hs)
  obtain ⟨L, hL⟩ : ∃ L, linesL s = L := ⟨_, rfl⟩
  rw [hL] at HL hLl H5
  rw [hL]
  clear hL
  obtain ⟨n, hn⟩ : ∃ n, L.length = n := ⟨_, rfl⟩
  have HN := Lib.hid hn
  rw [hn] at hLl
  have HM := Lib.hid (sort_len L)
  have HMM := Lib.hid (sort_mem L)
  have HCM := Lib.hid (compact_mem L)
  obtain ⟨M, hM⟩ : ∃ M, (L.mergeSort fun x y => decide (x ≤ y)) = M := ⟨_, rfl⟩
  have HS := Lib.hid (fun (b cap : Nat) (w : World) (h : SB w b L) => hM ▸ sortS_any b cap n L hn w h (by omega))
  have HF := Lib.hid (show libL back once L = (if back then (if once then Lib.compact M else M).reverse else (if once then Lib.compact M else M)) by rw [← hM]; rfl)
  rw [hM] at HM HMM HCM
  have HD := Lib.hid (fun (b cap m : Nat) (D : List (List UInt8)) (h1 : D.length = m) (h2 : ∀ x, x ∈ D → x ∈ L) (h3 : D.length ≤ L.length) (h4 : m ≤ cap) (w : World) (h : SB w b D) => done_any b cap m D L h1 h2 h3 (by omega) H5.out h4 w h)
  have HCl := Lib.hid (Lib.compact_length_le M)
  obtain ⟨C, hC⟩ : ∃ C, Lib.compact M = C := ⟨_, rfl⟩
  obtain ⟨nc, hnc⟩ : ∃ nc, C.length = nc := ⟨_, rfl⟩
  have HC := Lib.hid (fun (b cap : Nat) (w : World) (h : SB w b M) (hc : n ≤ cap) => hC ▸ compactS_any b cap n M (by rw [HM.out]; exact hn) w h (by omega) hc)
  rw [hC] at HCl HF HCM
  have HNC := Lib.hid hnc
  have hncn : nc ≤ n := by rw [← hnc, ← hn, ← HM.out]; exact HCl.out
  clear hM hC hn hnc
  go_enter Tryz.func95, Tryz.ntmps95
  go_wp2_with fail
  refine HL.out.mono ?_
  rintro e w1 ⟨b, cap, rfl, hb, hSB, hcap, hB1⟩
  rw [HN.out] at hcap ⊢
  go_wp2_with fail
  refine (HS.out b cap w1 hSB).mono ?_
  rintro e w2 ⟨rfl, hSB2, hB2⟩
  have hB12 := hB1.trans (hB2 _ hb)
  cases once with
  | false =>
    cases back with
    | false =>
      have hF := HF.out
      simp only [Bool.false_eq_true, if_false] at hF
      have HF2 := Lib.hid hF
      clear hF
      go_wp2_with fail
      refine (HD.out b cap n M (by rw [HM.out, HN.out]) HMM.out (by rw [HM.out]; omega) hcap w2 hSB2).mono ?_
      rintro e w3 ⟨rfl, hB3⟩
      go_wp2_with fail
      go_ret
      rw [HF2.out]
      exact ⟨rfl, below_tr hB12 hB3⟩
    | true =>
      have hF := HF.out
      simp only [Bool.false_eq_true, if_false, if_true] at hF
      have HF2 := Lib.hid hF
      clear hF
      go_wp2_with fail
      refine (reverseS_any b cap n M (by rw [HM.out, HN.out]) w2 hSB2 (by omega)).mono ?_
      rintro e w3 ⟨rfl, hSB3, hB3⟩
      have hB13 := hB12.trans (hB3 _ hb)
      go_wp2_with fail
      refine (HD.out b cap n M.reverse (by rw [List.length_reverse, HM.out, HN.out]) (fun x h => HMM.out x (List.mem_reverse.1 h)) (by rw [List.length_reverse, HM.out]; omega) hcap w3 hSB3).mono ?_
      rintro e w4 ⟨rfl, hB4⟩
      go_wp2_with fail
      go_ret
      rw [HF2.out]
      exact ⟨rfl, below_tr hB13 hB4⟩
  | true =>
    cases back with
    | false =>
      have hF := HF.out
      simp only [Bool.false_eq_true, if_false, if_true] at hF
      have HF2 := Lib.hid hF
      clear hF
      go_wp2_with fail
      refine (HC.out b cap w2 hSB2 hcap).mono ?_
      rintro e w3 ⟨rfl, hSB3, hB3⟩
      rw [HNC.out]
      have hB13 := hB12.trans (hB3 _ hb)
      go_wp2_with fail
      refine (HD.out b cap nc C HNC.out HCM.out (by rw [HNC.out, HN.out]; omega) (by omega) w3 hSB3).mono ?_
      rintro e w4 ⟨rfl, hB4⟩
      go_wp2_with fail
      go_ret
      rw [HF2.out]
      exact ⟨rfl, below_tr hB13 hB4⟩
    | true =>
      have hF := HF.out
      simp only [if_true] at hF
      have HF2 := Lib.hid hF
      clear hF
      go_wp2_with fail
      refine (HC.out b cap w2 hSB2 hcap).mono ?_
      rintro e w3 ⟨rfl, hSB3, hB3⟩
      rw [HNC.out]
      have hB13 := hB12.trans (hB3 _ hb)
      go_wp2_with fail
      refine (reverseS_any b cap nc C HNC.out w3 hSB3 (by omega)).mono ?_
      rintro e w4 ⟨rfl, hSB4, hB4⟩
      have hB14 := hB13.trans (hB4 _ hb)
      go_wp2_with fail
      refine (HD.out b cap nc C.reverse (by rw [List.length_reverse, HNC.out]) (fun x h => HCM.out x (List.mem_reverse.1 h)) (by rw [List.length_reverse, HNC.out, HN.out]; omega) (by omega) w4 hSB4).mono ?_
      rintro e w5 ⟨rfl, hB5⟩
      go_wp2_with fail
      go_ret
      rw [HF2.out]
      exact ⟨rfl, below_tr hB14 hB5⟩
end Go.Proofs.YtbecmcjibpamoaaGreatDoor
namespace Go.Proofs.YtbecmcjibpamoaaGreatDoor
open Go.Lib
def grp : List (List UInt8) → List (Nat × List UInt8)
  | [] => []
  | x :: r => match grp r with
    | [] => [(1, x)]
    | (n, y) :: t => if y = x then (n + 1, x) :: t else (1, x) :: (n, y) :: t
theorem grp_head : ∀ (x : List UInt8) (r : List (List UInt8)), ∃ n t, grp (x :: r) = (n + 1, x) :: t ∧ (r.head? ≠ some x → n = 0 ∧ t = grp r) ∧ (r.head? = some x → ∃ m, grp r = (m, x) :: t ∧ n = m)
  | x, [] => ⟨0, [], rfl, fun _ => ⟨rfl, rfl⟩, fun h => by cases h⟩
  | x, y :: r => by
    obtain ⟨n, t, h1, _, _⟩ := grp_head y r
    by_cases hyx : y = x
    · subst hyx
      refine ⟨n + 1, t, ?_, fun h => absurd rfl h, fun _ => ⟨n + 1, h1, rfl⟩⟩
      rw [grp, h1]; simp
    · refine ⟨0, grp (y :: r), ?_, fun _ => ⟨rfl, rfl⟩, fun h => absurd (Option.some.inj h) hyx⟩
      rw [grp, h1]; simp [hyx]
theorem grp_new (x : List UInt8) (r : List (List UInt8)) (h : r.head? ≠ some x) : grp (x :: r) = (1, x) :: grp r := by
  obtain ⟨n, t, h1, h2, _⟩ := grp_head x r
  obtain ⟨rfl, rfl⟩ := h2 h
  exact h1
theorem grp_run (x : List UInt8) (r : List (List UInt8)) (h : r.head? ≠ some x) : ∀ n : Nat, grp (List.replicate (n + 1) x ++ r) = (n + 1, x) :: grp r
  | 0 => grp_new x r h
  | n + 1 => by
    have ih := grp_run x r h n
    rw [List.replicate_succ, List.cons_append]
    obtain ⟨m, t, h1, _, h3⟩ := grp_head x (List.replicate (n + 1) x ++ r)
    obtain ⟨m2, h4, h5⟩ := h3 (by rw [List.replicate_succ]; rfl)
    rw [ih] at h4
    cases h4
    rw [h1, h5]
def lineU (cnt : Bool) (p : Nat × List UInt8) : List UInt8 := if cnt = true then decDigits p.1 ++ [32] ++ p.2 else p.2
theorem dec_short : ∀ (n : Nat), n < 1000 → (decDigits n).length ≤ 3 := by
  intro n hn
  rw [decDigits]
  split
  · simp
  · rw [decDigits]
    split
    · simp
    · rw [decDigits, dif_pos (by omega)]
      simp
theorem grp_len : ∀ l : List (List UInt8), (grp l).length ≤ l.length
  | [] => by simp [grp]
  | x :: r => by
    have ih := grp_len r
    obtain ⟨n, t, h1, h2, h3⟩ := grp_head x r
    rw [h1]
    by_cases h : r.head? = some x
    · obtain ⟨m, h4, _⟩ := h3 h
      rw [h4] at ih; simp at ih ⊢; omega
    · obtain ⟨_, rfl⟩ := h2 h
      simp; exact ih
theorem grp_mem : ∀ (l : List (List UInt8)) (p : Nat × List UInt8), p ∈ grp l → p.1 ≤ l.length ∧ p.2 ∈ l
  | [], p, h => by simp [grp] at h
  | x :: r, p, h => by
    have ih := grp_mem r
    obtain ⟨n, t, h1, h2, h3⟩ := grp_head x r
    rw [h1] at h
    by_cases hh : r.head? = some x
    · obtain ⟨m, h4, rfl⟩ := h3 hh
      rw [h4] at ih
      rcases List.mem_cons.1 h with rfl | h
      · have := ih (n, x) (by simp)
        exact ⟨by simp; exact this.1, by simp⟩
      · have := ih p (List.mem_cons_of_mem _ h)
        exact ⟨by have := this.1; simp; omega, List.mem_cons_of_mem _ this.2⟩
    · obtain ⟨rfl, rfl⟩ := h2 hh
      rcases List.mem_cons.1 h with rfl | h
      · exact ⟨by simp, by simp⟩
      · have := ih p h
        exact ⟨by have := this.1; simp; omega, List.mem_cons_of_mem _ this.2⟩
end Go.Proofs.YtbecmcjibpamoaaGreatDoor
namespace Go.Proofs.YtbecmcjibpamoaaGreatDoor
open Go.RowKit
theorem step_app_s {ops : Array Oper} {o : Oper} {a : Act} {w : World} {K : Act → World → Prop} {Q : Exit → Act → World → Prop} {E : Prop}
    (hg : o.guard = none) (s x : Operand) (hop : o.op = Op.call { callee := Callee.builtin Builtin.append, args := #[s, x], argTypes := #[36, 36] })
    (base : Nat) (v : Value) (L : List (List UInt8)) (hs : a.eval s = v) (hown : OwnS w base v L) (b : List UInt8) (g : Nat) (hx : a.eval x = .slice (some ⟨g, 0, none⟩) 1 1) (hc : w.cell? ⟨g, 0, none⟩ = some (.string ⟨b.toArray⟩))
    (hlen : L.length + 1 ≤ 1000000000000) (hbase : base ≤ w.heap.size)
    (hK : ∀ v' w', OwnS w' base v' (L ++ [b]) → w.grownBy w' v.ownBlock → K (a.put o.dst v') w') :
    if Region.wanted o (yielded ops a.tmps) = true then Oper.wp Tryz.prog o a w K Q else E := by
  have hw : Region.wanted o (yielded ops a.tmps) = true := by simp [Region.wanted, hg]
  rw [if_pos hw]
  obtain ⟨i0, hi, hz0, hz1, hz2⟩ := info_parts info_str
  obtain ⟨v', w', hrun, h1, h2, _⟩ := run_append_own (P := Tryz.prog) (w := w) base 36 o.type 9 i0 (.string ByteArray.empty) 1 16 (by kernel_rfl) hi hz0 hz1 hz2 rfl (by omega) v L.length _ hown ⟨g, 0, none⟩ 1 1 [.string ⟨b.toArray⟩] rfl
    (by intro j u hj; match j, hj with | 0, hj => simp at hj; subst hj; simpa [Addr.add] using hc) (by intro u hu; simp at hu; subst hu; rfl) (by simp only [maxLen]; omega) (by omega) hbase
  unfold Oper.wp
  simp [execOp, hop, resolve, invoke, builtin, hs, hx, hrun, Result.andThen]
  exact hK v' w' (by simpa [OwnS] using h1) h2
def uniqL (s : List UInt8) (cnt : Bool) : List UInt8 := joinL ((grp (linesL s)).map (lineU cnt))
theorem lineU_len (cnt : Bool) (p : Nat × List UInt8) (h1 : p.1 < 1000) (h2 : p.2.length ≤ 900) : (lineU cnt p).length ≤ 904 := by
  have := dec_short p.1 h1
  unfold lineU; split
  · simp; omega
  · omega
theorem joinL_bound (n : Nat) : ∀ L : List (List UInt8), (∀ x, x ∈ L → x.length ≤ n) → (joinL L).length ≤ L.length * (n + 1)
  | [], _ => by simp [joinL]
  | x :: r, h => by
    have ih := joinL_bound n r (fun y hy => h y (List.mem_cons_of_mem _ hy))
    have hx := h x (by simp)
    simp only [joinL, List.map_cons, List.flatten_cons, List.length_append, List.length_cons, List.length_nil] at ih ⊢
    rw [Nat.succ_mul]; omega
def sliceN : Value → Nat | .slice _ m _ => m | _ => 0
theorem run_drop {L : List (List UInt8)} {k j : Nat} {x : List UInt8} (h : (L.drop k).take j = List.replicate j x) (hj : 1 ≤ j) (hne : (L.drop (k + j)).head? ≠ some x) : grp (L.drop k) = (j, x) :: grp (L.drop (k + j)) := by
  have e : L.drop k = List.replicate j x ++ L.drop (k + j) := by
    rw [← h, ← List.drop_drop]; exact (List.take_append_drop j _).symm
  obtain ⟨i, rfl⟩ : ∃ i, j = i + 1 := ⟨j - 1, by omega⟩
  rw [e]
  exact grp_run x _ hne i
set_option maxRecDepth 100000 in
set_option maxHeartbeats 3200000 in
theorem uniq_any (s : List UInt8) (cnt : Bool) (hs : s.length ≤ 900) (w : World) (hE : Env w) : Calls Tryz.prog 96 #[.string ⟨s.toArray⟩, .bool cnt] w fun e w' => e = .returned (.string ⟨(uniqL s cnt).toArray⟩) ∧ Below w.heap.size w w' := by
  have HL := Lib.hid (lines_any s (by omega) w hE)
  have HLl := Lib.hid (lines_len s)
  have HL5 := Lib.hid (fun x (h : x ∈ linesL s) => line_len h)
  have HU := Lib.hid (show uniqL s cnt = joinL ((grp (linesL s)).map (lineU cnt)) from rfl)
  obtain ⟨L, hL⟩ : ∃ L, linesL s = L := ⟨_, rfl⟩
  rw [hL] at HL HLl HL5 HU
  have HG5 := Lib.hid (fun p hp => grp_mem L p hp)
  have HGl := Lib.hid (grp_len L)
  obtain ⟨GG, hGG⟩ : ∃ GG, grp L = GG := ⟨_, rfl⟩
  have HGG := Lib.hid hGG
  rw [hGG] at HU HG5 HGl
  clear hL hGG
  go_enter Tryz.func96, Tryz.ntmps96
  go_wp2_with fail
  refine HL.out.mono ?_
  rintro e w1 ⟨b, cap, rfl, hb, hSB, hcap, hB1⟩
  obtain ⟨n, hn⟩ : ∃ n, L.length = n := ⟨_, rfl⟩
  have HN := Lib.hid hn
  rw [hn] at hcap ⊢
  have hn5 : n ≤ 900 := by have := HLl.out; omega
  have HSB := Lib.hid hSB
  have HB1 := Lib.hid hB1
  have hs1 := hB1.size
  clear hn hSB hB1 HL
  go_wp2_with fail
  go_loopw [5, 6] (fun v l W => ∃ (k m c : Nat) (a : Option Addr) (G : List (Nat × List UInt8)), k + m = n ∧ m ≤ c ∧ l = .slice a m c ∧ (0 < m → a = some ⟨b, k, none⟩) ∧ OwnS W w1.heap.size v (G.map (lineU cnt)) ∧ G.length ≤ k ∧ Hid (GG = G ++ grp (L.drop k)) ∧ Below w1.heap.size w1 W) (fun _ l _ => sliceN l)
  case atStart => exact ⟨0, n, cap, _, [], by omega, hcap, rfl, fun _ => rfl, OwnS.nil _ _, by simp, Lib.hid (by rw [List.drop_zero]; exact HGG.out.symm), Below.refl _ _⟩
  case round =>
    obtain ⟨k, m, c, a, G, hkm, hmc, rfl, ha, hO, hGk, HS, hB⟩ := hrel
    have hsz := hB.size
    by_cases hm0 : 0 < m
    · obtain rfl := ha hm0
      obtain ⟨x, hx⟩ : ∃ x, L[k]? = some x := ⟨L[k]'(by rw [HN.out]; omega), List.getElem?_eq_getElem _⟩
      have hcx := keep_cell (HSB.out.cell k x hx) hB
      have hxl := HL5.out x (List.mem_of_getElem? hx)
      have HX := Lib.hid hx
      clear hx ha
      obtain ⟨wo, hwo⟩ : ∃ wo : World, wo = wr := ⟨_, rfl⟩
      subst hwo
      go_wp2_with fail
      go_loopw [7] (fun i W => ∃ j : Nat, 1 ≤ j ∧ j ≤ m ∧ i = .int .i64 j ∧ Hid ((L.drop k).take j = List.replicate j x) ∧ Below wo.heap.size wo W) (fun i _ => m - (intOf i).toNat)
      case atStart => exact ⟨1, by omega, by omega, rfl, Lib.hid (by
          have hd : L.drop k = x :: L.drop (k + 1) := by
            obtain ⟨h1, h2⟩ := List.getElem?_eq_some_iff.1 HX.out
            rw [← h2]; exact List.drop_eq_getElem_cons h1
          rw [hd]; rfl), Below.refl _ _⟩
      case round =>
        obtain ⟨j, hj1, hjm, rfl, HJ, hBj⟩ := hrel
        have hcx2 := keep_cell hcx hBj
        have hj0 : (0 : Int) ≤ j := by omega
        have hm0' : (0 : Int) < m := by omega
        by_cases hend : j < m
        · obtain ⟨y, hy⟩ : ∃ y, L[k + j]? = some y := ⟨L[k + j]'(by rw [HN.out]; omega), List.getElem?_eq_getElem _⟩
          have hcy := keep_cell (keep_cell (HSB.out.cell (k + j) y hy) hB) hBj
          have hjm' : (j : Int) < m := by omega
          by_cases hyx : y = x
          · subst hyx
            have HJ2 := Lib.hid (show (L.drop k).take (j + 1) = List.replicate (j + 1) y by
              rw [List.take_add_one, HJ.out, List.getElem?_drop, hy, List.replicate_succ']; rfl)
            have heq : (y == y) = true := by simp
            clear hy
            go_wp2_with fail
            go_quiet (fail)
            go_wp2_with fail
            go_round
            case rel => exact ⟨j + 1, by omega, by omega, by go_num, HJ2, below_drewN hBj _⟩
            case measure => simp [intOf]; omega
          · have HT := Lib.hid (show GG = (G ++ [(j, x)]) ++ grp (L.drop (k + j)) by
              rw [HS.out, run_drop HJ.out hj1 (by rw [List.head?_drop, hy]; simpa using hyx), List.append_assoc]; rfl)
            have heq : (y == x) = false := by simp [hyx]
            clear hy hyx
            go_wp2_with fail
            go_quiet (fail)
            have hBd := below_drewN hBj nq
            obtain ⟨wd, hwd⟩ : ∃ wd, wd = wr.drewN nq := ⟨_, rfl⟩
            rw [← hwd] at hBd ⊢
            clear hwd
            have hBW := below_tr HB1.out hB
            have hBW2 := below_tr hBW hBd
            have hE2 := hE.below hBW2
            have hO2 := hO.below hBd
            have hBd1 := hB.trans (hBd.mono hsz)
            have hsz2 := hBd1.size
            have hcx3 := keep_cell hcx hBd
            clear hcx2
            have hjc : (j : Int) ≤ c := by omega
            cases cnt with
            | false =>
              have HLN := Lib.hid (show lineU false (j, x) = x from rfl)
              go_wp2_with fail
              have hcellW : ((wd.alloc (.cells #[.string ⟨x.toArray⟩] 9)).drew).cell? ⟨wd.heap.size, 0, none⟩ = some (.string ⟨x.toArray⟩) := by
                show (wd.alloc _).cell? _ = _
                rw [World.cell?_alloc_new]; rfl
              have hlenW : (G.map (lineU false)).length + 1 ≤ 1000000000000 := by simp; omega
              have hbaseW : w1.heap.size ≤ ((wd.alloc (.cells #[.string ⟨x.toArray⟩] 9)).drew).heap.size := by simp; omega
              have hownW := (hO2.alloc (.cells #[.string ⟨x.toArray⟩] 9)).drew
              have hBW5 : Below w1.heap.size w1 ((wd.alloc (.cells #[.string ⟨x.toArray⟩] 9)).drew) := (hBd1.alloc (by omega) _).drew
              have HMAP := Lib.hid (show (G ++ [(j, x)]).map (lineU false) = G.map (lineU false) ++ [x] by rw [List.map_append, ← HLN.out]; rfl)
              by_cases hcj : c = j
              · try (exfalso; omega)
                all_goals
                  have hmj : m = j := by omega
                  subst hcj
                  have hmc0 : m - c = 0 := by omega
                  go_region_law (refine step_app_s rfl _ _ rfl w1.heap.size _ _ rfl hownW x wd.heap.size rfl hcellW hlenW hbaseW ?_; intro v1 w5 hown1 hg1)
                  all_goals
                    have hBZ := below_ownS hBW5 hownW hg1 hbaseW
                    clear hBW5 hownW hcellW
                    go_simp
                    go_wp2_with fail
                    go_round
                    case rel => exact ⟨k + c, 0, 0, _, G ++ [(c, x)], by omega, by omega, rfl, (fun h => by omega), HMAP.out ▸ hown1, by simp; omega, HT, hBZ⟩
                    case measure => simp only [sliceN]; omega
              · have hcj2 : j < c := by omega
                have hcj3 : ¬ j = c := by omega
                have hcj4 : ¬ c - j = 0 := by omega
                have hcj5 : 0 < c - j := by omega
                go_region_law (refine step_app_s rfl _ _ rfl w1.heap.size _ _ rfl hownW x wd.heap.size rfl hcellW hlenW hbaseW ?_; intro v1 w5 hown1 hg1)
                all_goals
                  have hBZ := below_ownS hBW5 hownW hg1 hbaseW
                  clear hBW5 hownW hcellW
                  go_simp
                  go_wp2_with fail
                  go_round
                  case rel => exact ⟨k + j, m - j, c - j, _, G ++ [(j, x)], by omega, by omega, rfl, (fun h => rfl), HMAP.out ▸ hown1, by simp; omega, HT, hBZ⟩
                  case measure => simp only [sliceN]; omega
            | true =>
              have HLN0 := Lib.hid (show lineU true (j, x) = Lib.decDigits j ++ [32] ++ x from rfl)
              have hit : Lib.itoa (j : Int) = Lib.decDigits j := by rw [Lib.itoa, if_neg (by omega)]; rfl
              have hcon := Tryz.strconv_Itoa (j : Int) (by omega) (by omega) wd hE2.pow10
              rw [hit] at hcon
              have hdl := dec_short j (by omega)
              obtain ⟨D, hD⟩ : ∃ D, Lib.decDigits j = D := ⟨_, rfl⟩
              rw [hD] at hcon HLN0 hdl
              have HC := Lib.hid hcon
              clear hit hcon hD
              go_wp2_with fail
              refine HC.out.mono ?_
              rintro e w6 ⟨rfl, kk, os, rfl⟩
              have hB6 := Lib.below_grow wd.heap.size wd (Nat.le_refl _) kk os
              generalize Sort.grow (wd.drewN kk) os = w6 at *
              have hO6 := hO2.below hB6
              have hB16 := hBd1.trans (hB6.mono hsz2)
              have hsz6 := hB16.size
              obtain ⟨line, hline⟩ : ∃ line, D ++ [32] ++ x = line := ⟨_, rfl⟩
              have HLN := Lib.hid (hline ▸ HLN0.out)
              have HLINE := Lib.hid hline
              clear hline HC
              go_wp2_with fail
              rw [show D ++ 32 :: x = line by rw [← HLINE.out]; simp]
              have hcellW : ((w6.alloc (.cells #[.string ⟨line.toArray⟩] 9)).drew).cell? ⟨w6.heap.size, 0, none⟩ = some (.string ⟨line.toArray⟩) := by
                show (w6.alloc _).cell? _ = _
                rw [World.cell?_alloc_new]; rfl
              have hlenW : (G.map (lineU true)).length + 1 ≤ 1000000000000 := by simp; omega
              have hbaseW : w1.heap.size ≤ ((w6.alloc (.cells #[.string ⟨line.toArray⟩] 9)).drew).heap.size := by simp; omega
              have hownW := (hO6.alloc (.cells #[.string ⟨line.toArray⟩] 9)).drew
              have hBW5 : Below w1.heap.size w1 ((w6.alloc (.cells #[.string ⟨line.toArray⟩] 9)).drew) := (hB16.alloc (by omega) _).drew
              have HMAP := Lib.hid (show (G ++ [(j, x)]).map (lineU true) = G.map (lineU true) ++ [line] by rw [List.map_append, ← HLN.out]; rfl)
              by_cases hcj : c = j
              · try (exfalso; omega)
                all_goals
                  have hmj : m = j := by omega
                  subst hcj
                  have hmc0 : m - c = 0 := by omega
                  go_region_law (refine step_app_s rfl _ _ rfl w1.heap.size _ _ rfl hownW line w6.heap.size rfl hcellW hlenW hbaseW ?_; intro v1 w5 hown1 hg1)
                  all_goals
                    have hBZ := below_ownS hBW5 hownW hg1 hbaseW
                    clear hBW5 hownW hcellW
                    go_simp
                    go_wp2_with fail
                    go_round
                    case rel => exact ⟨k + c, 0, 0, _, G ++ [(c, x)], by omega, by omega, rfl, (fun h => by omega), HMAP.out ▸ hown1, by simp; omega, HT, hBZ⟩
                    case measure => simp only [sliceN]; omega
              · have hcj2 : j < c := by omega
                have hcj3 : ¬ j = c := by omega
                have hcj4 : ¬ c - j = 0 := by omega
                have hcj5 : 0 < c - j := by omega
                go_region_law (refine step_app_s rfl _ _ rfl w1.heap.size _ _ rfl hownW line w6.heap.size rfl hcellW hlenW hbaseW ?_; intro v1 w5 hown1 hg1)
                all_goals
                  have hBZ := below_ownS hBW5 hownW hg1 hbaseW
                  clear hBW5 hownW hcellW
                  go_simp
                  go_wp2_with fail
                  go_round
                  case rel => exact ⟨k + j, m - j, c - j, _, G ++ [(j, x)], by omega, by omega, rfl, (fun h => rfl), HMAP.out ▸ hown1, by simp; omega, HT, hBZ⟩
                  case measure => simp only [sliceN]; omega
        · have hjm2 : j = m := by omega
          have HT := Lib.hid (show GG = (G ++ [(j, x)]) ++ grp (L.drop (k + j)) by
              rw [HS.out, run_drop HJ.out hj1 (by rw [List.head?_drop, List.getElem?_eq_none (by rw [HN.out]; omega)]; simp), List.append_assoc]; rfl)
          have hnjm : ¬ (j : Int) < m := by omega
          have hdjm : decide ((j : Int) < m) = false := by rw [decide_eq_false_iff_not]; omega
          clear hjm2
          go_wp2_with fail
          go_quiet (fail)
          have hBd := below_drewN hBj nq
          obtain ⟨wd, hwd⟩ : ∃ wd, wd = wr.drewN nq := ⟨_, rfl⟩
          rw [← hwd] at hBd ⊢
          clear hwd
          have hBW := below_tr HB1.out hB
          have hBW2 := below_tr hBW hBd
          have hE2 := hE.below hBW2
          have hO2 := hO.below hBd
          have hBd1 := hB.trans (hBd.mono hsz)
          have hsz2 := hBd1.size
          have hcx3 := keep_cell hcx hBd
          clear hcx2
          have hjc : (j : Int) ≤ c := by omega
          cases cnt with
          | false =>
            have HLN := Lib.hid (show lineU false (j, x) = x from rfl)
            go_wp2_with fail
            have hcellW : ((wd.alloc (.cells #[.string ⟨x.toArray⟩] 9)).drew).cell? ⟨wd.heap.size, 0, none⟩ = some (.string ⟨x.toArray⟩) := by
              show (wd.alloc _).cell? _ = _
              rw [World.cell?_alloc_new]; rfl
            have hlenW : (G.map (lineU false)).length + 1 ≤ 1000000000000 := by simp; omega
            have hbaseW : w1.heap.size ≤ ((wd.alloc (.cells #[.string ⟨x.toArray⟩] 9)).drew).heap.size := by simp; omega
            have hownW := (hO2.alloc (.cells #[.string ⟨x.toArray⟩] 9)).drew
            have hBW5 : Below w1.heap.size w1 ((wd.alloc (.cells #[.string ⟨x.toArray⟩] 9)).drew) := (hBd1.alloc (by omega) _).drew
            have HMAP := Lib.hid (show (G ++ [(j, x)]).map (lineU false) = G.map (lineU false) ++ [x] by rw [List.map_append, ← HLN.out]; rfl)
            by_cases hcj : c = j
            · try (exfalso; omega)
              all_goals
                have hmj : m = j := by omega
                subst hcj
                have hmc0 : m - c = 0 := by omega
                go_region_law (refine step_app_s rfl _ _ rfl w1.heap.size _ _ rfl hownW x wd.heap.size rfl hcellW hlenW hbaseW ?_; intro v1 w5 hown1 hg1)
                all_goals
                  have hBZ := below_ownS hBW5 hownW hg1 hbaseW
                  clear hBW5 hownW hcellW
                  go_simp
                  go_wp2_with fail
                  go_round
                  case rel => exact ⟨k + c, 0, 0, _, G ++ [(c, x)], by omega, by omega, rfl, (fun h => by omega), HMAP.out ▸ hown1, by simp; omega, HT, hBZ⟩
                  case measure => simp only [sliceN]; omega
            · have hcj2 : j < c := by omega
              have hcj3 : ¬ j = c := by omega
              have hcj4 : ¬ c - j = 0 := by omega
              have hcj5 : 0 < c - j := by omega
              go_region_law (refine step_app_s rfl _ _ rfl w1.heap.size _ _ rfl hownW x wd.heap.size rfl hcellW hlenW hbaseW ?_; intro v1 w5 hown1 hg1)
              all_goals
                have hBZ := below_ownS hBW5 hownW hg1 hbaseW
                clear hBW5 hownW hcellW
                go_simp
                go_wp2_with fail
                go_round
                case rel => exact ⟨k + j, m - j, c - j, _, G ++ [(j, x)], by omega, by omega, rfl, (fun h => rfl), HMAP.out ▸ hown1, by simp; omega, HT, hBZ⟩
                case measure => simp only [sliceN]; omega
          | true =>
            have HLN0 := Lib.hid (show lineU true (j, x) = Lib.decDigits j ++ [32] ++ x from rfl)
            have hit : Lib.itoa (j : Int) = Lib.decDigits j := by rw [Lib.itoa, if_neg (by omega)]; rfl
            have hcon := Tryz.strconv_Itoa (j : Int) (by omega) (by omega) wd hE2.pow10
            rw [hit] at hcon
            have hdl := dec_short j (by omega)
            obtain ⟨D, hD⟩ : ∃ D, Lib.decDigits j = D := ⟨_, rfl⟩
            rw [hD] at hcon HLN0 hdl
            have HC := Lib.hid hcon
            clear hit hcon hD
            go_wp2_with fail
            refine HC.out.mono ?_
            rintro e w6 ⟨rfl, kk, os, rfl⟩
            have hB6 := Lib.below_grow wd.heap.size wd (Nat.le_refl _) kk os
            generalize Sort.grow (wd.drewN kk) os = w6 at *
            have hO6 := hO2.below hB6
            have hB16 := hBd1.trans (hB6.mono hsz2)
            have hsz6 := hB16.size
            obtain ⟨line, hline⟩ : ∃ line, D ++ [32] ++ x = line := ⟨_, rfl⟩
            have HLN := Lib.hid (hline ▸ HLN0.out)
            have HLINE := Lib.hid hline
            clear hline HC
            go_wp2_with fail
            rw [show D ++ 32 :: x = line by rw [← HLINE.out]; simp]
            have hcellW : ((w6.alloc (.cells #[.string ⟨line.toArray⟩] 9)).drew).cell? ⟨w6.heap.size, 0, none⟩ = some (.string ⟨line.toArray⟩) := by
              show (w6.alloc _).cell? _ = _
              rw [World.cell?_alloc_new]; rfl
            have hlenW : (G.map (lineU true)).length + 1 ≤ 1000000000000 := by simp; omega
            have hbaseW : w1.heap.size ≤ ((w6.alloc (.cells #[.string ⟨line.toArray⟩] 9)).drew).heap.size := by simp; omega
            have hownW := (hO6.alloc (.cells #[.string ⟨line.toArray⟩] 9)).drew
            have hBW5 : Below w1.heap.size w1 ((w6.alloc (.cells #[.string ⟨line.toArray⟩] 9)).drew) := (hB16.alloc (by omega) _).drew
            have HMAP := Lib.hid (show (G ++ [(j, x)]).map (lineU true) = G.map (lineU true) ++ [line] by rw [List.map_append, ← HLN.out]; rfl)
            by_cases hcj : c = j
            · try (exfalso; omega)
              all_goals
                have hmj : m = j := by omega
                subst hcj
                have hmc0 : m - c = 0 := by omega
                go_region_law (refine step_app_s rfl _ _ rfl w1.heap.size _ _ rfl hownW line w6.heap.size rfl hcellW hlenW hbaseW ?_; intro v1 w5 hown1 hg1)
                all_goals
                  have hBZ := below_ownS hBW5 hownW hg1 hbaseW
                  clear hBW5 hownW hcellW
                  go_simp
                  go_wp2_with fail
                  go_round
                  case rel => exact ⟨k + c, 0, 0, _, G ++ [(c, x)], by omega, by omega, rfl, (fun h => by omega), HMAP.out ▸ hown1, by simp; omega, HT, hBZ⟩
                  case measure => simp only [sliceN]; omega
            · have hcj2 : j < c := by omega
              have hcj3 : ¬ j = c := by omega
              have hcj4 : ¬ c - j = 0 := by omega
              have hcj5 : 0 < c - j := by omega
              go_region_law (refine step_app_s rfl _ _ rfl w1.heap.size _ _ rfl hownW line w6.heap.size rfl hcellW hlenW hbaseW ?_; intro v1 w5 hown1 hg1)
              all_goals
                have hBZ := below_ownS hBW5 hownW hg1 hbaseW
                clear hBW5 hownW hcellW
                go_simp
                go_wp2_with fail
                go_round
                case rel => exact ⟨k + j, m - j, c - j, _, G ++ [(j, x)], by omega, by omega, rfl, (fun h => rfl), HMAP.out ▸ hown1, by simp; omega, HT, hBZ⟩
                case measure => simp only [sliceN]; omega
    · obtain rfl : m = 0 := by omega
      have hGG2 : GG = G := by rw [HS.out, show L.drop k = [] from List.drop_eq_nil_of_le (by rw [HN.out]; omega)]; simp [grp]
      have HU2 := Lib.hid (show uniqL s cnt = joinL (G.map (lineU cnt)) by rw [HU.out, hGG2])
      have hl904 : ∀ y, y ∈ G.map (lineU cnt) → y.length ≤ 904 := by
        intro y hy
        obtain ⟨p, hp, rfl⟩ := List.mem_map.1 hy
        obtain ⟨h1, h2⟩ := HG5.out p (hGG2 ▸ hp)
        exact lineU_len cnt p (by have := HLl.out; omega) (by have := HL5.out _ h2; omega)
      have hGl : (G.map (lineU cnt)).length ≤ 900 := by simp; omega
      have hjl := joinL_bound 904 _ hl904
      have HJ := Lib.hid (joined_any u5 (G.map (lineU cnt)) wr (hO.strs (fun x hx => by have := hl904 x hx; unfold maxLen; omega)) (by omega) (fun x hx => by have := hl904 x hx; omega) (by omega))
      obtain ⟨a5, c5, hv5⟩ := hO.len
      obtain ⟨n5, hn5'⟩ : ∃ n5, (G.map (lineU cnt)).length = n5 := ⟨_, rfl⟩
      rw [hn5'] at hv5
      rw [hv5] at HJ ⊢
      have hBW := below_tr HB1.out hB
      clear hGG2 hl904 hGl hjl hO hv5 hn5' ha
      go_wp2_with fail
      refine HJ.out.mono ?_
      rintro e w9 ⟨rfl, hB9⟩
      go_wp2_with fail
      go_ret
      rw [HU2.out]
      exact ⟨rfl, below_tr hBW hB9⟩
end Go.Proofs.YtbecmcjibpamoaaGreatDoor
namespace Go.Proofs.YtbecmcjibpamoaaGreatDoor
open Go.Lib
def headL (l : List UInt8) (n : Nat) : List UInt8 := ((cutL [10] l).take n).flatten
def cutA (l : List UInt8) : List (List UInt8) := if (cutL [10] l).getLast? = some [] then (cutL [10] l).dropLast else cutL [10] l
def tailL (l : List UInt8) (n : Nat) : List UInt8 := ((cutA l).drop ((cutA l).length - n)).flatten
theorem cut_len (f : List UInt8) : ∀ l, (cutL f l).length = (cutL [] l).length
  | [] => rfl
  | c :: t => by
    have ih := cut_len f t
    rw [cutL, cutL]
    split
    · simp [ih]
    · cases h1 : cutL f t with
      | nil => exact absurd h1 (cutL_ne _ _)
      | cons x r =>
        cases h2 : cutL [] t with
        | nil => exact absurd h2 (cutL_ne _ _)
        | cons y q => rw [h1, h2] at ih; simpa [onto] using ih
theorem cutA_flat (l : List UInt8) : (cutA l).flatten = l := by
  have hf := cut_flat l
  unfold cutA
  split
  · rename_i h
    obtain ⟨r, hr⟩ : ∃ r, cutL [10] l = r ++ [[]] := by
      refine ⟨(cutL [10] l).dropLast, ?_⟩
      have hne := cutL_ne [10] l
      have := List.dropLast_concat_getLast hne
      rw [List.getLast?_eq_some_getLast hne] at h
      rw [Option.some.inj h] at this; exact this.symm
    rw [hr] at hf ⊢
    simpa using hf
  · exact hf
end Go.Proofs.YtbecmcjibpamoaaGreatDoor
namespace Go.Proofs.YtbecmcjibpamoaaGreatDoor
open Go.RowKit
theorem splitafter_any (s : List UInt8) (hs : s.length ≤ 100000) (w : World) (hE : Env w) : Calls Tryz.prog 130 #[.string ⟨s.toArray⟩, .string ⟨#[10]⟩] w fun e w' =>
    e = .returned (.slice (some ⟨w.heap.size, 0, none⟩) (cutL [10] s).length (cutL [10] s).length) ∧ SB w' w.heap.size (cutL [10] s) ∧ Below w.heap.size w w' := by
  obtain ⟨m, hm⟩ := hE.maxlen
  have hd : (ByteArray.mk s.toArray).data.toList = s := by simp
  have hd2 : (ByteArray.mk #[10]).data.toList = [10] := rfl
  have hc : Lib.countB ⟨s.toArray⟩ ⟨#[10]⟩ = s.count 10 := by
    show Lib.count _ _ = _
    rw [hd, hd2, Lib.count_one]
  have hcut := splitB_cut 1 (by decide) s
  have hall := Lib.splitB_all ⟨#[10]⟩ (by decide) 1 _ ⟨s.toArray⟩ rfl
  rw [hc] at hall
  have hlen : (cutL [10] s).length = s.count 10 + 1 := by
    have := congrArg List.length hcut
    rw [List.length_map, hall] at this
    exact this.symm
  have hcl : s.count 10 ≤ s.length := List.count_le_length
  have h := Tryz.strings_genSplit ⟨s.toArray⟩ ⟨#[10]⟩ 1 (-1) (s.count 10 + 1) m w (by rw [str_size]; omega) hm (by decide) (by decide) (by decide) (by decide) (by
    rw [if_pos (by decide), hc, str_size]; omega)
  rw [Nat.add_sub_cancel, hall, ← hlen] at h
  have hcells : Lib.cellsOf (Lib.splitB ⟨#[10]⟩ 1 (s.count 10) ⟨s.toArray⟩) (cutL [10] s).length = ((Lib.splitB ⟨#[10]⟩ 1 (s.count 10) ⟨s.toArray⟩).map Value.string).toArray := by
    rw [hlen, ← hall]; exact Lib.cellsOf_full _
  rw [hcells] at h
  have hsb : SB (w.alloc (.cells ((Lib.splitB ⟨#[10]⟩ 1 (s.count 10) ⟨s.toArray⟩).map Value.string).toArray 9)) w.heap.size (cutL [10] s) := by
    refine sb_new w _ _ ?_ _
    show ((Lib.splitB ⟨#[10]⟩ 1 (s.count 10) ⟨s.toArray⟩).map Value.string) = _
    rw [show cutL [10] s = cutL (List.replicate 1 10) s from rfl, ← hcut, List.map_map]
    refine List.map_congr_left (fun x _ => ?_)
    show Value.string x = Value.string ⟨x.data.toList.toArray⟩
    rw [Array.toArray_toList]
  have H := Lib.hid h
  have HSB := Lib.hid hsb
  clear hcut hall hlen hc hcells h hsb hcl hm
  generalize (Lib.splitB ⟨#[10]⟩ 1 (s.count 10) ⟨s.toArray⟩) = C at *
  generalize cutL [10] s = P at *
  go_enter Tryz.func130, Tryz.ntmps130
  go_wp2_with fail
  refine H.out.mono ?_
  rintro e w1 ⟨rfl, rfl⟩
  go_wp2_with fail
  go_ret
  exact ⟨rfl, HSB.out, below_alloc w _⟩
theorem cut_total (s x : List UInt8) (h : x ∈ cutL [10] s) : x.length ≤ s.length := by
  have := mem_flat_len _ _ h; rwa [cut_flat] at this
theorem cut_count (s : List UInt8) : (cutL [10] s).length ≤ s.length + 1 := by
  rw [cut_len]
  have h := lines_len s
  rcases cut_lines s with ⟨r, h1, h2⟩ | ⟨h1, _⟩
  · rw [h1]; rw [h2] at h; simp; omega
  · rw [← h1]; omega
theorem join0_any (b off n cap : Nat) (L : List (List UInt8)) (w : World) (hn : n = L.length) (hcap : n ≤ cap) (hL : L.length ≤ 1000) (hb : 0 < n → b < w.heap.size) (hc : ∀ (j : Nat) x, L[j]? = some x → w.cell? ⟨b, off + j, none⟩ = some (.string ⟨x.toArray⟩)) (h5 : ∀ x, x ∈ L → x.length ≤ 1000) (ht : L.flatten.length ≤ 1000000) (a : Option Addr) (ha : 0 < n → a = some ⟨b, off, none⟩) :
    Calls Tryz.prog 128 #[.slice a n cap, .string ⟨#[]⟩] w fun e w' => e = .returned (.string ⟨L.flatten.toArray⟩) ∧ Below w.heap.size w w' := by
  subst hn
  have hv : Strs w (.slice a L.length cap) L := ⟨by unfold maxLen; omega, ⟨a, cap, rfl, hcap, fun hp => ⟨b, off, ha hp, hb hp, hc⟩⟩, fun i x hx => by have := h5 x (List.mem_of_getElem? hx); unfold maxLen; omega⟩
  have := join_any _ L [] w hv (by rw [join_flat]; omega) (by omega)
  rw [join_flat] at this
  exact this
set_option maxRecDepth 100000 in
theorem head_any (s : List UInt8) (z : Int) (hs : s.length ≤ 900) (w : World) (hE : Env w) : Calls Tryz.prog 93 #[.string ⟨s.toArray⟩, .int .i64 z] w fun e w' => e = .returned (.string ⟨(headL s z.toNat).toArray⟩) ∧ Below w.heap.size w w' := by
  have HS := Lib.hid (splitafter_any s (by omega) w hE)
  have HH := Lib.hid (show headL s z.toNat = ((cutL [10] s).take z.toNat).flatten from rfl)
  have H5 := Lib.hid (fun x hx => cut_total s x hx)
  have Hn := Lib.hid (cut_count s)
  have HF := Lib.hid (show (cutL [10] s).flatten.length ≤ 900 by rw [cut_flat]; exact hs)
  obtain ⟨P, hP⟩ : ∃ P, cutL [10] s = P := ⟨_, rfl⟩
  rw [hP] at HS HH H5 Hn HF
  obtain ⟨n, hn⟩ : ∃ n, P.length = n := ⟨_, rfl⟩
  have HN := Lib.hid hn
  rw [hn] at HS
  have hn5 : n ≤ 901 := by rw [← hn]; have := Hn.out; omega
  have HJ := Lib.hid (fun (k : Nat) (hk : k ≤ n) (w1 : World) (hSB : SB w1 w.heap.size P) => join0_any w.heap.size 0 k n (P.take k) w1 (by rw [List.length_take, hn]; omega) hk (by simp; omega) (fun _ => hSB.lt)
    (fun j x hx => by rw [Nat.zero_add]; exact hSB.cell j x (by rw [List.getElem?_take] at hx; split at hx; exact hx; cases hx)) (fun x hx => by have := H5.out x (List.mem_of_mem_take hx); omega)
    (by have h1 := HF.out; have h2 := congrArg List.flatten (List.take_append_drop k P); rw [List.flatten_append] at h2; have := congrArg List.length h2; rw [List.length_append] at this; omega) (some ⟨w.heap.size, 0, none⟩) (fun _ => rfl))
  clear hP hn
  have hcase : z ≤ 0 ∨ (∃ k : Nat, z = k ∧ 0 < k ∧ k ≤ n) ∨ (n : Int) < z := by
    rcases Int.lt_or_le 0 z with h | h
    · rcases Int.lt_or_le n z with h' | h'
      · exact .inr (.inr h')
      · exact .inr (.inl ⟨z.toNat, by omega, by omega, by omega⟩)
    · exact .inl h
  rcases hcase with hz | ⟨k, rfl, hk0, hkn⟩ | hz
  · have HR := Lib.hid (show headL s z.toNat = (P.take 0).flatten by rw [HH.out, show z.toNat = 0 by omega])
    have e1 : max z 0 = 0 := by omega
    have e2 : min (0 : Int) (n : Int) = 0 := by omega
    clear hz
    go_enter Tryz.func93, Tryz.ntmps93
    go_wp2_with fail
    refine HS.out.mono ?_
    rintro e w1 ⟨rfl, hSB, hB⟩
    have HJ1 := Lib.hid (HJ.out 0 (by omega) w1 hSB)
    clear hSB
    go_wp2_with fail
    refine HJ1.out.mono ?_
    rintro e w2 ⟨rfl, hB2⟩
    go_wp2_with fail
    go_ret
    rw [HR.out]
    exact ⟨rfl, below_tr hB hB2⟩
  · have HR := Lib.hid (show headL s (k : Int).toNat = (P.take k).flatten by rw [HH.out]; rfl)
    have e1 : max (k : Int) 0 = k := by omega
    have e2 : min (k : Int) (n : Int) = k := by omega
    go_enter Tryz.func93, Tryz.ntmps93
    go_wp2_with fail
    refine HS.out.mono ?_
    rintro e w1 ⟨rfl, hSB, hB⟩
    have HJ1 := Lib.hid (HJ.out k (by omega) w1 hSB)
    clear hSB
    go_wp2_with fail
    refine HJ1.out.mono ?_
    rintro e w2 ⟨rfl, hB2⟩
    go_wp2_with fail
    go_ret
    rw [HR.out]
    exact ⟨rfl, below_tr hB hB2⟩
  · have HR := Lib.hid (show headL s z.toNat = (P.take n).flatten by rw [HH.out, List.take_of_length_le (by rw [HN.out]; omega), List.take_of_length_le (by rw [HN.out]; omega)])
    have e1 : max z 0 = z := by omega
    have e2 : min z (n : Int) = n := by omega
    clear hz
    go_enter Tryz.func93, Tryz.ntmps93
    go_wp2_with fail
    refine HS.out.mono ?_
    rintro e w1 ⟨rfl, hSB, hB⟩
    have HJ1 := Lib.hid (HJ.out n (by omega) w1 hSB)
    clear hSB
    go_wp2_with fail
    refine HJ1.out.mono ?_
    rintro e w2 ⟨rfl, hB2⟩
    go_wp2_with fail
    go_ret
    rw [HR.out]
    exact ⟨rfl, below_tr hB hB2⟩
theorem cutA_cases (s : List UInt8) : (cutL [10] s = cutA s ++ [[]]) ∨ (cutA s = cutL [10] s ∧ ∃ r x, cutL [10] s = r ++ [x] ∧ x ≠ []) := by
  have hne := cutL_ne [10] s
  have hl := List.getLast?_eq_some_getLast hne
  have hd := List.dropLast_concat_getLast hne
  unfold cutA
  by_cases h : (cutL [10] s).getLast hne = []
  · left
    rw [hl, h, if_pos rfl]
    rw [h] at hd; exact hd.symm
  · right
    rw [hl, if_neg (fun e => h (Option.some.inj e))]
    exact ⟨rfl, _, _, hd.symm, h⟩
set_option maxRecDepth 100000 in
set_option maxHeartbeats 1600000 in
theorem tail_any (s : List UInt8) (z : Int) (hs : s.length ≤ 900) (w : World) (hE : Env w) : Calls Tryz.prog 94 #[.string ⟨s.toArray⟩, .int .i64 z] w fun e w' => e = .returned (.string ⟨(tailL s z.toNat).toArray⟩) ∧ Below w.heap.size w w' := by
  have HS := Lib.hid (splitafter_any s (by omega) w hE)
  have HT0 := Lib.hid (show tailL s z.toNat = ((cutA s).drop ((cutA s).length - z.toNat)).flatten from rfl)
  have H5 := Lib.hid (fun x hx => cut_total s x hx)
  have Hn := Lib.hid (cut_count s)
  have HF := Lib.hid (show (cutA s).flatten.length ≤ 900 by rw [cutA_flat]; exact hs)
  have hca := cutA_cases s
  obtain ⟨P, hP⟩ : ∃ P, cutL [10] s = P := ⟨_, rfl⟩
  obtain ⟨Q, hQ⟩ : ∃ Q, cutA s = Q := ⟨_, rfl⟩
  rw [hP] at HS H5 Hn hca
  rw [hQ] at HT0 HF hca
  obtain ⟨n, hn⟩ : ∃ n, P.length = n := ⟨_, rfl⟩
  obtain ⟨m, hm⟩ : ∃ m, Q.length = m := ⟨_, rfl⟩
  rw [hn] at HS
  rw [hm] at HT0
  have HT := Lib.hid HT0.out
  have HM := Lib.hid hm
  have hn5 : n ≤ 901 := by rw [← hn]; have := Hn.out; omega
  clear hP hQ HT0
  have hcase : z ≤ 0 ∨ (∃ k : Nat, z = k ∧ 0 < k ∧ k ≤ m) ∨ (m : Int) < z := by
    rcases Int.lt_or_le 0 z with h | h
    · rcases Int.lt_or_le m z with h' | h'
      · exact .inr (.inr h')
      · exact .inr (.inl ⟨z.toNat, by omega, by omega, by omega⟩)
    · exact .inl h
  rcases hca with hPQ | ⟨rfl, r, x, hPx, hx0⟩
  · have hnm : n = m + 1 := by rw [← hn, hPQ, List.length_append, hm]; rfl
    have HJ := Lib.hid (fun (lo : Nat) (hlo : lo ≤ m) (w1 : World) (hSB : SB w1 w.heap.size P) (a : Option Addr) (ha : 0 < m - lo → a = some ⟨w.heap.size, lo, none⟩) => join0_any w.heap.size lo (m - lo) (n - lo) (Q.drop lo) w1 (by rw [List.length_drop, hm]) (by omega) (by simp; omega) (fun _ => hSB.lt)
      (fun j y hy => hSB.cell (lo + j) y (by rw [List.getElem?_drop] at hy; rw [hPQ, List.getElem?_append_left (List.getElem?_eq_some_iff.1 hy).1]; exact hy)) (fun y hy => by have := H5.out y (by rw [hPQ]; exact List.mem_append_left _ (List.mem_of_mem_drop hy)); omega)
      (by have h1 := HF.out; have h2 := congrArg List.flatten (List.take_append_drop lo Q); rw [List.flatten_append] at h2; have := congrArg List.length h2; rw [List.length_append] at this; omega) a ha)
    have hcl : P[m]? = some [] := by rw [hPQ, List.getElem?_append_right (by omega), hm]; simp
    have HCL := Lib.hid hcl
    have hn1 : (n : Int) - 1 = (m : Int) := by omega
    have hn2 : m < n := by omega
    clear hPQ hn hm hcl hnm
    rcases hcase with hz | ⟨k, rfl, hk0, hkn⟩ | hz
    · have HR := Lib.hid (show tailL s z.toNat = (Q.drop m).flatten by rw [HT.out, show z.toNat = 0 by omega, Nat.sub_zero])
      have e1 : max z 0 = 0 := by omega
      have e2 : min (0 : Int) (m : Int) = 0 := by omega
      clear hz
      go_enter Tryz.func94, Tryz.ntmps94
      go_wp2_with fail
      refine HS.out.mono ?_
      rintro e w1 ⟨rfl, hSB, hB⟩
      have hlast := hSB.cell m [] HCL.out
      have hj := HJ.out m (by omega) w1 hSB
      simp only [Nat.sub_self] at hj
      have HJ1 := Lib.hid hj
      clear hj
      clear hSB
      go_wp2_with fail
      refine (HJ1.out _ (fun h => by first | rfl | omega)).mono ?_
      rintro e w2 ⟨rfl, hB2⟩
      go_wp2_with fail
      go_ret
      rw [HR.out]
      exact ⟨rfl, below_tr hB hB2⟩
    · obtain ⟨lo, hlo⟩ : ∃ lo, m - k = lo := ⟨_, rfl⟩
      have HR := Lib.hid (show tailL s (k : Int).toNat = (Q.drop lo).flatten by rw [HT.out, ← hlo]; rfl)
      have e1 : max (k : Int) 0 = k := by omega
      have e2 : min (k : Int) (m : Int) = k := by omega
      have e3 : (m : Int) - k = lo := by omega
      have hlm : lo < m := by omega
      clear hlo
      go_enter Tryz.func94, Tryz.ntmps94
      go_wp2_with fail
      refine HS.out.mono ?_
      rintro e w1 ⟨rfl, hSB, hB⟩
      have hlast := hSB.cell m [] HCL.out
      have HJ1 := Lib.hid (fun a ha => HJ.out lo (by omega) w1 hSB a ha)
      clear hSB
      go_wp2_with fail
      refine (HJ1.out _ (fun h => by first | rfl | omega)).mono ?_
      rintro e w2 ⟨rfl, hB2⟩
      go_wp2_with fail
      go_ret
      rw [HR.out]
      exact ⟨rfl, below_tr hB hB2⟩
    · have HR := Lib.hid (show tailL s z.toNat = (Q.drop 0).flatten by rw [HT.out, show m - z.toNat = 0 by omega])
      have e1 : max z 0 = z := by omega
      have e2 : min z (m : Int) = m := by omega
      clear hz
      go_enter Tryz.func94, Tryz.ntmps94
      go_wp2_with fail
      refine HS.out.mono ?_
      rintro e w1 ⟨rfl, hSB, hB⟩
      have hlast := hSB.cell m [] HCL.out
      have hj := HJ.out 0 (by omega) w1 hSB
      simp only [Nat.sub_zero] at hj
      have HJ1 := Lib.hid hj
      clear hj
      clear hSB
      go_wp2_with fail
      refine (HJ1.out _ (fun h => by first | rfl | omega)).mono ?_
      rintro e w2 ⟨rfl, hB2⟩
      go_wp2_with fail
      go_ret
      rw [HR.out]
      exact ⟨rfl, below_tr hB hB2⟩
  · have hnm : n = m := by rw [← hn, hm]
    subst hnm
    have HJ := Lib.hid (fun (lo : Nat) (hlo : lo ≤ n) (w1 : World) (hSB : SB w1 w.heap.size Q) (a : Option Addr) (ha : 0 < n - lo → a = some ⟨w.heap.size, lo, none⟩) => join0_any w.heap.size lo (n - lo) (n - lo) (Q.drop lo) w1 (by rw [List.length_drop, hm]) (by omega) (by simp; omega) (fun _ => hSB.lt)
      (fun j y hy => hSB.cell (lo + j) y (by rw [List.getElem?_drop] at hy; exact hy)) (fun y hy => by have := H5.out y (List.mem_of_mem_drop hy); omega)
      (by have h1 := HF.out; have h2 := congrArg List.flatten (List.take_append_drop lo Q); rw [List.flatten_append] at h2; have := congrArg List.length h2; rw [List.length_append] at this; omega) a ha)
    obtain ⟨l1, hl1⟩ : ∃ l1, r.length = l1 := ⟨_, rfl⟩
    have hcl : Q[l1]? = some x := by rw [hPx, List.getElem?_append_right (by omega), hl1]; simp
    have HCL := Lib.hid hcl
    have hn0 : n = l1 + 1 := by rw [← hm, hPx, List.length_append, hl1]; rfl
    have hn1 : (n : Int) - 1 = (l1 : Int) := by omega
    have hn2 : l1 < n := by omega
    have hx1 : (x == []) = false := by simp [hx0]
    have hx2 : x.isEmpty = false := by simp [hx0]
    clear hPx hn hm hcl hn0 hx0 hl1
    obtain ⟨m, hmn⟩ : ∃ m, m = n := ⟨_, rfl⟩
    subst hmn
    rcases hcase with hz | ⟨k, rfl, hk0, hkn⟩ | hz
    · have HR := Lib.hid (show tailL s z.toNat = (Q.drop m).flatten by rw [HT.out, show z.toNat = 0 by omega, Nat.sub_zero])
      have e1 : max z 0 = 0 := by omega
      have e2 : min (0 : Int) (m : Int) = 0 := by omega
      clear hz
      go_enter Tryz.func94, Tryz.ntmps94
      go_wp2_with fail
      refine HS.out.mono ?_
      rintro e w1 ⟨rfl, hSB, hB⟩
      have hlast := hSB.cell l1 x HCL.out
      have hj := HJ.out m (by omega) w1 hSB
      simp only [Nat.sub_self] at hj
      have HJ1 := Lib.hid hj
      clear hj
      clear hSB
      go_wp2_with fail
      refine (HJ1.out _ (fun h => by first | rfl | omega)).mono ?_
      rintro e w2 ⟨rfl, hB2⟩
      go_wp2_with fail
      go_ret
      rw [HR.out]
      exact ⟨rfl, below_tr hB hB2⟩
    · obtain ⟨lo, hlo⟩ : ∃ lo, m - k = lo := ⟨_, rfl⟩
      have HR := Lib.hid (show tailL s (k : Int).toNat = (Q.drop lo).flatten by rw [HT.out, ← hlo]; rfl)
      have e1 : max (k : Int) 0 = k := by omega
      have e2 : min (k : Int) (m : Int) = k := by omega
      have e3 : (m : Int) - k = lo := by omega
      have hlm : lo < m := by omega
      clear hlo
      go_enter Tryz.func94, Tryz.ntmps94
      go_wp2_with fail
      refine HS.out.mono ?_
      rintro e w1 ⟨rfl, hSB, hB⟩
      have hlast := hSB.cell l1 x HCL.out
      have HJ1 := Lib.hid (fun a ha => HJ.out lo (by omega) w1 hSB a ha)
      clear hSB
      go_wp2_with fail
      refine (HJ1.out _ (fun h => by first | rfl | omega)).mono ?_
      rintro e w2 ⟨rfl, hB2⟩
      go_wp2_with fail
      go_ret
      rw [HR.out]
      exact ⟨rfl, below_tr hB hB2⟩
    · have HR := Lib.hid (show tailL s z.toNat = (Q.drop 0).flatten by rw [HT.out, show m - z.toNat = 0 by omega])
      have e1 : max z 0 = z := by omega
      have e2 : min z (m : Int) = m := by omega
      clear hz
      go_enter Tryz.func94, Tryz.ntmps94
      go_wp2_with fail
      refine HS.out.mono ?_
      rintro e w1 ⟨rfl, hSB, hB⟩
      have hlast := hSB.cell l1 x HCL.out
      have hj := HJ.out 0 (by omega) w1 hSB
      simp only [Nat.sub_zero] at hj
      have HJ1 := Lib.hid hj
      clear hj
      clear hSB
      go_wp2_with fail
      refine (HJ1.out _ (fun h => by first | rfl | omega)).mono ?_
      rintro e w2 ⟨rfl, hB2⟩
      go_wp2_with fail
      go_ret
      rw [HR.out]
      exact ⟨rfl, below_tr hB hB2⟩
end Go.Proofs.YtbecmcjibpamoaaGreatDoor
