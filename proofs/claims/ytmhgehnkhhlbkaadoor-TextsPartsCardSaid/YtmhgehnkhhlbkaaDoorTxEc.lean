/- Texts: with blanks between them; the law on prints. -/
import Derived.Test.YtmhgehnkhhlbkaaDoorTxV
import Derived.Test.YtmhgehnkhhlbkaaDoorTxZ
import Derived.Lib.Join
namespace Go.Proofs.YtmhgehnkhhlbkaaDoor
open Go.RowKit

theorem join_snoc (l : List (List UInt8)) (x sep : List UInt8) (h : l ≠ []) : Lib.join (l ++ [x]) sep = Lib.join l sep ++ sep ++ x := by
  cases l with
  | nil => exact absurd rfl h
  | cons y r => rw [List.cons_append, Lib.join_cons, Lib.join_cons, Lib.joinTail, Lib.joinTail]; simp
theorem join_len (n : Nat) : ∀ (l : List (List UInt8)), (∀ x, x ∈ l → x.length ≤ n) → (Lib.join l [32]).length ≤ l.length * (n + 1)
  | [], _ => by simp [Lib.join, List.intercalate]
  | x :: r, h => by
    rw [Lib.join_cons, Lib.joinTail]
    have h1 := h x (by simp)
    have h2 : ∀ r : List (List UInt8), (∀ x, x ∈ r → x.length ≤ n) → ((r.map ([32] ++ ·)).flatten).length ≤ r.length * (n + 1) := by
      intro r
      induction r with
      | nil => intro _; simp
      | cons y t ih =>
        intro hh
        have := ih (fun x hx => hh x (List.mem_cons_of_mem _ hx))
        have hy := hh y (by simp)
        simp only [List.map_cons, List.flatten_cons, List.length_append, List.length_cons, List.length_nil] at this ⊢
        rw [Nat.succ_mul]
        omega
    have := h2 r (fun x hx => h x (List.mem_cons_of_mem _ hx))
    rw [List.length_append, List.length_cons, Nat.succ_mul]
    omega
def echoL (L : List (List UInt8)) : List UInt8 := Lib.join L [32] ++ [10]
theorem strs_bytes (L : List (List UInt8)) : (L.map fun x => ByteArray.mk x.toArray).map (·.data.toList) = L := by
  rw [List.map_map]
  exact (List.map_congr_left (fun x _ => by simp)).trans (List.map_id L)
set_option maxRecDepth 100000 in
theorem join_any (v : Value) (L : List (List UInt8)) (sep : List UInt8) (w : World) (hv : Strs w v L) (hl : (Lib.join L sep).length ≤ 140737488355328) (hL : L.length ≤ 100000) :
    Calls Tryd.prog 43 #[v, .string ⟨sep.toArray⟩] w fun e w' => e = .returned (.string ⟨(Lib.join L sep).toArray⟩) ∧ Below w.heap.size w w' := by
  obtain ⟨a0, cap, rfl, hcap, hat⟩ := hv.shape
  by_cases h0 : L = []
  · subst h0
    exact (Tryd.strings_Join_none a0 cap ⟨sep.toArray⟩ w).mono fun e w' ⟨h1, h2⟩ => ⟨by rw [h1]; rfl, h2 ▸ Below.refl _ _⟩
  · obtain ⟨b, off, rfl, hb, hcs⟩ := hat (List.length_pos_iff.2 h0)
    have hsep : (ByteArray.mk sep.toArray).data.toList = sep := by simp
    have := Tryd.strings_Join b off cap (L.map fun x => ByteArray.mk x.toArray) ⟨sep.toArray⟩ w
      (fun j x hx => by
        rw [List.getElem?_map] at hx
        cases hj : L[j]? with
        | none => rw [hj] at hx; cases hx
        | some y => rw [hj] at hx; cases hx; exact hcs j y hj)
      hb (by simp; omega) (by simpa using hcap) (by rw [strs_bytes, hsep]; exact hl)
    rw [strs_bytes, hsep, List.length_map] at this
    exact this
theorem echo_any (v : Value) (L : List (List UInt8)) (w : World) (hv : Strs w v L) (h5 : ∀ x, x ∈ L → x.length ≤ 500) (hL : L.length ≤ 29) :
    Calls Tryd.prog 21 #[v] w fun e w' => e = .returned (.string ⟨(echoL L).toArray⟩) ∧ Below w.heap.size w w' := by
  have hjl : (Lib.join L [32]).length ≤ 20000 := Nat.le_trans (join_len 500 L h5) (by omega)
  have HJ := Lib.hid (join_any v L [32] w hv (by omega) (by omega))
  have HE := Lib.hid (show echoL L = Lib.join L [32] ++ [10] from rfl)
  obtain ⟨a0, cap, hv0, hcap, hat⟩ := hv.shape
  obtain ⟨n0, hn0⟩ : ∃ n0, L.length = n0 := ⟨_, rfl⟩
  rw [hn0] at hv0
  subst hv0
  clear hv hat hn0
  generalize Lib.join L [32] = q at *
  go_enter Tryd.func21, Tryd.ntmps21
  go_wp2_with fail
  refine HJ.out.mono ?_
  rintro e w1 ⟨rfl, hB⟩
  go_wp2_with fail
  go_ret
  rw [HE.out]
  exact ⟨rfl, hB⟩
set_option maxRecDepth 100000 in
theorem recho_any (v : Value) (L : List (List UInt8)) (w : World) (hv : Strs w v L) (h5 : ∀ x, x ∈ L → x.length ≤ 500) (hL : L.length ≤ 29) :
    Calls Tryd.prog 22 #[v] w fun e w' => e = .returned (.string ⟨(echoL L).toArray⟩) ∧ w = w' := by
  have HE := Lib.hid (show echoL L = Lib.join L [32] ++ [10] from rfl)
  obtain ⟨a0, cap, hv0, hcap, hat⟩ := hv.shape
  obtain ⟨n, hn⟩ : ∃ n, L.length = n := ⟨_, rfl⟩
  have HN := Lib.hid hn
  rw [hn] at hv0 hat hL
  subst hv0
  have H5 := Lib.hid h5
  clear hv hn h5
  go_enter Tryd.func22, Tryd.ntmps22
  go_wp2_with fail
  go_loop [3, 4] (fun o i => ∃ (k : Nat) (q : List UInt8), k ≤ n ∧ i = .int .i64 k ∧ o = .string ⟨q.toArray⟩ ∧ Hid (q = Lib.join (L.take k) [32]) ∧ q.length ≤ 501 * k) (fun _ i => n - (intOf i).toNat)
  case atStart => exact ⟨0, [], by omega, rfl, rfl, Lib.hid (by simp [Lib.join, List.intercalate]), by simp⟩
  case round =>
    obtain ⟨k, q, hk, rfl, rfl, HQ, hq⟩ := hrel
    by_cases hkn : k < n
    · obtain ⟨b, off, rfl, hb, hcs⟩ := hat (by omega)
      obtain ⟨x, hx⟩ : ∃ x, L[k]? = some x := ⟨L[k]'(by rw [HN.out]; exact hkn), List.getElem?_eq_getElem _⟩
      have hcell := hcs k x hx
      have hxl := H5.out x (List.mem_of_getElem? hx)
      have htk : L.take (k + 1) = L.take k ++ [x] := by rw [List.take_add_one, hx]; rfl
      clear hcs hat
      cases k with
      | zero =>
        have HQ2 := Lib.hid (show x = Lib.join (L.take (0 + 1)) [32] by rw [htk]; simp [Lib.join, List.intercalate])
        have HQ0 := Lib.hid (show q = [] by rw [HQ.out]; simp [Lib.join, List.intercalate])
        clear hx htk
        rw [Nat.add_zero] at hcell
        go_wp2_with fail
        go_round
        case rel => exact ⟨0 + 1, q ++ x, by omega, by go_num, rfl, Lib.hid (by rw [HQ0.out]; exact HQ2.out), by simp; omega⟩
        case measure => simp [intOf]; omega
      | succ j =>
        have HQ2 := Lib.hid (show q ++ [32] ++ x = Lib.join (L.take (j + 1 + 1)) [32] by
          rw [htk, join_snoc _ _ _ (fun e => by have := congrArg List.length e; rw [List.length_take, HN.out] at this; simp at this; omega), ← HQ.out])
        clear hx htk
        go_wp2_with fail
        go_round
        case rel => exact ⟨j + 1 + 1, _, by omega, by go_num, rfl, Lib.hid (by simpa using HQ2.out), by simp; omega⟩
        case measure => simp [intOf]; omega
    · obtain rfl : k = n := by omega
      have HQ2 := Lib.hid (show q = Lib.join L [32] by rw [HQ.out, ← HN.out, List.take_length])
      clear hat
      go_wp2_with fail
      go_ret
      rw [HE.out, ← HQ2.out]
      exact ⟨rfl, rfl⟩
set_option maxRecDepth 100000 in
set_option maxHeartbeats 1600000 in
theorem prints_any (w : World) (f : List UInt8) (hf : f.length ≤ maxLen) (v : Value) (L : List (List UInt8)) (hv : Strs w v L) (hE : Env w) :
    Calls Tryd.prog 6 #[.string ⟨f.toArray⟩, v] w fun e w' => e = .returned (.bool true) ∧ Below w.heap.size w w' := by
  have HF := Lib.hid (few_any (.slice (some ⟨w.heap.size, 0, none⟩) 1 1) [f] (w.alloc (.cells #[.string ⟨f.toArray⟩] 9)) (strs_lit w [f] _ 1 rfl (by simp) (mem1 hf) rfl _) (by simp))
  have hA := below_alloc w (.cells #[.string ⟨f.toArray⟩] 9)
  have hE1 := hE.below hA
  have hv1 := hv.below hA
  have HV := Lib.hid hv1
  have hLm := hv.len
  unfold maxLen at hLm
  obtain ⟨a0, cap, hv0, _, _⟩ := hv.shape
  obtain ⟨n, hn⟩ : ∃ n, L.length = n := ⟨_, rfl⟩
  have HN := Lib.hid hn
  rw [hn] at hv0 hLm
  subst hv0
  clear hv hv1 hn
  cases hfew : fewL [f] with
  | false =>
    rw [hfew] at HF
    clear hfew
    go_enter Tryd.func6, Tryd.ntmps6
    go_wp2_with fail
    refine HF.out.mono ?_
    rintro e w1' ⟨rfl, rfl⟩
    go_wp2_with fail
    refine (awake_any _ hE1).mono ?_
    rintro e w2 ⟨rfl, hB2⟩
    go_wp2_with fail
    go_ret
    exact ⟨rfl, below_tr hA hB2⟩
  | true =>
    rw [hfew] at HF
    have f5 := ((few_iff _).1 hfew).1 f (by simp)
    clear hfew
    by_cases h29 : 29 < n
    · go_enter Tryd.func6, Tryd.ntmps6
      go_wp2_with fail
      refine HF.out.mono ?_
      rintro e w1' ⟨rfl, rfl⟩
      go_wp2_with fail
      refine (awake_any _ hE1).mono ?_
      rintro e w2 ⟨rfl, hB2⟩
      go_wp2_with fail
      go_ret
      exact ⟨rfl, below_tr hA hB2⟩
    have HF2 := Lib.hid (few_any _ L _ HV.out (by rw [HN.out]; omega))
    cases hfew2 : fewL L with
    | false =>
      rw [hfew2] at HF2
      clear hfew2
      go_enter Tryd.func6, Tryd.ntmps6
      go_wp2_with fail
      refine HF.out.mono ?_
      rintro e w1' ⟨rfl, rfl⟩
      go_wp2_with fail
      refine HF2.out.mono ?_
      rintro e w1' ⟨rfl, rfl⟩
      go_wp2_with fail
      refine (awake_any _ hE1).mono ?_
      rintro e w2 ⟨rfl, hB2⟩
      go_wp2_with fail
      go_ret
      exact ⟨rfl, below_tr hA hB2⟩
    | true =>
      rw [hfew2] at HF2
      have h5 := Lib.hid ((few_iff _).1 hfew2).1
      have hl29 : L.length ≤ 29 := by rw [HN.out]; omega
      have HL := Lib.hid hl29
      clear hfew2 hl29
      have H1 := Lib.hid (fun w1 hv1 hE1 => printf_any f (.slice a0 n cap) L f5 w1 hv1 h5.out (by have := HL.out; omega) hE1)
      have H2 := Lib.hid (fun w1 hv1 => rprintf_any f (.slice a0 n cap) L f5 w1 hv1 h5.out (by have := HL.out; omega))
      have H3 := Lib.hid (fun w1 hv1 => echo_any (.slice a0 n cap) L w1 hv1 h5.out HL.out)
      have H4 := Lib.hid (fun w1 hv1 => recho_any (.slice a0 n cap) L w1 hv1 h5.out HL.out)
      generalize printfL f L = r1 at *
      generalize echoL L = g2 at *
      unfold TxtRes txtRet at H1 H2
      generalize (Option.getD r1 []) = g1 at *
      generalize (if r1.isSome = true then (0 : Int) else 1) = i1 at *
      have q1 : (g1 == g1) = true := by simp
      have q2 : (g2 == g2) = true := by simp
      have q3 : (i1 == i1) = true := by simp
      go_enter Tryd.func6, Tryd.ntmps6
      go_wp2_with fail
      refine HF.out.mono ?_
      rintro e w1' ⟨rfl, rfl⟩
      go_wp2_with fail
      refine HF2.out.mono ?_
      rintro e w1' ⟨rfl, rfl⟩
      go_wp2_with fail
      refine (H1.out _ HV.out hE1).mono ?_
      rintro e w2 ⟨rfl, hB2⟩
      have HV2 := Lib.hid (HV.out.below hB2)
      go_wp2_with fail
      refine (H2.out _ HV2.out).mono ?_
      rintro e w3 ⟨rfl, hB3⟩
      have HV3 := Lib.hid (HV2.out.below hB3)
      go_wp2_with fail
      refine (H3.out _ HV3.out).mono ?_
      rintro e w4 ⟨rfl, hB4⟩
      have HV4 := Lib.hid (HV3.out.below hB4)
      go_wp2_with fail
      refine (H4.out _ HV4.out).mono ?_
      rintro e w4' ⟨rfl, rfl⟩
      have hBB := below_tr (below_tr (below_tr hA hB2) hB3) hB4
      have hE5 := hE.below hBB
      go_wp2_with fail
      refine (awake_any _ hE5).mono ?_
      rintro e w6 ⟨rfl, hB6⟩
      go_wp2_with fail
      go_ret
      exact ⟨rfl, below_tr hBB hB6⟩
end Go.Proofs.YtmhgehnkhhlbkaaDoor
