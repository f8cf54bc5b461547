/- Texts: a text of which bytes were turned has other bytes just where one of the set stood. -/
import Derived.Test.YtmhgehnkhhlbkaaDoorTxV
import Derived.Test.YtmhgehnkhhlbkaaDoorOpen
namespace Go.Proofs.YtmhgehnkhhlbkaaDoor
open Go.RowKit

theorem trAt_one (A : List UInt8) (t x : UInt8) : ∀ n, n ≤ A.length → trAt A [t] x n = if (A.take n).contains x then t else x
  | 0, _ => rfl
  | n + 1, h => by
    have ih := trAt_one A t x n (by omega)
    obtain ⟨d, hd⟩ : ∃ d, A[n]? = some d := ⟨A[n], List.getElem?_eq_getElem _⟩
    rw [trAt, ih, show A.getD n 0 = d by simp [List.getD, hd], List.take_add_one, hd]
    by_cases e : d = x
    · subst e; simp
    · rw [if_neg e]
      have : (A.take n ++ (some d).toList).contains x = (A.take n).contains x := by
        rw [Bool.eq_iff_iff]; simp; exact fun h => absurd h.symm e
      rw [this]
theorem rng_has (a b x : UInt8) (h : a ≤ b) : (rngN a.toNat (b.toNat + 1 - a.toNat)).contains x = (decide (a ≤ x) && decide (x ≤ b)) := by
  have h' := UInt8.le_iff_toNat_le.1 h
  rw [Bool.eq_iff_iff]
  simp only [List.contains_iff_mem, rngN, List.mem_map, List.mem_range, Bool.and_eq_true, decide_eq_true_eq, UInt8.le_iff_toNat_le]
  constructor
  · rintro ⟨j, hj, rfl⟩
    have := b.toNat_lt
    rw [UInt8.toNat_ofNat']
    omega
  · rintro ⟨h1, h2⟩
    refine ⟨x.toNat - a.toNat, by omega, ?_⟩
    rw [show a.toNat + (x.toNat - a.toNat) = x.toNat by omega]; simp
def inR (a b x : UInt8) : Bool := decide (a ≤ x) && decide (x ≤ b)
theorem set_rng (a b : UInt8) (h : a ≤ b) : setL [a, 45, b] = some (rngN a.toNat (b.toNat + 1 - a.toNat)) := by
  rw [setL_range _ _ _ (fun e => absurd (UInt8.lt_iff_toNat_lt.1 e) (by have := UInt8.le_iff_toNat_le.1 h; omega)), setL_nil]; simp
theorem set_one (t : UInt8) (h : t ≠ 92) : setL [t] = some [t] := by
  rw [setL_one _ _ (by simp) (fun e => h e.1), setL_nil]; rfl
theorem tr_rng (s : List UInt8) (a b t : UInt8) (h : a ≤ b) (ht : t ≠ 92) : trL s [a, 45, b] [t] = some (s.map fun x => if inR a b x then t else x) := by
  rw [trL, set_rng a b h, set_one t ht]
  simp only [List.cons_ne_nil, false_and, if_false]
  congr 1
  refine List.map_congr_left (fun x _ => ?_)
  rw [trAt_one _ _ _ _ (Nat.le_refl _), List.take_length, rng_has a b x h]; rfl
theorem drop_rng (s : List UInt8) (a b : UInt8) (h : a ≤ b) : dropL s [a, 45, b] = some (s.filter fun x => !inR a b x) := by
  rw [dropL, set_rng a b h, Option.map_some]
  congr 1
  refine List.filter_congr (fun x _ => ?_)
  rw [inset_contains, rng_has a b x h]; rfl
theorem filt_in (g : UInt8 → Bool) {s : List UInt8} {i k : Nat} {c : UInt8} (hk : ((s.take i).filter g).length = k) (hc : s[i]? = some c) (h : g c = true) : (s.filter g)[k]? = some c ∧ ((s.take (i + 1)).filter g).length = k + 1 := by
  have e : s = s.take i ++ c :: s.drop (i + 1) := by rw [← drop_cons hc, List.take_append_drop]
  constructor
  · have : s.filter g = (s.take i).filter g ++ c :: (s.drop (i + 1)).filter g := by
      conv => lhs; rw [e]
      rw [List.filter_append, List.filter_cons_of_pos h]
    rw [this, List.getElem?_append_right (by omega), hk, Nat.sub_self]; rfl
  · rw [List.take_add_one, hc, List.filter_append, List.length_append, hk]; simp [h]
theorem filt_out (g : UInt8 → Bool) {s : List UInt8} {i k : Nat} {c : UInt8} (hk : ((s.take i).filter g).length = k) (hc : s[i]? = some c) (h : g c = false) : ((s.take (i + 1)).filter g).length = k := by
  rw [List.take_add_one, hc, List.filter_append, List.length_append, hk]; simp [h]
set_option maxRecDepth 100000 in
set_option maxHeartbeats 3200000 in
theorem bytes_any (s : List UInt8) (hs : s.length ≤ maxLen) (a b t : UInt8) (w : World) (hE : Env w) :
    Calls Tryd.prog 5 #[.string ⟨s.toArray⟩, .agg #[.int .u8 a.toNat, .int .u8 b.toNat], .int .u8 t.toNat] w fun e w' => e = .returned (.bool true) ∧ Below w.heap.size w w' := by
  obtain ⟨W, hW⟩ : ∃ W, W = w.alloc (.cells #[.int .u8 a.toNat, .int .u8 b.toNat] 32) := ⟨_, rfl⟩
  have hBW : Below w.heap.size w W := hW ▸ below_alloc w _
  have hWs : W.heap.size = w.heap.size + 1 := by rw [hW]; simp
  obtain ⟨W1, hW1⟩ : ∃ W1, W1 = W.alloc (.cells #[.string ⟨s.toArray⟩] 9) := ⟨_, rfl⟩
  have hW1s : W1.heap.size = w.heap.size + 2 := by rw [hW1]; simp [hWs]
  have hB1 : Below w.heap.size w W1 := below_tr hBW (hW1 ▸ below_alloc W _)
  have hc0 : W.cell? ⟨w.heap.size, 0, none⟩ = some (.int .u8 a.toNat) := by rw [hW, World.cell?_alloc_new]; rfl
  have hc1 : W.cell? ⟨w.heap.size, 1, none⟩ = some (.int .u8 b.toNat) := by rw [hW, World.cell?_alloc_new]; rfl
  have hd0 : W1.cell? ⟨w.heap.size, 0, none⟩ = some (.int .u8 a.toNat) := by rw [hW1]; exact keep_cell hc0 (below_alloc W _)
  have hd1 : W1.cell? ⟨w.heap.size, 1, none⟩ = some (.int .u8 b.toNat) := by rw [hW1]; exact keep_cell hc1 (below_alloc W _)
  have HF : Hid (Calls Tryd.prog 13 #[.slice (some ⟨w.heap.size + 1, 0, none⟩) 1 1] W1 fun e w' => e = .returned (.bool (fewL [s])) ∧ W1 = w') := by
    rw [← hWs, hW1]
    exact Lib.hid (few_any (.slice (some ⟨W.heap.size, 0, none⟩) 1 1) [s] (W.alloc (.cells #[.string ⟨s.toArray⟩] 9)) (strs_lit W [s] _ 1 rfl (by simp) (mem1 hs) rfl _) (by simp))
  have hE1 := hE.below hB1
  have hb256 := b.toNat_lt
  have ha256 := a.toNat_lt
  have ht256 := t.toNat_lt
  cases hfew : fewL [s] with
  | false =>
    rw [hfew] at HF
    clear hfew
    go_enter Tryd.func5, Tryd.ntmps5
    go_wp2_with fail
    rw [← hW, ← hW1]
    refine HF.out.mono ?_
    rintro e w1' ⟨rfl, rfl⟩
    clear hW1 hW
    go_wp2_with fail
    refine (awake_any _ hE1).mono ?_
    rintro e w2 ⟨rfl, hB2⟩
    go_wp2_with fail
    go_ret
    exact ⟨rfl, below_tr hB1 hB2⟩
  | true =>
    rw [hfew] at HF
    have s5 := ((few_iff _).1 hfew).1 s (by simp)
    clear hfew
    by_cases hbad : a.toNat < 97 ∨ b.toNat < a.toNat ∨ t.toNat < 97
    · go_enter Tryd.func5, Tryd.ntmps5
      go_wp2_with fail
      rw [← hW, ← hW1]
      refine HF.out.mono ?_
      rintro e w1' ⟨rfl, rfl⟩
      clear hW1 hW
      by_cases h1 : a.toNat < 97
      · go_wp2_with fail
        refine (awake_any _ hE1).mono ?_
        rintro e w2 ⟨rfl, hB2⟩
        go_wp2_with fail
        go_ret
        exact ⟨rfl, below_tr hB1 hB2⟩
      · by_cases h2 : b.toNat < a.toNat
        · go_wp2_with fail
          refine (awake_any _ hE1).mono ?_
          rintro e w2 ⟨rfl, hB2⟩
          go_wp2_with fail
          go_ret
          exact ⟨rfl, below_tr hB1 hB2⟩
        · have h3 : t.toNat < 97 := by omega
          go_wp2_with fail
          refine (awake_any _ hE1).mono ?_
          rintro e w2 ⟨rfl, hB2⟩
          go_wp2_with fail
          go_ret
          exact ⟨rfl, below_tr hB1 hB2⟩
    · have h1 : ¬ a.toNat < 97 := by omega
      have h2 : ¬ b.toNat < a.toNat := by omega
      have h3 : ¬ t.toNat < 97 := by omega
      have e1 : ((a.toNat : Int) == 92) = false := by rw [beq_eq_false_iff_ne]; omega
      have e2 : ((t.toNat : Int) == 92) = false := by rw [beq_eq_false_iff_ne]; omega
      clear hbad
      have hcv1 : (convert 33 9 (.slice (some ⟨W1.heap.size, 0, none⟩) 3 3)).run Tryd.prog (W1.alloc (.cells #[.int .u8 a.toNat, .int .u8 45, .int .u8 b.toNat] 5)) = .ok (.string ⟨[a, 45, b].toArray⟩) (W1.alloc (.cells #[.int .u8 a.toNat, .int .u8 45, .int .u8 b.toNat] 5)) := by
        refine run_convert_bytes_back _ 33 9 5 ⟨W1.heap.size, 0, none⟩ 3 [a, 45, b] (by kernel_rfl) (by kernel_rfl) (by kernel_rfl) ?_
        intro j hj
        simp only [List.length_cons, List.length_nil] at hj
        rcases j with _ | _ | _ | j
        · exact (World.cell?_alloc_new ..).trans rfl
        · exact (World.cell?_alloc_new ..).trans rfl
        · exact (World.cell?_alloc_new ..).trans rfl
        · omega
      obtain ⟨W2, hW2⟩ : ∃ W2, W2 = W1.alloc (.cells #[.int .u8 a.toNat, .int .u8 45, .int .u8 b.toNat] 5) := ⟨_, rfl⟩
      have hW2s : W2.heap.size = W1.heap.size + 1 := by rw [hW2]; simp
      have hB2 : Below w.heap.size w W2 := below_tr hB1 (hW2 ▸ below_alloc W1 _)
      have hcv2 : (convert 33 9 (.slice (some ⟨W1.heap.size + 1, 0, none⟩) 1 1)).run Tryd.prog (W2.alloc (.cells #[.int .u8 t.toNat] 5)) = .ok (.string ⟨[t].toArray⟩) (W2.alloc (.cells #[.int .u8 t.toNat] 5)) := by
        rw [← hW2s]
        refine run_convert_bytes_back _ 33 9 5 ⟨W2.heap.size, 0, none⟩ 1 [t] (by kernel_rfl) (by kernel_rfl) (by kernel_rfl) ?_
        intro j hj
        simp only [List.length_cons, List.length_nil] at hj
        rcases j with _ | j
        · exact (World.cell?_alloc_new ..).trans rfl
        · omega
      obtain ⟨W3, hW3⟩ : ∃ W3, W3 = W2.alloc (.cells #[.int .u8 t.toNat] 5) := ⟨_, rfl⟩
      have hB3 : Below w.heap.size w W3 := below_tr hB2 (hW3 ▸ below_alloc W2 _)
      have hBW3 : Below W.heap.size W W3 := by rw [hW3, hW2, hW1]; exact below_tr (below_tr (below_alloc W _) (below_alloc _ _)) (below_alloc _ _)
      rw [hW2] at hcv2
      rw [hW1s] at hcv1 hcv2
      have HW2 := Lib.hid hW2
      have HW3 := Lib.hid hW3
      clear hW2 hW3
      have hle : a ≤ b := UInt8.le_iff_toNat_le.2 (by omega)
      have ht92 : t ≠ 92 := fun e => by subst e; exact h3 (by decide)
      have HT0 := tr_any s [a, 45, b] [t] (by simp) (by simp) s5 W3
      rw [tr_rng s a b t hle ht92] at HT0
      have HD0 := fun w1 => drop_any s [a, 45, b] (by simp) s5 w1
      rw [drop_rng s a b hle] at HD0
      have HT := Lib.hid HT0
      have HD := Lib.hid HD0
      clear HT0 HD0
      obtain ⟨f, hf⟩ : ∃ f : UInt8 → UInt8, (fun x => if inR a b x then t else x) = f := ⟨_, rfl⟩
      obtain ⟨g, hg⟩ : ∃ g : UInt8 → Bool, (fun x => !inR a b x) = g := ⟨_, rfl⟩
      rw [hf] at HT
      rw [hg] at HD
      have Hf := Lib.hid hf
      have Hg := Lib.hid hg
      clear hf hg
      obtain ⟨n, hn⟩ : ∃ n, s.length = n := ⟨_, rfl⟩
      obtain ⟨T, hTT⟩ : ∃ T, s.map f = T := ⟨_, rfl⟩
      have hTl : T.length = n := by rw [← hTT, List.length_map, hn]
      obtain ⟨D, hDD⟩ : ∃ D, s.filter g = D := ⟨_, rfl⟩
      have hDl0 : D.length ≤ n := by rw [← hDD, ← hn]; exact List.length_filter_le _ _
      obtain ⟨nd, hDl⟩ : ∃ nd, D.length = nd := ⟨_, rfl⟩
      rw [hDl] at hDl0
      rw [hTT] at HT
      rw [hDD] at HD
      have HTT := Lib.hid hTT
      have HDD := Lib.hid hDD
      clear hTT hDD
      go_enter Tryd.func5, Tryd.ntmps5
      go_wp2_with fail
      rw [← hW, ← hW1]
      refine HF.out.mono ?_
      rintro e w1' ⟨rfl, rfl⟩
      clear hW1 hW
      go_wp2_with fail
      rw [← HW2.out, ← HW3.out]
      have hE3 := hE.below hB3
      have hx0 := keep_cell hc0 hBW3
      have hx1 := keep_cell hc1 hBW3
      clear hcv1 hcv2 HW2 HW3 hc0 hc1 hd0 hd1
      refine HT.out.mono ?_
      rintro e w4 ⟨rfl, hB4⟩
      have hB14 := below_tr hB3 hB4
      have hy0 := keep_cell hx0 hB4
      have hy1 := keep_cell hx1 hB4
      simp only [txtRet]
      go_wp2_with fail
      refine (HD.out w4).mono ?_
      rintro e w5 ⟨rfl, hB5⟩
      have hB15 := below_tr hB14 hB5
      have hE5 := hE.below hB15
      have hz0 := keep_cell hy0 hB5
      have hz1 := keep_cell hy1 hB5
      clear hx0 hx1 hy0 hy1 hE3 hE1
      simp only [txtRet]
      have hne : ((n : Int) != n) = false := by simp
      go_wp2_with fail
      clear h1 h2 h3 e1 e2 hW1s hW2s hWs hBW hB1 hB2 hB3 hBW3 hle ht92 hB14 hB4 HT HD HF hE5
      go_loopw [12, 13] (fun kv iv W => ∃ k i : Nat, i ≤ n ∧ k ≤ nd ∧ kv = .int .i64 k ∧ iv = .int .i64 i ∧ Hid (((s.take i).filter g).length = k) ∧ Below w5.heap.size w5 W) (fun _ iv _ => n - (intOf iv).toNat)
      case atStart => exact ⟨0, 0, by omega, by omega, rfl, rfl, Lib.hid rfl, Below.refl _ _⟩
      case round =>
        obtain ⟨k, i, hi, hk, rfl, rfl, HK, hBi⟩ := hrel
        have hz0' := keep_cell hz0 hBi
        have hz1' := keep_cell hz1 hBi
        have hB1i := below_tr hB15 hBi
        by_cases hin : i < n
        · obtain ⟨c, _, hgc, hc⟩ := str_at s i (by omega)
          have hT : T[i]? = some (f c) := by rw [← HTT.out, List.getElem?_map, hc]; rfl
          obtain ⟨c', _, hgt, hc'⟩ := str_at T i (by omega)
          rw [hT] at hc'
          have hfc' := Option.some.inj hc'
          by_cases hm : a.toNat ≤ c.toNat ∧ c.toNat ≤ b.toNat
          · have hR : inR a b c = true := by simp [inR, UInt8.le_iff_toNat_le, hm.1, hm.2]
            have hf1 : f c = t := by rw [← Hf.out]; simp [hR]
            have hg1 : g c = false := by rw [← Hg.out]; simp [hR]
            have HK2 := Lib.hid (filt_out g HK.out hc hg1)
            rw [← hfc', hf1] at hgt
            have hac : (a.toNat : Int) ≤ c.toNat := by omega
            have hcb : (c.toNat : Int) ≤ b.toNat := by omega
            have heq : ((t.toNat : Int) != t.toNat) = false := by simp
            clear hfc' hT hc' hf1 hg1 hR hc
            go_wp2_with fail
            go_quiet (fail)
            go_wp2_with fail
            go_round
            case rel => exact ⟨k, i + 1, by omega, by omega, by go_num, by go_num, HK2, below_drewN hBi _⟩
            case measure => simp [intOf]; omega
          · have hR : inR a b c = false := by rw [Bool.eq_false_iff]; intro h; simp [inR, UInt8.le_iff_toNat_le] at h; exact hm h
            have hf1 : f c = c := by rw [← Hf.out]; simp [hR]
            have hg1 : g c = true := by rw [← Hg.out]; simp [hR]
            obtain ⟨hdk, hk2⟩ := filt_in g HK.out hc hg1
            have HK2 := Lib.hid hk2
            rw [HDD.out] at hdk
            have hkd : k < nd := by rw [← hDl]; exact (List.getElem?_eq_some_iff.1 hdk).1
            obtain ⟨c2, _, hgd, hc2⟩ := str_at D k (by omega)
            rw [hdk] at hc2
            have e2 := Option.some.inj hc2
            rw [← hfc', hf1] at hgt
            rw [← e2] at hgd
            have hkd2 : (k : Int) < nd := by omega
            have heq : ((c.toNat : Int) != c.toNat) = false := by simp
            clear hfc' hT hc' hf1 hg1 hR hc hdk hc2 e2 hk2
            by_cases hlo : a.toNat ≤ c.toNat
            · have hac : (a.toNat : Int) ≤ c.toNat := by omega
              have hcb : ¬ (c.toNat : Int) ≤ b.toNat := by omega
              clear hm
              go_wp2_with fail
              go_quiet (fail)
              go_wp2_with fail
              go_quiet (fail)
              go_wp2_with fail
              go_round
              case rel => exact ⟨k + 1, i + 1, by omega, by omega, by go_num, by go_num, HK2, below_drewN hBi _⟩
              case measure => simp [intOf]; omega
            · have hac : ¬ (a.toNat : Int) ≤ c.toNat := by omega
              clear hm
              go_wp2_with fail
              go_quiet (fail)
              go_wp2_with fail
              go_quiet (fail)
              go_wp2_with fail
              go_round
              case rel => exact ⟨k + 1, i + 1, by omega, by omega, by go_num, by go_num, HK2, below_drewN hBi _⟩
              case measure => simp [intOf]; omega
        · have hkn : k = nd := by rw [← HK.out, show i = n by omega, ← hn, List.take_length, HDD.out, hDl]
          subst hkn
          have hkk : ((k : Int) == k) = true := by simp
          have hEi := hE.below hB1i
          go_wp2_with fail
          refine (awake_any _ hEi).mono ?_
          rintro e w6 ⟨rfl, hB6⟩
          go_wp2_with fail
          go_ret
          exact ⟨rfl, below_tr hB1i hB6⟩
/-- two bytes in an array -/
def Two (v : Value) (a : Int × Int) : Prop := v = .agg #[.int .u8 a.1, .int .u8 a.2] ∧ (0 ≤ a.1 ∧ a.1 ≤ 255) ∧ (0 ≤ a.2 ∧ a.2 ≤ 255)
theorem open_two {H : Type} {enc : TypeId × Value → H} {P : Program} {W : World} {base : Nat} {t e : TypeId} {v : Value} {d : DataW H} {ps : List MemPlace} {r : Reach}
    (ht : P.underlying t = some (.array 2 e)) (he : P.underlying e = some (.int .u8)) (hc : P.cellsOf e = 1) (hct : P.cellsOf t = 2)
    (hval : Value.okWide P W r base t v) (h : DataW.Trod enc P W 0 (fun _ => true) true t v d ps) : ∃ a, Two v a := by
  simp only [Value.okWide, ht] at hval
  obtain ⟨cs, rfl, hsz, _⟩ := hval
  obtain ⟨fuel, hf⟩ := h
  obtain ⟨xs, m, _, _, hl, hx, hi⟩ := DataW.trod_array ht hf
  simp only [Value.cells] at hl hi
  rw [hct] at hsz
  match cs, hsz with
  | ⟨[c0, c1]⟩, _ =>
    have h0 := hi 0 (by omega)
    have h1 := hi 1 (by omega)
    rw [hc, List.getElem?_eq_getElem (by omega)] at h0 h1
    obtain ⟨z0, e0, _, w0⟩ := DataW.trod_int he h0
    obtain ⟨z1, e1, _, w1⟩ := DataW.trod_int he h1
    simp at e0 e1
    subst e0 e1
    exact ⟨(z0, z1), rfl, wf_u8 w0, wf_u8 w1⟩
theorem u8_of {z : Int} (h : 0 ≤ z ∧ z ≤ 255) : ∃ c : UInt8, z = c.toNat := ⟨UInt8.ofNat z.toNat, by rw [UInt8.toNat_ofNat']; omega⟩
theorem bytes_law (s : List UInt8) (hs : s.length ≤ maxLen) (v : Value) (a : Int × Int) (ha : Two v a) (t : Int) (ht : 0 ≤ t ∧ t ≤ 255) (w : World) (hE : Env w) :
    Calls Tryd.prog 5 #[.string ⟨s.toArray⟩, v, .int .u8 t] w fun e w' => e = .returned (.bool true) ∧ Below w.heap.size w w' := by
  obtain ⟨rfl, h1, h2⟩ := ha
  obtain ⟨x, hx⟩ := u8_of h1
  obtain ⟨y, hy⟩ := u8_of h2
  obtain ⟨z, hz⟩ := u8_of ht
  rw [hx, hy, hz]
  exact bytes_any s hs x y z w hE
end Go.Proofs.YtmhgehnkhhlbkaaDoor
