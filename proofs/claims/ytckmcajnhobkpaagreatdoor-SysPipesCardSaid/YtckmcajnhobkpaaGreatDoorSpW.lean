/- conchlaw18.SysPipes: the walk. -/
import Derived.Test.YtckmcajnhobkpaaGreatDoorSpN
namespace Go.Proofs.YtckmcajnhobkpaaGreatDoor
open Go.RowKit Go.WideShapes IntWalk
set_option linter.unusedVariables false
set_option linter.unusedSimpArgs false

theorem emp0 {a : List UInt8} (h : a ≠ []) : a.isEmpty = false := by cases a with | nil => exact absurd rfl h | cons _ _ => rfl
theorem alloc_below (w : World) (o : Obj) : Below w.heap.size w (w.alloc o) := (Below.refl _ _).alloc (Nat.le_refl _) _
set_option maxHeartbeats 4000000 in
set_option maxRecDepth 100000 in
theorem pipes_any (W : World) (text : List UInt8) (_ht : text.length ≤ maxLen) (v1 : Value) (n : Nat) (zs : Nat → Int) (hN : Nums W v1 n zs) :
    Calls Tryz.prog 3 #[.string ⟨text.toArray⟩, v1] W fun e w' => e = .returned (.bool true) ∧ Below W.heap.size W w' := by
  obtain ⟨pt, c, rfl, b, off, hpt, hz⟩ := hN
  have hsz : (⟨text.toArray⟩ : ByteArray).size = text.length := rfl
  by_cases hbig : 1000 < text.length ∨ 100 < n
  · have hb1 : (decide ((text.length : Int) > 1000) || decide ((n : Int) > 100)) = true := by
      rcases hbig with q | q
      · simp; omega
      · simp; omega
    go_enter Tryz.func3, Tryz.ntmps3
    go_wp2_with (go_at_call 4; refine (sp_awake _).mono ?_; rintro e w2 ⟨rfl, hB2⟩)
    all_goals go_ret
    all_goals exact ⟨rfl, hB2⟩
  · have ht5 : text.length ≤ 1000 := by omega
    have hn5 : n ≤ 100 := by omega
    have ht5' : ¬ (1000 : Int) < text.length := by omega
    have hn5' : ¬ (100 : Int) < n := by omega
    go_enter Tryz.func3, Tryz.ntmps3
    go_wp2_with (go_at_call 5; refine (sp_begun W).mono ?_; rintro e w1 ⟨K, rfl, hS1⟩; unfold ptrK)
    refine (sp_pipe hS1).mono ?_
    rintro e w2 ⟨rfl, hS2⟩
    unfold repV
    go_wp2_with fail
    have hP0 : StP W st2p K w2.heap.size (w2.alloc (.cells pCells 32)) := sp_reply hS2 ((Below.refl _ _).alloc (Nat.le_refl _) _) (Nat.le_refl _) (by
      show (w2.heap.push _)[w2.heap.size]? = _
      exact Array.getElem?_push_size)
    rw [show (#[Value.int IntKind.i64 0, Value.int IntKind.i64 3, Value.int IntKind.i64 4, Value.string ⟨([] : List UInt8).toArray⟩, Value.slice none 0 0, Value.int IntKind.i64 0, Value.int IntKind.i64 0, Value.int IntKind.i64 0] : Array Value) = pCells from rfl]
    clear hS1
    generalize w2.alloc (.cells pCells 32) = w3 at hP0 ⊢
    generalize w2.heap.size = Pb at hP0 ⊢
    clear hS2
    refine (sp_fork hP0).mono ?_
    rintro e w4 ⟨rfl, hP4⟩
    have c4 := (StP.p row_3 hP4).2
    unfold repV
    go_wp2_with fail
    refine (sp_close4 hP4).mono ?_
    rintro e w5 ⟨rfl, hP5⟩
    have c5 := (StP.p row_4 hP5).1
    unfold repV
    go_wp2_with fail
    refine (sp_close3 hP5).mono ?_
    rintro e w6 ⟨rfl, hK6⟩
    have h0 : KS W text text [] [] .a K Pb w6 := ⟨hK6, by simp, by simp, fun q => (by cases q), fun q => (by cases q), fun q => (by cases q)⟩
    have hI0 : Inv n 0 text [] .a := Inv.first h0.val ht5 0 (Nat.zero_le _)
    clear hP4 hP5 hP0 c4 c5 hK6
    unfold repV
    go_wp2_with fail
    go_loopw [8, 9, 10] (fun r g i V => ∃ rest got l s, ∃ k : Nat, r = .string ⟨rest.toArray⟩ ∧ g = .string ⟨got.toArray⟩ ∧ i = .int .i64 k ∧ KS W text rest got l s K Pb V ∧ Inv n k rest l s) (fun _ _ i _ => n + 3000 - (intOf i).toNat)
    case atStart => exact ⟨text, [], [], .a, 0, rfl, rfl, rfl, h0, hI0⟩
    case round =>
      obtain ⟨rest, got, l, s, k, rfl, rfl, rfl, hK, hI⟩ := hrel
      have hlt := hI.lt
      have hlt2 : (k : Int) < n + 3000 := by omega
      have hP := hK.p
      obtain ⟨hp1, hp2⟩ := hP
      by_cases hin : k < n
      · have hin2 : (k : Int) < n := by omega
        obtain ⟨rfl, hbl⟩ := hpt (by omega)
        obtain ⟨hzc, hz1, hz2⟩ := hz k hin
        have hzr : wr.cell? ⟨b, off + k, none⟩ = some (.int .i64 (zs k)) := by rw [World.cell?_of_block (hK.ker.below.block b hbl)]; exact hzc
        generalize zs k = z at hzc hz1 hz2 hzr
        by_cases hpos : 0 < z
        · have HR := Lib.hid (read_round hK ht5 hI (.inl hin) z hpos)
          clear hzc hpt hz
          go_wp2_with fail
          refine HR.out.mono ?_
          rintro e V' ⟨er, t, rfl, hpost⟩
          unfold repV
          rcases hpost with ⟨rfl, rfl, rfl, rfl, hKd⟩ | ⟨hcase, l', s', hK', hI'⟩
          · go_wp2_with fail
            refine (do_wait (hKd.grow (alloc_below _ _))).mono ?_
            rintro e V2 ⟨rfl, hB⟩
            unfold repV
            go_wp2_with (go_at_call 4; refine (sp_awake _).mono ?_; rintro e w2 ⟨rfl, hB2⟩)
            go_ret
            exact ⟨rfl, (hB.trans (alloc_below _ _ |>.mono hB.size)).trans (hB2.mono (by have := hB.size; simp; omega))⟩
          · have hgt : got.length + t.length ≤ 1000 := by have := hK'.val.lens; rw [List.length_append] at this; omega
            rcases hcase with ⟨rfl, htn⟩ | ⟨rfl, rfl⟩
            · have hte := emp0 htn
              go_wp2_with fail
              exact ⟨⟨rest, got ++ t, l', s', k + 1, rfl, rfl, by rw [Int.natCast_add]; rfl, hK'.grow (alloc_below _ _), hI'⟩, by simp [intOf]; omega⟩
            · rw [List.length_nil, Nat.add_zero] at hgt
              go_wp2_with fail
              exact ⟨⟨rest, got ++ [], l', s', k + 1, rfl, by simp, by rw [Int.natCast_add]; rfl, hK'.grow (alloc_below _ _), hI'⟩, by simp [intOf]; omega⟩
        · have hpos2 : z ≤ 0 := by omega
          clear hzc hpt hz
          by_cases hr0 : rest = []
          · subst hr0
            have HX := Lib.hid (exit_round hK ht5 hI (.inl hin))
            go_wp2_with fail
            refine HX.out.mono ?_
            rintro e V' ⟨er, rfl, hK', hI'⟩
            unfold repV
            go_wp2_with fail
            exact ⟨⟨[], got, l, .d, k + 1, rfl, rfl, by rw [Int.natCast_add]; rfl, hK', hI'⟩, by simp [intOf]; omega⟩
          · have hte := emp0 hr0
            have HX := Lib.hid (write_round hK ht5 hI (.inl hin) hr0)
            go_wp2_with fail
            refine HX.out.mono ?_
            rintro e V' ⟨er, j, rfl, hcase, hj, l', s', hK', hI'⟩
            unfold repV
            have hjl : (j : Int) ≤ rest.length := by omega
            have hgl : got.length ≤ text.length := by have := hK'.val.lens; omega
            have hrl : rest.length ≤ text.length := by have := hK.val.lens; omega
            have hsum : got.length + (rest.length - j) ≤ text.length := by have := hK.val.lens; omega
            have htk : text.take got.length = got := by rw [← hK.val.all]; exact List.take_left
            have hpre : (List.take got.length text == got) = true := by rw [htk]; simp
            have hpre2 : (List.take got.length text != got) = false := by rw [htk]; simp
            clear htk
            rcases hcase with rfl | rfl
            · go_wp2_with fail
              exact ⟨⟨rest.drop j, got, l', s', k + 1, rfl, rfl, by rw [Int.natCast_add]; rfl, hK'.grow (alloc_below _ _), hI'⟩, by simp [intOf]; omega⟩
            · go_wp2_with fail
              exact ⟨⟨rest.drop j, got, l', s', k + 1, rfl, rfl, by rw [Int.natCast_add]; rfl, hK'.grow (alloc_below _ _), hI'⟩, by simp [intOf]; omega⟩
      · have hin2 : ¬ (k : Int) < n := by omega
        clear hpt hz
        by_cases hpar : k % 2 = 0
        · have hpq : ((k : Int).tmod 2 == 0) = true := by
            have : (k : Int).tmod 2 = 0 := by rw [Int.tmod_eq_emod_of_nonneg (by omega)]; omega
            rw [this]; rfl
          by_cases hr0 : rest = []
          · subst hr0
            have HX := Lib.hid (exit_round hK ht5 hI (.inr hpar))
            go_wp2_with fail
            refine HX.out.mono ?_
            rintro e V' ⟨er, rfl, hK', hI'⟩
            unfold repV
            go_wp2_with fail
            exact ⟨⟨[], got, l, .d, k + 1, rfl, rfl, by rw [Int.natCast_add]; rfl, hK', hI'⟩, by simp [intOf]; omega⟩
          · have hte := emp0 hr0
            have HX := Lib.hid (write_round hK ht5 hI (.inr hpar) hr0)
            go_wp2_with fail
            refine HX.out.mono ?_
            rintro e V' ⟨er, j, rfl, hcase, hj, l', s', hK', hI'⟩
            unfold repV
            have hjl : (j : Int) ≤ rest.length := by omega
            have hgl : got.length ≤ text.length := by have := hK'.val.lens; omega
            have hrl : rest.length ≤ text.length := by have := hK.val.lens; omega
            have hsum : got.length + (rest.length - j) ≤ text.length := by have := hK.val.lens; omega
            have htk : text.take got.length = got := by rw [← hK.val.all]; exact List.take_left
            have hpre : (List.take got.length text == got) = true := by rw [htk]; simp
            have hpre2 : (List.take got.length text != got) = false := by rw [htk]; simp
            clear htk
            rcases hcase with rfl | rfl
            · go_wp2_with fail
              exact ⟨⟨rest.drop j, got, l', s', k + 1, rfl, rfl, by rw [Int.natCast_add]; rfl, hK'.grow (alloc_below _ _), hI'⟩, by simp [intOf]; omega⟩
            · go_wp2_with fail
              exact ⟨⟨rest.drop j, got, l', s', k + 1, rfl, rfl, by rw [Int.natCast_add]; rfl, hK'.grow (alloc_below _ _), hI'⟩, by simp [intOf]; omega⟩
        · have hpq : ((k : Int).tmod 2 == 0) = false := by
            have : (k : Int).tmod 2 = 1 := by rw [Int.tmod_eq_emod_of_nonneg (by omega)]; omega
            rw [this]; rfl
          have HR := Lib.hid (read_round hK ht5 hI (.inr (by omega)) 50 (by omega))
          go_wp2_with fail
          refine HR.out.mono ?_
          rintro e V' ⟨er, t, rfl, hpost⟩
          unfold repV
          rcases hpost with ⟨rfl, rfl, rfl, rfl, hKd⟩ | ⟨hcase, l', s', hK', hI'⟩
          · go_wp2_with fail
            refine (do_wait (hKd.grow (alloc_below _ _))).mono ?_
            rintro e V2 ⟨rfl, hB⟩
            unfold repV
            go_wp2_with (go_at_call 4; refine (sp_awake _).mono ?_; rintro e w2 ⟨rfl, hB2⟩)
            go_ret
            exact ⟨rfl, (hB.trans (alloc_below _ _ |>.mono hB.size)).trans (hB2.mono (by have := hB.size; simp; omega))⟩
          · have hgt : got.length + t.length ≤ 1000 := by have := hK'.val.lens; rw [List.length_append] at this; omega
            rcases hcase with ⟨rfl, htn⟩ | ⟨rfl, rfl⟩
            · have hte := emp0 htn
              go_wp2_with fail
              exact ⟨⟨rest, got ++ t, l', s', k + 1, rfl, rfl, by rw [Int.natCast_add]; rfl, hK'.grow (alloc_below _ _), hI'⟩, by simp [intOf]; omega⟩
            · rw [List.length_nil, Nat.add_zero] at hgt
              go_wp2_with fail
              exact ⟨⟨rest, got ++ [], l', s', k + 1, rfl, by simp, by rw [Int.natCast_add]; rfl, hK'.grow (alloc_below _ _), hI'⟩, by simp [intOf]; omega⟩
end Go.Proofs.YtckmcajnhobkpaaGreatDoor
