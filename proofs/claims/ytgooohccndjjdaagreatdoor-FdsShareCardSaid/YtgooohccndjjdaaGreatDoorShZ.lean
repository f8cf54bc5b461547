/- conchlaw16.FdsShare: it returns true at every text and every row of numbers, in every world that holds them, and changes nothing that was there. No other condition. -/
import Derived.Test.YtgooohccndjjdaaGreatDoorShL
namespace Go.Proofs.YtgooohccndjjdaaGreatDoor
open Go.RowKit Go.WideShapes IntWalk
set_option linter.unusedVariables false
set_option linter.unusedSimpArgs false

set_option maxHeartbeats 4000000 in
set_option maxRecDepth 100000 in
theorem share_any (W : World) (text : List UInt8) (_ht : text.length ≤ maxLen) (v1 : Value) (n : Nat) (zs : Nat → Int) (hN : Nums W v1 n zs) :
    Calls Tryz.prog 3 #[.string ⟨text.toArray⟩, v1] W fun e w' => e = .returned (.bool true) ∧ Below W.heap.size W w' := by
  obtain ⟨pt, c, rfl, b, off, hpt, hz⟩ := hN
  have hsz : (⟨text.toArray⟩ : ByteArray).size = text.length := rfl
  by_cases hbig : 500 < text.length ∨ 50 < n
  · have hb1 : (decide ((text.length : Int) > 500) || decide ((n : Int) > 50)) = true := by
      rcases hbig with q | q
      · simp; omega
      · simp; omega
    go_enter Tryz.func3, Tryz.ntmps3
    go_wp2_with first
      | (go_at_call 5; refine (begun_c text W).mono ?_; rintro e w1 ⟨m1, rfl, hS1, hF1, hA1⟩; unfold ptrTo)
      | (go_at_call 6; refine (awake_c _).mono ?_; rintro e w2 ⟨rfl, hB2⟩)
    all_goals go_ret
    all_goals exact ⟨rfl, hS1.rel.old.trans (hB2.mono hS1.rel.old.size)⟩
  · have ht5 : text.length ≤ 500 := by omega
    have hn5 : n ≤ 50 := by omega
    have ht5' : ¬ (500 : Int) < text.length := by omega
    have hn5' : ¬ (50 : Int) < n := by omega
    go_enter Tryz.func3, Tryz.ntmps3
    go_wp2_with first
      | (go_at_call 5; refine (begun_c text W).mono ?_; rintro e w1 ⟨m1, rfl, hS1, hF1, hA1⟩; unfold ptrTo)
      | (go_at_call 7; refine (tape_c hS1 hA1).mono ?_; rintro e w2 ⟨m2, rfl, hE2, hS2⟩)
      | (go_at_call 8; rw [← (hA1.ext hE2).2]; refine (open_c hS2 (hA1.ext hE2).1).mono ?_; rintro e w3 ⟨m3, rfl, hE3, hS3⟩)
      | (go_at_call 9; rw [← ((hA1.ext hE2).1.ext hE3).2]; refine (fork_c hS3 ((hA1.ext hE2).1.ext hE3).1).mono ?_; rintro e w4 ⟨m4, rfl, hE4, hS4⟩; unfold ptrTo)
    have hA3 := ((hA1.ext hE2).1.ext hE3).1
    have eS := (hA3.ext hE4).2
    have eF := (hF1.ext (hE2.trans (hE3.trans hE4))).2
    have hL0 : LInv W (shLay m4) (shPl m4) text 0 w4 := ⟨⟨shFs, shX1, by simpa using sh_start hS4, by simpa using sh_filed, rfl, rfl, rfl⟩, Nat.zero_le _⟩
    rw [← eS, ← eF, show Zz.bm m4 1011 = (shPl m4).S from rfl, show Zz.bm m4 1026 = (shPl m4).C from rfl, show Zz.bm m4 1005 = shLay m4 .F from rfl]
    clear eS eF hA3 hS4 hS3 hS2 hS1 hE4 hE3 hE2 hA1 hF1
    generalize shPl m4 = p at *
    generalize shLay m4 = lay at *
    go_loopw [11, 12] (fun g i V => ∃ q j : Nat, g = .string ⟨(text.take q).toArray⟩ ∧ i = .int .i64 j ∧ j ≤ n ∧ LInv W lay p text q V) (fun _ i _ => n - (intOf i).toNat)
    case atStart => exact ⟨0, 0, by simp, rfl, Nat.zero_le _, hL0⟩
    case round =>
      obtain ⟨q, j, rfl, rfl, hjn, hI⟩ := hrel
      by_cases hlt : j < n
      · have hlt2 : (j : Int) < n := by omega
        obtain ⟨rfl, hbl⟩ := hpt (by omega)
        obtain ⟨hzc, hz1, hz2⟩ := hz j hlt
        generalize zs j = z at hzc hz1 hz2
        obtain ⟨hbelow⟩ : Nonempty (Below W.heap.size W wr) := by obtain ⟨⟨s, x, hS, _⟩, _⟩ := hI; exact ⟨hS.below⟩
        have hzr : wr.cell? ⟨b, off + j, none⟩ = some (.int .i64 z) := by rw [World.cell?_of_block (hbelow.block b hbl)]; exact hzc
        obtain ⟨k, hk, hk5⟩ : ∃ k : Nat, (k : Int) = min (max z 0) 50 ∧ k ≤ 50 := ⟨(min (max z 0) 50).toNat, by omega, by omega⟩
        have hk' := Lib.hid hk
        clear hk
        by_cases hpar : z.tmod 2 = 0
        · have hp1 : ((z.tmod 2) != 0) = false := by simp [hpar]
          have HR := Lib.hid (round_read p.S k wr hI (.inl rfl) ht5 hk5)
          go_wp2_with fail
          all_goals refine (HR.out _ (by have := hk'.out; omega)).mono ?_
          all_goals rintro e V' ⟨t, rfl, htk, HW⟩
          all_goals have hl1 : (text.take q).length ≤ 500 := by rw [List.length_take]; omega
          all_goals have hl2 : t.length ≤ 500 := by rw [htk, List.length_take, List.length_drop]; omega
          all_goals have htk' := Lib.hid htk
          all_goals clear htk
          all_goals have HW' := Lib.hid HW
          all_goals clear HW
          all_goals have hts : (⟨t.toArray⟩ : ByteArray).size = t.length := rfl
          all_goals go_wp2_with (go_at_call 11; refine HW'.out.mono ?_; rintro e V2 ⟨rfl, hI2⟩)
          all_goals rw [take_more htk'.out]
          all_goals exact ⟨⟨q + t.length, j + 1, rfl, by rw [Int.natCast_add]; rfl, by omega, hI2⟩, by simp [intOf]; omega⟩
        · have hp1 : ((z.tmod 2) != 0) = true := by simp [hpar]
          have HR := Lib.hid (round_read p.C k wr hI (.inr rfl) ht5 hk5)
          go_wp2_with fail
          all_goals refine (HR.out _ (by have := hk'.out; omega)).mono ?_
          all_goals rintro e V' ⟨t, rfl, htk, HW⟩
          all_goals have hl1 : (text.take q).length ≤ 500 := by rw [List.length_take]; omega
          all_goals have hl2 : t.length ≤ 500 := by rw [htk, List.length_take, List.length_drop]; omega
          all_goals have htk' := Lib.hid htk
          all_goals clear htk
          all_goals have HW' := Lib.hid HW
          all_goals clear HW
          all_goals have hts : (⟨t.toArray⟩ : ByteArray).size = t.length := rfl
          all_goals go_wp2_with (go_at_call 11; refine HW'.out.mono ?_; rintro e V2 ⟨rfl, hI2⟩)
          all_goals rw [take_more htk'.out]
          all_goals exact ⟨⟨q + t.length, j + 1, rfl, by rw [Int.natCast_add]; rfl, by omega, hI2⟩, by simp [intOf]; omega⟩
      · have hjn2 : ¬ (j : Int) < n := by omega
        have HK := Lib.hid (last_walk wr hI ht5)
        have hts := take_self text q
        have hlq : (text.take q).length ≤ text.length := by rw [List.length_take]; omega
        clear hI hL0
        go_wp2_with (go_at_call 12; refine HK.out.mono ?_; rintro e V1 ⟨rfl, HR⟩; have HR' := Lib.hid HR; clear HR)
        refine HR'.out.mono ?_
        rintro e V2 ⟨rfl, hB⟩
        go_wp2_with (go_at_call 6; refine (awake_c _).mono ?_; rintro e w2 ⟨rfl, hB2⟩)
        go_ret
        have e4 : (text.take q == text.take (min q text.length)) = true := by
          rw [show text.take (min q text.length) = text.take q by rw [← List.length_take]; exact hts]
          simp
        exact ⟨congrArg (fun b => Ending.returned (Value.bool b)) e4, hB.trans (hB2.mono hB.size)⟩
end Go.Proofs.YtgooohccndjjdaaGreatDoor
