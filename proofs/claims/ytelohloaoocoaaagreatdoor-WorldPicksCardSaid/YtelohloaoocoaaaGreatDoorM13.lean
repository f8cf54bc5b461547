/- Texts of one proof, packed: WyP -/
import Derived.Test.YtelohloaoocoaaaGreatDoorM12
set_option linter.unusedVariables false
set_option linter.unusedSimpArgs false
set_option linter.deprecated false
set_option linter.unnecessarySimpa false
/- conchlaw23.WorldPicks: it returns true at every row of numbers, every number, every row of picks, in every world that holds them, and changes nothing that was there. No other condition. -/
namespace Go.Proofs.YtelohloaoocoaaaGreatDoor
open Go.RowKit IntWalk
set_option linter.unusedVariables false
set_option linter.unusedSimpArgs false

theorem pick_fn (w : World) (pick : Int) (n j : Nat) (r0 : Int) (h : PickAt pick n j r0) (hn : n ≤ 1000) (hp : -9223372036854775808 ≤ pick ∧ pick ≤ 9223372036854775807) :
    Calls Tryz.prog 12 #[.int .i64 pick, .int .i64 n] w fun e w' => e = .returned (.int .i64 j) ∧ w' = w := by
  obtain ⟨h1, h2, h3, h4, h5⟩ := h
  have hn0 : 0 < n := by omega
  go_enter Tryz.func12, Tryz.ntmps12
  go_wp2
  go_ret
  exact ⟨rfl, rfl⟩
set_option maxHeartbeats 1000000 in
set_option maxRecDepth 100000 in
theorem picks_any (W : World) (v1 : Value) (n : Nat) (zs : Nat → Int) (hN : Nums W v1 n zs) (pc : Int) (hpc : -9223372036854775808 ≤ pc ∧ pc ≤ 9223372036854775807) (v3 : Value) (n3 : Nat) (zs3 : Nat → Int) (hN3 : Nums W v3 n3 zs3) :
    Calls Tryz.prog 4 #[v1, .int .i64 pc, v3] W fun e w' => e = .returned (.bool true) ∧ Below W.heap.size W w' := by
  have HBG := Lib.hid (begun_any W v1 n zs hN pc hpc.1 hpc.2)
  have HN3 := Lib.hid hN3
  obtain ⟨q3, c3, rfl⟩ := hN3.len
  obtain ⟨q1, c1, rfl⟩ := hN.len
  clear hN hN3 hpc
  by_cases hsm : Small8 n zs ∧ 1 ≤ pc ∧ pc ≤ 100
  · by_cases hn200 : 0 < n3 ∧ n3 ≤ 200
    · obtain ⟨hn0, hn200⟩ := hn200
      have hnb : ((n3 : Int) == 0) = false := by simp; omega
      go_enter Tryz.func4, Tryz.ntmps4
      go_wp2_with (go_at_call 6; refine HBG.out.mono ?_; rintro e w1 ⟨hB1, hor⟩; obtain ⟨p, s, l, x, lw, hS, hok, htl, hpp, rfl⟩ := (hor.resolve_left (fun q => q.1 hsm)).2; have HS := Lib.hid hS; have HP := Lib.hid (PicksAt.of_nums HN3.out hn0 hS); clear hS hor; unfold ptrOf)
      obtain ⟨b, off, cap, hsl, hP⟩ := HP.out
      cases hsl
      have hmu := HS.out.iv.mu_le hok
      have HP2 := Lib.hid hP
      clear hP
      go_loopw [9] (fun iv V => ∃ (k : Nat) (f' : Fam) (s' : Ks) (l' : Ly) (x' : Wx) (lw' : WId → Nat), iv = .int .i64 k ∧ k + f'.mu p.n ≤ (Fam.start p.tl).mu p.n ∧ Seen W p f' s' l' x' lw' V ∧ lw' .W = lw .W ∧ PicksAt (Owns (allC s' l' x' lw') (allL l' lw')) V (.slice (some ⟨b, off, none⟩) n3 c3) n3 zs3) (fun iv _ => 5000 - (intOf iv).toNat)
      case atStart => exact ⟨0, _, s, l, x, lw, rfl, by omega, HS.out, rfl, HP.out⟩
      case round =>
        obtain ⟨k, f1, s1, l1, x1, lw1, rfl, hk, hS1, htop, hP1⟩ := hrel
        have hk5 : k ≤ 900 := by omega
        obtain ⟨j0, hj0, hj0n⟩ := mod_of k n3 hn0
        obtain ⟨b', off', cap', hsl, hbl, hbo, hz⟩ := hP1
        cases hsl
        obtain ⟨hz1, hz2, hz3⟩ := hz j0 hj0n
        have HP1 := Lib.hid (show PicksAt (Owns (allC s1 l1 x1 lw1) (allL l1 lw1)) wr (.slice (some ⟨b, off, none⟩) n3 c3) n3 zs3 from ⟨b, off, c3, rfl, hbl, hbo, hz⟩)
        generalize hzz : zs3 j0 = z at hz1 hz2 hz3
        have HS1 := Lib.hid hS1
        have HWK := Lib.hid (wkernel wr hS1.al)
        rw [htop] at HWK
        unfold ptrOf at HWK
        clear hS1 hz hbo hzz
        go_wp2_with (go_at_call 9; refine HWK.out.mono ?_; rintro e w2 ⟨rfl, hB2⟩; have HS2 := Lib.hid (HS1.out.below hB2); have HB2 := Lib.hid hB2; have HRD := Lib.hid (kready_any w2 HS2.out.al.ks (HS2.out.ready_of hok)); clear hB2; unfold ptrOf at HRD)
        go_wp2_with (go_at_call 10; refine HRD.out.mono ?_; rintro e w3 ⟨v, rfl, hB3, hO, hv⟩; have HB3 := Lib.hid hB3; have HO := Lib.hid hO; have HV := Lib.hid hv; have hz4 : w3.cell? ⟨b, off + j0, none⟩ = some (.int .i64 z) := (by
          rw [World.cell?_of_block (HB3.out.block b (Nat.lt_of_lt_of_le hbl HB2.out.size)), World.cell?_of_block (HB2.out.block b hbl)]; exact hz1); clear hB3 hO hv hz1)
        have HS3 := Lib.hid (HS2.out.below HB3.out)
        have HP3 := Lib.hid ((HP1.out.step ((AStep.refl HS1.out.al).below HB2.out)).step ((AStep.refl HS2.out.al).below HB3.out))
        clear HP1
        by_cases hr : s1.t.ready = []
        · have hv0 := HV.out hr
          subst hv0
          have HN := Lib.hid (seen_none hok HS3.out z hr)
          rw [htop] at HN
          unfold ptrOf at HN
          go_wp2_with first
            | (go_at_call 11; refine HN.out.mono ?_; rintro e w4 ⟨rfl, hS4, hA4⟩; have HS4 := Lib.hid hS4; clear hS4 hA4; unfold Z14)
            | (go_at_call 7; refine (awake_c _).mono ?_; rintro e w10 ⟨rfl, hB10⟩)
          go_ret
          exact ⟨rfl, (HS4.out.below (below_alloc _ _)).old.trans (hB10.mono (HS4.out.below (below_alloc _ _)).old.size)⟩
        · obtain ⟨j, r0, i, hpk, hji⟩ := ready_pick HS3.out z hr
          have HN := Lib.hid (seen_some hok HS3.out z hpk hji)
          have hrl : s1.t.ready.length ≤ 1000 := by have := (HS3.out.iv.es hok HS3.out.al.ok.t).2; omega
          have HPK := Lib.hid (fun w' => pick_fn w' z s1.t.ready.length j r0 hpk hrl ⟨hz2, hz3⟩)
          have hpos : 0 < s1.t.ready.length := List.length_pos_iff.2 hr
          have hjl := hpk.lt
          obtain ⟨g, cap, rfl, hg1, hg2, hcap, hcells⟩ : ∃ g cap, v = .slice (some ⟨g, 0, none⟩) s1.t.ready.length cap ∧ w2.heap.size ≤ g ∧ g < w3.heap.size ∧ s1.t.ready.length ≤ cap ∧ ∀ (j : Nat) (x : Int), s1.t.ready[j]? = some x → w3.cell? ⟨g, j, none⟩ = some (.int .i64 x) := by
            rcases HO.out.at with ⟨_, q⟩ | q
            · exact absurd q hr
            · exact q
          have hcell := hcells j i hji
          have HNO := Lib.hid (show ¬ Owns (allC s1 l1 x1 lw1) (allL l1 lw1) g from fun ho => by have := HS2.out.al.lies.owns_lt ho; omega)
          rw [htop] at HN
          unfold ptrOf at HN
          generalize s1.t.ready.length = rl at *
          have hrb : ((rl : Int) == 0) = false := by simp; omega
          clear hr hpk hji hcells
          go_wp2_with first
            | (go_at_call 11; refine HN.out.mono ?_; rintro e w4 ⟨kk, fd, d, er, nn, mm, rfl, f2, s2, l2, x2, lw2, hS4, hA4, hm2, _, _⟩; have HS4 := Lib.hid hS4; have HA4 := Lib.hid hA4; have hcell4 : w4.cell? ⟨g, j, none⟩ = some (.int .i64 i) := (by rw [World.cell?_of_block (hA4.g.turned.block g hg2 HNO.out)]; exact hcell); clear hS4 hA4 hcell; unfold dnV)
            | (go_at_call 12; refine (HPK.out _).mono ?_; rintro e w5 ⟨rfl, rfl⟩)
          have HS5 := Lib.hid (HS4.out.below (below_alloc w4 (.cells (dnV i kk fd d er nn mm) 39)))
          have HP5 := Lib.hid ((HP3.out.step HA4.out).step ((AStep.refl HS4.out.al).below (below_alloc w4 (.cells (dnV i kk fd d er nn mm) 39))))
          have hA5 := HA4.out.topW
          have hdc : (w4.alloc (.cells (dnV i kk fd d er nn mm) 39)).cell? ⟨w4.heap.size, 0, none⟩ = some (.int .i64 i) := by simp only [World.cell?, heap_alloc_new]; rfl
          have hgc : (w4.alloc (.cells (dnV i kk fd d er nn mm) 39)).cell? ⟨g, j, none⟩ = some (.int .i64 i) := by
            rw [World.cell?_of_block ((below_alloc _ _).block g (Nat.lt_of_lt_of_le hg2 HA4.out.g.turned.size))]; exact hcell4
          unfold dnV at HS5 HP5 hdc hgc
          clear hcell4 hz4 hj0
          generalize w4.alloc (.cells #[.int .i64 i, .int .i64 kk, .int .i64 fd, .int .i64 0, .string ByteArray.empty, .string ⟨d.toArray⟩, .int .i64 er, .int .i64 nn, .int .i64 mm, .string ByteArray.empty, .slice none 0 0, .int .i64 0, .int .i64 0, .int .i64 0] 39) = w5 at *
          go_quiet ((go_at_call 12; exact Calls.quiet_of_same (HPK.out _)))
          go_wp2_with fail
          exact ⟨⟨k + 1, f2, s2, l2, x2, lw2, by go_num, by omega, HS5.out.below ⟨rfl, rfl, rfl, Nat.le_refl _, fun _ _ => rfl⟩, hA5.trans htop, HP5.out⟩, by simp [intOf]; omega⟩
    · have hn3b : (decide ((n3 : Int) = 0) || decide (200 < (n3 : Int))) = true := by simp; omega
      have hn3c : ((n3 : Int) == 0 || decide (200 < (n3 : Int))) = true := by simp; omega
      go_enter Tryz.func4, Tryz.ntmps4
      go_wp2_with first
        | (go_at_call 6; refine HBG.out.mono ?_; rintro e w1 ⟨hB1, hor⟩; obtain ⟨p, s, l, x, lw, hS, hok, htl, hpp, rfl⟩ := (hor.resolve_left (fun q => q.1 hsm)).2; unfold ptrOf)
        | (go_at_call 7; refine (awake_c _).mono ?_; rintro e w10 ⟨rfl, hB10⟩)
      all_goals go_ret
      all_goals exact ⟨rfl, hB1.trans (hB10.mono hB1.size)⟩
  · go_enter Tryz.func4, Tryz.ntmps4
    go_wp2_with first
      | (go_at_call 6; refine HBG.out.mono ?_; rintro e w1 ⟨hB1, ⟨_, rfl⟩ | ⟨hno, p, s, l, x, lw, hS, hok, htl, hpp, rfl⟩⟩; rotate_left; · exact absurd hno hsm)
      | (go_at_call 7; refine (awake_c _).mono ?_; rintro e w10 ⟨rfl, hB10⟩)
    all_goals go_ret
    all_goals exact ⟨rfl, hB1.trans (hB10.mono hB1.size)⟩
end Go.Proofs.YtelohloaoocoaaaGreatDoor
