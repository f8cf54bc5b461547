/- Texts of one proof, packed: RfD -/
import Derived.Test.YtggdedihfhibfaaGreatDoorR08
set_option linter.unusedVariables false
set_option linter.unusedSimpArgs false
set_option linter.deprecated false
set_option linter.unnecessarySimpa false
/- The document's table: used, left, Untie. -/
namespace Go.Proofs.YtggdedihfhibfaaGreatDoor
open Go.RowKit IntWalk
set_option linter.unusedVariables false
set_option linter.unusedSimpArgs false

section
variable {N M M' : Nat} {b : RB} {O O' : Nat → Prop} {w w' : World}
set_option maxRecDepth 100000 in
theorem left_r (h : RIs N M b O w) (j : Nat) (hj : j ≤ N) : Calls Tryz.prog 136 #[ptrTo b.T, .int .i64 j] w fun e w' => (∃ v, e = .returned v) ∧ RStep N M b O w M O w' := by
  have hN := h.small
  obtain ⟨k, n, u, s, v, hn, hv, hk, hs⟩ := h.node (i := j) (by omega)
  have n1 := hn.c1
  have n2 := hn.c2
  have c0 := h.t0
  have hth := h.thereNd j hj
  have hlt : (j : Int) < (N : Int) + 1 := by omega
  have HR := Lib.hid (RStep.refl h)
  have HF := Lib.hid (show RStep N M b O w M O (w.setCells b.L (j * 5) [.int .i64 0, .int .i64 0, .int .i64 0, .string ⟨#[]⟩, .slice none 0 0]) from ⟨h.setNd5 j hj 0 0 0 [] _ (.inl rfl) (.inl rfl) (by simp), Turned.setCells _ (fun _ => h.oL) _ _ _ (Turned.refl _ _), fun _ q => .inl q⟩)
  clear hn hv hk hs h
  unfold ptrTo at *
  by_cases e1 : n = 0
  · subst e1
    by_cases e2 : u = 0
    · subst e2
      go_enter Tryz.func136, Tryz.ntmps136
      go_wp2_with (refine wpList_store_mid rfl 164 _ _ rfl b.L (j * 5) #[.int .i64 0, .int .i64 0, .int .i64 0, .string ⟨#[]⟩, .slice none 0 0] rfl rfl hth (by kernel_rfl) (by simp [Value.oneCell']) ?_)
      go_end0
      exact ⟨⟨_, rfl⟩, HF.out⟩
    · go_enter Tryz.func136, Tryz.ntmps136
      go_wp2
      go_end0
      exact ⟨⟨_, rfl⟩, HR.out⟩
  · go_enter Tryz.func136, Tryz.ntmps136
    go_wp2
    go_end0
    exact ⟨⟨_, rfl⟩, HR.out⟩
set_option maxRecDepth 100000 in
theorem untie_r (h : RIs N M b O w) (i : Int) : Calls Tryz.prog 98 #[ptrTo b.T, .int .i64 i] w fun e w' => (∃ c, e = .returned (.int .i64 c)) ∧ RStep N M b O w M O w' := by
  have hN := h.small
  by_cases hi : 1 ≤ i ∧ i ≤ N
  · obtain ⟨j, rfl⟩ : ∃ j : Nat, i = j := ⟨i.toNat, by omega⟩
    obtain ⟨k, n, u, s, v, hn, hv, hk, hs⟩ := h.node (i := j) (by omega)
    have HI := Lib.hid (is_yes h j (by omega) (by omega) hn)
    have n1 := hn.c1
    have z1 := hn.fz (j * 5 + 1)
    have c0 := h.t0
    have hlt : (j : Int) < (N : Int) + 1 := by omega
    have HR := Lib.hid (RStep.refl h)
    by_cases hkk : 0 < k
    · have hd : decide (0 < k) = true := by simpa using hkk
      rw [hd] at HI
      have hst := fun m => (h.stepSet ((RStep.refl h).drewN 1) ⟨b.L, j * 5 + 1, none⟩ (.int .i64 m) h.oL ((h.drewN 1).setNU j 1 (by omega) (.inl rfl) m))
      have HL := fun m => Lib.hid ((left_r (hst m).is j (by omega)).mono (R' := fun e w' => (∃ v, e = .returned v) ∧ RStep N M b O w M O w') (by rintro e w' ⟨h1, h2⟩; exact ⟨h1, (hst m).trans h2⟩))
      clear hn hv hk hs h hst
      unfold ptrTo at *
      by_cases e1 : n = 0
      · subst e1
        go_enter Tryz.func98, Tryz.ntmps98
        go_wp2_with (go_at_call 129; (with_reducible refine HI.out.mono ?_); rintro e w' ⟨rfl, rfl⟩)
        go_ret
        exact ⟨⟨_, rfl⟩, HR.out⟩
      · go_enter Tryz.func98, Tryz.ntmps98
        go_wp2_with (go_at_call 129; (with_reducible refine HI.out.mono ?_); rintro e w' ⟨rfl, rfl⟩)
        go_still_tail 16, (by kernel_rfl)
        change wpList _ _ _ _ _ w.drew
        go_wp2_with (go_at_call 136; (refine (HL _).out.mono ?_); rintro e w' ⟨⟨v9, rfl⟩, hst⟩)
        go_ret
        exact ⟨⟨_, rfl⟩, hst⟩
    · have hd : decide (0 < k) = false := by simpa using hkk
      rw [hd] at HI
      clear hn hv hk hs h
      unfold ptrTo at *
      go_enter Tryz.func98, Tryz.ntmps98
      go_wp2_with (go_at_call 129; (with_reducible refine HI.out.mono ?_); rintro e w' ⟨rfl, rfl⟩)
      go_ret
      exact ⟨⟨_, rfl⟩, HR.out⟩
  · have HI := Lib.hid (is_no h i hi)
    have HR := Lib.hid (RStep.refl h)
    clear h
    unfold ptrTo at *
    go_enter Tryz.func98, Tryz.ntmps98
    go_wp2_with (go_at_call 129; (with_reducible refine HI.out.mono ?_); rintro e w' ⟨rfl, rfl⟩)
    go_ret
    exact ⟨⟨_, rfl⟩, HR.out⟩
theorem used_r (h : RIs N M b O w) : Calls Tryz.prog 130 #[ptrTo b.T] w fun e w' => (∃ c, e = .returned (.int .i64 c)) ∧ w = w' := by
  have hN := h.small
  have c0 := h.t0
  have H := Lib.hid h
  clear h
  unfold ptrTo at *
  go_enter Tryz.func130, Tryz.ntmps130
  go_wp2
  go_loop [3, 4] (fun a c => ∃ (n : Int) (i : Nat), a = .int .i64 n ∧ c = .int .i64 i ∧ i ≤ N + 1) (fun _ c => N + 1 - (intOf c).toNat)
  case atStart => exact ⟨0, 0, rfl, rfl, by omega⟩
  case round =>
    obtain ⟨n, i, rfl, rfl, hi⟩ := hrel
    by_cases hlt : i < N + 1
    · obtain ⟨k, n0, u, s, v, hn, hv, hk, hs⟩ := H.out.node (i := i) (by omega)
      have c4 := hn.c4
      rcases hv with rfl | ⟨g, cs, rfl, ho, hh, hsz, hb⟩
      · clear hn hk
        go_wp2
        go_loop [3, 5] (fun a c => ∃ n : Int, a = .int .i64 n ∧ c = .int .i64 0) (fun _ _ => 0)
        case atStart => exact ⟨_, rfl, rfl⟩
        case round =>
          obtain ⟨n, rfl, rfl⟩ := hrel
          go_wp2
          go_round
          case rel => exact ⟨_, i + 1, rfl, by go_num, by omega⟩
          case measure => simp [intOf]; omega
      · have hcell : ∀ j, j < 64 → ∃ t, w.cell? ⟨g, j, none⟩ = some (.bool t) := fun j hj => by
          obtain ⟨t, ht⟩ := hb j hj
          exact ⟨t, by simp [World.cell?, hh, ht]⟩
        clear hn hk hb hh ho
        go_wp2
        go_loop [3, 5] (fun a c => ∃ (n : Int) (j : Nat), a = .int .i64 n ∧ c = .int .i64 j ∧ j ≤ 64) (fun _ c => 64 - (intOf c).toNat)
        case atStart => exact ⟨_, 0, rfl, rfl, by omega⟩
        case round =>
          obtain ⟨n, j, rfl, rfl, hj⟩ := hrel
          by_cases hj2 : j < 64
          · obtain ⟨t, ht⟩ := hcell j hj2
            cases t
            · go_wp2
              go_round
              case rel => exact ⟨_, j + 1, rfl, by go_num, by omega⟩
              case measure => simp [intOf]; omega
            · go_wp2
              go_round
              case rel => exact ⟨_, j + 1, rfl, by go_num, by omega⟩
              case measure => simp [intOf]; omega
          · obtain rfl : j = 64 := by omega
            go_wp2
            go_round
            case rel => exact ⟨_, i + 1, rfl, by go_num, by omega⟩
            case measure => simp [intOf]; omega
    · obtain rfl : i = N + 1 := by omega
      go_wp2
      go_ret
      exact ⟨⟨_, rfl⟩, rfl⟩
end
end Go.Proofs.YtggdedihfhibfaaGreatDoor
