/- Texts of one proof, packed: GnI -/
import Derived.Test.YtggdedihfhibfaaGreatDoorR33
import Derived.StillTailTactics
set_option linter.unusedVariables false
set_option linter.unusedSimpArgs false
set_option linter.deprecated false
set_option linter.unnecessarySimpa false
/- Tree: what is made in both trees. -/
namespace Go.Proofs.YtggdedihfhibfaaGreatDoor
open Go.RowKit IntWalk
set_option linter.unusedVariables false
set_option linter.unusedSimpArgs false

/-- something that is made -/
structure MadeR where
  path : List UInt8
  dir : Bool
  to : List UInt8
def MadeR.small (m : MadeR) : Prop := m.path.length ≤ 100 ∧ m.to.length ≤ 100
structure MadeAt (W : World) (b o : Nat) (m : MadeR) : Prop where
  c0 : W.cell? ⟨b, o, none⟩ = some (.string ⟨m.path.toArray⟩)
  c1 : W.cell? ⟨b, o + 1, none⟩ = some (.bool m.dir)
  c2 : W.cell? ⟨b, o + 2, none⟩ = some (.string ⟨m.to.toArray⟩)
structure Mades (W : World) (v : Value) (L : List MadeR) : Prop where
  len : L.length ≤ maxLen
  shape : ∃ a cap, v = .slice a L.length cap ∧ (0 < L.length → ∃ b off, a = some ⟨b, off, none⟩ ∧ b < W.heap.size ∧ ∀ (i : Nat) (m : MadeR), L[i]? = some m → MadeAt W b (off + i * 3) m)
  ok : ∀ (i : Nat) (m : MadeR), L[i]? = some m → m.path.length ≤ maxLen ∧ m.to.length ≤ maxLen
theorem MadeAt.below {W W' : World} {b o : Nat} {m : MadeR} (h : MadeAt W b o m) (hb : Below W.heap.size W W') (hl : b < W.heap.size) : MadeAt W' b o m :=
  ⟨(hb.cell (p := ⟨b, o, none⟩) hl).trans h.c0, (hb.cell (p := ⟨b, o + 1, none⟩) hl).trans h.c1, (hb.cell (p := ⟨b, o + 2, none⟩) hl).trans h.c2⟩
def mk1 (s : Fs) (m : MadeR) : Fs := if m.to ≠ [] then (s.slinkS 1 m.to m.path).2 else if m.dir then (s.mkdirS 1 m.path).2 else (s.makeS 1 m.path).2.2
def treeS (L : List MadeR) : Fs := L.foldl mk1 beginS
theorem treeS_take {L : List MadeR} {k : Nat} {m : MadeR} (h : L[k]? = some m) : treeS (L.take (k + 1)) = mk1 (treeS (L.take k)) m := by
  unfold treeS
  rw [List.take_add_one, h]
  simp
section
variable {W0 : World}
set_option maxRecDepth 100000 in
set_option maxHeartbeats 2000000 in
theorem tree_any (W : World) (v : Value) (L : List MadeR) (hL : Mades W v L) (hE : EnvG W) (h15 : L.length ≤ 15) (hsm : ∀ (i : Nat) (m : MadeR), L[i]? = some m → m.small) :
    Calls Tryz.prog 10 #[v] W fun e w' => ∃ (F : Nat) (b : RB), e = .returned (.tuple #[ptrTo F, ptrTo b.F]) ∧ FT W F (treeS L) w' := by
  obtain ⟨a, cap, rfl, hsh⟩ := hL.shape
  have HB := Lib.hid (begun_t W hE)
  have HP := Lib.hid (fun (w1 : World) => plain_t w1)
  have HS := Lib.hid hsm
  clear hsm hL
  have HE := Lib.hid hE
  clear hE
  have HSH := Lib.hid hsh
  clear hsh
  unfold ptrTo at *
  go_enter Tryz.func10, Tryz.ntmps10
  go_wp2_with first
    | (go_at_call 21; (with_reducible refine HB.out.mono ?_); rintro e w1 ⟨F, rfl, h1⟩)
    | (go_at_call 22; (refine (HP.out w1).mono ?_); rintro e w2 ⟨b, rfl, h2⟩; have h3 := TwoT.join h1 h2; clear h1 h2)
  go_loopw [6] (fun i W' => ∃ k : Nat, i = .int .i64 k ∧ k ≤ L.length ∧ TwoT W F (treeS (L.take k)) b (6 + k) W') (fun i _ => L.length - (intOf i).toNat)
  case atStart => exact ⟨0, rfl, Nat.zero_le _, h3⟩
  case round =>
    obtain ⟨k, rfl, hk, hT⟩ := hrel
    by_cases hlt : k < L.length
    · obtain ⟨g, off, rfl, hg, hm⟩ := HSH.out (by omega)
      have hlk : L[k]? = some L[k] := List.getElem?_eq_getElem hlt
      have HM := Lib.hid (hm k _ hlk)
      have HM2 := Lib.hid (HS.out k _ hlk)
      have HTK := Lib.hid (treeS_take hlk)
      generalize L[k] = m at HM HM2 HTK
      obtain ⟨mp, md, mt⟩ := m
      obtain ⟨hs1, hs2⟩ := HM2.out
      have hmb := HM.out.below hT.below hg
      have HMB := Lib.hid (fun (V : World) (b' : RB) (M' : Nat) (s' : Fs) (hV : TwoT W F s' b' M' V) => HM.out.below hV.below hg)
      obtain ⟨c0, c1, c2⟩ := hmb
      have hkl : (k : Int) < (L.length : Int) := by omega
      dsimp only at hs1 hs2 c0 c1 c2
      clear hm hlk
      by_cases hto : mt = []
      · subst hto
        cases md
        · go_wp2_with first
            | (go_at_call 27; (refine (two_make hT HE.out 1 mp (by omega)).mono ?_); rintro e w5 ⟨⟨n5, c5, rfl⟩, h5⟩; obtain ⟨d0, d1, d2⟩ := HMB.out _ _ _ _ h5; dsimp only at d0 d1 d2)
            | (go_at_call 28; (refine (two_rmake h5 (by omega) 1 mp (by omega)).mono ?_); rintro e w6 ⟨⟨n6, c6, rfl⟩, h6⟩)
          go_roundw
          case rel => exact ⟨k + 1, by go_num, by omega, by rw [HTK.out]; exact h6⟩
          case measure => simp [intOf]; omega
        · go_wp2_with first
            | (go_at_call 25; (refine (two_mkdir hT HE.out 1 mp (by omega)).mono ?_); rintro e w5 ⟨⟨c5, rfl⟩, h5⟩; obtain ⟨d0, d1, d2⟩ := HMB.out _ _ _ _ h5; dsimp only at d0 d1 d2)
            | (go_at_call 26; (refine (two_rmkdir h5 (by omega) 1 mp (by omega)).mono ?_); rintro e w6 ⟨⟨c6, rfl⟩, h6⟩)
          go_roundw
          case rel => exact ⟨k + 1, by go_num, by omega, by rw [HTK.out]; exact h6⟩
          case measure => simp [intOf]; omega
      · have hte : mt.isEmpty = false := by cases mt with | nil => exact absurd rfl hto | cons => rfl
        have hTd := hT.drewN 1
        go_wp2
        go_still_tail 11, (by kernel_rfl)
        change wpList _ _ _ _ _ wr.drew
        go_wp2_with (go_at_call 23; (refine (two_slink hTd HE.out 1 mt mp (by omega)).mono ?_); rintro e w5 ⟨⟨c5, rfl⟩, h5⟩; obtain ⟨d0, d1, d2⟩ := HMB.out _ _ _ _ h5; dsimp only at d0 d1 d2)
        have h5d := h5.drewN 1
        go_still_tail 11, (by kernel_rfl)
        change wpList _ _ _ _ _ w5.drew
        go_wp2_with (go_at_call 24; (refine (two_rslink h5d (by omega) 1 mt mp (by omega) (by omega)).mono ?_); rintro e w6 ⟨⟨c6, rfl⟩, h6⟩)
        go_roundw
        case rel => exact ⟨k + 1, by go_num, by omega, by rw [HTK.out]; unfold mk1; rw [if_pos hto]; exact h6⟩
        case measure => simp [intOf]; omega
    · obtain rfl : k = L.length := by omega
      go_wp2
      go_ret2
      refine ⟨F, b, rfl, ?_⟩
      have := hT.one
      rwa [List.take_length] at this
end
end Go.Proofs.YtggdedihfhibfaaGreatDoor
