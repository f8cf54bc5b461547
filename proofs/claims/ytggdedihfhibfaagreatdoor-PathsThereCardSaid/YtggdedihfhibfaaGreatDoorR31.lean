/- Texts of one proof, packed: RfF, RfG, RfH, RfI, RfJ, RfK -/
import Derived.Test.YtggdedihfhibfaaGreatDoorR30
import Derived.Test.YtggdedihfhibfaaGreatDoorR18
import Derived.Test.YtggdedihfhibfaaGreatDoorOwn
set_option linter.unusedVariables false
set_option linter.unusedSimpArgs false
set_option linter.deprecated false
set_option linter.unnecessarySimpa false
/- The document's table: Write, from the first byte on. -/
namespace Go.Proofs.YtggdedihfhibfaaGreatDoor
open Go.RowKit IntWalk
set_option linter.unusedVariables false
set_option linter.unusedSimpArgs false

section
variable {N M M' : Nat} {b : RB} {O O' : Nat → Prop} {w w' : World}
/-- bytes of nought -/
def zerosO (k : Nat) : Obj := .cells (List.replicate k (byteV 0)).toArray 5
theorem make_zeros (w : World) (k : Nat) (hk : k ≤ 100000) : (Instr.makeSlice 76 (.int .i64 k) (.int .i64 k)).run Tryz.prog w = .ok (.slice (some ⟨w.heap.size, 0, none⟩) k k) (w.alloc (zerosO k)) :=
  run_make_bytes (P := Tryz.prog) (t := 76) Tryz.underlying76 (by kernel_rfl) w k (by omega)
def zerosL (k : Nat) : List UInt8 := List.replicate k 0
theorem zerosL_len (k : Nat) : (zerosL k).length = k := List.length_replicate
theorem conv_zeros (w : World) (k : Nat) (hk : k ≤ 100000) : (convert 76 9 (.slice (some ⟨w.heap.size, 0, none⟩) k k)).run Tryz.prog (w.alloc (zerosO k)) = .ok (.string ⟨(zerosL k).toArray⟩) (w.alloc (zerosO k)) := by
  unfold zerosL
  have := run_convert_bytes_back (P := Tryz.prog) (w.alloc (zerosO k)) 76 9 5 ⟨w.heap.size, 0, none⟩ k (List.replicate k 0) (by kernel_rfl) (by kernel_rfl) (by kernel_rfl) (by
    intro j hv
    have e : (⟨w.heap.size, 0, none⟩ : Addr).add j = ⟨w.heap.size, j, none⟩ := by unfold Addr.add; split <;> simp_all
    rw [e]
    simp only [List.length_replicate] at hv
    simp only [World.cell?, r_alloc_at, zerosO]
    simp [byteV, hv])
  simpa using this
/-- a truth value of a node's own is set -/
theorem RIs.stepSet2 (h : RIs N M b O w) {w1 : World} (hs : RStep N M b O w M O w1) (a : Addr) (v : Value) (ho : O a.block) (hi : RIs N M b O (w1.setCell a v)) : RStep N M b O w M O (w1.setCell a v) :=
  ⟨hi, hs.turned.set a v (fun _ => ho), hs.own⟩
theorem RStep.setHas {w1 : World} (h : RStep N M b O w M O w1) {g : Nat} {cs : Array Value} (hg : w1.heap[g]? = some (.cells cs 4 (0, 0))) (ho : O g) (hs : cs.size = 64) (hb : ∀ j, j < 64 → ∃ t, cs[j]? = some (.bool t)) (k : Nat) (t : Bool) :
    RStep N M b O w M O (w1.setCell ⟨g, k, none⟩ (.bool t)) ∧ (w1.setCell ⟨g, k, none⟩ (.bool t)).heap[g]? = some (.cells (cs.setIfInBounds k (.bool t)) 4 (0, 0)) ∧ (cs.setIfInBounds k (.bool t)).size = 64 ∧ (∀ j, j < 64 → ∃ t', (cs.setIfInBounds k (.bool t))[j]? = some (.bool t')) := by
  have hb' : ∀ j, j < 64 → ∃ t', (cs.setIfInBounds k (.bool t))[j]? = some (.bool t') := fun j hj => by
    obtain ⟨t0, h0⟩ := hb j hj
    rw [setB_get cs k j _ _ h0]
    split
    · exact ⟨_, rfl⟩
    · exact ⟨_, rfl⟩
  exact ⟨⟨h.is.putH hg (fun q hq => set_ne _ _ _ _ _ hq) (set_row hg) (by simpa using hs) hb', h.turned.set _ _ (fun _ => ho), h.own⟩, set_row hg, by simpa using hs, hb'⟩
/-- a node's bytes are others -/
theorem RIs.setData (h : RIs N M b O w) (i : Nat) (hi : i ≤ N) (d : List UInt8) (hd : d.length ≤ 5000) : RIs N M b O (w.setCell ⟨b.L, i * 5 + 3, none⟩ (.string ⟨d.toArray⟩)) := by
  obtain ⟨cs, l1, l2, l3⟩ := h.l
  refine h.putL (fun k hk => set_ne _ _ _ _ _ hk) (set_row l1) (by simpa using l2) fun j hj => ?_
  obtain ⟨k, n0, u, s, v, h1, h2, h3, h4, h5, h6, h7, h8⟩ := l3 j hj
  have e1 := setB_get cs (i * 5 + 3) _ (.string ⟨d.toArray⟩) _ h1
  have e2 := setB_get cs (i * 5 + 3) _ (.string ⟨d.toArray⟩) _ h2
  have e3 := setB_get cs (i * 5 + 3) _ (.string ⟨d.toArray⟩) _ h3
  have e4 := setB_get cs (i * 5 + 3) _ (.string ⟨d.toArray⟩) _ h4
  have e5 := setB_get cs (i * 5 + 3) _ (.string ⟨d.toArray⟩) _ h5
  rw [if_neg (by omega)] at e1 e2 e3 e5
  by_cases q : i * 5 + 3 = j * 5 + 3
  · rw [if_pos q] at e4
    exact ⟨k, n0, u, d, v, e1, e2, e3, e4, e5, h6, h7, hd⟩
  · rw [if_neg q] at e4
    exact ⟨k, n0, u, s, v, e1, e2, e3, e4, e5, h6, h7, h8⟩
/-- what the writing keeps -/
def RWInv (g j : Nat) (b : RB) (W : World) : Prop := (∃ cs, W.heap[g]? = some (.cells cs 4 (0, 0)) ∧ cs.size = 64 ∧ ∀ j, j < 64 → ∃ t, cs[j]? = some (.bool t)) ∧ W.cell? ⟨b.L, j * 5 + 4, none⟩ = some (.slice (some ⟨g, 0, none⟩) 64 64)
def whyN (v : Value) : Nat := match v with | .int _ 0 => 1 | _ => 0
set_option maxRecDepth 100000 in
set_option maxHeartbeats 1000000 in
theorem write_r (h : RIs N M b O w) (i : Int) (d : List UInt8) (hd : d.length ≤ 400) : Calls Tryz.prog 93 #[ptrTo b.T, .int .i64 i, .int .i64 0, .string ⟨d.toArray⟩] w fun e w' => (∃ n c : Int, e = .returned (.tuple #[.int .i64 n, .int .i64 c])) ∧ RStep N M b O w M O w' := by
  have hN := h.small
  have HR := Lib.hid (RStep.refl h)
  by_cases hi : ∃ (j : Nat) (k n u : Int) (s : List UInt8) (v : Value), i = j ∧ 1 ≤ j ∧ j ≤ N ∧ NdIs b w j k n u s v ∧ 0 < k ∧ HasAt O w v ∧ (k = 0 ∨ v ≠ .slice none 0 0)
  · obtain ⟨j, kk, n, u, s, v, rfl, h1, hj, hn, hk0, hv, hvk⟩ := hi
    have HI := Lib.hid (show Calls Tryz.prog 129 #[ptrTo b.T, .int .i64 j] w fun e w' => e = .returned (.bool true) ∧ w = w' from by have := is_yes h j h1 hj hn; rwa [show decide (0 < kk) = true by simpa using hk0] at this)
    rcases hv with rfl | ⟨g, cs, rfl, ho, hg, hsz, hb⟩
    · rcases hvk with q | q
      · omega
      · exact absurd rfl q
    have c0 := h.t0
    have c4 := hn.c4
    obtain ⟨m, ht⟩ := h.t
    have t1 : w.cell? ⟨b.T, 1, none⟩ = some (.int .i64 m) := by simp [World.cell?, ht]
    have HU := Lib.hid (show Calls Tryz.prog 130 #[ptrTo b.T] w.drew fun e w' => (∃ c, e = .returned (.int .i64 c)) ∧ w.drew = w' from used_r (h.drewN 1))
    have HO := Lib.hid ho
    have hTL : b.T ≠ b.L := by obtain ⟨cl, l1, _⟩ := h.l; exact ty_ne ht l1 (by decide)
    have hgL : g ≠ b.L := by obtain ⟨cl, l1, _⟩ := h.l; exact ty_ne hg l1 (by decide)
    clear hn hvk ho
    unfold ptrTo at *
    go_enter Tryz.func93, Tryz.ntmps93
    go_wp2_with (go_at_call 129; (with_reducible refine HI.out.mono ?_); rintro e w' ⟨rfl, rfl⟩)
    go_region_held3 (fun W => W.cell? ⟨b.T, 1, none⟩ = some (.int .i64 m)) (first | exact t1 | go_keep) (first | (go_at_call 130; (with_reducible refine HU.out.mono ?_); rintro e w2 ⟨⟨fr, rfl⟩, rfl⟩))
    have HW := Lib.hid (show RStep N M b O w M O w.drew from (RStep.refl h).drewN 1)
    have HG := Lib.hid (show RWInv g j b w.drew from ⟨⟨cs, hg, hsz, hb⟩, c4⟩)
    clear hg hsz hb c0 c4 ht t1 HU HI h
    generalize w.drew = w2 at *
    go_wp2
    go_loopw [10, 11, 12] (fun fv mv yv W => ∃ (fr y : Int) (k : Nat), fv = .int .i64 fr ∧ mv = .int .i64 k ∧ yv = .int .i64 y ∧ k ≤ d.length ∧ RStep N M b O w M O W ∧ RWInv g j b W) (fun _ mv yv _ => 2 * (d.length - (intOf mv).toNat) + whyN yv)
    case atStart => exact ⟨_, 0, 0, rfl, rfl, rfl, by omega, HW.out, HG.out⟩
    case round =>
      obtain ⟨fr, y, k, rfl, rfl, rfl, hkd, hst, ⟨cs, hg, hsz, hb⟩, c4⟩ := hrel
      have c0 := hst.is.t0
      by_cases hlt : k < d.length
      · by_cases hy : y = 0
        · subst hy
          have hq := Lib.hid (show (k : Int) / 64 = ((k / 64 : Nat) : Int) by omega)
          obtain ⟨t, ht⟩ := hb (k / 64) (by omega)
          have ct : wr.cell? ⟨g, k / 64, none⟩ = some (.bool t) := by simp [World.cell?, hg, ht]
          have hk64 : ((k / 64 : Nat) : Int) < 64 := by omega
          have zg : wr.frozen? ⟨g, k / 64, none⟩ = false := by simp [World.frozen?, hg]
          cases t
          · by_cases hf : fr = 0
            · subst hf
              go_wp2
              go_roundw
              case rel => exact ⟨_, 20, k, rfl, rfl, rfl, by omega, hst, ⟨cs, hg, hsz, hb⟩, c4⟩
              case measure => simp [whyN]
            · obtain ⟨q1, q2, q3, q4⟩ := hst.setHas hg HO.out hsz hb (k / 64) true
              go_wp2
              go_roundw
              case rel => exact ⟨_, 0, k + 1, rfl, by go_num, rfl, by omega, q1, ⟨_, q2, q3, q4⟩, by rw [World.cell?_of_block (set_ne _ _ _ _ _ (Ne.symm hgL))]; exact c4⟩
              case measure => simp [whyN, intOf]; omega
          · go_wp2
            go_roundw
            case rel => exact ⟨_, 0, k + 1, rfl, by go_num, rfl, by omega, hst, ⟨cs, hg, hsz, hb⟩, c4⟩
            case measure => simp [whyN, intOf]; omega
        · by_cases hk9 : k = 0
          · subst hk9
            go_wp2
            go_ret2
            exact ⟨⟨_, _, rfl⟩, hst⟩
          · obtain ⟨k9, n9, u9, s9, v9, hn9, hv9, hvk9, hs9⟩ := hst.is.node hj
            have c3 := hn9.c3
            have z3 := hn9.fz (j * 5 + 3)
            clear hn9 hv9 hvk9 hg hb
            have x1 : (j : Int) < (N : Int) + 1 := by omega
            by_cases hle : k ≤ s9.length
            · have HF := Lib.hid (fun (q : List UInt8) (hq : q.length ≤ 5000) => hst.trans (hst.is.stepSet2 ((RStep.refl hst.is).drewN 1) ⟨b.L, j * 5 + 3, none⟩ (.string ⟨q.toArray⟩) hst.is.oL ((hst.is.drewN 1).setData j hj q hq)))
              have hc1 : ¬ 9223372036854775807 < k := by omega
              have hc2 : ¬ 9223372036854775807 < s9.length := by omega
              have hwk : IntKind.i64.wrap (k : Int) = k := i64_in _ (by omega)
              have x2 : (k : Int) ≤ (s9.length : Int) := by omega
              have x3 : (k : Int) ≤ (d.length : Int) := by omega
              go_wp2
              go_still_tail 20, (by kernel_rfl)
              change wpList _ _ _ _ _ wr.drew
              go_wp2_with fail
              go_ret2
              exact ⟨⟨_, _, rfl⟩, HF.out _ (by simp; omega)⟩
            · obtain ⟨z, hz⟩ : ∃ z, k = s9.length + z := ⟨k - s9.length, by omega⟩
              subst hz
              have hmk := fun W => make_zeros W z (by omega)
              have hcv := fun W => conv_zeros W z (by omega)
              have x3 : ((s9.length : Int) + z) ≤ (d.length : Int) := by omega
              have hzz : (s9.length : Int) + z - s9.length = z := by omega
              have hc0 : ¬ 9223372036854775807 < s9.length + (zerosL z).length := by rw [zerosL_len]; omega
              go_wp2
              obtain ⟨s8, hs8⟩ : ∃ s8, s9 ++ zerosL z = s8 := ⟨_, rfl⟩
              have hl8 : s8.length = s9.length + z := by rw [← hs8, List.length_append, zerosL_len]
              rw [hs8]
              have hst2 := hst.alloc (zerosO z)
              have c02 := hst2.is.t0
              have z32 : (wr.alloc (zerosO z)).frozen? ⟨b.L, j * 5 + 3, none⟩ = false := by obtain ⟨cs9, l1, _⟩ := hst2.is.l; simp [World.frozen?, l1]
              have c32 : ∃ v, (wr.alloc (zerosO z)).cell? ⟨b.L, j * 5 + 3, none⟩ = some v := by obtain ⟨_, _, _, _, _, hh, _⟩ := hst2.is.node hj; exact ⟨_, hh.c3⟩
              obtain ⟨v3, c32⟩ := c32
              have HF := Lib.hid (fun (q : List UInt8) (hq : q.length ≤ 5000) => hst2.trans (hst2.is.stepSet2 ((RStep.refl hst2.is).drewN 1) ⟨b.L, j * 5 + 3, none⟩ (.string ⟨q.toArray⟩) hst2.is.oL ((hst2.is.drewN 1).setData j hj q hq)))
              generalize wr.alloc (zerosO z) = w8 at *
              have e8 : (s9.length : Int) + z = s8.length := by omega
              rw [e8]
              have hc2 : ¬ 9223372036854775807 < s8.length := by omega
              have hwk : IntKind.i64.wrap (s8.length : Int) = s8.length := i64_in _ (by omega)
              have x2 : (s8.length : Int) ≤ (s8.length : Int) := by omega
              have x4 : (s8.length : Int) ≤ (d.length : Int) := by omega
              have hs85 : s8.length ≤ 5000 := by omega
              have hn4 : s8.length ≤ d.length := by omega
              clear hmk hcv hs8 hl8 hzz hc0 x3 e8 c0 c3 z3 c4
              go_still_tail 20, (by kernel_rfl)
              change wpList _ _ _ _ _ w8.drew
              go_wp2_with fail
              go_ret2
              exact ⟨⟨_, _, rfl⟩, HF.out _ (by simp; omega)⟩
      · by_cases hk9 : k = 0
        · subst hk9
          go_wp2
          go_ret2
          exact ⟨⟨_, _, rfl⟩, hst⟩
        · obtain ⟨k9, n9, u9, s9, v9, hn9, hv9, hvk9, hs9⟩ := hst.is.node hj
          have c3 := hn9.c3
          have z3 := hn9.fz (j * 5 + 3)
          clear hn9 hv9 hvk9 hg hb
          have x1 : (j : Int) < (N : Int) + 1 := by omega
          by_cases hle : k ≤ s9.length
          · have HF := Lib.hid (fun (q : List UInt8) (hq : q.length ≤ 5000) => hst.trans (hst.is.stepSet2 ((RStep.refl hst.is).drewN 1) ⟨b.L, j * 5 + 3, none⟩ (.string ⟨q.toArray⟩) hst.is.oL ((hst.is.drewN 1).setData j hj q hq)))
            have hc1 : ¬ 9223372036854775807 < k := by omega
            have hc2 : ¬ 9223372036854775807 < s9.length := by omega
            have hwk : IntKind.i64.wrap (k : Int) = k := i64_in _ (by omega)
            have x2 : (k : Int) ≤ (s9.length : Int) := by omega
            have x3 : (k : Int) ≤ (d.length : Int) := by omega
            go_wp2
            go_still_tail 20, (by kernel_rfl)
            change wpList _ _ _ _ _ wr.drew
            go_wp2_with fail
            go_ret2
            exact ⟨⟨_, _, rfl⟩, HF.out _ (by simp; omega)⟩
          · obtain ⟨z, hz⟩ : ∃ z, k = s9.length + z := ⟨k - s9.length, by omega⟩
            subst hz
            have hmk := fun W => make_zeros W z (by omega)
            have hcv := fun W => conv_zeros W z (by omega)
            have x3 : ((s9.length : Int) + z) ≤ (d.length : Int) := by omega
            have hzz : (s9.length : Int) + z - s9.length = z := by omega
            have hc0 : ¬ 9223372036854775807 < s9.length + (zerosL z).length := by rw [zerosL_len]; omega
            go_wp2
            obtain ⟨s8, hs8⟩ : ∃ s8, s9 ++ zerosL z = s8 := ⟨_, rfl⟩
            have hl8 : s8.length = s9.length + z := by rw [← hs8, List.length_append, zerosL_len]
            rw [hs8]
            have hst2 := hst.alloc (zerosO z)
            have c02 := hst2.is.t0
            have z32 : (wr.alloc (zerosO z)).frozen? ⟨b.L, j * 5 + 3, none⟩ = false := by obtain ⟨cs9, l1, _⟩ := hst2.is.l; simp [World.frozen?, l1]
            have c32 : ∃ v, (wr.alloc (zerosO z)).cell? ⟨b.L, j * 5 + 3, none⟩ = some v := by obtain ⟨_, _, _, _, _, hh, _⟩ := hst2.is.node hj; exact ⟨_, hh.c3⟩
            obtain ⟨v3, c32⟩ := c32
            have HF := Lib.hid (fun (q : List UInt8) (hq : q.length ≤ 5000) => hst2.trans (hst2.is.stepSet2 ((RStep.refl hst2.is).drewN 1) ⟨b.L, j * 5 + 3, none⟩ (.string ⟨q.toArray⟩) hst2.is.oL ((hst2.is.drewN 1).setData j hj q hq)))
            generalize wr.alloc (zerosO z) = w8 at *
            have e8 : (s9.length : Int) + z = s8.length := by omega
            rw [e8]
            have hc2 : ¬ 9223372036854775807 < s8.length := by omega
            have hwk : IntKind.i64.wrap (s8.length : Int) = s8.length := i64_in _ (by omega)
            have x2 : (s8.length : Int) ≤ (s8.length : Int) := by omega
            have x4 : (s8.length : Int) ≤ (d.length : Int) := by omega
            have hs85 : s8.length ≤ 5000 := by omega
            have hn4 : s8.length ≤ d.length := by omega
            clear hmk hcv hs8 hl8 hzz hc0 x3 e8 c0 c3 z3 c4
            go_still_tail 20, (by kernel_rfl)
            change wpList _ _ _ _ _ w8.drew
            go_wp2_with fail
            go_ret2
            exact ⟨⟨_, _, rfl⟩, HF.out _ (by simp; omega)⟩
  · have HI : Calls Tryz.prog 129 #[ptrTo b.T, .int .i64 i] w fun e w' => e = .returned (.bool false) ∧ w = w' := by
      by_cases q : 1 ≤ i ∧ i ≤ N
      · obtain ⟨j, rfl⟩ : ∃ j : Nat, i = j := ⟨i.toNat, by omega⟩
        obtain ⟨k, n, u, s, v, hn, hv, hk, hs⟩ := h.node (i := j) (by omega)
        have := is_yes h j (by omega) (by omega) hn
        rwa [show decide (0 < k) = false by simp only [decide_eq_false_iff_not]; intro q0; exact hi ⟨j, k, n, u, s, v, rfl, by omega, by omega, hn, q0, hv, hk⟩] at this
      · exact is_no h i q
    have HI := Lib.hid HI
    clear hi h
    unfold ptrTo at *
    go_enter Tryz.func93, Tryz.ntmps93
    go_wp2_with (go_at_call 129; (with_reducible refine HI.out.mono ?_); rintro e w' ⟨rfl, rfl⟩)
    go_ret2
    exact ⟨⟨_, _, rfl⟩, HR.out⟩
end
end Go.Proofs.YtggdedihfhibfaaGreatDoor
/- The document's tree: what is a directory, which node has a name, a path's first part. -/
namespace Go.Proofs.YtggdedihfhibfaaGreatDoor
open Go.RowKit IntWalk
set_option linter.unusedVariables false
set_option linter.unusedSimpArgs false

section
variable {N M M' : Nat} {b : RB} {O O' : Nat → Prop} {w w' : World}
theorem RIs.below (h : RIs N M b O w) (hb : Below w.heap.size w w') : RIs N M b O w' := h.kept fun k _ hk => hb.block k hk
theorem RIs.lt (h : RIs N M b O w) : b.F < w.heap.size ∧ b.T < w.heap.size ∧ b.L < w.heap.size ∧ b.P < w.heap.size := by
  obtain ⟨_, f, _⟩ := h.f
  obtain ⟨_, t⟩ := h.t
  obtain ⟨_, l, _⟩ := h.l
  obtain ⟨_, p, _⟩ := h.p
  exact ⟨blk_lt f, blk_lt t, blk_lt l, blk_lt p⟩
theorem fld0 (k n u : Int) (s : Array UInt8) (v : Value) (w : World) : (Instr.field 164 (.agg #[.int .i64 k, .int .i64 n, .int .i64 u, .string ⟨s⟩, v]) 0).run Tryz.prog w = .ok (.int .i64 k) w := by kernel_rfl
theorem fld1 (k n u : Int) (s : Array UInt8) (v : Value) (w : World) : (Instr.field 164 (.agg #[.int .i64 k, .int .i64 n, .int .i64 u, .string ⟨s⟩, v]) 1).run Tryz.prog w = .ok (.int .i64 n) w := by kernel_rfl
theorem fld3 (k n u : Int) (s : Array UInt8) (v : Value) (w : World) : (Instr.field 164 (.agg #[.int .i64 k, .int .i64 n, .int .i64 u, .string ⟨s⟩, v]) 3).run Tryz.prog w = .ok (.string ⟨s⟩) w := by kernel_rfl
theorem below_drewN {w w' : World} {n : Nat} (h : Below n w w') (k : Nat) : Below n w (w'.drewN k) := ⟨h.os, h.tape, h.output, h.size, h.block⟩
set_option maxRecDepth 100000 in
theorem rdir_any (h : RIs N M b O w) (i : Int) : Calls Tryz.prog 57 #[ptrTo b.F, .int .i64 i] w fun e w' => (∃ t, e = .returned (.bool t) ∧ (t = true → 1 ≤ i ∧ i ≤ N)) ∧ Below w.heap.size w w' := by
  have f0 := h.f0
  have HG := Lib.hid (get_any h i)
  clear h
  unfold ptrTo at *
  have hf := fld0
  go_enter Tryz.func57, Tryz.ntmps57
  go_wp2_with (go_at_call 96; (with_reducible refine HG.out.mono ?_); rintro e w' ⟨⟨k, n, u, s, v, rfl, hs, hk⟩, hb⟩; unfold ndVal)
  go_ret
  refine ⟨⟨_, rfl, fun q => hk ?_⟩, hb⟩
  intro q0
  rw [q0] at q
  simp at q
/-- the names' cells -/
theorem RIs.row (h : RIs N M b O w) : ∃ v, w.cell? ⟨b.F, 1, none⟩ = some v ∧ (v = .slice none 0 0 ∨ ∃ g n c, v = .slice (some ⟨g, 0, none⟩) n c ∧ n ≤ M ∧ ∀ i, i < n → ∃ (d e : Int) (s : List UInt8), w.cell? ⟨g, i * 3, none⟩ = some (.int .i64 d) ∧ w.cell? ⟨g, i * 3 + 1, none⟩ = some (.string ⟨s.toArray⟩) ∧ w.cell? ⟨g, i * 3 + 2, none⟩ = some (.int .i64 e) ∧ s.length ≤ 5000) := by
  obtain ⟨v, f, hr⟩ := h.f
  refine ⟨v, by simp [World.cell?, f], ?_⟩
  rcases hr with rfl | ⟨g, n, c, cs, rfl, hn, ho, hh, hb⟩
  · exact .inl rfl
  · refine .inr ⟨g, n, c, rfl, hn, fun i hi => ?_⟩
    obtain ⟨d, e, s, h1, h2, h3, h4⟩ := hb i hi
    exact ⟨d, e, s, by simp [World.cell?, hh, h1], by simp [World.cell?, hh, h2], by simp [World.cell?, hh, h3], h4⟩
set_option maxRecDepth 100000 in
theorem rfind_any (h : RIs N M b O w) (hM : M ≤ 1000) (i : Int) (nm : List UInt8) : Calls Tryz.prog 135 #[ptrTo b.F, .int .i64 i, .string ⟨nm.toArray⟩] w fun e w' => (∃ n, e = .returned (.int .i64 n)) ∧ w = w' := by
  obtain ⟨v, f1, hr⟩ := h.row
  clear h
  unfold ptrTo at *
  rcases hr with rfl | ⟨g, n, c, rfl, hn, hb⟩
  · go_enter Tryz.func135, Tryz.ntmps135
    go_wp2
    go_loop [7] (fun c => c = .int .i64 0) (fun _ => 0)
    case atStart => exact rfl
    case round =>
      obtain rfl := hrel
      go_wp2
      go_ret
      exact ⟨⟨_, rfl⟩, rfl⟩
  · go_enter Tryz.func135, Tryz.ntmps135
    go_wp2
    go_loop [7] (fun c => ∃ k : Nat, c = .int .i64 k ∧ k ≤ n) (fun c => n - (intOf c).toNat)
    case atStart => exact ⟨0, rfl, by omega⟩
    case round =>
      obtain ⟨k, rfl, hk⟩ := hrel
      by_cases hlt : k < n
      · obtain ⟨d, e, s, c1, c2, c3, hs⟩ := hb k hlt
        by_cases h1 : d = i
        · subst h1
          by_cases h2 : s = nm
          · subst h2
            go_wp2
            go_ret
            exact ⟨⟨_, rfl⟩, rfl⟩
          · have h2' : (s == nm) = false := by simpa using h2
            go_wp2
            go_round
            case rel => exact ⟨k + 1, by go_num, by omega⟩
            case measure => simp [intOf]; omega
        · go_wp2
          go_round
          case rel => exact ⟨k + 1, by go_num, by omega⟩
          case measure => simp [intOf]; omega
      · obtain rfl : k = n := by omega
        go_wp2
        go_ret
        exact ⟨⟨_, rfl⟩, rfl⟩
/-- a path up to its first stroke -/
theorem rcut_any (l : List UInt8) (hl : l.length ≤ 100000) (w : World) : Calls Tryz.prog 123 #[.string ⟨l.toArray⟩] w fun e w' => ((∃ i, i < l.length ∧ e = .returned (.tuple #[.string ⟨(l.take i).toArray⟩, .string ⟨(l.drop (i + 1)).toArray⟩, .bool true])) ∨ e = .returned (.tuple #[.string ⟨l.toArray⟩, .string ⟨#[]⟩, .bool false])) ∧ Below w.heap.size w w' := by
  have hB := Below.refl w.heap.size w
  go_enter Tryz.func123, Tryz.ntmps123
  go_wp2
  go_loop [5] (fun c => ∃ k : Nat, c = .int .i64 k ∧ k ≤ l.length) (fun c => l.length - (intOf c).toNat)
  case atStart => exact ⟨0, rfl, by omega⟩
  case round =>
    obtain ⟨k, rfl, hk⟩ := hrel
    by_cases hlt : k < l.length
    · obtain ⟨c, _, hg, hc⟩ := str_at l k hlt
      by_cases h47 : c = 47
      · subst h47
        have hB1 : Below w.heap.size w w.drew := hB.drew
        have hk1 : ((k : Int) + 1) ≤ l.length := by omega
        have hk2 : k + 1 ≤ l.length := by omega
        have hw : IntKind.i64.wrap ((k : Int) + 1) = (k : Int) + 1 := i64_in _ (by omega)
        go_wp2
        go_quiet (fail)
        go_wp2
        go_ret3
        exact ⟨.inl ⟨k, hlt, rfl⟩, below_drewN hB _⟩
      · have h2 : ((c.toNat : Int) == 47) = false := by
          have : ¬ c.toNat = 47 := fun e => h47 (UInt8.toNat_inj.1 e)
          simp; omega
        go_wp2
        go_round
        case rel => exact ⟨k + 1, by go_num, by omega⟩
        case measure => simp [intOf]; omega
    · obtain rfl : k = l.length := by omega
      go_wp2
      go_ret3
      exact ⟨.inr rfl, hB⟩
end
end Go.Proofs.YtggdedihfhibfaaGreatDoor
/- The document's tree: a path is gone. -/
namespace Go.Proofs.YtggdedihfhibfaaGreatDoor
open Go.RowKit IntWalk
set_option linter.unusedVariables false
set_option linter.unusedSimpArgs false

/-- a walk under way: it lies in the block q, and has followed l links -/
structure Wst (N M : Nat) (b : RB) (O : Nat → Prop) (q : Nat) (W0 : World) (l : Nat) (w : World) : Prop where
  is : RIs N M b O w
  no : ¬ O q
  at_ : w.heap[q]? = some (.cells #[ptrTo b.F, .int .i64 l] 148 (0, 0))
  turned : Turned (· = q) W0 w
section
variable {N M : Nat} {b : RB} {O : Nat → Prop} {q l : Nat} {W0 w w' : World}
theorem Wst.below (h : Wst N M b O q W0 l w) (hb : Below w.heap.size w w') : Wst N M b O q W0 l w' :=
  ⟨h.is.below hb, h.no, (hb.block _ (blk_lt h.at_)).trans h.at_, h.turned.trans (Turned.of_below (S := fun _ => False) hb) (fun _ q _ => q.elim)⟩
theorem Wst.q0 (h : Wst N M b O q W0 l w) : w.cell? ⟨q, 0, none⟩ = some (ptrTo b.F) := by simp [World.cell?, h.at_]
theorem Wst.q1 (h : Wst N M b O q W0 l w) : w.cell? ⟨q, 1, none⟩ = some (.int .i64 l) := by simp [World.cell?, h.at_]
theorem Wst.qz (h : Wst N M b O q W0 l w) : ∀ j, w.frozen? ⟨q, j, none⟩ = false := fun j => by simp [World.frozen?, h.at_]
theorem Wst.next (h : Wst N M b O q W0 l w) : Wst N M b O q W0 (l + 1) (w.setCell ⟨q, 1, none⟩ (.int .i64 ((l : Int) + 1))) :=
  ⟨h.is.kept fun k hk _ => set_ne _ _ _ _ _ (fun e => h.no (e ▸ hk)), h.no, by rw [set_row h.at_]; rfl, h.turned.set _ _ (fun _ => rfl)⟩
/-- what a going answers, and leaves -/
def WPost (N M : Nat) (b : RB) (O : Nat → Prop) (q : Nat) (W0 : World) (l : Nat) (e : Ending) (w' : World) : Prop :=
  (∃ n c : Int, e = .returned (.tuple #[.int .i64 n, .int .i64 c])) ∧ ∃ l', l ≤ l' ∧ l' ≤ 8 ∧ Wst N M b O q W0 l' w'
def GoesAt (N M : Nat) (b : RB) (O : Nat → Prop) (q l : Nat) : Prop := ∀ (W0 w : World), Wst N M b O q W0 l w → ∀ (i : Int) (p : List UInt8), p.length ≤ 5000 → ∀ f : Bool,
  Calls Tryz.prog 83 #[ptrTo q, .int .i64 i, .string ⟨p.toArray⟩, .bool f] w (WPost N M b O q W0 l)
def PartAt (N M : Nat) (b : RB) (O : Nat → Prop) (q l : Nat) : Prop := ∀ (W0 w : World), Wst N M b O q W0 l w → ∀ (i : Int) (p : List UInt8), p.length ≤ 5000 → ∀ f : Bool,
  Calls Tryz.prog 124 #[ptrTo q, .int .i64 i, .string ⟨p.toArray⟩, .bool f] w (WPost N M b O q W0 l)
theorem Wst.post (h : Wst N M b O q W0 l w) (hl : l ≤ 8) (n c : Int) : WPost N M b O q W0 l (.returned (.tuple #[.int .i64 n, .int .i64 c])) w := ⟨⟨n, c, rfl⟩, l, Nat.le_refl _, hl, h⟩
set_option maxRecDepth 100000 in
set_option maxHeartbeats 2000000 in
theorem part_r (hM : M ≤ 1000) (hl : l ≤ 8) (hg : ∀ l', l < l' → l' ≤ 8 → GoesAt N M b O q l') : PartAt N M b O q l := by
  intro W0 w h i p hp f
  have q0 := h.q0
  have HG := Lib.hid hg
  have HP := Lib.hid (fun (w1 : World) (hw : Wst N M b O q W0 l w1) (n c : Int) => hw.post hl n c)
  have HN := Lib.hid (fun (w1 : World) (hw : Wst N M b O q W0 l w1) => hw.next)
  clear hg
  have hf0 := fld0
  have hf3 := fld3
  by_cases hi : 1 ≤ i ∧ i ≤ N
  · obtain ⟨j, rfl⟩ : ∃ j : Nat, i = j := ⟨i.toNat, by omega⟩
    have HD := Lib.hid (rdir_any h.is j)
    have hj : j ≤ N := by omega
    have hN := h.is.small
    unfold ptrTo at *
    by_cases hl8 : l = 8
    · subst hl8
      go_enter Tryz.func124, Tryz.ntmps124
      go_wp2_with first
        | (go_at_call 57; (with_reducible refine HD.out.mono ?_); rintro e w1 ⟨⟨t, rfl, ht⟩, hb1⟩; have h1 := h.below hb1; have f0 := h1.is.f0; have f2 := h1.is.f2; have r0 := h1.q0; have r1 := h1.q1; have rz := h1.qz; obtain ⟨pn, hpn⟩ := h1.is.parent hj; clear ht hb1; unfold ptrTo at *)
        | (go_at_call 135; (refine (rfind_any h1.is hM _ _).mono ?_); rintro e w2 ⟨⟨nx, rfl⟩, rfl⟩)
        | (go_at_call 96; (refine (get_any h1.is _).mono ?_); rintro e w3 ⟨⟨k3, n3, u3, s3, v3, rfl, hs3, hk3⟩, hb3⟩; have h3 := h1.below hb3; have x0 := h3.q0; have x1 := h3.q1; have xz := h3.qz; have g0 := h3.is.f0; have h4 := HN.out _ h3; have y0 := h4.q0; have y1 := h4.q1; have z0 := h4.is.f0; clear hs3 hk3 hb3; unfold ndVal; unfold ptrTo at *)
        | (go_at_call 96; (refine (get_any h4.is _).mono ?_); rintro e w5 ⟨⟨k5, n5, u5, s5, v5, rfl, hs5, hk5⟩, hb5⟩; have h5 := h4.below hb5; clear hk5 hb5; unfold ndVal)
        | (go_at_call 83; (refine (HG.out (l + 1) (by omega) (by omega) _ _ h5 _ _ hs5 _).mono ?_); rintro e w6 ⟨⟨n6, c6, rfl⟩, l6, hl6, hl8, h6⟩)
      all_goals (try go_ret2)
      all_goals first
        | exact HP.out _ h1 _ _
        | exact HP.out _ h3 _ _
    · have hl7 : l < 8 := by omega
      go_enter Tryz.func124, Tryz.ntmps124
      go_wp2_with first
        | (go_at_call 57; (with_reducible refine HD.out.mono ?_); rintro e w1 ⟨⟨t, rfl, ht⟩, hb1⟩; have h1 := h.below hb1; have f0 := h1.is.f0; have f2 := h1.is.f2; have r0 := h1.q0; have r1 := h1.q1; have rz := h1.qz; obtain ⟨pn, hpn⟩ := h1.is.parent hj; clear ht hb1; unfold ptrTo at *)
        | (go_at_call 135; (refine (rfind_any h1.is hM _ _).mono ?_); rintro e w2 ⟨⟨nx, rfl⟩, rfl⟩)
        | (go_at_call 96; (refine (get_any h1.is _).mono ?_); rintro e w3 ⟨⟨k3, n3, u3, s3, v3, rfl, hs3, hk3⟩, hb3⟩; have h3 := h1.below hb3; have x0 := h3.q0; have x1 := h3.q1; have xz := h3.qz; have g0 := h3.is.f0; have h4 := HN.out _ h3; have y0 := h4.q0; have y1 := h4.q1; have z0 := h4.is.f0; clear hs3 hk3 hb3; unfold ndVal; unfold ptrTo at *)
        | (go_at_call 96; (refine (get_any h4.is _).mono ?_); rintro e w5 ⟨⟨k5, n5, u5, s5, v5, rfl, hs5, hk5⟩, hb5⟩; have h5 := h4.below hb5; clear hk5 hb5; unfold ndVal)
        | (go_at_call 83; (refine (HG.out (l + 1) (by omega) (by omega) _ _ h5 _ _ hs5 _).mono ?_); rintro e w6 ⟨⟨n6, c6, rfl⟩, l6, hl6, hl8, h6⟩)
      all_goals (try go_ret2)
      all_goals first
        | exact HP.out _ h1 _ _
        | exact HP.out _ h3 _ _
        | exact ⟨⟨_, _, rfl⟩, l6, by omega, hl8, h6⟩
  · have HD := Lib.hid (show Calls Tryz.prog 57 #[ptrTo b.F, .int .i64 i] w fun e w' => e = .returned (.bool false) ∧ Below w.heap.size w w' from (rdir_any h.is i).mono (by
      rintro e w1 ⟨⟨t, rfl, ht⟩, hb1⟩
      cases t
      · exact ⟨rfl, hb1⟩
      · exact absurd (ht rfl) hi))
    unfold ptrTo at *
    go_enter Tryz.func124, Tryz.ntmps124
    go_wp2_with (go_at_call 57; (with_reducible refine HD.out.mono ?_); rintro e w1 ⟨rfl, hb1⟩; have h1 := h.below hb1)
    go_ret2
    exact HP.out _ h1 _ _
end
end Go.Proofs.YtggdedihfhibfaaGreatDoor
/- The document's tree: a whole path is gone; Walk. -/
namespace Go.Proofs.YtggdedihfhibfaaGreatDoor
open Go.RowKit IntWalk
set_option linter.unusedVariables false
set_option linter.unusedSimpArgs false

section
variable {N M : Nat} {b : RB} {O : Nat → Prop} {q l : Nat} {W0 w w' : World}
def lenOf : Value → Nat | .string s => s.size | _ => 0
theorem lenOf_str (l : List UInt8) : lenOf (.string ⟨l.toArray⟩) = l.length := by simp [lenOf, ByteArray.size]
theorem cutHid (p : List UInt8) (hl : p.length ≤ 100000) : RowKit.Hid (∀ w, Calls Tryz.prog 123 #[.string ⟨p.toArray⟩] w fun e w' => (∃ (a r : List UInt8) (m : Bool), e = .returned (.tuple #[.string ⟨a.toArray⟩, .string ⟨r.toArray⟩, .bool m]) ∧ a.length ≤ p.length ∧ (m = true → r.length < p.length)) ∧ Below w.heap.size w w') := Lib.hid fun w => (rcut_any p hl w).mono (by
  rintro e w' ⟨h | h, hb⟩
  · obtain ⟨i, hi, rfl⟩ := h
    exact ⟨⟨_, _, _, rfl, by simp; omega, fun _ => by simp; omega⟩, hb⟩
  · subst h
    exact ⟨⟨_, [], _, rfl, Nat.le_refl _, fun q => by cases q⟩, hb⟩)
set_option maxRecDepth 100000 in
set_option maxHeartbeats 2000000 in
theorem goes_rt (hl : l ≤ 8) (hp : ∀ l', l ≤ l' → l' ≤ 8 → PartAt N M b O q l') : ∀ (W0 w : World), Wst N M b O q W0 l w → ∀ (i : Int) (p : List UInt8), p.length ≤ 5000 → Calls Tryz.prog 83 #[ptrTo q, .int .i64 i, .string ⟨p.toArray⟩, .bool true] w (WPost N M b O q W0 l) := by
  intro W0 w h i p hpl
  have HP := Lib.hid hp
  have HQ := Lib.hid (fun (w1 : World) (l1 : Nat) (h1 : l ≤ l1) (h8 : l1 ≤ 8) (hw : Wst N M b O q W0 l1 w1) (n c : Int) => (show WPost N M b O q W0 l (.returned (.tuple #[.int .i64 n, .int .i64 c])) w1 from ⟨⟨n, c, rfl⟩, l1, h1, h8, hw⟩))
  clear hp
  unfold ptrTo at *
  by_cases h0 : p = []
  · subst h0
    go_enter Tryz.func83, Tryz.ntmps83
    go_wp2
    go_ret2
    exact HQ.out _ l (Nat.le_refl _) hl h _ _
  have hpe : p.isEmpty = false := by cases p with | nil => exact absurd rfl h0 | cons => rfl
  by_cases h256 : 256 < p.length
  · go_enter Tryz.func83, Tryz.ntmps83
    go_wp2
    go_ret2
    exact HQ.out _ l (Nat.le_refl _) hl h _ _
  have hlt : 0 < p.length := by cases p with | nil => exact absurd rfl h0 | cons => simp
  obtain ⟨c, _, hg, hc⟩ := str_at p 0 hlt
  have hc1 : (1 : Int) ≤ p.length := by omega
  have hc2 : 1 ≤ p.length := by omega
  by_cases h47 : c = 47
  · subst h47
    go_enter Tryz.func83, Tryz.ntmps83
    go_wp2
    clear hg hc
    go_loopw [1, 2] (fun av pv W => ∃ (at1 : Int) (p1 : List UInt8) (l1 : Nat), av = .int .i64 at1 ∧ pv = .string ⟨p1.toArray⟩ ∧ p1.length ≤ 5000 ∧ l ≤ l1 ∧ l1 ≤ 8 ∧ Wst N M b O q W0 l1 W) (fun _ pv _ => lenOf pv)
    case atStart => exact ⟨_, _, l, rfl, rfl, by (try simp); omega, Nat.le_refl _, hl, h⟩
    case round =>
      obtain ⟨at1, p1, l1, rfl, rfl, hp1, hl1, hl18, hw⟩ := hrel
      have HC := cutHid p1 (by omega)
      go_wp2_with first
        | (go_at_call 123; (refine (HC.out _).mono ?_); rintro e w2 ⟨⟨a2, r2, m2, rfl, ha2, hr2⟩, hb2⟩; have hw2 := hw.below hb2; have HR2 := Lib.hid hr2; clear hr2 hb2)
        | (go_at_call 124; (refine (HP.out l1 hl1 hl18 _ _ hw2 _ _ (by omega) _).mono ?_); rintro e w3 ⟨⟨n3, c3, rfl⟩, l3, hl3, hl38, hw3⟩)
      all_goals first
        | (go_ret2; exact HQ.out _ l3 (by omega) hl38 hw3 _ _)
        | skip
      · cases m2
        · rename_i hq
          exact absurd hq (by decide)
        · have hr3 := HR2.out rfl
          go_roundw
          case rel => exact ⟨_, r2, l3, rfl, rfl, by omega, by omega, hl38, hw3⟩
          case measure => rw [lenOf_str, lenOf_str]; exact hr3
  · have h2 : ((c.toNat : Int) == 47) = false := by
      have : ¬ c.toNat = 47 := fun e => h47 (UInt8.toNat_inj.1 e)
      simp; omega
    go_enter Tryz.func83, Tryz.ntmps83
    go_wp2
    clear hg hc
    go_loopw [1, 2] (fun av pv W => ∃ (at1 : Int) (p1 : List UInt8) (l1 : Nat), av = .int .i64 at1 ∧ pv = .string ⟨p1.toArray⟩ ∧ p1.length ≤ 5000 ∧ l ≤ l1 ∧ l1 ≤ 8 ∧ Wst N M b O q W0 l1 W) (fun _ pv _ => lenOf pv)
    case atStart => exact ⟨_, _, l, rfl, rfl, by (try simp); omega, Nat.le_refl _, hl, h⟩
    case round =>
      obtain ⟨at1, p1, l1, rfl, rfl, hp1, hl1, hl18, hw⟩ := hrel
      have HC := cutHid p1 (by omega)
      go_wp2_with first
        | (go_at_call 123; (refine (HC.out _).mono ?_); rintro e w2 ⟨⟨a2, r2, m2, rfl, ha2, hr2⟩, hb2⟩; have hw2 := hw.below hb2; have HR2 := Lib.hid hr2; clear hr2 hb2)
        | (go_at_call 124; (refine (HP.out l1 hl1 hl18 _ _ hw2 _ _ (by omega) _).mono ?_); rintro e w3 ⟨⟨n3, c3, rfl⟩, l3, hl3, hl38, hw3⟩)
      all_goals first
        | (go_ret2; exact HQ.out _ l3 (by omega) hl38 hw3 _ _)
        | skip
      · cases m2
        · rename_i hq
          exact absurd hq (by decide)
        · have hr3 := HR2.out rfl
          go_roundw
          case rel => exact ⟨_, r2, l3, rfl, rfl, by omega, by omega, hl38, hw3⟩
          case measure => rw [lenOf_str, lenOf_str]; exact hr3
set_option maxRecDepth 100000 in
set_option maxHeartbeats 2000000 in
theorem goes_rf (hl : l ≤ 8) (hp : ∀ l', l ≤ l' → l' ≤ 8 → PartAt N M b O q l') : ∀ (W0 w : World), Wst N M b O q W0 l w → ∀ (i : Int) (p : List UInt8), p.length ≤ 5000 → Calls Tryz.prog 83 #[ptrTo q, .int .i64 i, .string ⟨p.toArray⟩, .bool false] w (WPost N M b O q W0 l) := by
  intro W0 w h i p hpl
  have HP := Lib.hid hp
  have HQ := Lib.hid (fun (w1 : World) (l1 : Nat) (h1 : l ≤ l1) (h8 : l1 ≤ 8) (hw : Wst N M b O q W0 l1 w1) (n c : Int) => (show WPost N M b O q W0 l (.returned (.tuple #[.int .i64 n, .int .i64 c])) w1 from ⟨⟨n, c, rfl⟩, l1, h1, h8, hw⟩))
  clear hp
  unfold ptrTo at *
  by_cases h0 : p = []
  · subst h0
    go_enter Tryz.func83, Tryz.ntmps83
    go_wp2
    go_ret2
    exact HQ.out _ l (Nat.le_refl _) hl h _ _
  have hpe : p.isEmpty = false := by cases p with | nil => exact absurd rfl h0 | cons => rfl
  by_cases h256 : 256 < p.length
  · go_enter Tryz.func83, Tryz.ntmps83
    go_wp2
    go_ret2
    exact HQ.out _ l (Nat.le_refl _) hl h _ _
  have hlt : 0 < p.length := by cases p with | nil => exact absurd rfl h0 | cons => simp
  obtain ⟨c, _, hg, hc⟩ := str_at p 0 hlt
  have hc1 : (1 : Int) ≤ p.length := by omega
  have hc2 : 1 ≤ p.length := by omega
  by_cases h47 : c = 47
  · subst h47
    go_enter Tryz.func83, Tryz.ntmps83
    go_wp2
    clear hg hc
    go_loopw [1, 2] (fun av pv W => ∃ (at1 : Int) (p1 : List UInt8) (l1 : Nat), av = .int .i64 at1 ∧ pv = .string ⟨p1.toArray⟩ ∧ p1.length ≤ 5000 ∧ l ≤ l1 ∧ l1 ≤ 8 ∧ Wst N M b O q W0 l1 W) (fun _ pv _ => lenOf pv)
    case atStart => exact ⟨_, _, l, rfl, rfl, by (try simp); omega, Nat.le_refl _, hl, h⟩
    case round =>
      obtain ⟨at1, p1, l1, rfl, rfl, hp1, hl1, hl18, hw⟩ := hrel
      have HC := cutHid p1 (by omega)
      go_wp2_with first
        | (go_at_call 123; (refine (HC.out _).mono ?_); rintro e w2 ⟨⟨a2, r2, m2, rfl, ha2, hr2⟩, hb2⟩; have hw2 := hw.below hb2; have HR2 := Lib.hid hr2; clear hr2 hb2)
        | (go_at_call 124; (refine (HP.out l1 hl1 hl18 _ _ hw2 _ _ (by omega) _).mono ?_); rintro e w3 ⟨⟨n3, c3, rfl⟩, l3, hl3, hl38, hw3⟩)
      all_goals first
        | (go_ret2; exact HQ.out _ l3 (by omega) hl38 hw3 _ _)
        | skip
      · cases m2
        · rename_i hq
          exact absurd hq (by decide)
        · have hr3 := HR2.out rfl
          go_roundw
          case rel => exact ⟨_, r2, l3, rfl, rfl, by omega, by omega, hl38, hw3⟩
          case measure => rw [lenOf_str, lenOf_str]; exact hr3
  · have h2 : ((c.toNat : Int) == 47) = false := by
      have : ¬ c.toNat = 47 := fun e => h47 (UInt8.toNat_inj.1 e)
      simp; omega
    go_enter Tryz.func83, Tryz.ntmps83
    go_wp2
    clear hg hc
    go_loopw [1, 2] (fun av pv W => ∃ (at1 : Int) (p1 : List UInt8) (l1 : Nat), av = .int .i64 at1 ∧ pv = .string ⟨p1.toArray⟩ ∧ p1.length ≤ 5000 ∧ l ≤ l1 ∧ l1 ≤ 8 ∧ Wst N M b O q W0 l1 W) (fun _ pv _ => lenOf pv)
    case atStart => exact ⟨_, _, l, rfl, rfl, by (try simp); omega, Nat.le_refl _, hl, h⟩
    case round =>
      obtain ⟨at1, p1, l1, rfl, rfl, hp1, hl1, hl18, hw⟩ := hrel
      have HC := cutHid p1 (by omega)
      go_wp2_with first
        | (go_at_call 123; (refine (HC.out _).mono ?_); rintro e w2 ⟨⟨a2, r2, m2, rfl, ha2, hr2⟩, hb2⟩; have hw2 := hw.below hb2; have HR2 := Lib.hid hr2; clear hr2 hb2)
        | (go_at_call 124; (refine (HP.out l1 hl1 hl18 _ _ hw2 _ _ (by omega) _).mono ?_); rintro e w3 ⟨⟨n3, c3, rfl⟩, l3, hl3, hl38, hw3⟩)
      all_goals first
        | (go_ret2; exact HQ.out _ l3 (by omega) hl38 hw3 _ _)
        | skip
      · cases m2
        · rename_i hq
          exact absurd hq (by decide)
        · have hr3 := HR2.out rfl
          go_roundw
          case rel => exact ⟨_, r2, l3, rfl, rfl, by omega, by omega, hl38, hw3⟩
          case measure => rw [lenOf_str, lenOf_str]; exact hr3
theorem goes_r (hl : l ≤ 8) (hp : ∀ l', l ≤ l' → l' ≤ 8 → PartAt N M b O q l') : GoesAt N M b O q l := by
  intro W0 w h i p hpl f
  cases f
  · exact goes_rf hl hp W0 w h i p hpl
  · exact goes_rt hl hp W0 w h i p hpl
/-- a path is gone, and a part of one, whatever links there are -/
theorem rgoes_all (hM : M ≤ 1000) : ∀ m l, l + m = 9 → (∀ l', l ≤ l' → l' ≤ 8 → GoesAt N M b O q l')
  | 0, l, h, l', h1, h8 => absurd h8 (by omega)
  | m + 1, l, h, l', h1, h8 => by
    have ih := rgoes_all hM m (l + 1) (by omega)
    by_cases e : l' = l
    · subst e
      exact goes_r h8 fun l2 h2 h28 => part_r hM h28 fun l3 h3 h38 => ih l3 (by omega) h38
    · exact ih l' (by omega) h8
set_option maxRecDepth 100000 in
theorem rwalk_any {w : World} (h : RIs N M b O w) (hM : M ≤ 1000) (i : Int) (p : List UInt8) (hp : p.length ≤ 5000) (f : Bool) :
    Calls Tryz.prog 50 #[ptrTo b.F, .int .i64 i, .string ⟨p.toArray⟩, .bool f] w fun e w' => (∃ n c : Int, e = .returned (.tuple #[.int .i64 n, .int .i64 c])) ∧ Below w.heap.size w w' := by
  have HD := Lib.hid (rdir_any h i)
  have HG := Lib.hid (fun (w1 : World) (hb : Below w.heap.size w w1) => show Calls Tryz.prog 83 #[ptrTo w1.heap.size, .int .i64 i, .string ⟨p.toArray⟩, .bool f] (w1.alloc (.cells #[ptrTo b.F, .int .i64 0] 148)) fun e w' => (∃ n c : Int, e = .returned (.tuple #[.int .i64 n, .int .i64 c])) ∧ Below w.heap.size w w' from by
    have hg := rgoes_all (N := N) (M := M) (b := b) (O := O) (q := w1.heap.size) hM 9 0 rfl 0 (Nat.le_refl _) (by omega)
    refine (hg w1 _ ⟨(h.below hb).alloc _, fun q => ?_, r_alloc_at _ _, (Turned.refl _ _).alloc _⟩ i p hp f).mono ?_
    · have := h.own_lt _ q
      have := hb.size
      omega
    · rintro e w' ⟨he, l', _, _, hw⟩
      refine ⟨he, hb.trans ⟨hw.turned.os, hw.turned.tape, hw.turned.output, hw.turned.size, fun k hk => ?_⟩⟩
      have := hb.size
      exact hw.turned.block k (by omega) (fun q => by omega))
  clear h
  unfold ptrTo at *
  go_enter Tryz.func50, Tryz.ntmps50
  go_wp2_with first
    | (go_at_call 57; (with_reducible refine HD.out.mono ?_); rintro e w1 ⟨⟨t, rfl, ht⟩, hb1⟩)
    | (go_at_call 83; (refine (HG.out w1 hb1).mono ?_); rintro e w6 ⟨⟨n6, c6, rfl⟩, h6⟩)
  all_goals go_ret2
  · exact ⟨⟨_, _, rfl⟩, hb1⟩
  · exact ⟨⟨_, _, rfl⟩, h6⟩
end
end Go.Proofs.YtggdedihfhibfaaGreatDoor
/- The document's tree: the place of a path, and whether something may be made there. -/
namespace Go.Proofs.YtggdedihfhibfaaGreatDoor
open Go.RowKit IntWalk
set_option linter.unusedVariables false
set_option linter.unusedSimpArgs false

section
variable {N M : Nat} {b : RB} {O : Nat → Prop} {w w' : World}
/-- what place and free answer -/
def PlPost (w : World) (e : Ending) (w' : World) : Prop := (∃ (d c : Int) (nm : List UInt8), e = .returned (.tuple #[.int .i64 d, .string ⟨nm.toArray⟩, .int .i64 c]) ∧ nm.length ≤ 5000) ∧ Below w.heap.size w w'
set_option maxRecDepth 100000 in
set_option maxHeartbeats 2000000 in
theorem rplace_any (h : RIs N M b O w) (hM : M ≤ 1000) (i : Int) (p : List UInt8) (hp : p.length ≤ 400) :
    Calls Tryz.prog 134 #[ptrTo b.F, .int .i64 i, .string ⟨p.toArray⟩] w (PlPost w) := by
  have HD := Lib.hid (rdir_any h i)
  have HW := Lib.hid (fun (w1 : World) (hb : Below w.heap.size w w1) (p1 : List UInt8) (h1 : p1.length ≤ 5000) => (rwalk_any (h.below hb) hM i p1 h1 true).mono (R' := fun e w' => (∃ n c : Int, e = .returned (.tuple #[.int .i64 n, .int .i64 c])) ∧ Below w.heap.size w w') (by rintro e w' ⟨h1, h2⟩; exact ⟨h1, hb.trans (h2.mono hb.size)⟩))
  have HD2 := Lib.hid (fun (w1 : World) (hb : Below w.heap.size w w1) (k : Int) => (rdir_any (h.below hb) k).mono (R' := fun e w' => (∃ t, e = .returned (.bool t)) ∧ Below w.heap.size w w') (by rintro e w' ⟨⟨t, h1, _⟩, h2⟩; exact ⟨⟨t, h1⟩, hb.trans (h2.mono hb.size)⟩))
  clear h
  unfold ptrTo at *
  go_enter Tryz.func134, Tryz.ntmps134
  go_wp2_with (go_at_call 57; (with_reducible refine HD.out.mono ?_); rintro e w1 ⟨⟨t, rfl, ht⟩, hb1⟩)
  · go_ret3
    exact ⟨⟨_, _, [], rfl, by simp⟩, hb1⟩
  · go_ret3
    exact ⟨⟨_, _, [], rfl, by simp⟩, hb1⟩
  · clear HD
    go_loop [9] (fun c => ∃ k : Nat, c = .string ⟨(p.take k).toArray⟩ ∧ k ≤ p.length) (fun c => lenOf c)
    case atStart => exact ⟨p.length, by rw [List.take_length], Nat.le_refl _⟩
    case round =>
      obtain ⟨k, rfl, hk⟩ := hrel
      obtain ⟨s, hs⟩ : ∃ s, p.take k = s := ⟨_, rfl⟩
      have hsl : s.length = k := by rw [← hs, List.length_take]; omega
      rw [hs]
      cases k with
      | zero =>
        have hs0 : s = [] := List.length_eq_zero_iff.1 hsl
        have hse : (0 : Int) < s.length ↔ False := by rw [hsl]; simp
        clear hs
        go_wp2
        go_loop [10] (fun c => ∃ j : Nat, c = .int .i64 j ∧ j ≤ s.length) (fun c => (intOf c).toNat)
        case atStart => exact ⟨s.length, by go_num, Nat.le_refl _⟩
        case round =>
          obtain ⟨j, rfl, hj⟩ := hrel
          have hsp : s.length ≤ 400 := by omega
          cases j with
          | zero =>
            have x0 : (0 : Int) ≤ s.length := by omega
            go_wp2_with first
              | (go_at_call 50; (refine (HW.out w1 hb1 _ (by (try simp); omega)).mono ?_); rintro e w2 ⟨⟨n2, c2, rfl⟩, hb2⟩)
              | (go_at_call 57; (refine (HD2.out w2 hb2 _).mono ?_); rintro e w3 ⟨⟨t3, rfl⟩, hb3⟩)
            all_goals go_ret3
            all_goals first
              | exact ⟨⟨_, _, [], rfl, by simp⟩, hb1⟩
              | exact ⟨⟨_, _, _, rfl, by (try simp); omega⟩, hb1⟩
              | exact ⟨⟨_, _, _, rfl, by (try simp); omega⟩, hb3⟩
              | exact ⟨⟨_, _, _, rfl, by (try simp); omega⟩, hb2⟩
          | succ j => omega
      | succ k =>
        obtain ⟨c, _, hg, hc⟩ := str_at s k (by omega)
        have hsl2 : (s.length : Int) - 1 = k := by omega
        have hsl3 : k < s.length := by omega
        have hsl4 : (k : Int) < s.length := by omega
        by_cases h47 : c = 47
        · subst h47
          go_wp2
          go_round
          case rel => exact ⟨k, by rw [← hs, List.take_take, Nat.min_eq_left (by omega)], by omega⟩
          case measure => rw [lenOf_str, lenOf_str, List.length_take]; omega
        · have h2 : ((c.toNat : Int) == 47) = false := by
            have : ¬ c.toNat = 47 := fun e => h47 (UInt8.toNat_inj.1 e)
            simp; omega
          clear hs
          go_wp2
          go_loop [10] (fun c => ∃ j : Nat, c = .int .i64 j ∧ j ≤ s.length) (fun c => (intOf c).toNat)
          case atStart => exact ⟨s.length, by go_num, Nat.le_refl _⟩
          case round =>
            obtain ⟨j, rfl, hj⟩ := hrel
            have hsp : s.length ≤ 400 := by omega
            cases j with
            | zero =>
              have x0 : (0 : Int) ≤ s.length := by omega
              go_wp2_with first
                | (go_at_call 50; (refine (HW.out w1 hb1 _ (by (try simp); omega)).mono ?_); rintro e w2 ⟨⟨n2, c2, rfl⟩, hb2⟩)
                | (go_at_call 57; (refine (HD2.out w2 hb2 _).mono ?_); rintro e w3 ⟨⟨t3, rfl⟩, hb3⟩)
              all_goals go_ret3
              all_goals first
                | exact ⟨⟨_, _, [], rfl, by simp⟩, hb1⟩
                | exact ⟨⟨_, _, _, rfl, by (try simp); omega⟩, hb1⟩
                | exact ⟨⟨_, _, _, rfl, by (try simp); omega⟩, hb3⟩
                | exact ⟨⟨_, _, _, rfl, by (try simp); omega⟩, hb2⟩
            | succ j =>
              obtain ⟨c, _, hg, hc⟩ := str_at s j (by omega)
              have x1 : (j : Int) + 1 ≤ s.length := by omega
              have x2 : j + 1 ≤ s.length := by omega
              have x3 : (j : Int) < s.length := by omega
              by_cases h47 : c = 47
              · subst h47
                go_wp2_with first
                  | (go_at_call 50; (refine (HW.out w1 hb1 _ (by (try simp); omega)).mono ?_); rintro e w2 ⟨⟨n2, c2, rfl⟩, hb2⟩)
                  | (go_at_call 57; (refine (HD2.out w2 hb2 _).mono ?_); rintro e w3 ⟨⟨t3, rfl⟩, hb3⟩)
                all_goals go_ret3
                all_goals first
                  | exact ⟨⟨_, _, [], rfl, by simp⟩, hb1⟩
                  | exact ⟨⟨_, _, _, rfl, by (try simp); omega⟩, hb1⟩
                  | exact ⟨⟨_, _, _, rfl, by (try simp); omega⟩, hb3⟩
                  | exact ⟨⟨_, _, _, rfl, by (try simp); omega⟩, hb2⟩
              · have h2 : ((c.toNat : Int) == 47) = false := by
                  have : ¬ c.toNat = 47 := fun e => h47 (UInt8.toNat_inj.1 e)
                  simp; omega
                go_wp2
                go_round
                case rel => exact ⟨j, by go_num, by omega⟩
                case measure => (simp [intOf] <;> omega)
end
end Go.Proofs.YtggdedihfhibfaaGreatDoor
/- The document's tree: free, File, Write. -/
namespace Go.Proofs.YtggdedihfhibfaaGreatDoor
open Go.RowKit IntWalk
set_option linter.unusedVariables false
set_option linter.unusedSimpArgs false

section
variable {N M : Nat} {b : RB} {O : Nat → Prop} {w w' : World}
set_option maxRecDepth 100000 in
theorem rfree_any (h : RIs N M b O w) (hM : M ≤ 1000) (i : Int) (p : List UInt8) (hp : p.length ≤ 400) :
    Calls Tryz.prog 97 #[ptrTo b.F, .int .i64 i, .string ⟨p.toArray⟩] w (PlPost w) := by
  have HL := Lib.hid (rplace_any h hM i p hp)
  have hf1 := fld1
  go_enter Tryz.func97, Tryz.ntmps97
  unfold ptrTo at *
  go_wp2_with first
    | (go_at_call 134; (with_reducible refine HL.out.mono ?_); rintro e w1 ⟨⟨d, c, nm, rfl, hnm⟩, hb1⟩; have h1 := h.below hb1; have f0 := h1.f0; unfold ptrTo at f0)
    | (go_at_call 135; (refine (rfind_any h1 hM _ _).mono ?_); rintro e w2 ⟨⟨nx, rfl⟩, rfl⟩)
    | (go_at_call 96; (refine (get_any h1 _).mono ?_); rintro e w3 ⟨⟨k3, n3, u3, s3, v3, rfl, hs3, hk3⟩, hb3⟩; unfold ndVal)
  all_goals go_ret3
  all_goals first
    | exact ⟨⟨_, _, [], rfl, by simp⟩, hb1⟩
    | exact ⟨⟨_, _, [], rfl, by simp⟩, hb1.trans (hb3.mono hb1.size)⟩
    | exact ⟨⟨_, _, _, rfl, hnm⟩, hb1.trans (hb3.mono hb1.size)⟩
theorem rfile_any (h : RIs N M b O w) (i : Int) : Calls Tryz.prog 92 #[ptrTo b.F, .int .i64 i] w fun e w' => (∃ c, e = .returned (.int .i64 c)) ∧ Below w.heap.size w w' := by
  have f0 := h.f0
  have HG := Lib.hid (get_any h i)
  have hf0 := fld0
  clear h
  unfold ptrTo at *
  go_enter Tryz.func92, Tryz.ntmps92
  go_wp2_with (go_at_call 96; (with_reducible refine HG.out.mono ?_); rintro e w' ⟨⟨k, n, u, s, v, rfl, hs, hk⟩, hb⟩; unfold ndVal)
  all_goals go_ret
  all_goals exact ⟨⟨_, rfl⟩, hb⟩
theorem RStep.ofBelow (h : RIs N M b O w) (hb : Below w.heap.size w w') : RStep N M b O w M O w' := ⟨h.below hb, Turned.of_below hb, fun _ q => .inl q⟩
theorem rwrite_any (h : RIs N M b O w) (i : Int) (d : List UInt8) (hd : d.length ≤ 400) : Calls Tryz.prog 55 #[ptrTo b.F, .int .i64 i, .int .i64 0, .string ⟨d.toArray⟩] w fun e w' => (∃ n c : Int, e = .returned (.tuple #[.int .i64 n, .int .i64 c])) ∧ RStep N M b O w M O w' := by
  have HF := Lib.hid (rfile_any h i)
  go_enter Tryz.func55, Tryz.ntmps55
  unfold ptrTo at *
  go_wp2_with first
    | (go_at_call 92; (with_reducible refine HF.out.mono ?_); rintro e w1 ⟨⟨c, rfl⟩, hb1⟩; have h1 := RStep.ofBelow h hb1; have f0 := h1.is.f0; unfold ptrTo at f0)
    | (go_at_call 93; (refine (write_r h1.is i d hd).mono ?_); rintro e w2 ⟨⟨n2, c2, rfl⟩, h2⟩)
  all_goals go_ret2
  · exact ⟨⟨_, _, rfl⟩, h1⟩
  · exact ⟨⟨_, _, rfl⟩, h1.trans h2⟩
end
end Go.Proofs.YtggdedihfhibfaaGreatDoor
