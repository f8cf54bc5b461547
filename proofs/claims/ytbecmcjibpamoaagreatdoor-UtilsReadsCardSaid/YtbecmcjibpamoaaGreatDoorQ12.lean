/- FsK -/
import Derived.Test.YtbecmcjibpamoaaGreatDoorQ11
import Derived.StillTailTactics
set_option linter.unusedVariables false
set_option linter.unusedSimpArgs false
set_option linter.deprecated false
set_option linter.unnecessarySimpa false
namespace Go.Proofs.YtbecmcjibpamoaaGreatDoor
open Go.RowKit IntWalk
theorem getE_setE (k k' : Key) (v : Value) (b : Nat) : ∀ l : List (Key × Value × Nat), getE k' (setE k v b l) = if k' = k then some v else getE k' l
  | [] => by
    unfold setE getE
    by_cases h : k' = k
    · simp [h]
    · simp [h, Ne.symm h, getE]
  | e :: l => by
    unfold setE
    by_cases h : e.1 = k
    · rw [if_pos h]
      unfold getE
      by_cases q : k' = k
      · simp [q]
      · simp [q, Ne.symm q, h]
    · rw [if_neg h]
      show (if e.1 = k' then some e.2.1 else getE k' (setE k v b l)) = if k' = k then some v else (if e.1 = k' then some e.2.1 else getE k' l)
      rw [getE_setE k k' v b l]
      by_cases q : k' = k
      · subst q; simp [h]
      · simp [q]
theorem part_put (x : Nd) (p p' b : Int) : ({ x with parts := x.parts.put (.int p) (.int .i64 b) } : Nd).part p' = if p' = p then some b else x.part p' := by
  unfold Nd.part GMap.get GMap.put
  simp only
  rw [getE_setE]
  by_cases h : p' = p
  · simp [h]
  · simp [h]
theorem bk_set_true {s : Fs} {j : Nat} {l : List UInt8} {b : Int} (h : (s.bk b).isSome = true) : ((s.setB j (true, l)).bk b).isSome = true := by
  cases hb : s.bk b with
  | none => rw [hb] at h; cases h
  | some l' =>
    obtain ⟨h1, h2, h3⟩ := Fs.bk_slot hb
    unfold Fs.bk
    rw [if_neg (by omega)]
    show (match (s.bs.set j (true, l))[slotOf b]? with
      | some (true, l) => some l
      | _ => none).isSome = true
    rw [List.getElem?_set]
    by_cases e : j = slotOf b
    · rw [if_pos e, if_pos (by rw [e]; exact (List.getElem?_eq_some_iff.1 h3).1)]; rfl
    · rw [if_neg e, h3]; rfl
theorem bk_set_at {s : Fs} {j : Nat} {l : List UInt8} (h : j < s.bs.length) : (s.setB j (true, l)).bk ((j : Int) + 1) = some l := by
  unfold Fs.bk
  rw [if_neg (by omega), slotOf_eq]
  show (match (s.bs.set j (true, l))[j]? with
      | some (true, l) => some l
      | _ => none) = some l
  rw [List.getElem?_set, if_pos rfl, if_pos h]
def Fs.into (s : Fs) (k : Nat) (x : Nd) (pos : Nat) (d : List UInt8) : Option (Fs × Nd) :=
  match x.part (pos / 64 : Nat) with
  | some b => some (s.setB (slotOf b) (true, overlay ((s.bk b).getD []) (pos % 64) d), x)
  | none => match freeAt s.bs with
    | some j => some ((s.takeS k x (pos / 64 : Nat) j).setB j (true, overlay zeros (pos % 64) d), { x with parts := x.parts.put (.int (pos / 64 : Nat)) (.int .i64 (j + 1)) })
    | none => none
def chunkAt (pos done : Nat) (d : List UInt8) : List UInt8 := (d.drop done).take (64 - pos % 64)
def Fs.writeL (k at_ : Nat) (d : List UInt8) : Nat → Nat → Fs → Nd → Nat × Fs × Nd
  | 0, done, s, x => (done, s, x)
  | fuel + 1, done, s, x => if done < d.length then
      match s.into k x (at_ + done) (chunkAt (at_ + done) done d) with
      | some r => Fs.writeL k at_ d fuel (done + (chunkAt (at_ + done) done d).length) r.1 r.2
      | none => (done, s, x)
    else (done, s, x)
def Fs.writeS (s : Fs) (k : Nat) (x : Nd) (at_ : Nat) (d : List UInt8) : Nat × Fs :=
  let r := Fs.writeL k at_ d (d.length + 1) 0 s x
  (r.1, if 0 < r.1 then r.2.1.setNd k { r.2.2 with size := max x.size ((at_ + r.1 : Nat) : Int) } else r.2.1)
def Nd.taken (x : Nd) (s : Fs) : Prop := ∀ p b, x.part p = some b → (s.bk b).isSome = true
structure WInv (s : Fs) (lay : FId → Nat) (w : World) (k : Nat) (x : Nd) (at_ : Nat) (d : List UInt8) (done : Nat) (s1 : Fs) (x1 : Nd) (fuel : Nat) (W : World) : Prop where
  step : Step s lay w s1 lay W
  node : s1.nodes[k]? = some (some x1)
  size : x1.size = x.size
  taken : x1.taken s1
  same : Fs.writeL k at_ d fuel done s1 x1 = Fs.writeL k at_ d (d.length + 1) 0 s x
  fuel : d.length - done < fuel
  le : done ≤ d.length
theorem step_below {s lay w w'} (h : FsIs s lay w) (hB : Below w.heap.size w w') : Step s lay w s lay w' := ⟨h.below hB, Turned.of_below hB, fun _ q => .inl q⟩
theorem WInv.below {s : Fs} {lay w k x at_ r done s1 x1 fuel W W2} (h : WInv s lay w k x at_ r done s1 x1 fuel W) (hB : Below W.heap.size W W2) : WInv s lay w k x at_ r done s1 x1 fuel W2 :=
  ⟨h.step.trans (step_below h.step.is hB), h.node, h.size, h.taken, h.same, h.fuel, h.le⟩
theorem writeL_end {s : Fs} {lay w k x at_ r done s1 x1 fuel W} (h : WInv s lay w k x at_ r done s1 x1 fuel W) (he : done = r.length ∨ s1.into k x1 (at_ + done) (chunkAt (at_ + done) done r) = none) :
    s.writeS k x at_ r = (done, if 0 < done then s1.setNd k { x1 with size := max x.size ((at_ + done : Nat) : Int) } else s1) := by
  have hf : ∃ f, fuel = f + 1 := ⟨fuel - 1, by have := h.fuel; omega⟩
  obtain ⟨f, rfl⟩ := hf
  have hL : Fs.writeL k at_ r (r.length + 1) 0 s x = (done, s1, x1) := by
    rw [← h.same]
    unfold Fs.writeL
    rcases he with he | he
    · rw [if_neg (by omega)]
    · by_cases hlt : done < r.length
      · rw [if_pos hlt, he]
      · rw [if_neg hlt]
  unfold Fs.writeS
  rw [hL]
theorem writeL_step {s : Fs} {lay w k x at_ r done s1 x1 fuel W s2 x2 W2 m} (h : WInv s lay w k x at_ r done s1 x1 fuel W) (hlt : done < r.length) (hi : s1.into k x1 (at_ + done) (chunkAt (at_ + done) done r) = some (s2, x2)) (hm : (chunkAt (at_ + done) done r).length = m)
    (hst : Step s1 lay W s2 lay W2) (hn : s2.nodes[k]? = some (some x2)) (hs : x2.size = x1.size) (ht : x2.taken s2) (hle : done + m ≤ r.length) (hm0 : 0 < m) : ∃ f, WInv s lay w k x at_ r (done + m) s2 x2 f W2 := by
  have hf : ∃ f, fuel = f + 1 := ⟨fuel - 1, by have := h.fuel; omega⟩
  obtain ⟨f, rfl⟩ := hf
  refine ⟨f, h.step.trans hst, hn, hs.trans h.size, ht, ?_, by have := h.fuel; omega, hle⟩
  rw [← h.same]
  conv => rhs; unfold Fs.writeL
  rw [if_pos hlt, hi, hm]
theorem into_has {s1 : Fs} {k pos : Nat} {x1 : Nd} {pn on : Nat} {b : Int} {l c : List UInt8} (hpn : pn = pos / 64) (hon : on = pos % 64) (hp : x1.part pn = some b) (hl : s1.bk b = some l) : s1.into k x1 pos c = some (s1.setB (slotOf b) (true, overlay l on c), x1) := by
  subst hpn hon
  unfold Fs.into
  rw [hp]
  simp only [hl, Option.getD_some]
theorem into_take {s1 : Fs} {k pos : Nat} {x1 : Nd} {pn on j : Nat} {c : List UInt8} (hpn : pn = pos / 64) (hon : on = pos % 64) (hp : x1.part pn = none) (hj : freeAt s1.bs = some j) : s1.into k x1 pos c = some ((s1.takeS k x1 pn j).setB j (true, overlay zeros on c), { x1 with parts := x1.parts.put (.int pn) (.int .i64 (j + 1)) }) := by
  subst hpn hon
  unfold Fs.into
  rw [hp]
  simp only [hj]
theorem into_full {s1 : Fs} {k pos : Nat} {x1 : Nd} {pn : Nat} {c : List UInt8} (hpn : pn = pos / 64) (hp : x1.part pn = none) (hj : freeAt s1.bs = none) : s1.into k x1 pos c = none := by
  subst hpn
  unfold Fs.into
  rw [hp]
  simp only [hj]
theorem takeS_bk {s : Fs} {k : Nat} {x : Nd} {p : Int} {j : Nat} (hj : j < s.bs.length) : (s.takeS k x p j).bk ((j : Int) + 1) = some zeros := bk_set_at (s := s) hj
theorem takeS_taken {s : Fs} {k : Nat} {x : Nd} {p : Int} {j : Nat} (hj : j < s.bs.length) (h : x.taken s) : Nd.taken { x with parts := x.parts.put (.int p) (.int .i64 (j + 1)) } (s.takeS k x p j) := by
  intro q b hq
  rw [part_put] at hq
  by_cases e : q = p
  · rw [if_pos e] at hq
    cases hq
    rw [takeS_bk hj]; rfl
  · rw [if_neg e] at hq
    exact bk_set_true (s := s) (j := j) (l := zeros) (h q b hq)
set_option maxHeartbeats 2000000 in
set_option maxRecDepth 100000 in
theorem write_some {s lay} (i : Int) (x : Nd) (at_ : Nat) (d : List UInt8) (w : World) (h : FsIs s lay w) (hn : s.nd i = some x) (ht : x.taken s) (hs : 0 ≤ x.size ∧ x.size ≤ 4096) (hat : at_ < 4096) :
    Calls Tryz.prog 19 #[ptrTo (lay .T), .int .i64 i, .int .i64 at_, .string ⟨d.toArray⟩] w fun e w' => ∃ n s', (n, s') = s.writeS (slotOf i) x at_ (d.take (4096 - at_)) ∧
      e = .returned (.tuple #[.int .i64 n, .int .i64 (if n = 0 ∧ d ≠ [] then 20 else 0)]) ∧ Step s lay w s' lay w' := by
  obtain ⟨hi1, hi2, hk⟩ := Fs.nd_slot hn
  have hst0 := Step.refl h
  have hat4 : (at_ : Int) < 4096 := by omega
  have hsz : (⟨d.toArray⟩ : ByteArray).size = d.length := rfl
  by_cases hd0 : d = []
  · subst hd0
    have hW : s.writeS (slotOf i) x at_ (([] : List UInt8).take (4096 - at_)) = (0, s) := by rw [List.take_nil]; rfl
    go_enter Tryz.func19, Tryz.ntmps19
    unfold ptrTo
    go_wp2_with (go_at_call 37; refine (find_some i x w h hn).mono ?_; rintro e w' ⟨rfl, rfl⟩; unfold ptrTo)
    go_loopw [13] (fun v W => v = .int .i64 0 ∧ W = w) (fun v _ => 0)
    case atStart => exact ⟨rfl, rfl⟩
    case round =>
      obtain ⟨rfl, rfl⟩ := hrel
      go_wp2_with fail
      go_ret2
      exact ⟨0, s, hW.symm, by simp, hst0⟩
  go_enter Tryz.func19, Tryz.ntmps19
  unfold ptrTo
  go_wp2_with (go_at_call 37; refine (find_some i x w h hn).mono ?_; rintro e w' ⟨rfl, rfl⟩; unfold ptrTo)
  all_goals have hdl : 0 < d.length := (List.length_pos_iff.2 hd0)
  rotate_left
  · have hr : d = d.take (4096 - at_) := (List.take_of_length_le (by omega)).symm
    have hr1 := hdl
    have hrl : at_ + d.length ≤ 4096 := by omega
    replace hr := Lib.hid hr
    go_loopw [13] (fun v W => ∃ (done : Nat) (s1 : Fs) (x1 : Nd) (fuel : Nat), v = .int .i64 done ∧ WInv s lay w (slotOf i) x at_ d done s1 x1 fuel W) (fun v _ => d.length - (intOf v).toNat)
    case atStart => exact ⟨0, s, x, _, rfl, hst0, hk, rfl, ht, rfl, by omega, by omega⟩
    case round =>
      obtain ⟨done, s1, x1, fuel, rfl, hI⟩ := hrel
      by_cases hlt : done < d.length
      · have hlt2 : (done : Int) < d.length := by omega
        obtain ⟨pn, hpn⟩ : ∃ pn : Nat, pn = (at_ + done) / 64 := ⟨_, rfl⟩
        obtain ⟨on, hon⟩ : ∃ on : Nat, on = (at_ + done) % 64 := ⟨_, rfl⟩
        have hq1 := Lib.hid (show ((at_ : Int) + done) / 64 = pn by omega)
        have hq2 := Lib.hid (show ((at_ : Int) + done) % 64 = on by omega)
        have hon64 : on < 64 := by omega
        have hdone : (done : Int) ≤ 4096 := by omega
        obtain ⟨m, hm⟩ : ∃ m : Nat, m = min (d.length - done) (64 - on) := ⟨_, rfl⟩
        have hcl : (chunkAt (at_ + done) done d).length = m := by unfold chunkAt; rw [← hon, List.length_take, List.length_drop]; omega
        have hch : (d.drop done).take m = chunkAt (at_ + done) done d := by
          unfold chunkAt
          rw [← hon]
          by_cases q : d.length - done ≤ 64 - on
          · rw [List.take_of_length_le (by rw [List.length_drop]; omega), List.take_of_length_le (by rw [List.length_drop]; omega)]
          · rw [show m = 64 - on by omega]
        have hpn' := Lib.hid hpn
        have hon' := Lib.hid hon
        have hm1 : (done : Int) + m ≤ d.length := by omega
        have hm2 : on + m ≤ 64 := by omega
        have hm3 : 0 < m := by omega
        have hz0 : (0 : Int) ≤ (done : Int) + m := by omega
        have hz1 : (done : Int) ≤ (done : Int) + m := by omega
        have hz2 : ((done : Int) + m).toNat - done = m := by omega
        have hT1 := hI.step.is.t1
        unfold ptrTo at hT1
        have hcl' := Lib.hid hcl
        have hch' := Lib.hid hch
        clear hpn hon hcl hch
        cases hp : x1.part pn with
        | some b =>
          obtain ⟨l, hl⟩ := Option.isSome_iff_exists.1 (hI.taken pn b hp)
          go_wp2_with (go_at_call 38; rw [hq1.out]; refine (block_has (slotOf i) x1 pn b wr hI.step.is hI.node hp).mono ?_; rintro e w1 ⟨rfl, rfl⟩; rw [hq2.out])
          all_goals first
            | rw [show (64 - (on : Int)) = (m : Int) by omega]
            | rw [show (d.length : Int) - done = (m : Int) by omega]
          all_goals have hwr : IntKind.i64.wrap ((done : Int) + m) = (done : Int) + m := i64_in _ (by omega)
          all_goals clear hm
          all_goals go_still_tail 12, (by kernel_rfl)
          all_goals change wpList _ _ _ _ _ wr.drew
          all_goals go_wp2_with (go_at_call 39; rw [hch'.out]; refine (bwrite_any b l on (chunkAt (at_ + done) done d) wr.drew (hI.step.is.drewN 1) hl hon64 (by rw [hcl'.out]; exact hm2)).mono ?_; rintro e w2 ⟨rfl, hst⟩)
          all_goals obtain ⟨f, hI2⟩ := writeL_step (W2 := w2) hI hlt (into_has hpn'.out hon'.out hp hl) hcl'.out ((Step.refl hI.step.is).drewN 1 |>.trans hst) hI.node rfl (fun q c hq => bk_set_true (hI.taken q c hq)) (by omega) hm3
          all_goals go_roundw
          case rel => exact ⟨done + m, _, _, _, by go_num, hI2⟩
          case measure => simp [intOf]; omega
          case rel => exact ⟨done + m, _, _, _, by go_num, hI2⟩
          case measure => simp [intOf]; omega
        | none =>
          cases hj : freeAt s1.bs with
          | some j =>
            have hjl : j < s1.bs.length := by obtain ⟨_, hx⟩ := freeAt_some _ _ hj; exact (List.getElem?_eq_some_iff.1 hx).1
            have hkl : slotOf i < s1.nodes.length := (List.getElem?_eq_some_iff.1 hI.node).1
            go_wp2_with (go_at_call 38; rw [hq1.out]; refine (block_take (slotOf i) j x1 pn wr hI.step.is hI.node hp hj).mono ?_; rintro e w1 ⟨rfl, hst1⟩; rw [hq2.out]; clear hT1; have hT1 := hst1.is.t1; unfold ptrTo at hT1)
            all_goals first
              | rw [show (64 - (on : Int)) = (m : Int) by omega]
              | rw [show (d.length : Int) - done = (m : Int) by omega]
            all_goals have hwr : IntKind.i64.wrap ((done : Int) + m) = (done : Int) + m := i64_in _ (by omega)
            all_goals clear hm
            all_goals go_still_tail 12, (by kernel_rfl)
            all_goals change wpList _ _ _ _ _ w1.drew
            all_goals go_wp2_with (go_at_call 39; rw [hch'.out]; refine (bwrite_any ((j : Int) + 1) zeros on (chunkAt (at_ + done) done d) w1.drew (hst1.is.drewN 1) (takeS_bk hjl) hon64 (by rw [hcl'.out]; exact hm2)).mono ?_; rintro e w2 ⟨rfl, hst⟩; rw [slotOf_eq] at hst)
            all_goals obtain ⟨f, hI2⟩ := writeL_step (W2 := w2) hI hlt (into_take hpn'.out hon'.out hp hj) hcl'.out (hst1.trans ((Step.refl hst1.is).drewN 1 |>.trans hst)) (by show (s1.takeS (slotOf i) x1 pn j).nodes[slotOf i]? = _; unfold Fs.takeS; rw [Fs.setNd_get, if_pos rfl]; exact if_pos hkl) rfl (fun q c hq => bk_set_true (takeS_taken hjl hI.taken q c hq)) (by omega) hm3
            all_goals go_roundw
            case rel => exact ⟨done + m, _, _, _, by go_num, hI2⟩
            case measure => simp [intOf]; omega
            case rel => exact ⟨done + m, _, _, _, by go_num, hI2⟩
            case measure => simp [intOf]; omega
          | none =>
            by_cases h00 : done = 0
            · have hb : (((done : Nat) : Int) == 0) = true := by rw [h00]; rfl
              have h00' := Lib.hid h00
              clear h00
              go_wp2_with (go_at_call 38; rw [hq1.out]; refine (block_full (slotOf i) x1 pn wr hI.step.is hI.node hp hj).mono ?_; rintro e w1 ⟨rfl, hB⟩)
              go_ret2
              have hfin := writeL_end hI (.inr (into_full hpn'.out hp hj))
              obtain rfl := h00'.out
              exact ⟨0, _, by rw [← hr.out]; exact hfin.symm, by simp [hd0], hI.step.trans (step_below hI.step.is hB)⟩
            · have h00' : (((done : Nat) : Int) == 0) = false := by rw [beq_eq_false_iff_ne]; omega
              go_wp2_with (go_at_call 38; rw [hq1.out]; refine (block_full (slotOf i) x1 pn wr hI.step.is hI.node hp hj).mono ?_; rintro e w1 ⟨rfl, hB⟩; clear hT1; replace hI := hI.below hB; have hfin := writeL_end hI (.inr (into_full hpn'.out hp hj)); have c3 := hI.step.is.n3 hI.node; have f3 := hI.step.is.nf hI.node 3; rw [hI.size] at c3; have h0' : 0 < done := (by omega); have h0'' : (0 : Int) < done := (by omega); have h0n : ¬ done = 0 := (by omega); have hdle : (at_ : Int) + done ≤ 4096 := (by have := hI.le; omega); rw [if_pos h0'] at hfin; have hst := hI.step.setN (o := 3) (v := .int .i64 (max x.size ((at_ + done : Nat) : Int))) hI.node (x := { x1 with size := max x.size ((at_ + done : Nat) : Int) }) rfl rfl; have hst' := Lib.hid hst; have hfin' := Lib.hid hfin; clear hst hfin)
              all_goals go_ret2
              all_goals refine ⟨done, _, by rw [← hr.out]; exact hfin'.out.symm, by simp [h0n], ?_⟩
              all_goals have hst := hst'.out
              all_goals first
                | (have e : max x.size ((at_ + done : Nat) : Int) = (at_ : Int) + done := (by omega); rw [e] at hst ⊢; exact hst)
                | (have e : max x.size ((at_ + done : Nat) : Int) = x.size := (by omega); rw [e] at hst ⊢; exact hst)
      · have hd1 : done = d.length := by have := hI.le; omega
        have hlt2 : (d.length : Int) ≤ done := by omega
        have hd1' := Lib.hid hd1
        clear hd1
        have hfin := writeL_end hI (.inl hd1'.out)
        have c3 := hI.step.is.n3 hI.node
        have f3 := hI.step.is.nf hI.node 3
        rw [hI.size] at c3
        have h0' : 0 < done := by have := hd1'.out; omega
        have h0'' : (0 : Int) < done := by omega
        have h0n : ¬ done = 0 := by omega
        have hdle : (at_ : Int) + done ≤ 4096 := by have := hI.le; omega
        rw [if_pos h0'] at hfin
        have hst := hI.step.setN (o := 3) (v := .int .i64 (max x.size ((at_ + done : Nat) : Int))) hI.node (x := { x1 with size := max x.size ((at_ + done : Nat) : Int) }) rfl rfl
        have hst' := Lib.hid hst
        have hfin' := Lib.hid hfin
        clear hst hfin
        go_wp2_with fail
        all_goals go_ret2
        all_goals refine ⟨done, _, by rw [← hr.out]; exact hfin'.out.symm, by simp [h0n], ?_⟩
        all_goals have hst := hst'.out
        all_goals first
          | (have e : max x.size ((at_ + done : Nat) : Int) = (at_ : Int) + done := (by omega); rw [e] at hst ⊢; exact hst)
          | (have e : max x.size ((at_ + done : Nat) : Int) = x.size := (by omega); rw [e] at hst ⊢; exact hst)
  · generalize hr : d.take (4096 - at_) = r
    have hr1 : 0 < r.length := by rw [← hr, List.length_take]; omega
    have hrl : at_ + r.length ≤ 4096 := by rw [← hr, List.length_take]; omega
    replace hr := Lib.hid hr.symm
    go_loopw [13] (fun v W => ∃ (done : Nat) (s1 : Fs) (x1 : Nd) (fuel : Nat), v = .int .i64 done ∧ WInv s lay w (slotOf i) x at_ r done s1 x1 fuel W) (fun v _ => r.length - (intOf v).toNat)
    case atStart => exact ⟨0, s, x, _, rfl, hst0, hk, rfl, ht, rfl, by omega, by omega⟩
    case round =>
      obtain ⟨done, s1, x1, fuel, rfl, hI⟩ := hrel
      by_cases hlt : done < r.length
      · have hlt2 : (done : Int) < r.length := by omega
        obtain ⟨pn, hpn⟩ : ∃ pn : Nat, pn = (at_ + done) / 64 := ⟨_, rfl⟩
        obtain ⟨on, hon⟩ : ∃ on : Nat, on = (at_ + done) % 64 := ⟨_, rfl⟩
        have hq1 := Lib.hid (show ((at_ : Int) + done) / 64 = pn by omega)
        have hq2 := Lib.hid (show ((at_ : Int) + done) % 64 = on by omega)
        have hon64 : on < 64 := by omega
        have hdone : (done : Int) ≤ 4096 := by omega
        obtain ⟨m, hm⟩ : ∃ m : Nat, m = min (r.length - done) (64 - on) := ⟨_, rfl⟩
        have hcl : (chunkAt (at_ + done) done r).length = m := by unfold chunkAt; rw [← hon, List.length_take, List.length_drop]; omega
        have hch : (r.drop done).take m = chunkAt (at_ + done) done r := by
          unfold chunkAt
          rw [← hon]
          by_cases q : r.length - done ≤ 64 - on
          · rw [List.take_of_length_le (by rw [List.length_drop]; omega), List.take_of_length_le (by rw [List.length_drop]; omega)]
          · rw [show m = 64 - on by omega]
        have hpn' := Lib.hid hpn
        have hon' := Lib.hid hon
        have hm1 : (done : Int) + m ≤ r.length := by omega
        have hm2 : on + m ≤ 64 := by omega
        have hm3 : 0 < m := by omega
        have hz0 : (0 : Int) ≤ (done : Int) + m := by omega
        have hz1 : (done : Int) ≤ (done : Int) + m := by omega
        have hz2 : ((done : Int) + m).toNat - done = m := by omega
        have hT1 := hI.step.is.t1
        unfold ptrTo at hT1
        have hcl' := Lib.hid hcl
        have hch' := Lib.hid hch
        clear hpn hon hcl hch
        cases hp : x1.part pn with
        | some b =>
          obtain ⟨l, hl⟩ := Option.isSome_iff_exists.1 (hI.taken pn b hp)
          go_wp2_with (go_at_call 38; rw [hq1.out]; refine (block_has (slotOf i) x1 pn b wr hI.step.is hI.node hp).mono ?_; rintro e w1 ⟨rfl, rfl⟩; rw [hq2.out])
          all_goals first
            | rw [show (64 - (on : Int)) = (m : Int) by omega]
            | rw [show (r.length : Int) - done = (m : Int) by omega]
          all_goals have hwr : IntKind.i64.wrap ((done : Int) + m) = (done : Int) + m := i64_in _ (by omega)
          all_goals clear hm
          all_goals go_still_tail 12, (by kernel_rfl)
          all_goals change wpList _ _ _ _ _ wr.drew
          all_goals go_wp2_with (go_at_call 39; rw [hch'.out]; refine (bwrite_any b l on (chunkAt (at_ + done) done r) wr.drew (hI.step.is.drewN 1) hl hon64 (by rw [hcl'.out]; exact hm2)).mono ?_; rintro e w2 ⟨rfl, hst⟩)
          all_goals obtain ⟨f, hI2⟩ := writeL_step (W2 := w2) hI hlt (into_has hpn'.out hon'.out hp hl) hcl'.out ((Step.refl hI.step.is).drewN 1 |>.trans hst) hI.node rfl (fun q c hq => bk_set_true (hI.taken q c hq)) (by omega) hm3
          all_goals go_roundw
          case rel => exact ⟨done + m, _, _, _, by go_num, hI2⟩
          case measure => simp [intOf]; omega
          case rel => exact ⟨done + m, _, _, _, by go_num, hI2⟩
          case measure => simp [intOf]; omega
        | none =>
          cases hj : freeAt s1.bs with
          | some j =>
            have hjl : j < s1.bs.length := by obtain ⟨_, hx⟩ := freeAt_some _ _ hj; exact (List.getElem?_eq_some_iff.1 hx).1
            have hkl : slotOf i < s1.nodes.length := (List.getElem?_eq_some_iff.1 hI.node).1
            go_wp2_with (go_at_call 38; rw [hq1.out]; refine (block_take (slotOf i) j x1 pn wr hI.step.is hI.node hp hj).mono ?_; rintro e w1 ⟨rfl, hst1⟩; rw [hq2.out]; clear hT1; have hT1 := hst1.is.t1; unfold ptrTo at hT1)
            all_goals first
              | rw [show (64 - (on : Int)) = (m : Int) by omega]
              | rw [show (r.length : Int) - done = (m : Int) by omega]
            all_goals have hwr : IntKind.i64.wrap ((done : Int) + m) = (done : Int) + m := i64_in _ (by omega)
            all_goals clear hm
            all_goals go_still_tail 12, (by kernel_rfl)
            all_goals change wpList _ _ _ _ _ w1.drew
            all_goals go_wp2_with (go_at_call 39; rw [hch'.out]; refine (bwrite_any ((j : Int) + 1) zeros on (chunkAt (at_ + done) done r) w1.drew (hst1.is.drewN 1) (takeS_bk hjl) hon64 (by rw [hcl'.out]; exact hm2)).mono ?_; rintro e w2 ⟨rfl, hst⟩; rw [slotOf_eq] at hst)
            all_goals obtain ⟨f, hI2⟩ := writeL_step (W2 := w2) hI hlt (into_take hpn'.out hon'.out hp hj) hcl'.out (hst1.trans ((Step.refl hst1.is).drewN 1 |>.trans hst)) (by show (s1.takeS (slotOf i) x1 pn j).nodes[slotOf i]? = _; unfold Fs.takeS; rw [Fs.setNd_get, if_pos rfl]; exact if_pos hkl) rfl (fun q c hq => bk_set_true (takeS_taken hjl hI.taken q c hq)) (by omega) hm3
            all_goals go_roundw
            case rel => exact ⟨done + m, _, _, _, by go_num, hI2⟩
            case measure => simp [intOf]; omega
            case rel => exact ⟨done + m, _, _, _, by go_num, hI2⟩
            case measure => simp [intOf]; omega
          | none =>
            by_cases h00 : done = 0
            · have hb : (((done : Nat) : Int) == 0) = true := by rw [h00]; rfl
              have h00' := Lib.hid h00
              clear h00
              go_wp2_with (go_at_call 38; rw [hq1.out]; refine (block_full (slotOf i) x1 pn wr hI.step.is hI.node hp hj).mono ?_; rintro e w1 ⟨rfl, hB⟩)
              go_ret2
              have hfin := writeL_end hI (.inr (into_full hpn'.out hp hj))
              obtain rfl := h00'.out
              exact ⟨0, _, by rw [← hr.out]; exact hfin.symm, by simp [hd0], hI.step.trans (step_below hI.step.is hB)⟩
            · have h00' : (((done : Nat) : Int) == 0) = false := by rw [beq_eq_false_iff_ne]; omega
              go_wp2_with (go_at_call 38; rw [hq1.out]; refine (block_full (slotOf i) x1 pn wr hI.step.is hI.node hp hj).mono ?_; rintro e w1 ⟨rfl, hB⟩; clear hT1; replace hI := hI.below hB; have hfin := writeL_end hI (.inr (into_full hpn'.out hp hj)); have c3 := hI.step.is.n3 hI.node; have f3 := hI.step.is.nf hI.node 3; rw [hI.size] at c3; have h0' : 0 < done := (by omega); have h0'' : (0 : Int) < done := (by omega); have h0n : ¬ done = 0 := (by omega); have hdle : (at_ : Int) + done ≤ 4096 := (by have := hI.le; omega); rw [if_pos h0'] at hfin; have hst := hI.step.setN (o := 3) (v := .int .i64 (max x.size ((at_ + done : Nat) : Int))) hI.node (x := { x1 with size := max x.size ((at_ + done : Nat) : Int) }) rfl rfl; have hst' := Lib.hid hst; have hfin' := Lib.hid hfin; clear hst hfin)
              all_goals go_ret2
              all_goals refine ⟨done, _, by rw [← hr.out]; exact hfin'.out.symm, by simp [h0n], ?_⟩
              all_goals have hst := hst'.out
              all_goals first
                | (have e : max x.size ((at_ + done : Nat) : Int) = (at_ : Int) + done := (by omega); rw [e] at hst ⊢; exact hst)
                | (have e : max x.size ((at_ + done : Nat) : Int) = x.size := (by omega); rw [e] at hst ⊢; exact hst)
      · have hd1 : done = r.length := by have := hI.le; omega
        have hlt2 : (r.length : Int) ≤ done := by omega
        have hd1' := Lib.hid hd1
        clear hd1
        have hfin := writeL_end hI (.inl hd1'.out)
        have c3 := hI.step.is.n3 hI.node
        have f3 := hI.step.is.nf hI.node 3
        rw [hI.size] at c3
        have h0' : 0 < done := by have := hd1'.out; omega
        have h0'' : (0 : Int) < done := by omega
        have h0n : ¬ done = 0 := by omega
        have hdle : (at_ : Int) + done ≤ 4096 := by have := hI.le; omega
        rw [if_pos h0'] at hfin
        have hst := hI.step.setN (o := 3) (v := .int .i64 (max x.size ((at_ + done : Nat) : Int))) hI.node (x := { x1 with size := max x.size ((at_ + done : Nat) : Int) }) rfl rfl
        have hst' := Lib.hid hst
        have hfin' := Lib.hid hfin
        clear hst hfin
        go_wp2_with fail
        all_goals go_ret2
        all_goals refine ⟨done, _, by rw [← hr.out]; exact hfin'.out.symm, by simp [h0n], ?_⟩
        all_goals have hst := hst'.out
        all_goals first
          | (have e : max x.size ((at_ + done : Nat) : Int) = (at_ : Int) + done := (by omega); rw [e] at hst ⊢; exact hst)
          | (have e : max x.size ((at_ + done : Nat) : Int) = x.size := (by omega); rw [e] at hst ⊢; exact hst)
end Go.Proofs.YtbecmcjibpamoaaGreatDoor
