/- Texts of one proof, packed: WgH, WgI, WgR, WgS, WgT, Own, WgU, WgV, WgW, WgX, WgY -/
import Derived.Test.YtelohloaoocoaaaGreatDoorM01
import Derived.Test.YtelohloaoocoaaaGreatDoorShelf
import Derived.Sort.OwnSortedInts
import Derived.StillTailTactics
import Derived.Lib.AppendStr
import Derived.Deep.RegionHeld3
set_option linter.unusedVariables false
set_option linter.unusedSimpArgs false
set_option linter.deprecated false
set_option linter.unnecessarySimpa false
/- procs.Table: leave, Exit of a process without children, Wait. -/
namespace Go.Proofs.YtelohloaoocoaaaGreatDoor
open Go.RowKit IntWalk
set_option linter.unusedVariables false
set_option linter.unusedSimpArgs false
set_option linter.unnecessarySimpa false

theorem leave_zero {t lay} (i : Int) (w : World) (h : TabIs t lay w) : Calls Tryz.prog 137 #[ptrOf (lay .T), .int .i64 i, .int .i64 0] w fun e w' => e = .returned (.tuple #[]) ∧ TStep t lay w (t.delP i) lay w' := by
  have c1 := h.t1
  have hst := (TStep.refl h).delP i
  have hdel := fun ty => GMap.drop (P := Tryz.prog) (w := w) (ts := #[129, 3]) (ty := ty) (k := .int i) rfl Tryz.underlying129 Tryz.underlying3 (PMap.of_gm t.m _) h.mapAt
  simp only [Key.val] at hdel
  have HS := Lib.hid hst
  unfold ptrOf at *
  clear h hst
  go_enter Tryz.func137, Tryz.ntmps137
  go_wp2_with fail
  refine bodyPost_ret (results_none rfl _ _ _) rfl ?_
  exact ⟨rfl, HS.out⟩
theorem leave_to {t lay} (i p : Int) (w : World) (h : TabIs t lay w) (hi : i ∈ t.m.keys) (hp : p ∈ t.m.keys) (hip : i ≠ p) (h0 : p ≠ 0) (hs : (t.pr p).state ≠ 3) : Calls Tryz.prog 137 #[ptrOf (lay .T), .int .i64 i, .int .i64 p] w fun e w' => e = .returned (.tuple #[]) ∧ TStep t lay w ((t.setP i { t.pr i with parent := p }).turnS p 1) lay w' := by
  have c1 := h.t1
  have hlook := h.look_in hi
  have c2 := h.p1 hi
  have f2 := h.pf hi 1
  have hst := (TStep.refl h).setP hi 1 (.int .i64 p) { t.pr i with parent := p } rfl
  have hb0 : (p == 0) = false := by simpa using h0
  have HW := Lib.hid (wake_in (t := t.setP i { t.pr i with parent := p }) p _ hst.is hp (by
    show (if p = i then _ else t.pr p).state ≠ 3
    rw [if_neg (Ne.symm hip)]; exact hs))
  have HS := Lib.hid hst
  unfold ptrOf at *
  clear h hst hi hp
  go_enter Tryz.func137, Tryz.ntmps137
  go_wp2_with (go_at_call 47; refine HW.out.mono ?_; rintro e w' ⟨rfl, hs2⟩)
  go_end0
  exact ⟨rfl, HS.out.trans hs2⟩
set_option maxRecDepth 100000 in
theorem ended_one {t lay} (st : Int) (w : World) (h : TabIs t lay w) (hi : 1 ∈ t.m.keys) (hs : (t.pr 1).state ≠ 3) (hpp : (t.pr 1).parent = 0) (hno : ∀ j ∈ t.m.keys, (t.pr j).parent ≠ 1) :
    Calls Tryz.prog 111 #[ptrOf (lay .T), .int .i64 1, .int .i64 st] w fun e w' => e = .returned (.int .i64 0) ∧ TStep t lay w ((t.setP 1 ⟨3, 0, st⟩).delP 1) lay w' := by
  have c1 := h.t1
  have hlook := h.look_in hi
  have c2 := h.p0 hi
  have c3 := h.p2 hi
  have f2 := h.pf hi 0
  have f3 := h.pf hi 2
  have hA := Lib.hid (alive_in 1 w h hi hs)
  have hst := ((TStep.refl h).setP hi 0 (.int .i64 3) { t.pr 1 with state := 3 } rfl).setP (i := 1) hi 2 (.int .i64 st) ⟨3, 0, st⟩ (by simp [Tab.setP, prV, hpp])
  have hsp : (t.setP 1 { t.pr 1 with state := 3 }).setP 1 ⟨3, 0, st⟩ = t.setP 1 ⟨3, 0, st⟩ := by
    simp only [Tab.setP, Tab.mk.injEq, true_and]
    funext j
    by_cases e : j = 1 <;> simp [e]
  rw [hsp] at hst
  obtain ⟨gm, hgm⟩ : ∃ gm, gm = (t.setP 1 ⟨3, 0, st⟩).m.gm (fun i => lay (.P i)) := ⟨_, rfl⟩
  have hgd : gm.Good := by rw [hgm]; exact PMap.good_gm hst.ok _
  have HM := Lib.hid (fun x (hx : x ∈ gm.es) => PMap.mem_gm (hgm ▸ hx))
  have hM0 : ((w.setCell ⟨lay (.P 1), 0, none⟩ (.int .i64 3)).setCell ⟨lay (.P 1), 2, none⟩ (.int .i64 st)).heap[lay .M]? = some gm.obj := by rw [hgm]; exact hst.is.mapAt
  have hrun := run_range_g (P := Tryz.prog) Tryz.underlying129 hM0
  have HM0 := Lib.hid hM0
  have HS := Lib.hid hst
  have HI := Lib.hid hi
  have HNO := Lib.hid hno
  have HP := Lib.hid hpp
  have H := Lib.hid h
  unfold ptrOf at *
  clear hst hsp hno hi hs hpp h hgm hM0
  go_enter Tryz.func111, Tryz.ntmps111
  go_wp2_with (go_at_call 54; refine hA.out.mono ?_; rintro e w' ⟨rfl, rfl⟩)
  have hS := HS.out
  have hM2 := HM0.out
  have hsz2 : ((w.setCell ⟨lay (.P 1), 0, none⟩ (.int .i64 3)).setCell ⟨lay (.P 1), 2, none⟩ (.int .i64 st)).heap.size = w.heap.size := by simp
  clear HS HM0 hrun hlook c2 c3 f2 f3
  generalize ((w.setCell ⟨lay (.P 1), 0, none⟩ (.int .i64 3)).setCell ⟨lay (.P 1), 2, none⟩ (.int .i64 st)) = w2 at *
  have hI0 := It.start w2 (lay .M) gm.clk
  rw [hsz2] at hI0
  clear hsz2
  generalize w.heap.size = r at *
  have hMlt : lay .M < w2.heap.size := hS.is.lies.owns_lt ⟨.M, by simp [Tab.obj], rfl⟩
  go_loopw [11] (fun _ W => ∃ seen, It w2 (lay .M) gm.clk r seen W) (fun _ W => leftN gm.es W r)
  case atStart => exact ⟨_, hI0⟩
  case round =>
    obtain ⟨seen, hI⟩ := hrel
    have hM : wr.heap[lay .M]? = some gm.obj := (hI.below.block _ hMlt).trans hM2
    clear hI0
    go_wp2_with (refine wpList_next_o rfl _ rfl r (lay .M) seen gm rfl hI.it hM hgd ?_ ?_)
    · intro hall
      have hT : TabIs (t.setP 1 ⟨3, 0, st⟩) lay wr := hS.is.below hI.below
      have cp : wr.cell? ⟨lay (.P 1), 1, none⟩ = some (.int .i64 0) := by
        have := hT.p1 (i := 1) HI.out
        simpa [Tab.setP] using this
      have HW := Lib.hid (leave_zero 1 wr hT)
      unfold ptrOf at *
      clear hT
      go_wp2_with (go_at_call 137; refine HW.out.mono ?_; rintro e w' ⟨rfl, hs2⟩)
      go_ret
      exact ⟨rfl, (hS.below hI.below).trans hs2⟩
    · intro ek ev eb he hns n
      obtain ⟨j, hj, h1, h2, h3⟩ := HM.out _ he
      simp only at h1 h2 h3
      subst h1 h2
      have hI2 := hI.next n eb
      have hd := hI.left hI2 he rfl hns
      generalize putO (wr.drewN n) r (iterO (lay .M) gm.clk (seen.push eb)) = w4 at *
      have hM4 : w4.heap[lay .M]? = some gm.obj := (hI2.below.block _ hMlt).trans hM2
      have hent := run_entry_g (P := Tryz.prog) hI2.it hM4 he hgd
      have c5 := (hS.is.below hI2.below).p1 hj
      have hnp : (((t.setP 1 ⟨3, 0, st⟩).pr j).parent != 1) = true := by
        have h5 := HNO.out j hj
        have h6 := HNO.out 1 HI.out
        by_cases e : j = 1
        · subst e
          simp only [Tab.setP, if_pos]
          rw [HP.out] at h6
          simpa using h6
        · simp only [Tab.setP, if_neg e]; simpa using h5
      simp only [Key.val] at hent ⊢
      generalize ((t.setP 1 ⟨3, 0, st⟩).pr j).parent = pj at *
      unfold ptrOf at *
      clear hM hM4
      go_wp2_with fail
      go_roundw
      case rel => exact ⟨seen.push eb, hI2⟩
      case measure => exact hd
set_option maxRecDepth 100000 in
theorem ended_kid {t lay} (i p st : Int) (w : World) (h : TabIs t lay w) (hi : i ∈ t.m.keys) (hs : (t.pr i).state ≠ 3) (hpp : (t.pr i).parent = p) (hi1 : i ≠ 1) (h1 : 1 ∈ t.m.keys) (hp : p ∈ t.m.keys) (hip : i ≠ p) (hp0 : p ≠ 0) (hps : (t.pr p).state ≠ 3) (hno : ∀ j ∈ t.m.keys, (t.pr j).parent ≠ i) :
    Calls Tryz.prog 111 #[ptrOf (lay .T), .int .i64 i, .int .i64 st] w fun e w' => e = .returned (.int .i64 0) ∧ TStep t lay w (((t.setP i ⟨3, p, st⟩).setP i { (t.setP i ⟨3, p, st⟩).pr i with parent := p }).turnS p 1) lay w' := by
  have c1 := h.t1
  have hlook := h.look_in h1
  have hii : (i != 1) = true := by simpa using hi1
  have q0 := h.p0 h1
  have q1 := h.p1 h1
  obtain ⟨s1, hs1⟩ : ∃ s1, (t.pr 1).state = s1 := ⟨_, rfl⟩
  obtain ⟨p1, hp1⟩ : ∃ p1, (t.pr 1).parent = p1 := ⟨_, rfl⟩
  rw [hs1] at q0
  rw [hp1] at q1
  have hL := lives_at (lay (.P 1)) s1 w q0 (!(s1 == 3)) (by simp)
  clear hs1 hp1
  have HH := Lib.hid (And.intro hp (And.intro hip (And.intro hp0 hps)))
  have c2 := h.p0 hi
  have c3 := h.p2 hi
  have f2 := h.pf hi 0
  have f3 := h.pf hi 2
  have hA := Lib.hid (alive_in i w h hi hs)
  have hst := ((TStep.refl h).setP hi 0 (.int .i64 3) { t.pr i with state := 3 } rfl).setP (i := i) hi 2 (.int .i64 st) ⟨3, p, st⟩ (by simp [Tab.setP, prV, hpp])
  have hsp : (t.setP i { t.pr i with state := 3 }).setP i ⟨3, p, st⟩ = t.setP i ⟨3, p, st⟩ := by
    simp only [Tab.setP, Tab.mk.injEq, true_and]
    funext j
    by_cases e : j = i <;> simp [e]
  rw [hsp] at hst
  obtain ⟨gm, hgm⟩ : ∃ gm, gm = (t.setP i ⟨3, p, st⟩).m.gm (fun i => lay (.P i)) := ⟨_, rfl⟩
  have hgd : gm.Good := by rw [hgm]; exact PMap.good_gm hst.ok _
  have HM := Lib.hid (fun x (hx : x ∈ gm.es) => PMap.mem_gm (hgm ▸ hx))
  have hM0 : ((w.setCell ⟨lay (.P i), 0, none⟩ (.int .i64 3)).setCell ⟨lay (.P i), 2, none⟩ (.int .i64 st)).heap[lay .M]? = some gm.obj := by rw [hgm]; exact hst.is.mapAt
  have hrun := run_range_g (P := Tryz.prog) Tryz.underlying129 hM0
  have HM0 := Lib.hid hM0
  have HS := Lib.hid hst
  have HI := Lib.hid hi
  have HNO := Lib.hid hno
  have HP := Lib.hid hpp
  have H := Lib.hid h
  unfold ptrOf at *
  clear hst hsp hno hi hs hpp h hgm hM0 hi1 h1 hp hip hp0 hps
  have hcs : (s1 == 3) = true ∨ ((s1 == 3) = false ∧ (p1 == 0) = true) ∨ ((s1 == 3) = false ∧ (p1 == 0) = false) := by
    cases (s1 == 3) <;> cases (p1 == 0) <;> simp
  rcases hcs with e1 | ⟨e1, e2⟩ | ⟨e1, e2⟩ <;> rw [e1] at hL <;> simp only [Bool.not_true, Bool.not_false] at hL <;> have HL := Lib.hid hL <;> clear hL
  all_goals
    go_enter Tryz.func111, Tryz.ntmps111
    go_wp2_with first
          | (go_at_call 54; refine hA.out.mono ?_; rintro e w' ⟨rfl, rfl⟩)
          | (go_at_call 82; refine HL.out.mono ?_; rintro e w' ⟨rfl, rfl⟩)
    have hS := HS.out
    have hM2 := HM0.out
    have hsz2 : ((w.setCell ⟨lay (.P i), 0, none⟩ (.int .i64 3)).setCell ⟨lay (.P i), 2, none⟩ (.int .i64 st)).heap.size = w.heap.size := by simp
    clear HS HM0 hrun hlook c2 c3 f2 f3 q0 q1
    generalize ((w.setCell ⟨lay (.P i), 0, none⟩ (.int .i64 3)).setCell ⟨lay (.P i), 2, none⟩ (.int .i64 st)) = w2 at *
    have hI0 := It.start w2 (lay .M) gm.clk
    rw [hsz2] at hI0
    clear hsz2
    generalize w.heap.size = r at *
    have hMlt : lay .M < w2.heap.size := hS.is.lies.owns_lt ⟨.M, by simp [Tab.obj], rfl⟩
    go_loopw [11] (fun _ W => ∃ seen, It w2 (lay .M) gm.clk r seen W) (fun _ W => leftN gm.es W r)
    case atStart => exact ⟨_, hI0⟩
    case round =>
      obtain ⟨seen, hI⟩ := hrel
      have hM : wr.heap[lay .M]? = some gm.obj := (hI.below.block _ hMlt).trans hM2
      clear hI0
      go_wp2_with (refine wpList_next_o rfl _ rfl r (lay .M) seen gm rfl hI.it hM hgd ?_ ?_)
      · intro hall
        have hT : TabIs (t.setP i ⟨3, p, st⟩) lay wr := hS.is.below hI.below
        have cp : wr.cell? ⟨lay (.P i), 1, none⟩ = some (.int .i64 p) := by
          have := hT.p1 (i := i) HI.out
          simpa [Tab.setP] using this
        have HW := Lib.hid (leave_to i p wr hT HI.out HH.out.1 HH.out.2.1 HH.out.2.2.1 (by show (if p = i then _ else t.pr p).state ≠ 3; rw [if_neg (Ne.symm HH.out.2.1)]; exact HH.out.2.2.2))
        unfold ptrOf at *
        clear hT
        go_wp2_with (go_at_call 137; refine HW.out.mono ?_; rintro e w' ⟨rfl, hs2⟩)
        go_ret
        exact ⟨rfl, (hS.below hI.below).trans hs2⟩
      · intro ek ev eb he hns n
        obtain ⟨j, hj, h1, h2, h3⟩ := HM.out _ he
        simp only at h1 h2 h3
        subst h1 h2
        have hI2 := hI.next n eb
        have hd := hI.left hI2 he rfl hns
        generalize putO (wr.drewN n) r (iterO (lay .M) gm.clk (seen.push eb)) = w4 at *
        have hM4 : w4.heap[lay .M]? = some gm.obj := (hI2.below.block _ hMlt).trans hM2
        have hent := run_entry_g (P := Tryz.prog) hI2.it hM4 he hgd
        have c5 := (hS.is.below hI2.below).p1 hj
        have hnp : (((t.setP i ⟨3, p, st⟩).pr j).parent != i) = true := by
          have h5 := HNO.out j hj
          have h6 := HNO.out i HI.out
          by_cases e : j = i
          · subst e
            simp only [Tab.setP, if_pos]
            rw [HP.out] at h6
            simpa using h6
          · simp only [Tab.setP, if_neg e]; simpa using h5
        simp only [Key.val] at hent ⊢
        generalize ((t.setP i ⟨3, p, st⟩).pr j).parent = pj at *
        unfold ptrOf at *
        clear hM hM4
        go_wp2_with fail
        go_roundw
        case rel => exact ⟨seen.push eb, hI2⟩
        case measure => exact hd
end Go.Proofs.YtelohloaoocoaaaGreatDoor
/- procs.Table: Wait for any child. -/
namespace Go.Proofs.YtelohloaoocoaaaGreatDoor
open Go.RowKit IntWalk
set_option linter.unusedVariables false
set_option linter.unusedSimpArgs false
set_option linter.unnecessarySimpa false

theorem born_inj : ∀ {l : List (Int × Nat)} {i j : Int} {c : Nat}, (l.map (·.2)).Nodup → (i, c) ∈ l → (j, c) ∈ l → i = j
  | [], _, _, _, _, h, _ => by cases h
  | e :: l, i, j, c, hn, hi, hj => by
    rw [List.map_cons, List.nodup_cons] at hn
    rcases List.mem_cons.1 hi with q | q <;> rcases List.mem_cons.1 hj with r | r
    · rw [← q] at r; cases r; rfl
    · exact absurd (List.mem_map_of_mem (f := (·.2)) r) (by rw [← q] at hn; exact hn.1)
    · exact absurd (List.mem_map_of_mem (f := (·.2)) q) (by rw [← r] at hn; exact hn.1)
    · exact born_inj hn.2 q r
/-- a child that has ended -/
def Tab.dead (t : Tab) (p i : Int) : Prop := i ∈ t.m.keys ∧ (t.pr i).parent = p ∧ (t.pr i).state = 3
/-- what a wait takes up: 0: none yet -/
def Tab.Reaps (t : Tab) (p z : Int) : Prop := (z = 0 ∧ ∀ i, ¬ t.dead p i) ∨ (t.dead p z ∧ ∀ i, t.dead p i → z ≤ i)
/-- what is found as far as the range has come -/
structure WtR (t : Tab) (p : Int) (seen : Array Nat) (fo : Bool) (le : Int) : Prop where
  found : (∃ i b, (i, b) ∈ t.m.es ∧ b ∈ seen ∧ (t.pr i).parent = p) → fo = true
  least : (le = 0 ∧ ∀ i b, (i, b) ∈ t.m.es → b ∈ seen → ¬ t.dead p i) ∨ (0 < le ∧ t.dead p le ∧ ∀ i b, (i, b) ∈ t.m.es → b ∈ seen → t.dead p i → le ≤ i)
theorem WtR.start (t : Tab) (p : Int) : WtR t p #[] false 0 := ⟨fun ⟨i, b, _, h, _⟩ => by simp at h, .inl ⟨rfl, fun i b _ h => by simp at h⟩⟩
/-- one that is no child -/
theorem WtR.skip {t : Tab} {p : Int} {seen : Array Nat} {fo : Bool} {le : Int} (h : WtR t p seen fo le) {j : Int} {b : Nat} (hok : t.m.Ok) (hj : (j, b) ∈ t.m.es) (hp : (t.pr j).parent ≠ p) : WtR t p (seen.push b) fo le := by
  have hu : ∀ i c, (i, c) ∈ t.m.es → c ∈ seen.push b → c ∈ seen ∨ i = j := fun i c hi hc => by
    rcases Array.mem_push.1 hc with q | q
    · exact .inl q
    · subst q
      exact .inr (born_inj hok.births hi hj)
  refine ⟨fun ⟨i, c, hi, hc, hq⟩ => ?_, ?_⟩
  · rcases hu i c hi hc with q | q
    · exact h.found ⟨i, c, hi, q, hq⟩
    · subst q; exact absurd hq hp
  · rcases h.least with ⟨h1, h2⟩ | ⟨h1, h2, h3⟩
    · refine .inl ⟨h1, fun i c hi hc hd => ?_⟩
      rcases hu i c hi hc with q | q
      · exact h2 i c hi q hd
      · subst q; exact hp hd.2.1
    · refine .inr ⟨h1, h2, fun i c hi hc hd => ?_⟩
      rcases hu i c hi hc with q | q
      · exact h3 i c hi q hd
      · subst q; exact absurd hd.2.1 hp
/-- a child that lives -/
theorem WtR.live {t : Tab} {p : Int} {seen : Array Nat} {fo : Bool} {le : Int} (h : WtR t p seen fo le) {j : Int} {b : Nat} (hok : t.m.Ok) (hj : (j, b) ∈ t.m.es) (hp : (t.pr j).state ≠ 3) : WtR t p (seen.push b) true le := by
  have hu : ∀ i c, (i, c) ∈ t.m.es → c ∈ seen.push b → c ∈ seen ∨ i = j := fun i c hi hc => by
    rcases Array.mem_push.1 hc with q | q
    · exact .inl q
    · subst q
      exact .inr (born_inj hok.births hi hj)
  refine ⟨fun _ => rfl, ?_⟩
  rcases h.least with ⟨h1, h2⟩ | ⟨h1, h2, h3⟩
  · refine .inl ⟨h1, fun i c hi hc hd => ?_⟩
    rcases hu i c hi hc with q | q
    · exact h2 i c hi q hd
    · subst q; exact hp hd.2.2
  · refine .inr ⟨h1, h2, fun i c hi hc hd => ?_⟩
    rcases hu i c hi hc with q | q
    · exact h3 i c hi q hd
    · subst q; exact absurd hd.2.2 hp
/-- a child that has ended: the least till now, or not -/
theorem WtR.dead {t : Tab} {p : Int} {seen : Array Nat} {fo : Bool} {le : Int} (h : WtR t p seen fo le) {j : Int} {b : Nat} (hok : t.m.Ok) (hj : (j, b) ∈ t.m.es) (hd : t.dead p j) (h0 : 0 < j) : WtR t p (seen.push b) true (if le = 0 ∨ j < le then j else le) := by
  have hu : ∀ i c, (i, c) ∈ t.m.es → c ∈ seen.push b → c ∈ seen ∨ i = j := fun i c hi hc => by
    rcases Array.mem_push.1 hc with q | q
    · exact .inl q
    · subst q
      exact .inr (born_inj hok.births hi hj)
  refine ⟨fun _ => rfl, .inr ?_⟩
  rcases h.least with ⟨h1, h2⟩ | ⟨h1, h2, h3⟩
  · rw [if_pos (.inl h1)]
    refine ⟨h0, hd, fun i c hi hc hq => ?_⟩
    rcases hu i c hi hc with q | q
    · exact absurd hq (h2 i c hi q)
    · omega
  · by_cases hlt : j < le
    · rw [if_pos (.inr hlt)]
      refine ⟨h0, hd, fun i c hi hc hq => ?_⟩
      rcases hu i c hi hc with q | q
      · have := h3 i c hi q hq; omega
      · omega
    · rw [if_neg (by omega)]
      refine ⟨h1, h2, fun i c hi hc hq => ?_⟩
      rcases hu i c hi hc with q | q
      · exact h3 i c hi q hq
      · omega
/-- behind all of them -/
theorem WtR.fin {t : Tab} {p z : Int} {seen : Array Nat} {fo : Bool} {le : Int} (h : WtR t p seen fo le) (hall : ∀ i b, (i, b) ∈ t.m.es → b ∈ seen) (hz : t.Reaps p z) (hc : ∃ i, i ∈ t.m.keys ∧ (t.pr i).parent = p) (hpos : ∀ i ∈ t.m.keys, 0 < i) : fo = true ∧ le = z := by
  have hkey : ∀ i, i ∈ t.m.keys → ∃ b, (i, b) ∈ t.m.es := fun i hi => by
    obtain ⟨e, he, rfl⟩ := List.mem_map.1 hi
    exact ⟨e.2, he⟩
  refine ⟨?_, ?_⟩
  · obtain ⟨i, hi, hp⟩ := hc
    obtain ⟨b, hb⟩ := hkey i hi
    exact h.found ⟨i, b, hb, hall i b hb, hp⟩
  · rcases h.least with ⟨h1, h2⟩ | ⟨h1, h2, h3⟩
    · rcases hz with ⟨z1, z2⟩ | ⟨z1, z2⟩
      · omega
      · obtain ⟨b, hb⟩ := hkey z z1.1
        exact absurd z1 (h2 z b hb (hall z b hb))
    · rcases hz with ⟨z1, z2⟩ | ⟨z1, z2⟩
      · exact absurd h2 (z2 le)
      · obtain ⟨b, hb⟩ := hkey z z1.1
        have := h3 z b hb (hall z b hb) z1
        have := z2 le h2
        omega
set_option maxRecDepth 100000 in
theorem wait_any {t lay} (p z : Int) (w : World) (h : TabIs t lay w) (hp : p ∈ t.m.keys) (hs : (t.pr p).state ≠ 3) (hz : t.Reaps p z) (hc : ∃ i, i ∈ t.m.keys ∧ (t.pr i).parent = p) (hpos : ∀ i ∈ t.m.keys, 0 < i) :
    Calls Tryz.prog 78 #[ptrOf (lay .T), .int .i64 p, .int .i64 0] w fun e w' =>
      (z = 0 ∧ e = .returned (.tuple #[.int .i64 0, .int .i64 0, .int .i64 30]) ∧ TStep t lay w t lay w') ∨ (z ≠ 0 ∧ e = .returned (.tuple #[.int .i64 z, .int .i64 (t.pr z).status, .int .i64 0]) ∧ TStep t lay w (t.delP z) lay w') := by
  have c1 := h.t1
  have hA := Lib.hid (alive_in p w h hp hs)
  obtain ⟨gm, hgm⟩ : ∃ gm, gm = t.m.gm (fun i => lay (.P i)) := ⟨_, rfl⟩
  have hgd : gm.Good := by rw [hgm]; exact PMap.good_gm h.ok _
  have HM := Lib.hid (fun x (hx : x ∈ gm.es) => PMap.mem_gm (hgm ▸ hx))
  have HM2 := Lib.hid (fun i b (hx : (i, b) ∈ t.m.es) => (show (Key.int i, ptrOf (lay (.P i)), b) ∈ gm.es from hgm ▸ (List.mem_map_of_mem (f := fun e : Int × Nat => (Key.int e.1, ptrOf (lay (.P e.1)), e.2)) hx)))
  have hM0 : w.heap[lay .M]? = some gm.obj := by rw [hgm]; exact h.mapAt
  have hrun := run_range_g (P := Tryz.prog) Tryz.underlying129 hM0
  have hI0 := It.start w (lay .M) gm.clk
  have hMlt : lay .M < w.heap.size := h.lies.owns_lt ⟨.M, by simp [Tab.obj], rfl⟩
  have HZ := Lib.hid hz
  have HC := Lib.hid hc
  have HPOS := Lib.hid hpos
  have HP := Lib.hid hp
  have H := Lib.hid h
  unfold ptrOf at *
  clear hz hc hpos hp hs hgm h
  go_enter Tryz.func78, Tryz.ntmps78
  go_wp2_with (go_at_call 54; refine hA.out.mono ?_; rintro e w' ⟨rfl, rfl⟩)
  clear hrun hA
  generalize hr : w.heap.size = r at *
  generalize w.alloc (iterO (lay .M) gm.clk #[]) = w1 at *
  go_loopw [11, 12] (fun u v W => ∃ seen fo le, u = .bool fo ∧ v = .int .i64 le ∧ It w (lay .M) gm.clk r seen W ∧ WtR t p seen fo le) (fun _ _ W => leftN gm.es W r)
  case atStart => exact ⟨_, _, _, rfl, rfl, hI0, WtR.start t p⟩
  case round =>
    obtain ⟨seen, fo, le, rfl, rfl, hI, hW⟩ := hrel
    have hM : wr.heap[lay .M]? = some gm.obj := (hI.below.block _ (by omega)).trans hM0
    have HW := Lib.hid hW
    clear hI0 hW
    go_wp2_with (refine wpList_next_o rfl _ rfl r (lay .M) seen gm rfl hI.it hM hgd ?_ ?_)
    · intro hall
      have hT : TabIs t lay wr := H.out.below hI.below
      obtain ⟨hfo, hle⟩ := HW.out.fin (fun i b hb => hall (.int i) _ b (HM2.out i b hb)) HZ.out HC.out HPOS.out
      subst hfo hle
      by_cases hl0 : le = 0
      · have hb0 : (le == 0) = true := by simpa using hl0
        go_wp2_with fail
        go_ret3
        exact .inl ⟨hl0, rfl, (TStep.refl H.out).below hI.below⟩
      · have hb0 : (le == 0) = false := by simpa using hl0
        have hd : t.dead p le := by
          rcases HZ.out with ⟨z1, _⟩ | ⟨z1, _⟩
          · exact absurd z1 hl0
          · exact z1
        have hlook := hT.look_in hd.1
        have c2 := hT.p2 hd.1
        have c3 : wr.cell? ⟨lay .T, 1, none⟩ = some (.map (some (lay .M))) := hT.t1
        have hdel := fun ty => GMap.drop (P := Tryz.prog) (w := wr) (ts := #[129, 3]) (ty := ty) (k := .int le) rfl Tryz.underlying129 Tryz.underlying3 (PMap.of_gm t.m _) hT.mapAt
        have HS := Lib.hid ((TStep.refl hT).delP le)
        have HB := Lib.hid ((TStep.refl H.out).below hI.below)
        simp only [Key.val] at hdel
        unfold ptrOf at *
        clear hT hM
        go_wp2_with fail
        go_ret3
        exact .inr ⟨hl0, rfl, HB.out.trans HS.out⟩
    · intro ek ev eb he hns n
      obtain ⟨j, hj, h1, h2, h3⟩ := HM.out _ he
      simp only at h1 h2 h3
      subst h1 h2
      have hI2 := hI.next n eb
      have hd := hI.left hI2 he rfl hns
      generalize putO (wr.drewN n) r (iterO (lay .M) gm.clk (seen.push eb)) = w4 at *
      have hM4 : w4.heap[lay .M]? = some gm.obj := (hI2.below.block _ (by omega)).trans hM0
      have hent := run_entry_g (P := Tryz.prog) hI2.it hM4 he hgd
      have c4 := (H.out.below hI2.below).p0 hj
      have c5 := (H.out.below hI2.below).p1 hj
      simp only [Key.val] at hent ⊢
      obtain ⟨pj, hpj⟩ : ∃ pj, (t.pr j).parent = pj := ⟨_, rfl⟩
      obtain ⟨sj, hsj⟩ : ∃ sj, (t.pr j).state = sj := ⟨_, rfl⟩
      rw [hsj] at c4
      rw [hpj] at c5
      have HPJ := Lib.hid hpj
      have HSJ := Lib.hid hsj
      have hj0 := HPOS.out j hj
      have HE := Lib.hid h3
      unfold ptrOf at *
      clear hM hM4 hpj hsj h3
      by_cases hpp : pj = p
      · have hnp : (pj != p) = false := by simpa using hpp
        by_cases hss : sj = 3
        · have hb3 : (sj == 3) = true := by simpa using hss
          have hdd : t.dead p j := ⟨hj, HPJ.out.trans hpp, HSJ.out.trans hss⟩
          have hnext := HW.out.dead H.out.ok HE.out hdd hj0
          by_cases hl0 : le = 0
          · have hb0 : (le == 0) = true := by simpa using hl0
            rw [if_pos (.inl hl0)] at hnext
            clear hpp hss hl0
            go_wp2_with fail
            go_roundw
            case rel => exact ⟨seen.push eb, _, _, rfl, rfl, hI2, hnext⟩
            case measure => exact hd
          · have hb0 : (le == 0) = false := by simpa using hl0
            by_cases hlt : j < le
            · rw [if_pos (.inr hlt)] at hnext
              clear hpp hss hl0
              go_wp2_with fail
              go_roundw
              case rel => exact ⟨seen.push eb, _, _, rfl, rfl, hI2, hnext⟩
              case measure => exact hd
            · rw [if_neg (fun q => q.elim hl0 hlt)] at hnext
              clear hpp hss hl0
              go_wp2_with fail
              go_roundw
              case rel => exact ⟨seen.push eb, _, _, rfl, rfl, hI2, hnext⟩
              case measure => exact hd
        · have hb3 : (sj == 3) = false := by simpa using hss
          have hnext := HW.out.live H.out.ok HE.out (by rw [HSJ.out]; exact hss)
          clear hpp hss
          go_wp2_with fail
          go_roundw
          case rel => exact ⟨seen.push eb, _, _, rfl, rfl, hI2, hnext⟩
          case measure => exact hd
      · have hnp : (pj != p) = true := by simpa using hpp
        have hnext := HW.out.skip H.out.ok HE.out (by rw [HPJ.out]; exact hpp)
        clear hpp
        go_wp2_with fail
        go_roundw
        case rel => exact ⟨seen.push eb, _, _, rfl, rfl, hI2, hnext⟩
        case measure => exact hd
end Go.Proofs.YtelohloaoocoaaaGreatDoor
/- procs.Table.Ready: the processes that may go on, rising, whatever the map's order; State. -/
namespace Go.Proofs.YtelohloaoocoaaaGreatDoor
open Go.RowKit Go.Sort
set_option linter.unusedVariables false
set_option linter.unusedSimpArgs false
set_option linter.unnecessarySimpa false

/-- v is a slice of the numbers L, in a block of the call's own (from base on) -/
def OwnI (w : World) (base : Nat) (v : Value) (L : List Int) : Prop := w.ownsRow base 3 1 v L.length (L.map (Value.int .i64))
theorem info_i64 : (Tryz.prog.info? 3).map (fun i => (i.zero, i.size, i.bytes)) = some (some (.int .i64 0), 1, 8) := by kernel_rfl
theorem OwnI.nil (w : World) (base : Nat) : OwnI w base (.slice none 0 0) [] := World.ownsRow_nil w base _ _
theorem OwnI.keep {w w' : World} {base v L} (h : OwnI w base v L) (ho : w'.os = w.os) (ht : w'.tape = w.tape) (hu : w'.output = w.output) (hs : w.heap.size ≤ w'.heap.size) (hb : ∀ k, base ≤ k → k < w.heap.size → w'.heap[k]? = w.heap[k]?) : OwnI w' base v L := by
  obtain ⟨hxs, hr⟩ := h
  refine ⟨hxs, ?_⟩
  rcases hr with ⟨rfl, hn⟩ | ⟨g, cap, cur, rfl, hbg, hg, hr⟩
  · exact .inl ⟨rfl, hn⟩
  · refine .inr ⟨g, cap, cur, rfl, hbg, ?_, hr⟩
    rw [hb g hbg (Array.getElem?_eq_some_iff.1 hg).1]; exact hg
theorem OwnI.lt {w : World} {base v L} (h : OwnI w base v L) : ∀ k, v.ownBlock = some k → base ≤ k ∧ k < w.heap.size := World.ownsRow.lt h
/-- 'append(l, n)': one number, that the statement has just laid in a new block -/
theorem append_i {ops : Array Oper} {rest : List Oper} {o : Oper} {a : Act} {Q : Exit → Act → World → Prop} {w : World} (hgd : o.guard = none) (s x : Operand)
    (ho : o.op = .call { callee := .builtin .append, args := #[s, x], argTypes := #[22, 22] }) (base : Nat) (v : Value) (L : List Int) (hs : a.eval s = v) (hown : OwnI w base v L)
    (b : Int) (hx : a.eval x = .slice (some ⟨w.heap.size, 0, none⟩) 1 1)
    (hlen : L.length + 1 ≤ 1000000000000) (hbase : base ≤ w.heap.size)
    (h : ∀ v' w', OwnI w' base v' (L ++ [b]) → w.grownBy w' v.ownBlock → wpList Tryz.prog ops Q rest (a.put o.dst v') w') :
    wpList Tryz.prog ops Q (o :: rest) a (w.alloc (.cells #[.int .i64 b] 3)) := by
  obtain ⟨i0, hi, hz0, hz1, hz2⟩ := info_parts info_i64
  refine wpList_append_own _ hgd s x 22 ho base 3 i0 (.int .i64 0) 1 8 (by kernel_rfl) hi hz0 hz1 hz2 rfl (by omega) v L.length _ hs (World.ownsRow.alloc hown _) ⟨w.heap.size, 0, none⟩ 1 1 [.int .i64 b] hx rfl ?_ ?_ (by simp only [maxLen]; omega) (by omega) (by simp; omega) ?_
  · intro j u hj
    match j, hj with
    | 0, hj => simp at hj; subst hj; simp [Addr.add]
  · intro u hu; simp at hu; subst hu; rfl
  · intro v' w' h1 h2 _
    refine h v' w' (by simpa [OwnI] using h1) ?_
    exact ⟨h2.os, h2.tape, h2.output, by have := h2.size; simp at this; omega, fun k hk hne => by
      rw [h2.block k (by simp; omega) hne, Below.heap_alloc _ _ _ hk]⟩

/-! ### what is collected -/
def pidOf (e : Key × Value × Nat) : Int := match e.1 with
  | .int n => n
  | _ => 0
def picked (es : List (Key × Value × Nat)) (q : Nat → Bool) (rdy : Key × Value × Nat → Bool) : List Int := (es.filter fun e => q e.2.2 && rdy e).map pidOf
/-- one more is seen -/
theorem picked_more {rdy : Key × Value × Nat → Bool} {q : Nat → Bool} {e : Key × Value × Nat} : ∀ {es : List (Key × Value × Nat)}, (es.map (·.2.2)).Nodup → e ∈ es → q e.2.2 = false →
    (picked es (fun n => q n || n == e.2.2) rdy).Perm (if rdy e then picked es q rdy ++ [pidOf e] else picked es q rdy)
  | [], _, he, _ => by cases he
  | x :: es, hn, he, hq => by
    rw [List.map_cons, List.nodup_cons] at hn
    by_cases hx : x = e
    · subst hx
      have hrest : picked es (fun n => q n || n == x.2.2) rdy = picked es q rdy := by
        unfold picked
        congr 1
        apply List.filter_congr
        intro y hy
        have : (y.2.2 == x.2.2) = false := by
          rw [beq_eq_false_iff_ne]
          intro h
          exact hn.1 (by rw [← h]; exact List.mem_map_of_mem hy)
        simp [this]
      by_cases hr : rdy x = true
      · rw [if_pos hr]
        have h1 : picked (x :: es) (fun n => q n || n == x.2.2) rdy = pidOf x :: picked es q rdy := by
          rw [← hrest]
          unfold picked
          rw [List.filter_cons_of_pos (by simp [hr])]; rfl
        have h2 : picked (x :: es) q rdy = picked es q rdy := by
          unfold picked
          rw [List.filter_cons_of_neg (by simp [hq])]
        rw [h1, h2]
        exact (List.perm_append_singleton _ _).symm
      · rw [if_neg hr]
        have h1 : picked (x :: es) (fun n => q n || n == x.2.2) rdy = picked es q rdy := by
          rw [← hrest]
          unfold picked
          rw [List.filter_cons_of_neg (by simp [hr])]
        have h2 : picked (x :: es) q rdy = picked es q rdy := by
          unfold picked
          rw [List.filter_cons_of_neg (by simp [hq])]
        rw [h1, h2]
    · have he' : e ∈ es := (List.mem_cons.1 he).resolve_left (Ne.symm hx)
      have ih := picked_more (rdy := rdy) (q := q) hn.2 he' hq
      have hxe : (x.2.2 == e.2.2) = false := by
        rw [beq_eq_false_iff_ne]
        intro h
        exact hn.1 (by rw [h]; exact List.mem_map_of_mem he')
      have hc : ∀ p, picked (x :: es) p rdy = if (p x.2.2 && rdy x) = true then pidOf x :: picked es p rdy else picked es p rdy := fun p => by
        unfold picked
        by_cases h : (p x.2.2 && rdy x) = true
        · rw [List.filter_cons, if_pos h, if_pos h]; rfl
        · rw [List.filter_cons, if_neg h, if_neg h]
      rw [hc, hc]
      simp only [hxe, Bool.or_false]
      by_cases h : (q x.2.2 && rdy x) = true
      · rw [if_pos h, if_pos h]
        by_cases hr : rdy e = true
        · rw [if_pos hr] at ih ⊢
          exact ih.cons _
        · rw [if_neg hr] at ih ⊢
          exact ih.cons _
      · rw [if_neg h, if_neg h]; exact ih
theorem sort_perm {l l' : List Int} (h : l.Perm l') : l.mergeSort (fun x y => decide (x ≤ y)) = l'.mergeSort (fun x y => decide (x ≤ y)) := by
  have hs : ∀ l : List Int, (l.mergeSort fun x y => decide (x ≤ y)).Pairwise (fun x y => decide (x ≤ y) = true) := fun l => List.pairwise_mergeSort (by intro a b c; simp; omega) (by intro a b; simp; omega) l
  exact (((List.mergeSort_perm l _).trans h).trans (List.mergeSort_perm l' _).symm).eq_of_pairwise (fun a b _ _ h1 h2 => by simp at h1 h2; omega) (hs l) (hs l')
/-- behind all of them -/
theorem picked_all {rdy : Key × Value × Nat → Bool} {q : Nat → Bool} {es : List (Key × Value × Nat)} (h : ∀ e ∈ es, q e.2.2 = true) : picked es q rdy = (es.filter rdy).map pidOf := by
  unfold picked
  congr 1
  apply List.filter_congr
  intro e he
  rw [h e he]; rfl
/-- the entries of a table of processes: numbers to processes, of which rdy may go on -/
structure Procs (w : World) (m : GMap) (rdy : Key × Value × Nat → Bool) : Prop where
  good : m.Good
  each : ∀ e ∈ m.es, ∃ pid c z, e.1 = .int pid ∧ e.2.1 = .pointer (some ⟨c, 0, none⟩) ∧ w.cell? ⟨c, 0, none⟩ = some (.int .i64 z) ∧ rdy e = decide (z = 1)
structure RdI (w : World) (b : Nat) (m : GMap) (rdy : Key × Value × Nat → Bool) (v : Value) (seen : Array Nat) (l : List Int) (W : World) : Prop where
  own : OwnI W (w.heap.size + 1) v l
  below : Below w.heap.size w W
  it : W.heap[w.heap.size]? = some (iterO b m.clk seen)
  perm : l.Perm (picked m.es (fun n => decide (n ∈ seen)) rdy)
  nil : l = [] → v = .slice none 0 0
set_option maxRecDepth 100000 in
theorem ready_any (T b : Nat) (m : GMap) (rdy : Key × Value × Nat → Bool) (w : World) (hT : w.cell? ⟨T, 1, none⟩ = some (.map (some b))) (hb : w.heap[b]? = some m.obj) (hm : Procs w m rdy) (hlen : m.es.length ≤ 1000000) :
    Calls Tryz.prog 23 #[.pointer (some ⟨T, 0, none⟩)] w fun e w' => ∃ v, e = .returned v ∧ Below w.heap.size w w' ∧ OwnI w' w.heap.size v (((m.es.filter rdy).map pidOf).mergeSort fun x y => decide (x ≤ y)) ∧ ((((m.es.filter rdy).map pidOf).mergeSort fun x y => decide (x ≤ y)) = [] → v = .slice none 0 0) := by
  have hrun := run_range_g (P := Tryz.prog) Tryz.underlying129 hb
  have hblt : b < w.heap.size := (Array.getElem?_eq_some_iff.1 hb).1
  go_enter Tryz.func23, Tryz.ntmps23
  go_wp2_with fail
  have h0 : RdI w b m rdy (.slice none 0 0) #[] [] (w.alloc (iterO b m.clk #[])) := ⟨OwnI.nil _ _, (Below.refl _ _).alloc (Nat.le_refl _) _, by
    show (w.heap.push _)[w.heap.size]? = _
    exact Array.getElem?_push_size, by
    have : picked m.es (fun n => decide (n ∈ (#[] : Array Nat))) rdy = [] := by
      unfold picked
      rw [List.filter_eq_nil_iff.2 (by simp)]; rfl
    rw [this], fun _ => rfl⟩
  clear hrun
  generalize w.alloc (iterO b m.clk #[]) = w1 at *
  go_loopw [3] (fun v W => ∃ seen l, RdI w b m rdy v seen l W) (fun _ W => leftN m.es W w.heap.size)
  case atStart => exact ⟨_, _, h0⟩
  case round =>
    obtain ⟨seen, l, hR⟩ := hrel
    have hM : wr.heap[b]? = some m.obj := (hR.below.block b hblt).trans hb
    go_wp2_with (refine wpList_next_o rfl _ rfl w.heap.size b seen m rfl hR.it hM hm.good ?_ ?_)
    · intro hall
      have hl : l.Perm ((m.es.filter rdy).map pidOf) := by
        rw [← picked_all (q := fun n => decide (n ∈ seen)) (fun e he => by simpa using hall e.1 e.2.1 e.2.2 he)]; exact hR.perm
      obtain ⟨hxs, hr⟩ := hR.own
      rcases hr with ⟨rfl, hn⟩ | ⟨g, cap, cur, rfl, hbg, hg, hnc, hcm, hcs, htk⟩
      · have hln : l = [] := List.length_eq_zero_iff.1 hn
        subst hln
        go_wp2_with (go_at_call 46; refine (Tryz.slices_Sort_int_none none 0 _).mono ?_; rintro e w' ⟨rfl, rfl⟩)
        go_ret
        rw [← sort_perm hl]
        exact ⟨_, rfl, hR.below, by simpa using OwnI.nil _ _, fun _ => rfl⟩
      · rw [Nat.mul_one] at htk
        have hH := holds_of_blockI (ss := l) hg htk
        have hgl : g < wr.heap.size := (Array.getElem?_eq_some_iff.1 hg).1
        have hll : l.length ≤ 1000000 := by
          rw [hl.length_eq, List.length_map]
          exact Nat.le_trans (List.length_filter_le _ _) hlen
        have HS := Lib.hid (Tryz.slices_Sort_int g 0 cap l wr hH hgl (by omega))
        go_wp2_with (go_at_call 46; refine HS.out.mono ?_; rintro e w' ⟨rfl, n, os, hw⟩)
        go_ret
        subst hw
        rw [← sort_perm hl]
        have hlen2 : (l.mergeSort fun x y => decide (x ≤ y)).length = l.length := List.length_mergeSort _
        have hown := ownsRow_sortedI (n := n) (os := os) (base := w.heap.size) (ts := l.mergeSort fun x y => decide (x ≤ y)) hlen2 (by omega) hg hnc hcm hcs
        refine ⟨_, rfl, hR.below.grown (grownBy_sortedI _) hR.below.size (fun k e => by cases e; omega), ?_, fun h0 => ?_⟩
        · unfold OwnI
          rw [hlen2]; exact hown
        · have h1 : l = [] := List.length_eq_zero_iff.1 (by rw [← hlen2, h0]; rfl)
          have := hR.nil h1
          cases this
    · intro ek ev eb he hns n
      obtain ⟨pid, c, z, h1, h2, h3, h4⟩ := hm.each _ he
      simp only at h1 h2 h4
      subst h1 h2
      have hrW : w.heap.size < (wr.drewN n).heap.size := (Array.getElem?_eq_some_iff.1 hR.it).1
      have hit1 := putO_at (iterO b m.clk (seen.push eb)) hrW
      have hB2 : Below w.heap.size w (putO (wr.drewN n) w.heap.size (iterO b m.clk (seen.push eb))) := below_putO (W := wr.drewN n) ⟨hR.below.os, hR.below.tape, hR.below.output, hR.below.size, hR.below.block⟩ (Nat.le_refl _) _
      have hO2 : OwnI (putO (wr.drewN n) w.heap.size (iterO b m.clk (seen.push eb))) (w.heap.size + 1) u3 l := hR.own.keep rfl rfl rfl (by simp [putO]) (fun k hk _ => by rw [putO_ne _ (by omega)]; rfl)
      have hlt := hO2.lt
      generalize putO (wr.drewN n) w.heap.size (iterO b m.clk (seen.push eb)) = w2 at hit1 hB2 hO2 hlt ⊢
      have hM2 : w2.heap[b]? = some m.obj := (hB2.block b hblt).trans hb
      have hent := run_entry_g (P := Tryz.prog) (x := (.int pid, .pointer (some ⟨c, 0, none⟩), eb)) hit1 hM2 he hm.good
      have hc2 : w2.cell? ⟨c, 0, none⟩ = some (.int .i64 z) := by rw [World.cell?_of_block (hB2.block c (World.block_lt_of_cell? w ⟨c, 0, none⟩ h3))]; exact h3
      have hmore := picked_more (rdy := rdy) (q := fun n => decide (n ∈ seen)) (e := (.int pid, .pointer (some ⟨c, 0, none⟩), eb)) (by simpa [kb, List.map_map, Function.comp_def] using hm.good.births) he (by simp [hns])
      have hpk : picked m.es (fun n => decide (n ∈ seen) || n == eb) rdy = picked m.es (fun n => decide (n ∈ seen.push eb)) rdy := by
        unfold picked
        congr 1
        apply List.filter_congr
        intro y _
        simp [Array.mem_push]
        congr 1
      simp only at hmore
      rw [hpk, h4] at hmore
      have hsz2 := hB2.size
      have hszl : w.heap.size < w2.heap.size := (Array.getElem?_eq_some_iff.1 hit1).1
      have hleft : ∀ {W : World}, W.heap[w.heap.size]? = some (iterO b m.clk (seen.push eb)) → leftN m.es W w.heap.size < leftN m.es wr w.heap.size := fun hW => by
        rw [leftN_at hW, leftN_at hR.it]
        refine filter_less (fun y _ hy => ?_) _ he (by simp [hns]) (by simp)
        simp only [Array.mem_push, decide_eq_true_eq, not_or] at hy ⊢
        exact hy.1
      have hll : l.length ≤ 1000000 := by
        rw [hR.perm.length_eq]
        unfold picked
        rw [List.length_map]
        exact Nat.le_trans (List.length_filter_le _ _) hlen
      simp only [Key.val] at hent ⊢
      by_cases hz : z = 1
      · subst hz
        simp only [decide_true, if_true] at hmore
        go_wp2_with (refine append_i rfl _ _ rfl (w.heap.size + 1) u3 l rfl hO2 pid rfl (by omega) (by omega) ?_; intro v3 w3 hO3 hg3)
        go_roundw
        case rel =>
          refine ⟨seen.push eb, l ++ [pid], hO3, hB2.grown hg3 hsz2 (fun k e => by have := (hlt k e).1; omega), ?_, ?_, ?_⟩
          · rw [hg3.block _ hszl (fun e => by have := (hlt _ e.symm).1; omega)]; exact hit1
          · exact (hR.perm.append_right [pid]).trans hmore.symm
          · intro h; simp at h
        case measure =>
          refine hleft ?_
          rw [hg3.block _ hszl (fun e => by have := (hlt _ e.symm).1; omega)]; exact hit1
      · have hz1 : (z == 1) = false := by simpa using hz
        rw [decide_eq_false hz] at hmore
        simp only [Bool.false_eq_true, if_false] at hmore
        go_wp2_with fail
        go_roundw
        case rel => exact ⟨seen.push eb, l, hO2, hB2, hit1, hR.perm.trans hmore.symm, hR.nil⟩
        case measure => exact hleft hit1

/-- those that may go on, rising -/
def Tab.ready (t : Tab) : List Int := (t.m.keys.filter fun i => decide ((t.pr i).state = 1)).mergeSort fun x y => decide (x ≤ y)
theorem ready_tab {t lay} (w : World) (h : TabIs t lay w) (hlen : t.m.es.length ≤ 1000000) :
    Calls Tryz.prog 23 #[ptrOf (lay .T)] w fun e w' => ∃ v, e = .returned v ∧ Below w.heap.size w w' ∧ OwnI w' w.heap.size v t.ready ∧ (t.ready = [] → v = .slice none 0 0) := by
  have key : (((t.m.gm fun i => lay (.P i)).es.filter fun e => decide ((t.pr (pidOf e)).state = 1)).map pidOf) = t.m.keys.filter fun i => decide ((t.pr i).state = 1) := by
    unfold PMap.gm PMap.keys
    simp only [List.filter_map, List.map_map]
    rfl
  have := ready_any (lay .T) (lay .M) (t.m.gm fun i => lay (.P i)) (fun e => decide ((t.pr (pidOf e)).state = 1)) w h.t1 h.mapAt ⟨PMap.good_gm h.ok _, fun e he => by
    obtain ⟨j, hj, h1, h2, _⟩ := PMap.mem_gm he
    exact ⟨j, lay (.P j), (t.pr j).state, h1, h2, h.p0 hj, by rw [show pidOf e = j by unfold pidOf; rw [h1]]⟩⟩ (by simpa [PMap.gm] using hlen)
  rw [key] at this
  exact this
end Go.Proofs.YtelohloaoocoaaaGreatDoor
/- procs.Table.State. -/
namespace Go.Proofs.YtelohloaoocoaaaGreatDoor
open Go.RowKit IntWalk
set_option linter.unusedVariables false
set_option linter.unusedSimpArgs false
set_option linter.unnecessarySimpa false

set_option maxRecDepth 100000 in
theorem pat_in {t lay} (i : Int) (w : World) (h : TabIs t lay w) (hi : i ∈ t.m.keys) : Calls Tryz.prog 85 #[ptrOf (lay .T), .int .i64 i] w fun e w' => e = .returned (.agg (prV (t.pr i))) ∧ Below w.heap.size w w' := by
  have c1 := h.t1
  have hl := (h.below ((Below.refl w.heap.size w).alloc (Nat.le_refl _) (.cells #[.int .i64 0, .int .i64 0, .int .i64 0] 134))).look_in hi
  have hTl : lay .T < w.heap.size := h.lies.owns_lt ⟨.T, by simp [Tab.obj], rfl⟩
  have p0 := h.p0 hi
  have p1 := h.p1 hi
  have p2 := h.p2 hi
  have hlt : lay (.P i) < w.heap.size := h.lies.owns_lt ⟨.P i, by rw [Tab.obj_p hi]; simp, rfl⟩
  unfold ptrOf prV at *
  clear h hi
  go_enter Tryz.func85, Tryz.ntmps85
  go_wp2
  exact bodyPost_ret (v := .agg #[.int .i64 (t.pr i).state, .int .i64 (t.pr i).parent, .int .i64 (t.pr i).status]) (by simp [results, Tryz.results85, go_sem]) rfl ⟨rfl, (Below.refl _ _).alloc (Nat.le_refl _) _⟩
set_option maxRecDepth 100000 in
theorem pat_out {t lay} (i : Int) (w : World) (h : TabIs t lay w) (hi : i ∉ t.m.keys) : Calls Tryz.prog 85 #[ptrOf (lay .T), .int .i64 i] w fun e w' => e = .returned (.agg #[.int .i64 0, .int .i64 0, .int .i64 0]) ∧ Below w.heap.size w w' := by
  have c1 := h.t1
  have hl := (h.below ((Below.refl w.heap.size w).alloc (Nat.le_refl _) (.cells #[.int .i64 0, .int .i64 0, .int .i64 0] 134))).look_out hi
  have hTl : lay .T < w.heap.size := h.lies.owns_lt ⟨.T, by simp [Tab.obj], rfl⟩
  unfold ptrOf at *
  clear h hi
  go_enter Tryz.func85, Tryz.ntmps85
  go_wp2
  exact bodyPost_ret (v := .agg #[.int .i64 0, .int .i64 0, .int .i64 0]) (by simp [results, Tryz.results85, go_sem]) rfl ⟨rfl, (Below.refl _ _).alloc (Nat.le_refl _) _⟩
theorem field_state (a b c : Int) (w : World) : (Instr.field 134 (.agg #[.int .i64 a, .int .i64 b, .int .i64 c]) 0).run Tryz.prog w = .ok (.int .i64 a) w := by kernel_rfl
set_option maxRecDepth 100000 in
theorem state_any {t lay} (i : Int) (w : World) (h : TabIs t lay w) : Calls Tryz.prog 58 #[ptrOf (lay .T), .int .i64 i] w fun e w' => e = .returned (.int .i64 (t.stateOf i)) ∧ Below w.heap.size w w' := by
  by_cases hi : i ∈ t.m.keys
  · have HA := Lib.hid (pat_in i w h hi)
    have he : t.stateOf i = (t.pr i).state := by unfold Tab.stateOf; rw [if_pos hi]
    rw [he]
    clear h hi he
    unfold ptrOf prV at *
    have hfs := field_state (t.pr i).state (t.pr i).parent (t.pr i).status
    go_enter Tryz.func58, Tryz.ntmps58
    go_wp2_with (go_at_call 85; refine HA.out.mono ?_; rintro e w' ⟨rfl, hB⟩)
    go_ret
    exact ⟨rfl, hB⟩
  · have HA := Lib.hid (pat_out i w h hi)
    have he : t.stateOf i = 0 := by unfold Tab.stateOf; rw [if_neg hi]
    rw [he]
    clear h hi he
    unfold ptrOf at *
    have hfs := field_state 0 0 0
    go_enter Tryz.func58, Tryz.ntmps58
    go_wp2_with (go_at_call 85; refine HA.out.mono ?_; rintro e w' ⟨rfl, hB⟩)
    go_ret
    exact ⟨rfl, hB⟩
end Go.Proofs.YtelohloaoocoaaaGreatDoor
/- The tree's root: Hold and Loose. -/
namespace Go.Proofs.YtelohloaoocoaaaGreatDoor
open Go.RowKit IntWalk
set_option linter.unusedVariables false
set_option linter.unusedSimpArgs false
set_option linter.unnecessarySimpa false

inductive RId where
  | F | T | G | N
  deriving DecidableEq
/-- a tree, of which the root alone is looked at -/
structure Rt where
  mv : Value
  sp : Value
  gs : List Value
  users : Int
  rest : List Value
def Rt.obj (s : Rt) (lay : RId → Nat) : RId → Option Obj
  | .F => some (.cells #[ptrOf (lay .T), s.mv] 93 (0, 0))
  | .T => some (.cells #[.slice (some ⟨lay .G, 0, none⟩) (s.gs.length + 1) (s.gs.length + 1), s.sp] 150 (0, 0))
  | .G => some (.cells (ptrOf (lay .N) :: s.gs).toArray 151 (0, 0))
  | .N => some (.cells (.int .i64 1 :: .int .i64 s.users :: s.rest).toArray 156 (0, 0))
abbrev RStep (s : Rt) (lay : RId → Nat) (w : World) (s' : Rt) (w' : World) : Prop := GStep (s.obj lay) lay w (s'.obj lay) lay w'
abbrev RtIs (s : Rt) (lay : RId → Nat) (w : World) : Prop := Lies (s.obj lay) lay w
def Rt.setU (s : Rt) (n : Int) : Rt := { s with users := n }
section
variable {s : Rt} {lay : RId → Nat} {w : World}
theorem rt_f0 (h : RtIs s lay w) : w.cell? ⟨lay .F, 0, none⟩ = some (ptrOf (lay .T)) := h.cell (i := .F) rfl rfl
theorem rt_t0 (h : RtIs s lay w) : w.cell? ⟨lay .T, 0, none⟩ = some (.slice (some ⟨lay .G, 0, none⟩) (s.gs.length + 1) (s.gs.length + 1)) := h.cell (i := .T) rfl rfl
theorem rt_g0 (h : RtIs s lay w) : w.cell? ⟨lay .G, 0, none⟩ = some (ptrOf (lay .N)) := h.cell (i := .G) rfl rfl
theorem rt_n0 (h : RtIs s lay w) : w.cell? ⟨lay .N, 0, none⟩ = some (.int .i64 1) := h.cell (i := .N) rfl rfl
theorem rt_n1 (h : RtIs s lay w) : w.cell? ⟨lay .N, 1, none⟩ = some (.int .i64 s.users) := h.cell (i := .N) rfl rfl
theorem rt_nf (h : RtIs s lay w) (k : Nat) : w.frozen? ⟨lay .N, k, none⟩ = false := h.fz (i := .N) rfl k
theorem rt_set {s0 lay0 w0} (h : GStep (s0 : RId → Option Obj) lay0 w0 (s.obj lay) lay w) (n : Int) : GStep s0 lay0 w0 ((s.setU n).obj lay) lay (w.setCell ⟨lay .N, 1, none⟩ (.int .i64 n)) :=
  h.set (i := .N) rfl 1 _ (fun j => by cases j <;> simp [Rt.obj, Rt.setU])
end
theorem rt_at {s lay} (w : World) (h : RtIs s lay w) : Calls Tryz.prog 81 #[ptrOf (lay .T), .int .i64 1] w fun e w' => e = .returned (ptrOf (lay .N)) ∧ w = w' := by
  have c1 := rt_t0 h
  have c2 := rt_g0 h
  obtain ⟨n, hn⟩ : ∃ n, n = s.gs.length + 1 := ⟨_, rfl⟩
  rw [← hn] at c1
  have hn1 : 0 < n := by omega
  have hn2 : (1 : Int) ≤ n := by omega
  unfold ptrOf at *
  clear h hn
  go_enter Tryz.func81, Tryz.ntmps81
  go_wp2
  go_ret
  exact ⟨rfl, rfl⟩
theorem rt_find {s lay} (w : World) (h : RtIs s lay w) : Calls Tryz.prog 53 #[ptrOf (lay .T), .int .i64 1] w fun e w' => e = .returned (.tuple #[ptrOf (lay .N), .int .i64 0]) ∧ w = w' := by
  have HA := Lib.hid (rt_at w h)
  unfold ptrOf at *
  clear h
  go_enter Tryz.func53, Tryz.ntmps53
  go_wp2_with (go_at_call 81; refine HA.out.mono ?_; rintro e w' ⟨rfl, rfl⟩)
  go_ret2
  exact ⟨rfl, rfl⟩
theorem rt_hold0 {s lay} (w : World) (h : RtIs s lay w) (hu : 0 ≤ s.users) (hu2 : s.users < 1000000) : Calls Tryz.prog 57 #[ptrOf (lay .T), .int .i64 1] w fun e w' => e = .returned (.int .i64 0) ∧ RStep s lay w (s.setU (s.users + 1)) w' := by
  have HA := Lib.hid (rt_find w h)
  have c1 := rt_n1 h
  have f1 := rt_nf h 1
  have HS := Lib.hid (rt_set (GStep.refl h) (s.users + 1))
  unfold ptrOf at *
  clear h
  go_enter Tryz.func57, Tryz.ntmps57
  go_wp2_with (go_at_call 53; refine HA.out.mono ?_; rintro e w' ⟨rfl, rfl⟩)
  go_ret
  exact ⟨rfl, HS.out⟩
theorem rt_hold {s lay} (w : World) (h : RtIs s lay w) (hu : 0 ≤ s.users) (hu2 : s.users < 1000000) : Calls Tryz.prog 38 #[ptrOf (lay .F), .int .i64 1] w fun e w' => e = .returned (.int .i64 0) ∧ RStep s lay w (s.setU (s.users + 1)) w' := by
  have HA := Lib.hid (rt_hold0 w h hu hu2)
  have c0 := rt_f0 h
  unfold ptrOf at *
  clear h
  go_enter Tryz.func38, Tryz.ntmps38
  go_wp2_with (go_at_call 57; refine HA.out.mono ?_; rintro e w' ⟨rfl, hst⟩)
  go_ret
  exact ⟨rfl, hst⟩
theorem rt_idle (b : Int) (w : World) : Calls Tryz.prog 217 #[.agg #[.int .i64 1, .int .i64 b]] w fun e w' => e = .returned (.bool false) ∧ Below w.heap.size w w' := by
  go_enter Tryz.func217, Tryz.ntmps217
  go_wp2
  all_goals go_ret
  all_goals exact ⟨by simp_all, (Below.refl _ _).alloc (Nat.le_refl _) _⟩
theorem rt_less {s lay} (w : World) (h : RtIs s lay w) (hu : 0 < s.users) (hu2 : s.users < 1000000) : Calls Tryz.prog 178 #[ptrOf (lay .T), .int .i64 1, ptrOf (lay .N), .pointer (some ⟨lay .N, 1, none⟩)] w fun e w' => e = .returned (.int .i64 0) ∧ RStep s lay w (s.setU (s.users - 1)) w' := by
  have c1 := rt_n1 h
  have c0 := rt_n0 h
  have f1 := rt_nf h 1
  have hb : (s.users == 0) = false := by simpa using (show s.users ≠ 0 by omega)
  have HS := Lib.hid (rt_set (GStep.refl h) (s.users - 1))
  unfold ptrOf at *
  clear h
  go_enter Tryz.func178, Tryz.ntmps178
  go_wp2_with (go_at_call 217; refine (rt_idle _ _).mono ?_; rintro e w' ⟨rfl, hB⟩)
  go_ret
  exact ⟨rfl, HS.out.below hB⟩
theorem rt_loose0 {s lay} (w : World) (h : RtIs s lay w) (hu : 0 < s.users) (hu2 : s.users < 1000000) : Calls Tryz.prog 136 #[ptrOf (lay .T), .int .i64 1] w fun e w' => e = .returned (.int .i64 0) ∧ RStep s lay w (s.setU (s.users - 1)) w' := by
  have HA := Lib.hid (rt_find w h)
  have HL := Lib.hid (rt_less w h hu hu2)
  unfold ptrOf at *
  clear h
  go_enter Tryz.func136, Tryz.ntmps136
  go_wp2_with first
    | (go_at_call 53; refine HA.out.mono ?_; rintro e w' ⟨rfl, rfl⟩)
    | (go_at_call 178; refine HL.out.mono ?_; rintro e w' ⟨rfl, hst⟩)
  go_ret
  exact ⟨rfl, hst⟩
theorem rt_loose {s lay} (w : World) (h : RtIs s lay w) (hu : 0 < s.users) (hu2 : s.users < 1000000) : Calls Tryz.prog 110 #[ptrOf (lay .F), .int .i64 1] w fun e w' => e = .returned (.int .i64 0) ∧ RStep s lay w (s.setU (s.users - 1)) w' := by
  have HA := Lib.hid (rt_loose0 w h hu hu2)
  have c0 := rt_f0 h
  unfold ptrOf at *
  clear h
  go_enter Tryz.func110, Tryz.ntmps110
  go_wp2_with (go_at_call 136; refine HA.out.mono ?_; rintro e w' ⟨rfl, hst⟩)
  go_ret
  exact ⟨rfl, hst⟩
end Go.Proofs.YtelohloaoocoaaaGreatDoor
/- Slices of bytes and of strings that a call makes itself and appends to. -/
namespace Go.Proofs.YtelohloaoocoaaaGreatDoor
open Go.RowKit

/-- v is a slice of the bytes l, in a block of the call's own (from base on) -/
def OwnB (w : World) (base : Nat) (v : Value) (l : List UInt8) : Prop := w.ownsRow base 5 1 v l.length (l.map fun c => Value.int .u8 c.toNat)
theorem info_u8 : (Tryz.prog.info? 5).map (fun i => (i.zero, i.size, i.bytes)) = some (some (.int .u8 0), 1, 1) := by kernel_rfl
theorem OwnB.nil (w : World) (base : Nat) : OwnB w base (.slice none 0 0) [] := World.ownsRow_nil w base _ _
theorem OwnB.drew {w : World} {base v l} (h : OwnB w base v l) : OwnB w.drew base v l := h
theorem OwnB.alloc {w : World} {base v l} (h : OwnB w base v l) (o : Obj) : OwnB (w.alloc o) base v l := World.ownsRow.alloc h o
theorem OwnB.below {w w' : World} {base v l} (h : OwnB w base v l) (hb : Below w.heap.size w w') : OwnB w' base v l :=
  World.ownsRow.kept h (w' := w') (row := none) ⟨hb.os, hb.tape, hb.output, hb.size, fun k hk _ => hb.block k hk⟩ (by cases v.ownBlock <;> simp)
theorem below_own {w w1 w2 : World} {v : Value} {l : List UInt8} {base : Nat} (hb : Below base w w1) (hown : OwnB w1 base v l) (hg : w1.grownBy w2 v.ownBlock) (hs : base ≤ w1.heap.size) : Below base w w2 :=
  hb.grown hg hs (fun k e => (World.ownsRow.lt hown k e).1)
theorem append_bytes {ops : Array Oper} {rest : List Oper} {o : Oper} {a : Act} {Q : Exit → Act → World → Prop} {w : World} (hgd : o.guard = none) (s x : Operand)
    (ho : o.op = .call { callee := .builtin .append, args := #[s, x], argTypes := #[87, 87] }) (base : Nat) (v : Value) (l : List UInt8) (hs : a.eval s = v) (hown : OwnB w base v l)
    (g c : Nat) (m : List UInt8) (hx : a.eval x = .slice (some ⟨g, 0, none⟩) m.length c) (hm : ∀ (j : Nat) (b : UInt8), m[j]? = some b → w.cell? ⟨g, j, none⟩ = some (.int .u8 b.toNat))
    (hlen : l.length + m.length ≤ 100000000000) (hbase : base ≤ w.heap.size)
    (h : ∀ v' w', OwnB w' base v' (l ++ m) → w.grownBy w' v.ownBlock → wpList Tryz.prog ops Q rest (a.put o.dst v') w') : wpList Tryz.prog ops Q (o :: rest) a w := by
  obtain ⟨i0, hi, hz0, hz1, hz2⟩ := info_parts info_u8
  refine wpList_append_own w hgd s x 87 ho base 5 i0 (.int .u8 0) 1 1 (by kernel_rfl) hi hz0 hz1 hz2 rfl (by omega) v l.length _ hs hown ⟨g, 0, none⟩ m.length c (m.map fun c => Value.int .u8 c.toNat) hx (by simp) ?_ ?_ (by simp only [maxLen]; omega) (by omega) hbase ?_
  · intro j u hj
    rw [List.getElem?_map] at hj
    cases hb : m[j]? with
    | none => rw [hb] at hj; cases hj
    | some b =>
      rw [hb] at hj; cases hj
      have := hm j b hb
      unfold Addr.add; split <;> simp_all
  · intro u hu
    simp at hu
    obtain ⟨b, _, rfl⟩ := hu
    rfl
  · intro v' w' h1 h2 _
    exact h v' w' (by simpa [OwnB] using h1) h2
/-- 'append(out, b)': one byte, that the statement has just laid in a new block -/
theorem append_byte {ops : Array Oper} {rest : List Oper} {o : Oper} {a : Act} {Q : Exit → Act → World → Prop} {w : World} (hgd : o.guard = none) (s x : Operand)
    (ho : o.op = .call { callee := .builtin .append, args := #[s, x], argTypes := #[87, 87] }) (base : Nat) (v : Value) (l : List UInt8) (hs : a.eval s = v) (hown : OwnB w base v l)
    (b : UInt8) (z : Int) (hz : z = b.toNat) (hx : a.eval x = .slice (some ⟨w.heap.size, 0, none⟩) 1 1)
    (hlen : l.length + 1 ≤ 100000000000) (hbase : base ≤ w.heap.size)
    (h : ∀ v' w', OwnB w' base v' (l ++ [b]) → w.grownBy w' v.ownBlock → wpList Tryz.prog ops Q rest (a.put o.dst v') w') :
    wpList Tryz.prog ops Q (o :: rest) a (w.alloc (.cells #[.int .u8 z] 5)) := by
  subst hz
  refine append_bytes hgd s x ho base v l hs (hown.alloc _) w.heap.size 1 [b] hx ?_ hlen (by simp; omega) ?_
  · intro j b' hj
    cases j with
    | zero => cases hj; rw [World.cell?_alloc_new]; rfl
    | succ j => simp at hj
  · intro v' w' h1 h2
    refine h v' w' h1 ?_
    exact ⟨h2.os, h2.tape, h2.output, by have := h2.size; simp at this; omega, fun k hk hne => by
      rw [h2.block k (by simp; omega) hne, Below.heap_alloc _ _ _ hk]⟩
/-- 'append(out, b, c, d)': bytes that the statement has just laid in a new block -/
theorem append_lit {ops : Array Oper} {rest : List Oper} {o : Oper} {a : Act} {Q : Exit → Act → World → Prop} {w : World} (hgd : o.guard = none) (s x : Operand)
    (ho : o.op = .call { callee := .builtin .append, args := #[s, x], argTypes := #[87, 87] }) (base : Nat) (v : Value) (l : List UInt8) (hs : a.eval s = v) (hown : OwnB w base v l)
    (m : List UInt8) (cs : Array Value) (hcs : cs.toList = m.map fun c => Value.int .u8 c.toNat) (n : Nat) (hn : n = m.length) (hx : a.eval x = .slice (some ⟨w.heap.size, 0, none⟩) n n)
    (hlen : l.length + m.length ≤ 100000000000) (hbase : base ≤ w.heap.size)
    (h : ∀ v' w', OwnB w' base v' (l ++ m) → w.grownBy w' v.ownBlock → wpList Tryz.prog ops Q rest (a.put o.dst v') w') :
    wpList Tryz.prog ops Q (o :: rest) a (w.alloc (.cells cs 5)) := by
  subst hn
  refine append_bytes hgd s x ho base v l hs (hown.alloc _) w.heap.size m.length m hx ?_ hlen (by simp; omega) ?_
  · intro j b' hj
    have h1 : cs.toList[j]? = some (.int .u8 b'.toNat) := by rw [hcs, List.getElem?_map, hj]; rfl
    rw [Array.getElem?_toList] at h1
    rw [World.cell?_alloc_new]; exact h1
  · intro v' w' h1 h2
    refine h v' w' h1 ?_
    exact ⟨h2.os, h2.tape, h2.output, by have := h2.size; simp at this; omega, fun k hk hne => by
      rw [h2.block k (by simp; omega) hne, Below.heap_alloc _ _ _ hk]⟩
theorem OwnB.lit (w : World) (base : Nat) (hb : base ≤ w.heap.size) (l : List UInt8) (n : Nat) (hn : n = l.length) (hm : l.length ≤ 100000000000) (cs : Array Value) (hc : cs.toList = l.map fun c => Value.int .u8 c.toNat) :
    OwnB (w.alloc (.cells cs 5)) base (.slice (some ⟨w.heap.size, 0, none⟩) n n) l := by
  subst hn
  have := World.ownsRow_lit (base := base) (e := 5) (size := 1) w cs l.length hb (by simp only [maxLen]; omega) (by rw [← Array.length_toList, hc]; simp)
  rw [hc] at this
  exact this
theorem OwnB.conv {w : World} {base v l} (h : OwnB w base v l) : (convert 87 9 v).run Tryz.prog w = .ok (.string ⟨l.toArray⟩) w := by
  obtain ⟨hxs, hr⟩ := h
  rcases hr with ⟨rfl, hn⟩ | ⟨g, cap, cur, rfl, _, hg, hnc, _, _, htk⟩
  · have : l = [] := List.eq_nil_of_length_eq_zero hn
    subst this
    exact run_convert_bytes_nil w 87 5 (by kernel_rfl) (by kernel_rfl) 0 0 9 (by kernel_rfl)
  · refine run_convert_bytes_back w 87 9 5 ⟨g, 0, none⟩ cap l (by kernel_rfl) (by kernel_rfl) (by kernel_rfl) ?_
    intro j hj
    have e : (⟨g, 0, none⟩ : Addr).add j = ⟨g, j, none⟩ := by unfold Addr.add; split <;> simp_all
    rw [e]
    have h1 : (cur.toList.take (l.length * 1))[j]? = some (.int .u8 l[j].toNat) := by rw [htk]; simp [hj]
    rw [List.getElem?_take_of_lt (by omega), Array.getElem?_toList] at h1
    simp [World.cell?, hg, h1]
/-- what an owned slice that is not empty looks like -/
theorem OwnB.at {w : World} {base v l} (h : OwnB w base v l) (hl : l ≠ []) : ∃ g cap, v = .slice (some ⟨g, 0, none⟩) l.length cap ∧ base ≤ g ∧ g < w.heap.size ∧ (∀ (j : Nat) (b : UInt8), l[j]? = some b → w.cell? ⟨g, j, none⟩ = some (.int .u8 b.toNat)) ∧ ∀ j, w.frozen? ⟨g, j, none⟩ = false := by
  obtain ⟨hxs, hr⟩ := h
  rcases hr with ⟨rfl, hn⟩ | ⟨g, cap, cur, rfl, hb, hg, hnc, _, _, htk⟩
  · exact absurd (List.eq_nil_of_length_eq_zero hn) hl
  · refine ⟨g, cap, rfl, hb, ?_, fun j b hj => ?_, fun j => by simp [World.frozen?, hg]⟩
    · rcases Nat.lt_or_ge g w.heap.size with h' | h'
      · exact h'
      · rw [Array.getElem?_eq_none h'] at hg; cases hg
    · have hjl : j < l.length := (List.getElem?_eq_some_iff.1 hj).1
      have h1 : (cur.toList.take (l.length * 1))[j]? = some (.int .u8 b.toNat) := by rw [htk, List.getElem?_map, hj]; rfl
      rw [List.getElem?_take_of_lt (by omega), Array.getElem?_toList] at h1
      simp [World.cell?, hg, h1]
theorem OwnB.len {w : World} {base v l} (h : OwnB w base v l) : ∃ a cap, v = .slice a l.length cap := by
  obtain ⟨hxs, hr⟩ := h
  rcases hr with ⟨rfl, hn⟩ | ⟨g, cap, cur, rfl, _⟩
  · exact ⟨none, 0, by rw [hn]⟩
  · exact ⟨_, cap, rfl⟩
/-- owned while another row of the call's own is written -/
theorem OwnB.other {w w' : World} {base v l} (h : OwnB w base v l) {r : Option Nat} (hg : w.grownBy w' r) (hne : v.ownBlock = none ∨ v.ownBlock ≠ r) : OwnB w' base v l := World.ownsRow.kept h hg hne
theorem OwnB.lt {w : World} {base v l} (h : OwnB w base v l) : ∀ k, v.ownBlock = some k → base ≤ k ∧ k < w.heap.size := World.ownsRow.lt h
theorem OwnB.conv2 {w : World} {base v l} (h : OwnB w base v l) : (convert 87 9 v).run Tryz.prog w = .ok (.string ⟨l.toArray⟩) w := h.conv
end Go.Proofs.YtelohloaoocoaaaGreatDoor
/- sys.Kernel: its objects, and those of its parts, beside one another. -/
namespace Go.Proofs.YtelohloaoocoaaaGreatDoor
open Go.RowKit IntWalk
set_option linter.unusedVariables false
set_option linter.unusedSimpArgs false
set_option linter.unnecessarySimpa false

/-! ### the first sink -/
inductive HId where
  | A | S | B
  deriving DecidableEq
/-- the row of sinks: its block, and where it begins there -/
structure Hr where
  cells : Array Value
  off : Nat
  fz : Nat × Nat
/-- the first sink's bytes, the block that holds them, the row of sinks -/
structure Hx where
  out : List UInt8
  cur : Option (Nat × Array Value)
  gs : Hr
def Hx.val (s : Hx) (lay : HId → Nat) : Value := match s.cur with
  | none => .slice none 0 0
  | some (cap, _) => .slice (some ⟨lay .B, 0, none⟩) s.out.length cap
def Hx.obj (s : Hx) (lay : HId → Nat) : HId → Option Obj
  | .A => some (.cells s.gs.cells 144 s.gs.fz)
  | .S => some (.cells #[s.val lay] 143 (0, 0))
  | .B => match s.cur with
    | none => none
    | some (_, cs) => some (.cells cs 5 (0, 0))
def Hx.Ok (s : Hx) : Prop := match s.cur with
  | none => s.out = []
  | some (cap, cs) => s.out.length ≤ cap ∧ cap ≤ maxLen ∧ cs.size = cap ∧ cs.toList.take s.out.length = s.out.map fun c => Value.int .u8 c.toNat

/-! ### the kernel's own -/
inductive KId where
  | K | M
  | R (i : Int)
  deriving DecidableEq
/-- a process of the kernel: its set's block, and whether it waits -/
structure Kp where
  zb : Nat
  waits : Bool
structure Kx where
  fs : Nat
  xf : Nat
  tb : Nat
  m : PMap
  pc : Int → Kp
  status : Int
  ended : Bool
def kpV (p : Kp) : Array Value := #[ptrOf p.zb, .int .i64 1, .bool p.waits]
def Kx.cells (s : Kx) (lay : KId → Nat) : Array Value := #[ptrOf s.fs, ptrOf s.xf, ptrOf s.tb, .map (some (lay .M)), .int .i64 s.status, .bool s.ended]
def Kx.obj (s : Kx) (lay : KId → Nat) : KId → Option Obj
  | .K => some (.cells (s.cells lay) 79 (0, 0))
  | .M => some (s.m.gm fun i => lay (.R i)).obj
  | .R i => if i ∈ s.m.keys then some (.cells (kpV (s.pc i)) 110 (0, 0)) else none
section
variable {s : Kx} {lay : KId → Nat} {w : World}
theorem kx_k (h : Lies (s.obj lay) lay w) {k : Nat} {v : Value} (hk : (s.cells lay)[k]? = some v) : w.cell? ⟨lay .K, k, none⟩ = some v := h.cell (i := .K) rfl hk
theorem kx_kf (h : Lies (s.obj lay) lay w) (k : Nat) : w.frozen? ⟨lay .K, k, none⟩ = false := h.fz (i := .K) rfl k
theorem kx_m (h : Lies (s.obj lay) lay w) : w.heap[lay .M]? = some (s.m.gm fun i => lay (.R i)).obj := h.at_ .M _ rfl
theorem Kx.obj_r {i : Int} (hi : i ∈ s.m.keys) : s.obj lay (.R i) = some (.cells (kpV (s.pc i)) 110 (0, 0)) := by simp [Kx.obj, hi]
theorem kx_r (h : Lies (s.obj lay) lay w) {i : Int} (hi : i ∈ s.m.keys) {k : Nat} {v : Value} (hk : (kpV (s.pc i))[k]? = some v) : w.cell? ⟨lay (.R i), k, none⟩ = some v := h.cell (Kx.obj_r hi) hk
theorem kx_rf (h : Lies (s.obj lay) lay w) {i : Int} (hi : i ∈ s.m.keys) (k : Nat) : w.frozen? ⟨lay (.R i), k, none⟩ = false := h.fz (Kx.obj_r hi) k
theorem zero_sysp (w : World) : (zeroValue 108).run Tryz.prog w = .ok (.pointer none) w := by kernel_rfl
theorem kx_look (h : Lies (s.obj lay) lay w) {i : Int} (hi : i ∈ s.m.keys) : (Instr.lookup 77 (.map (some (lay .M))) (.int .i64 i) false).run Tryz.prog w = .ok (.pointer (some ⟨lay (.R i), 0, none⟩)) w := by
  have := (GMap.look (P := Tryz.prog) (k := .int i) Tryz.underlying77 Tryz.underlying3 (PMap.of_gm s.m _) (kx_m h) (zero_sysp w)).1
  simp only [Key.val] at this
  rw [this, PMap.get_some hi]
  rfl
/-- a process turned -/
def Kx.setR (s : Kx) (i : Int) (p : Kp) : Kx := { s with pc := fun j => if j = i then p else s.pc j }
def Kx.setEnd (s : Kx) (n : Int) (e : Bool) : Kx := { s with status := n, ended := e }
def Kx.addR (s : Kx) (i : Int) (p : Kp) : Kx := { s with m := s.m.add i, pc := fun j => if j = i then p else s.pc j }
def Kx.delR (s : Kx) (i : Int) : Kx := { s with m := s.m.del i }
section
variable {I : Type} {c0 : I → Option Obj} {lay0 : I → Nat} {w0 : World}
theorem kx_setW (h : GStep c0 lay0 w0 (s.obj lay) lay w) {i : Int} (hi : i ∈ s.m.keys) (b : Bool) : GStep c0 lay0 w0 ((s.setR i ⟨(s.pc i).zb, b⟩).obj lay) lay (w.setCell ⟨lay (.R i), 2, none⟩ (.bool b)) :=
  h.set (Kx.obj_r hi) 2 _ (fun j => by
    cases j with
    | R k => by_cases e : k = i
             · subst e; simp [Kx.obj, Kx.setR, hi, kpV]
             · simp [Kx.obj, Kx.setR, e]
    | _ => simp [Kx.obj, Kx.setR, Kx.cells])
theorem kx_setStatus (h : GStep c0 lay0 w0 (s.obj lay) lay w) (n : Int) : GStep c0 lay0 w0 ((s.setEnd n s.ended).obj lay) lay (w.setCell ⟨lay .K, 4, none⟩ (.int .i64 n)) :=
  h.set (i := .K) rfl 4 _ (fun j => by cases j <;> simp [Kx.obj, Kx.setEnd, Kx.cells] <;> rfl)
theorem kx_setEnded (h : GStep c0 lay0 w0 (s.obj lay) lay w) (b : Bool) : GStep c0 lay0 w0 ((s.setEnd s.status b).obj lay) lay (w.setCell ⟨lay .K, 5, none⟩ (.bool b)) :=
  h.set (i := .K) rfl 5 _ (fun j => by cases j <;> simp [Kx.obj, Kx.setEnd, Kx.cells] <;> rfl)
/-- a new process, and the map that has it -/
theorem kx_add (h : GStep c0 lay0 w0 (s.obj lay) lay w) {i : Int} (hi : i ∉ s.m.keys) (p : Kp) (lay2 : KId → Nat) (hl : ∀ j, lay2 j = if j = .R i then w.heap.size else lay j) :
    GStep c0 lay0 w0 ((s.addR i p).obj lay2) lay2 { (w.alloc (.cells (kpV p) 110 (0, 0))) with heap := (w.alloc (.cells (kpV p) 110 (0, 0))).heap.setIfInBounds (lay .M) ((s.m.gm fun i => lay (.R i)).put (.int i) (ptrOf w.heap.size)).obj } := by
  have hput := PMap.put_gm (m := s.m) (lay := fun i => lay (.R i)) (lay' := fun i => lay2 (.R i)) (b := w.heap.size) hi (fun j hj => by
    show lay2 (.R j) = lay (.R j)
    rw [hl, if_neg (by intro e; cases e; exact hi hj)]) (by show lay2 (.R i) = _; rw [hl, if_pos rfl])
  rw [hput]
  have hM : lay2 .M = lay .M := by rw [hl, if_neg (by simp)]
  have hK : lay2 .K = lay .K := by rw [hl, if_neg (by simp)]
  rw [← hM]
  have h1 : GStep c0 lay0 w0 (fun j => if j = .R i then some (.cells (kpV p) 110 (0, 0)) else s.obj lay j) lay2 (w.alloc (.cells (kpV p) 110 (0, 0))) :=
    h.new (.R i) _ (fun j => rfl) hl
  refine h1.put (i := .M) (o := (s.m.gm fun i => lay (.R i)).obj) (by simp [Kx.obj]) (fun j => ?_)
  cases j with
  | K => simp [Kx.obj, Kx.addR, Kx.cells, hM]
  | M => simp [Kx.obj, Kx.addR]
  | R k =>
    by_cases e : k = i
    · subst e; simp [Kx.obj, Kx.addR, PMap.mem_add]
    · simp [Kx.obj, Kx.addR, PMap.mem_add, e]
theorem kx_del (h : GStep c0 lay0 w0 (s.obj lay) lay w) (hok : s.m.Ok) (i : Int) : GStep c0 lay0 w0 ((s.delR i).obj lay) lay { w with heap := w.heap.setIfInBounds (lay .M) ((s.m.gm fun i => lay (.R i)).del (.int i)).obj } := by
  rw [PMap.del_gm hok]
  refine (h.put (i := .M) (c3 := fun j => if j = .M then some ((s.m.del i).gm fun i => lay (.R i)).obj else s.obj lay j) rfl (fun j => rfl)).less (fun j o hj => ?_)
  cases j with
  | K => simpa [Kx.obj, Kx.delR, Kx.cells] using hj
  | M => simpa [Kx.obj, Kx.delR] using hj
  | R k =>
    simp only [Kx.obj, Kx.delR, PMap.mem_del] at hj
    by_cases e : k ∈ s.m.keys ∧ k ≠ i
    · rw [if_pos e] at hj; simp [Kx.obj, e.1]; simpa using hj
    · rw [if_neg e] at hj; cases hj
end
end

/-! ### all of them -/
structure Ly where
  t : TId → Nat
  x : XId → Nat
  k : KId → Nat
  r : RId → Nat
  h : HId → Nat
structure Ks where
  t : Tab
  x : Fx
  k : Kx
  r : Rt
  h : Hx
abbrev KSId := TId ⊕ (XId ⊕ (KId ⊕ (RId ⊕ HId)))
def Ks.obj (s : Ks) (l : Ly) : KSId → Option Obj := Sum.elim (s.t.obj l.t) (Sum.elim (s.x.obj l.x) (Sum.elim (s.k.obj l.k) (Sum.elim (s.r.obj l.r) (s.h.obj l.h))))
def Ly.all (l : Ly) : KSId → Nat := Sum.elim l.t (Sum.elim l.x (Sum.elim l.k (Sum.elim l.r l.h)))
structure Ks.Ok (s : Ks) (l : Ly) : Prop where
  t : s.t.m.Ok
  x : s.x.Ok
  k : s.k.m.Ok
  h : s.h.Ok
  fs : s.k.fs = l.r .F
  xf : s.k.xf = l.x .X
  tb : s.k.tb = l.t .T
  zb : ∀ i ∈ s.k.m.keys, (s.k.pc i).zb = l.x (.Z i)
  sk : ∃ c, s.x.op 1 = some (.iface 144 (ptrOf (l.h .S)), c)
  sv : ∃ c, s.x.sv = .slice (some ⟨l.h .A, s.h.gs.off, none⟩) 2 c ∧ s.h.gs.cells[s.h.gs.off]? = some (ptrOf (l.h .S))
structure KsIs (s : Ks) (l : Ly) (w : World) : Prop where
  lies : Lies (s.obj l) l.all w
  ok : s.Ok l
structure KStep (s : Ks) (l : Ly) (w : World) (s' : Ks) (l' : Ly) (w' : World) : Prop where
  g : GStep (s.obj l) l.all w (s'.obj l') l'.all w'
  ok : s'.Ok l'
  top : l'.k .K = l.k .K
section
variable {s s' s'' : Ks} {l l' l'' : Ly} {w w' w'' : World}
theorem KStep.is (h : KStep s l w s' l' w') : KsIs s' l' w' := ⟨h.g.lies, h.ok⟩
theorem KStep.refl (h : KsIs s l w) : KStep s l w s l w := ⟨GStep.refl h.lies, h.ok, rfl⟩
theorem KStep.trans (h : KStep s l w s' l' w') (k : KStep s' l' w' s'' l'' w'') : KStep s l w s'' l'' w'' := ⟨h.g.trans k.g, k.ok, k.top.trans h.top⟩
theorem KStep.below (h : KStep s l w s' l' w') (hb : Below w'.heap.size w' w'') : KStep s l w s' l' w'' := ⟨h.g.below hb, h.ok, h.top⟩
theorem KStep.drewN (h : KStep s l w s' l' w') (n : Nat) : KStep s l w s' l' (w'.drewN n) := ⟨h.g.drewN n, h.ok, h.top⟩
theorem KStep.drew (h : KStep s l w s' l' w') : KStep s l w s' l' w'.drew := ⟨h.g.drew, h.ok, h.top⟩
theorem KsIs.below (h : KsIs s l w) (hb : Below w.heap.size w w') : KsIs s l w' := ((KStep.refl h).below hb).is
theorem KsIs.drewN (h : KsIs s l w) (n : Nat) : KsIs s l (w.drewN n) := ((KStep.refl h).drewN n).is
theorem KsIs.tab (h : KsIs s l w) : TabIs s.t l.t w := ⟨h.lies.inl, h.ok.t⟩
theorem KsIs.fx (h : KsIs s l w) : FxIs s.x l.x w := ⟨h.lies.inr.inl, h.ok.x⟩
theorem KsIs.kx (h : KsIs s l w) : Lies (s.k.obj l.k) l.k w := h.lies.inr.inr.inl
theorem KsIs.rt (h : KsIs s l w) : RtIs s.r l.r w := h.lies.inr.inr.inr.inl
theorem KsIs.hx (h : KsIs s l w) : Lies (s.h.obj l.h) l.h w := h.lies.inr.inr.inr.inr
/-- a part's step is a step of all -/
theorem KStep.tab (h : KsIs s l w) {t' : Tab} {lt : TId → Nat} (k : TStep s.t l.t w t' lt w') : KStep s l w { s with t := t' } { l with t := lt } w' :=
  ⟨GStep.left h.lies k.g, ⟨k.ok, h.ok.x, h.ok.k, h.ok.h, h.ok.fs, h.ok.xf, h.ok.tb.trans k.top.symm, h.ok.zb, h.ok.sk, h.ok.sv⟩, rfl⟩
theorem KStep.fx (h : KsIs s l w) {x' : Fx} {lx : XId → Nat} (k : XStep s.x l.x w x' lx w') (hz : ∀ i ∈ s.k.m.keys, lx (.Z i) = l.x (.Z i)) (hsk : ∃ c, x'.op 1 = some (.iface 144 (ptrOf (l.h .S)), c)) (hsv : x'.sv = s.x.sv) : KStep s l w { s with x := x' } { l with x := lx } w' :=
  ⟨GStep.right h.lies (GStep.left h.lies.inr k.g), ⟨h.ok.t, k.ok, h.ok.k, h.ok.h, h.ok.fs, h.ok.xf.trans k.top.symm, h.ok.tb, fun i hi => (h.ok.zb i hi).trans (hz i hi).symm, hsk, by rw [show ({ s with x := x' } : Ks).x.sv = s.x.sv from hsv]; exact h.ok.sv⟩, rfl⟩
theorem KStep.kx (h : KsIs s l w) {k' : Kx} {lk : KId → Nat} (k : GStep (s.k.obj l.k) l.k w (k'.obj lk) lk w') (hk : k'.m.Ok) (e1 : k'.fs = s.k.fs) (e2 : k'.xf = s.k.xf) (e3 : k'.tb = s.k.tb) (hl : lk .K = l.k .K) (hz : ∀ i ∈ k'.m.keys, (k'.pc i).zb = l.x (.Z i)) : KStep s l w { s with k := k' } { l with k := lk } w' :=
  ⟨GStep.right h.lies (GStep.right h.lies.inr (GStep.left h.lies.inr.inr k)), ⟨h.ok.t, h.ok.x, hk, h.ok.h, e1.trans h.ok.fs, e2.trans h.ok.xf, e3.trans h.ok.tb, hz, h.ok.sk, h.ok.sv⟩, hl⟩
theorem KStep.rt (h : KsIs s l w) {r' : Rt} (k : RStep s.r l.r w r' w') : KStep s l w { s with r := r' } l w' :=
  ⟨GStep.right h.lies (GStep.right h.lies.inr (GStep.right h.lies.inr.inr (GStep.left h.lies.inr.inr.inr k))), ⟨h.ok.t, h.ok.x, h.ok.k, h.ok.h, h.ok.fs, h.ok.xf, h.ok.tb, h.ok.zb, h.ok.sk, h.ok.sv⟩, rfl⟩
theorem KStep.hx (h : KsIs s l w) {h' : Hx} {lh : HId → Nat} (k : GStep (s.h.obj l.h) l.h w (h'.obj lh) lh w') (hk : h'.Ok) (hS : lh .S = l.h .S) (hA : lh .A = l.h .A) (hg : h'.gs = s.h.gs) : KStep s l w { s with h := h' } { l with h := lh } w' :=
  ⟨GStep.right h.lies (GStep.right h.lies.inr (GStep.right h.lies.inr.inr (GStep.right h.lies.inr.inr.inr k))), ⟨h.ok.t, h.ok.x, h.ok.k, hk, h.ok.fs, h.ok.xf, h.ok.tb, h.ok.zb, by simp only [hS]; exact h.ok.sk, by simp only [hS, hA, hg]; exact h.ok.sv⟩, rfl⟩
theorem KsIs.k0 (h : KsIs s l w) : w.cell? ⟨l.k .K, 0, none⟩ = some (ptrOf (l.r .F)) := by rw [← h.ok.fs]; exact kx_k h.kx rfl
theorem KsIs.k1 (h : KsIs s l w) : w.cell? ⟨l.k .K, 1, none⟩ = some (ptrOf (l.x .X)) := by rw [← h.ok.xf]; exact kx_k h.kx rfl
theorem KsIs.k2 (h : KsIs s l w) : w.cell? ⟨l.k .K, 2, none⟩ = some (ptrOf (l.t .T)) := by rw [← h.ok.tb]; exact kx_k h.kx rfl
theorem KsIs.k3 (h : KsIs s l w) : w.cell? ⟨l.k .K, 3, none⟩ = some (.map (some (l.k .M))) := kx_k h.kx rfl
theorem KsIs.k4 (h : KsIs s l w) : w.cell? ⟨l.k .K, 4, none⟩ = some (.int .i64 s.k.status) := kx_k h.kx rfl
theorem KsIs.k5 (h : KsIs s l w) : w.cell? ⟨l.k .K, 5, none⟩ = some (.bool s.k.ended) := kx_k h.kx rfl
theorem KsIs.r0 (h : KsIs s l w) {i : Int} (hi : i ∈ s.k.m.keys) : w.cell? ⟨l.k (.R i), 0, none⟩ = some (ptrOf (l.x (.Z i))) := by rw [← h.ok.zb i hi]; exact kx_r h.kx hi rfl
theorem KsIs.r1 (h : KsIs s l w) {i : Int} (hi : i ∈ s.k.m.keys) : w.cell? ⟨l.k (.R i), 1, none⟩ = some (.int .i64 1) := kx_r h.kx hi rfl
theorem KsIs.r2 (h : KsIs s l w) {i : Int} (hi : i ∈ s.k.m.keys) : w.cell? ⟨l.k (.R i), 2, none⟩ = some (.bool (s.k.pc i).waits) := kx_r h.kx hi rfl
theorem KsIs.rl (h : KsIs s l w) {i : Int} (hi : i ∈ s.k.m.keys) : l.k (.R i) < w.heap.size := h.kx.owns_lt ⟨.R i, by rw [Kx.obj_r hi]; simp, rfl⟩
theorem KsIs.kl (h : KsIs s l w) : l.k .K < w.heap.size := h.kx.owns_lt ⟨.K, by simp [Kx.obj], rfl⟩
end
end Go.Proofs.YtelohloaoocoaaaGreatDoor
/- The first sink: what is written to it. -/
namespace Go.Proofs.YtelohloaoocoaaaGreatDoor
open Go.RowKit IntWalk
set_option linter.unusedVariables false
set_option linter.unusedSimpArgs false
set_option linter.unnecessarySimpa false

def bytesV (d : List UInt8) : List Value := d.map fun c => Value.int .u8 c.toNat
theorem strCells_of (d : List UInt8) : Go.Lib.strCells ⟨d.toArray⟩ = bytesV d := by simp [Go.Lib.strCells, bytesV]
/-- append of a string's bytes, by what it leaves: nothing, the same block, or a new one -/
theorem append_str3 {P : Program} {w : World} (t u ty e : TypeId) (i : TypeInfo) (ht : P.underlying t = some (.slice e)) (hu : P.underlying u = some .string) (hi : P.info? e = some i) (hz : i.zero = some (.int .u8 0)) (hsize : i.size = 1) (hby : i.bytes = 1) (d : List UInt8) :
    (d = [] → (Builtin.append_ #[t, u] ty #[.slice none 0 0, .string ⟨d.toArray⟩]).run P w = .ok (.slice none 0 0) w) ∧
    (d ≠ [] → d.length ≤ 1000000 → ∃ cap cs, (Builtin.append_ #[t, u] ty #[.slice none 0 0, .string ⟨d.toArray⟩]).run P w = .ok (.slice (some ⟨w.heap.size, 0, none⟩) d.length cap) (w.drew.alloc (.cells cs e)) ∧ d.length ≤ cap ∧ cap ≤ maxLen ∧ cs.size = cap ∧ cs.toList.take d.length = bytesV d) ∧
    (∀ (g cap : Nat) (cs : Array Value) (out : List UInt8), w.heap[g]? = some (.cells cs e (0, 0)) → out.length ≤ cap → cap ≤ maxLen → cs.size = cap → cs.toList.take out.length = bytesV out → out.length + d.length ≤ 1000000 →
      (∃ cs', (Builtin.append_ #[t, u] ty #[.slice (some ⟨g, 0, none⟩) out.length cap, .string ⟨d.toArray⟩]).run P w = .ok (.slice (some ⟨g, 0, none⟩) (out.length + d.length) cap) (w.setRow g cs') ∧ out.length + d.length ≤ cap ∧ cs'.size = cap ∧ cs'.toList.take (out.length + d.length) = bytesV (out ++ d)) ∨
      (∃ cap' cs', (Builtin.append_ #[t, u] ty #[.slice (some ⟨g, 0, none⟩) out.length cap, .string ⟨d.toArray⟩]).run P w = .ok (.slice (some ⟨w.heap.size, 0, none⟩) (out.length + d.length) cap') (w.drew.alloc (.cells cs' e)) ∧ out.length + d.length ≤ cap' ∧ cap' ≤ maxLen ∧ cs'.size = cap' ∧ cs'.toList.take (out.length + d.length) = bytesV (out ++ d))) := by
  have hsz : (⟨d.toArray⟩ : ByteArray).size = d.length := rfl
  have hbl : ∀ x : List UInt8, (bytesV x).length = x.length := fun x => by simp [bytesV]
  have hgrown : ∀ (need old : Nat), need ≤ 1000000 → need ≤ grownCap w need old e ∧ grownCap w need old e ≤ maxLen := fun need old hn => ⟨grownCap_ge w need old e, grownCap_le_maxLen w need old e (by simp only [maxLen]; omega)⟩
  have hrow : ∀ (olds : List Value) (n : Nat) (c : Nat), olds.length = n → n + d.length ≤ c → (olds.toArray ++ (Go.Lib.strCells ⟨d.toArray⟩).toArray ++ Builtin.zeroCells (Value.int IntKind.u8 0).cells (c - (n + d.length))).size = c ∧
      (olds.toArray ++ (Go.Lib.strCells ⟨d.toArray⟩).toArray ++ Builtin.zeroCells (Value.int IntKind.u8 0).cells (c - (n + d.length))).toList.take (n + d.length) = olds ++ bytesV d := by
    intro olds n c hn hc
    have hz1 : (Value.int IntKind.u8 0).cells.size = 1 := rfl
    refine ⟨?_, ?_⟩
    · simp only [Array.size_append, List.size_toArray, size_zeroCells, hz1, hn, strCells_of, hbl]
      omega
    · simp only [Array.toList_append, strCells_of]
      rw [List.take_left' (by simp [hn, hbl])]
  refine ⟨?_, ?_, ?_⟩
  · rintro rfl
    have hf := Go.Lib.run_firstCells_string (P := P) w 1 (⟨#[]⟩ : ByteArray)
    have h0 : (⟨#[]⟩ : ByteArray).size = 0 := rfl
    rw [h0] at hf
    simp [Builtin.append_, run_underlying ht, run_underlying hu, sizeOf, typeInfo, hi, hsize, Builtin.lenOf, h0, hf]
  · intro hd hl
    have hpos : 0 < d.length := List.length_pos_iff.2 hd
    have hr := run_append_nil_string (P := P) w t u ty e i (.int .u8 0) ht hu hi hz ⟨d.toArray⟩ (by rw [hsz]; exact hpos) (by rw [hsz]; omega) (by rw [hby, hsz]; omega)
    rw [hsz] at hr
    have hg := hgrown d.length 0 hl
    have hrw := hrow [] 0 (grownCap w d.length 0 e) rfl (by omega)
    simp only [Nat.zero_add, List.nil_append, Array.empty_append] at hrw
    have e1 : ((⟨d.toArray⟩ : ByteArray).data.map fun b => Value.int .u8 b.toNat) = (Go.Lib.strCells ⟨d.toArray⟩).toArray := by
      apply Array.ext'
      simp [Go.Lib.strCells]
    rw [e1] at hr
    exact ⟨_, _, hr, hg.1, hg.2, hrw.1, hrw.2⟩
  · intro g cap cs out hg hoc hcm hcs htk hl
    by_cases hroom : out.length + d.length ≤ cap
    · left
      have hr := Go.Lib.run_append_room_string (P := P) w t u ty e i ht hu hi hsize g out.length cap cs hg ⟨d.toArray⟩ (by rw [hsz]; exact hroom) (by rw [hsz, hcs]; exact hroom)
      rw [hsz] at hr
      refine ⟨_, hr, hroom, ?_, ?_⟩
      · simp only [List.size_toArray, List.length_append, List.length_take, List.length_drop, Array.length_toList, strCells_of, hbl]
        omega
      · rw [strCells_of, htk, List.take_left' (by simp [hbl])]
        simp [bytesV]
    · right
      have holds : ∀ j v, (bytesV out)[j]? = some v → w.cell? ((⟨g, 0, none⟩ : Addr).add j) = some v := fun j v hj => by
        have hadd : (⟨g, 0, none⟩ : Addr).add j = ⟨g, j, none⟩ := by unfold Addr.add; split <;> simp_all
        rw [hadd, World.cell?, hg]
        have hjl : j < out.length := by have := (List.getElem?_eq_some_iff.1 hj).1; rwa [hbl] at this
        rw [← htk, List.getElem?_take_of_lt hjl] at hj
        simpa using hj
      have hr := Go.Lib.run_append_grow_string (P := P) w t u ty e i (.int .u8 0) ht hu hi hz ⟨g, 0, none⟩ out.length cap (bytesV out) (by rw [hsize, hbl]; omega) holds ⟨d.toArray⟩ (by rw [hsz]; omega) (by rw [hsz]; omega) (by rw [hby, hsz]; exact growslice_fits (by omega) (by omega))
      rw [hsz] at hr
      have hgr := hgrown (out.length + d.length) cap hl
      have hrw := hrow (bytesV out) out.length (grownCap w (out.length + d.length) cap e) (hbl out) hgr.1
      exact ⟨_, _, hr, hgr.1, hgr.2, hrw.1, by rw [hrw.2]; simp [bytesV]⟩
/-- a sink's object with other bytes -/
theorem hx_write_room {s : Hx} {lay : HId → Nat} {w : World} {cap : Nat} {cs cs' : Array Value} (h : Lies (s.obj lay) lay w) (hc : s.cur = some (cap, cs)) (out' : List UInt8) :
    GStep (s.obj lay) lay w ((Hx.mk out' (some (cap, cs')) s.gs).obj lay) lay ((w.setRow (lay .B) cs').setCell ⟨lay .S, 0, none⟩ (.slice (some ⟨lay .B, 0, none⟩) out'.length cap)) := by
  have hB : w.heap[lay .B]? = some (.cells cs 5 (0, 0)) := h.at_ .B _ (by simp [Hx.obj, hc])
  have hrow : w.setRow (lay .B) cs' = { w with heap := w.heap.setIfInBounds (lay .B) (.cells cs' 5 (0, 0)) } := by
    have hlt := (Array.getElem?_eq_some_iff.1 hB).1
    have hge := (Array.getElem?_eq_some_iff.1 hB).2
    unfold World.setRow
    congr 1
    apply Array.ext_getElem?
    intro j
    rw [Array.getElem?_modify, Array.getElem?_setIfInBounds]
    by_cases e : lay .B = j
    · subst e
      rw [if_pos rfl, if_pos rfl, if_pos hlt, hB]
      rfl
    · rw [if_neg e, if_neg e]
  rw [hrow]
  have h1 := (GStep.refl h).put (i := .B) (o := .cells cs 5 (0, 0)) (o' := .cells cs' 5 (0, 0)) (c3 := fun j => if j = .B then some (.cells cs' 5 (0, 0)) else s.obj lay j) (by simp [Hx.obj, hc]) (fun j => rfl)
  refine h1.set (i := .S) (cs := #[s.val lay]) (ty := 143) (fz := (0, 0)) (by simp [Hx.obj]) 0 _ (fun j => ?_)
  cases j <;> simp [Hx.obj, Hx.val]
theorem hx_write_new {s : Hx} {lay lay' : HId → Nat} {w : World} {cap : Nat} {cs : Array Value} (h : Lies (s.obj lay) lay w) (hl : ∀ j, lay' j = if j = .B then w.heap.size else lay j) (out' : List UInt8) :
    GStep (s.obj lay) lay w ((Hx.mk out' (some (cap, cs)) s.gs).obj lay') lay' (((w.drew).alloc (.cells cs 5)).setCell ⟨lay .S, 0, none⟩ (.slice (some ⟨w.heap.size, 0, none⟩) out'.length cap)) := by
  have hS : lay' .S = lay .S := by rw [hl, if_neg (by simp)]
  have hA : lay' .A = lay .A := by rw [hl, if_neg (by simp)]
  have hB : lay' .B = w.heap.size := by rw [hl, if_pos rfl]
  have h1 := ((GStep.refl h).drew).new (c3 := fun j => if j = .B then some (.cells cs 5 (0, 0)) else s.obj lay j) (lay3 := lay') .B (.cells cs 5 (0, 0)) (fun j => rfl) hl
  rw [← hS, ← hB]
  refine h1.set (i := .S) (cs := #[s.val lay]) (ty := 143) (fz := (0, 0)) (by simp [Hx.obj]) 0 _ (fun j => ?_)
  cases j <;> simp [Hx.obj, Hx.val, hS]
end Go.Proofs.YtelohloaoocoaaaGreatDoor
/- Writing to the first sink, by a set. -/
namespace Go.Proofs.YtelohloaoocoaaaGreatDoor
open Go.RowKit IntWalk
set_option linter.unusedVariables false
set_option linter.unusedSimpArgs false
set_option linter.unnecessarySimpa false

/-- an append, by its run -/
theorem wpList_append_at {P : Program} {ops : Array Oper} {rest : List Oper} {o : Oper} {a : Act} {w w' : World} {Q : Exit → Act → World → Prop} (hgd : o.guard = none) (s x : Operand) (t u : TypeId)
    (ho : o.op = .call { callee := .builtin .append, args := #[s, x], argTypes := #[t, u] }) (v y r : Value) (hs : a.eval s = v) (hx : a.eval x = y)
    (hr : (Builtin.append_ #[t, u] o.type #[v, y]).run P w = .ok r w') (h : wpList P ops Q rest (a.put o.dst r) w') : wpList P ops Q (o :: rest) a w := by
  refine wpList_plain hgd fun K hK => ?_
  unfold Oper.wp execOp
  simp only [ho, resolve, invoke, builtin, Sem.run_bind, Sem.run_pure, Result.andThen_ok, List.map_toArray, List.map_cons, List.map_nil, hs, hx, hr]
  exact hK _ _ h
/-- what a write to the sink leaves -/
def HxW (s : Hx) (lay : HId → Nat) (d : List UInt8) (w w' : World) : Prop :=
  ∃ (s' : Hx) (lay' : HId → Nat), s'.out = s.out ++ d ∧ s'.gs = s.gs ∧ s'.Ok ∧ lay' .S = lay .S ∧ lay' .A = lay .A ∧ GStep (s.obj lay) lay w (s'.obj lay') lay' w'
theorem HxW.mk {s : Hx} {lay : HId → Nat} {d : List UInt8} {w w' : World} {s' : Hx} {lay' : HId → Nat} (hst : GStep (s.obj lay) lay w (s'.obj lay') lay' w') (h1 : s'.out = s.out ++ d) (h2 : s'.gs = s.gs) (h3 : s'.Ok) (h4 : lay' .S = lay .S) (h5 : lay' .A = lay .A) : HxW s lay d w w' := ⟨s', lay', h1, h2, h3, h4, h5, hst⟩
theorem info_u8i : ∃ i, Tryz.prog.info? 5 = some i ∧ i.zero = some (.int .u8 0) ∧ i.size = 1 ∧ i.bytes = 1 := by
  obtain ⟨i0, hi, hz0, hz1, hz2⟩ := info_parts info_u8
  exact ⟨i0, hi, hz0, hz1, hz2⟩
set_option maxHeartbeats 1000000 in
set_option maxRecDepth 100000 in
theorem sinkwrite_any {s lay} (d : List UInt8) (w : World) (h : Lies (s.obj lay) lay w) (hok : s.Ok) (hl : s.out.length + d.length ≤ 1000000) :
    Calls Tryz.prog 342 #[ptrOf (lay .S), .string ⟨d.toArray⟩] w fun e w' => e = .returned (.tuple #[.int .i64 d.length, .int .i64 0]) ∧ HxW s lay d w w' := by
  obtain ⟨i, hi, hz, hsz, hby⟩ := info_u8i
  have hap := fun ty => append_str3 (P := Tryz.prog) (w := w) 87 9 ty 5 i (by kernel_rfl) (by kernel_rfl) hi hz hsz hby d
  have c0 : w.cell? ⟨lay .S, 0, none⟩ = some (s.val lay) := h.cell (i := .S) (cs := #[s.val lay]) (ty := 143) (fz := (0, 0)) rfl rfl
  have f0 : w.frozen? ⟨lay .S, 0, none⟩ = false := h.fz (i := .S) (cs := #[s.val lay]) (ty := 143) rfl 0
  have hSl : lay .S < w.heap.size := h.owns_lt ⟨.S, by simp [Hx.obj], rfl⟩
  have hdl : (d.length : Int) ≤ 1000000 := by omega
  clear hi
  cases hc : s.cur with
  | none =>
    have hv : s.val lay = .slice none 0 0 := by unfold Hx.val; rw [hc]
    have ho : s.out = [] := by have := hok; unfold Hx.Ok at this; rw [hc] at this; exact this
    rw [hv] at c0
    by_cases hd : d = []
    · subst hd
      have hrun := (hap 87).1 rfl
      have hst := (GStep.refl h).set (i := .S) (cs := #[s.val lay]) (ty := 143) (fz := (0, 0)) (c3 := s.obj lay) rfl 0 (.slice none 0 0) (fun j => by cases j <;> simp [Hx.obj, hv])
      have HS := Lib.hid (HxW.mk (d := []) hst (by simp) rfl hok rfl rfl)
      unfold ptrOf at *
      clear hap hst h hok ho hv hc
      have HR := Lib.hid hrun
      clear hrun
      go_enter Tryz.func342, Tryz.ntmps342
      go_wp2_with (refine wpList_append_at rfl _ _ _ _ rfl _ _ _ rfl rfl HR.out ?_)
      go_ret2
      exact ⟨rfl, HS.out⟩
    · obtain ⟨cap, cs, hrun, h1, h2, h3, h4⟩ := (hap 87).2.1 hd (by omega)
      have hst := hx_write_new (cap := cap) (cs := cs) (lay' := fun j => if j = .B then w.heap.size else lay j) h (fun j => rfl) d
      have HS := Lib.hid (HxW.mk (d := d) hst (by rw [ho]; rfl) rfl ⟨h1, h2, h3, h4⟩ (by simp) (by simp))
      have c1 : (w.drew.alloc (.cells cs 5)).cell? ⟨lay .S, 0, none⟩ = some (.slice none 0 0) := by
        rw [World.cell?_of_block (w := w) (Below.heap_alloc w.drew _ _ hSl)]; exact c0
      have f1 : (w.drew.alloc (.cells cs 5)).frozen? ⟨lay .S, 0, none⟩ = false := by
        rw [World.frozen?_of_block (w := w) (Below.heap_alloc w.drew _ _ hSl)]; exact f0
      unfold ptrOf at *
      clear hap hst h hok ho hv hc h1 h2 h3 h4
      generalize w.drew.alloc (.cells cs 5) = w2 at *
      have HR := Lib.hid hrun
      clear hrun
      go_enter Tryz.func342, Tryz.ntmps342
      go_wp2_with (refine wpList_append_at rfl _ _ _ _ rfl _ _ _ rfl rfl HR.out ?_)
      go_ret2
      exact ⟨rfl, HS.out⟩
  | some p =>
    obtain ⟨cap, cs⟩ := p
    have hv : s.val lay = .slice (some ⟨lay .B, 0, none⟩) s.out.length cap := by unfold Hx.val; rw [hc]
    have hok' := hok
    unfold Hx.Ok at hok'
    rw [hc] at hok'
    obtain ⟨h1, h2, h3, h4⟩ := hok'
    have hB : w.heap[lay .B]? = some (.cells cs 5 (0, 0)) := h.at_ .B _ (by simp [Hx.obj, hc])
    have hBl : lay .B < w.heap.size := (Array.getElem?_eq_some_iff.1 hB).1
    have hne : lay .B ≠ lay .S := fun e => by
      have := h.inj .B .S (by simp [Hx.obj, hc]) (by simp [Hx.obj]) e
      cases this
    rw [hv] at c0
    rcases (hap 87).2.2 (lay .B) cap cs s.out hB h1 h2 h3 h4 hl with ⟨cs', hrun, g1, g2, g3⟩ | ⟨cap', cs', hrun, g1, g1', g2, g3⟩
    · have hst := hx_write_room (cs' := cs') h hc (s.out ++ d)
      rw [List.length_append] at hst
      have HS := Lib.hid (HxW.mk (d := d) hst rfl rfl ⟨by simpa using g1, h2, g2, by simpa [bytesV] using g3⟩ rfl rfl)
      have c1 : (w.setRow (lay .B) cs').cell? ⟨lay .S, 0, none⟩ = some (.slice (some ⟨lay .B, 0, none⟩) s.out.length cap) := by
        rw [World.cell?_of_block (w := w) (setRow_other w _ _ _ (by simpa using Ne.symm hne))]; exact c0
      have f1 : (w.setRow (lay .B) cs').frozen? ⟨lay .S, 0, none⟩ = false := by
        rw [World.frozen?_of_block (w := w) (setRow_other w _ _ _ (by simpa using Ne.symm hne))]; exact f0
      unfold ptrOf at *
      clear hap hst h hok hv hc h1 h2 h3 h4 g1 g2 g3 hB
      generalize w.setRow (lay .B) cs' = w2 at *
      generalize s.out.length = n at *
      have HR := Lib.hid hrun
      clear hrun
      go_enter Tryz.func342, Tryz.ntmps342
      go_wp2_with (refine wpList_append_at rfl _ _ _ _ rfl _ _ _ rfl rfl HR.out ?_)
      go_ret2
      exact ⟨rfl, HS.out⟩
    · have hst := hx_write_new (cap := cap') (cs := cs') (lay' := fun j => if j = .B then w.heap.size else lay j) h (fun j => rfl) (s.out ++ d)
      rw [List.length_append] at hst
      have HS := Lib.hid (HxW.mk (d := d) hst rfl rfl ⟨by simpa using g1, g1', g2, by simpa [bytesV] using g3⟩ (by simp) (by simp))
      have c1 : (w.drew.alloc (.cells cs' 5)).cell? ⟨lay .S, 0, none⟩ = some (.slice (some ⟨lay .B, 0, none⟩) s.out.length cap) := by
        rw [World.cell?_of_block (w := w) (Below.heap_alloc w.drew _ _ hSl)]; exact c0
      have f1 : (w.drew.alloc (.cells cs' 5)).frozen? ⟨lay .S, 0, none⟩ = false := by
        rw [World.frozen?_of_block (w := w) (Below.heap_alloc w.drew _ _ hSl)]; exact f0
      unfold ptrOf at *
      clear hap hst h hok hv hc h1 h2 h3 h4 g1 g2 g3 hB
      generalize s.out.length = n at *
      generalize w.drew.alloc (.cells cs' 5) = w2 at *
      have HR := Lib.hid hrun
      clear hrun
      go_enter Tryz.func342, Tryz.ntmps342
      go_wp2_with (refine wpList_append_at rfl _ _ _ _ rfl _ _ _ rfl rfl HR.out ?_)
      go_ret2
      exact ⟨rfl, HS.out⟩
/-- a set's write to a number that is open for a sink, by what the sink's write comes to -/
theorem setwrite_any {s lay} (i : Int) (l : List (Option Nat)) (n k b : Nat) (c : Int) (d : List UInt8) (w : World) (Q : World → Prop) (h : FxIs s lay w) (hi : s.zs i = some l) (hn : l[n]? = some (some k)) (hk : s.op k = some (.iface 144 (ptrOf b), c))
    (hw : Calls Tryz.prog 342 #[ptrOf b, .string ⟨d.toArray⟩] w fun e w' => e = .returned (.tuple #[.int .i64 d.length, .int .i64 0]) ∧ Q w') :
    Calls Tryz.prog 71 #[ptrOf (lay (.Z i)), .int .i64 n, .string ⟨d.toArray⟩] w fun e w' => e = .returned (.tuple #[.int .i64 d.length, .int .i64 0]) ∧ Q w' := by
  have HA := Lib.hid (at_open i l n k w h hi hn)
  have HW := Lib.hid hw
  have c0 := h.o0 hk
  have hmt : ∀ W : World, (method 522 144 (.pointer (some ⟨b, 0, none⟩)) "Write").run Tryz.prog W = .ok (342, .pointer (some ⟨b, 0, none⟩)) W := fun _ => by kernel_rfl
  unfold ptrOf at *
  clear h hi hn hk hw
  go_enter Tryz.func71, Tryz.ntmps71
  go_wp2_with first
    | (go_at_call 104; refine HA.out.mono ?_; rintro e w' ⟨rfl, rfl⟩)
    | (go_at_call 342; refine HW.out.mono ?_; rintro e w' ⟨rfl, hq⟩)
  go_ret2
  exact ⟨rfl, hq⟩
end Go.Proofs.YtelohloaoocoaaaGreatDoor
/- sys.Kernel: wake (nobody is to be woken), fork, exit. -/
namespace Go.Proofs.YtelohloaoocoaaaGreatDoor
open Go.RowKit IntWalk
set_option linter.unusedVariables false
set_option linter.unusedSimpArgs false
set_option linter.unnecessarySimpa false

theorem KsIs.state {s l w} (h : KsIs s l w) (i : Int) : Calls Tryz.prog 58 #[ptrOf (l.t .T), .int .i64 i] w fun e w' => e = .returned (.int .i64 (s.t.stateOf i)) ∧ Below w.heap.size w w' := state_any i w h.tab
set_option maxRecDepth 100000 in
theorem wakenone_any {s l} (w : World) (h : KsIs s l w) (hno : ∀ i ∈ s.k.m.keys, (s.k.pc i).waits = true ∨ s.t.stateOf i ≠ 2) :
    Calls Tryz.prog 51 #[ptrOf (l.k .K)] w fun e w' => e = .returned (.tuple #[]) ∧ Below w.heap.size w w' := by
  have c3 := h.k3
  obtain ⟨gm, hgm⟩ : ∃ gm, gm = s.k.m.gm (fun i => l.k (.R i)) := ⟨_, rfl⟩
  have hgd : gm.Good := by rw [hgm]; exact PMap.good_gm h.ok.k _
  have HM := Lib.hid (fun x (hx : x ∈ gm.es) => PMap.mem_gm (hgm ▸ hx))
  have hM0 : w.heap[l.k .M]? = some gm.obj := by rw [hgm]; exact kx_m h.kx
  have hrun := run_range_g (P := Tryz.prog) Tryz.underlying77 hM0
  have hI0 := It.start w (l.k .M) gm.clk
  have hMlt : l.k .M < w.heap.size := (Array.getElem?_eq_some_iff.1 hM0).1
  have HNO := Lib.hid hno
  have H := Lib.hid h
  unfold ptrOf at *
  clear hno hgm h
  go_enter Tryz.func51, Tryz.ntmps51
  go_wp2_with fail
  clear hrun
  generalize hr : w.heap.size = r at *
  generalize w.alloc (iterO (l.k .M) gm.clk #[]) = w1 at *
  go_loopw [2] (fun _ W => ∃ seen, It w (l.k .M) gm.clk r seen W) (fun _ W => leftN gm.es W r)
  case atStart => exact ⟨_, hI0⟩
  case round =>
    obtain ⟨seen, hI⟩ := hrel
    have hM : wr.heap[l.k .M]? = some gm.obj := (hI.below.block _ (by omega)).trans hM0
    clear hI0
    go_wp2_with (refine wpList_next_o rfl _ rfl r (l.k .M) seen gm rfl hI.it hM hgd ?_ ?_)
    · intro hall
      go_wp2_with fail
      go_end0
      exact ⟨rfl, hI.below⟩
    · intro ek ev eb he hns n
      obtain ⟨j, hj, h1, h2, h3⟩ := HM.out _ he
      simp only at h1 h2 h3
      subst h1 h2
      have hI2 := hI.next n eb
      have hd := hI.left hI2 he rfl hns
      generalize putO (wr.drewN n) r (iterO (l.k .M) gm.clk (seen.push eb)) = w4 at *
      have hM4 : w4.heap[l.k .M]? = some gm.obj := (hI2.below.block _ (by omega)).trans hM0
      have hent := run_entry_g (P := Tryz.prog) hI2.it hM4 he hgd
      have H4 := H.out.below hI2.below
      have c2 := H4.r2 hj
      have k2 := H4.k2
      have HST := Lib.hid (H4.state j)
      have HN := Lib.hid (HNO.out j hj)
      have hz4 : w.heap.size ≤ w4.heap.size := hI2.below.size
      have hr4 : r < w4.heap.size := (Array.getElem?_eq_some_iff.1 hI2.it).1
      simp only [Key.val] at hent ⊢
      unfold ptrOf at *
      clear hM hM4 H4 hz4
      cases hw : (s.k.pc j).waits with
      | true =>
        rw [hw] at c2
        go_wp2_with fail
        go_roundw
        case rel => exact ⟨seen.push eb, hI2⟩
        case measure => exact hd
      | false =>
        rw [hw] at c2
        have hs2 : (s.t.stateOf j == 2) = false := by
          rcases HN.out with q | q
          · rw [hw] at q; cases q
          · simpa using q
        generalize s.t.stateOf j = sj at *
        go_wp2_with (go_at_call 58; refine HST.out.mono ?_; rintro e w5 ⟨rfl, hB5⟩)
        have hI5 : It w (l.k .M) gm.clk r (seen.push eb) w5 := ⟨hI2.below.trans (hB5.mono hI2.below.size), (hB5.block r hr4).trans hI2.it, hI2.new⟩
        go_roundw
        case rel => exact ⟨seen.push eb, hI5⟩
        case measure => exact hI.left hI5 he rfl hns
/-- a kernel with a process more -/
def Ks.forked (s : Ks) (p q : Int) (l0 : List (Option Nat)) (zq : Nat) : Ks :=
  { s with t := s.t.addP q ⟨1, p, 0⟩, x := s.x.forkS q l0 16, k := s.k.addR q ⟨zq, false⟩, r := s.r.setU (s.r.users + 1) }
/-- what a fork asks -/
structure MayFork (s : Ks) (p q : Int) (l0 : List (Option Nat)) : Prop where
  pk : p ∈ s.k.m.keys
  pt : p ∈ s.t.m.keys
  ps : (s.t.pr p).state ≠ 3
  q1 : 1 ≤ q
  qm : q ≤ s.t.most
  mm : s.t.most ≤ 1024
  qin : ∀ j, 1 ≤ j → j < q → j ∈ s.t.m.keys
  qout : q ∉ s.t.m.keys
  qk : q ∉ s.k.m.keys
  zp : s.x.zs p = some l0
  zq : s.x.zs q = none
  cnt : s.x.Counted l0
  u0 : 0 ≤ s.r.users
  u1 : s.r.users < 1000000
/-- the new process laid, and its facts -/
theorem kadd_step {s0 : Ks} {l0 : Ly} {w0 : World} {s : Ks} {l : Ly} {w : World} (K : KStep s0 l0 w0 s l w) {q : Int} (hq : q ∉ s.k.m.keys) (lk : KId → Nat) (hlk : ∀ j, lk j = if j = .R q then w.heap.size else l.k j) :
    KStep s0 l0 w0 { s with k := s.k.addR q ⟨l.x (.Z q), false⟩ } { l with k := lk } { (w.alloc (.cells (kpV ⟨l.x (.Z q), false⟩) 110 (0, 0))) with heap := (w.alloc (.cells (kpV ⟨l.x (.Z q), false⟩) 110 (0, 0))).heap.setIfInBounds (l.k .M) ((s.k.m.gm fun i => l.k (.R i)).put (.int q) (ptrOf w.heap.size)).obj } := by
  refine K.trans (KStep.kx K.is (kx_add (GStep.refl K.is.kx) hq ⟨l.x (.Z q), false⟩ lk hlk) (K.ok.k.add hq) rfl rfl rfl (by rw [hlk, if_neg (by simp)]) (fun i hi => ?_))
  rcases PMap.mem_add.1 hi with q1 | q1
  · have : i ≠ q := by rintro rfl; exact hq q1
    simp only [Kx.addR, if_neg this]
    exact K.ok.zb i q1
  · subst q1; simp [Kx.addR]
def Forked (s : Ks) (l : Ly) (w : World) (p q : Int) (l0 : List (Option Nat)) (w' : World) : Prop := ∃ l' : Ly, KStep s l w (s.forked p q l0 (l'.x (.Z q))) l' w'
set_option maxHeartbeats 1000000 in
set_option maxRecDepth 100000 in
theorem kfork_any {s l} (p q : Int) (l0 : List (Option Nat)) (w : World) (h : KsIs s l w) (hm : MayFork s p q l0) :
    Calls Tryz.prog 76 #[ptrOf (l.k .K), .int .i64 p, ptrOf (l.k (.R p))] w fun e w' => e = .returned (.tuple #[.int .i64 q, .int .i64 0]) ∧ Forked s l w p q l0 w' := by
  have k2 := h.k2
  have HF := Lib.hid (fork_any p q (fun j => if j = .P q then w.heap.size else l.t j) w h.tab hm.pt hm.ps hm.q1 hm.qm hm.mm hm.qin hm.qout (fun j => rfl))
  unfold ptrOf at *
  go_enter Tryz.func76, Tryz.ntmps76
  go_wp2_with (go_at_call 34; refine HF.out.mono ?_; rintro e w1 ⟨rfl, ht⟩)
  have K1 := KStep.tab h ht
  have I1 := K1.is
  have a0 := I1.k0
  have a1 := I1.r1 hm.pk
  have HK1 := Lib.hid K1
  unfold ptrOf at *
  clear K1 k2 ht I1 h
  go_still_tail 8, (by kernel_rfl)
  have K2 := HK1.out.drew
  change wpList _ _ _ _ _ w1.drew
  generalize w1.drew = w2 at K2 ⊢
  have HH := Lib.hid (rt_hold w2 K2.is.rt hm.u0 hm.u1)
  have HK2 := Lib.hid K2
  unfold ptrOf at *
  clear K2 a0 a1
  go_wp2_with (go_at_call 38; refine HH.out.mono ?_; rintro e w3 ⟨rfl, hr⟩)
  have K3 := HK2.out.trans (KStep.rt HK2.out.is hr)
  have I3 := K3.is
  have b3 := I3.k3
  have b0 := I3.r0 hm.pk
  have b1 := I3.r1 hm.pk
  have K3d := K3.drew
  obtain ⟨lx, hlx⟩ : ∃ lx : XId → Nat, ∀ x, lx x = if x = .Z q then w3.drew.heap.size else l.x x := ⟨_, fun x => rfl⟩
  have hqp : q ≠ p := fun e => hm.qout (e ▸ hm.pt)
  have hK4 : ∀ w4, XStep s.x l.x w3.drew (s.x.forkS q l0 16) lx w4 → KStep s l w { s with t := s.t.addP q ⟨1, p, 0⟩, x := s.x.forkS q l0 16, r := s.r.setU (s.r.users + 1) } { l with t := fun j => if j = TId.P q then w.heap.size else l.t j, x := lx } w4 := fun w4 hx => by
    refine K3d.trans (KStep.fx K3d.is hx (fun i hi => ?_) ?_ rfl)
    · rw [hlx, if_neg (by intro e; cases e; exact hm.qk hi)]
    · obtain ⟨c, hc⟩ := K3d.ok.sk
      exact ⟨_, forkS_op hc⟩
  have hlz : lx (.Z p) = l.x (.Z p) := by rw [hlx, if_neg (by simp [Ne.symm hqp])]
  have hall : ∀ w4, XStep s.x l.x w3.drew (s.x.forkS q l0 16) lx w4 → ((w4 : World).cell? ⟨l.k .K, 3, none⟩ = some (.map (some (l.k .M))) ∧ (w4 : World).cell? ⟨l.k (.R p), 0, none⟩ = some (.pointer (some ⟨l.x (.Z p), 0, none⟩)) ∧ (w4 : World).cell? ⟨l.k (.R p), 1, none⟩ = some (.int .i64 1)) ∧
      (Instr.mapUpdate 77 (.map (some (l.k .M))) (.int .i64 q) (.pointer (some ⟨w4.heap.size, 0, none⟩))).run Tryz.prog (w4.alloc (.cells #[.pointer (some ⟨lx (.Z q), 0, none⟩), .int .i64 1, .bool false] 110 (0, 0))) = .ok () { (w4.alloc (.cells #[.pointer (some ⟨lx (.Z q), 0, none⟩), .int .i64 1, .bool false] 110 (0, 0))) with heap := (w4.alloc (.cells #[.pointer (some ⟨lx (.Z q), 0, none⟩), .int .i64 1, .bool false] 110 (0, 0))).heap.setIfInBounds (l.k .M) ((s.k.m.gm fun i => l.k (.R i)).put (.int q) (.pointer (some ⟨w4.heap.size, 0, none⟩))).obj } ∧
      (({ (w4.alloc (.cells #[.pointer (some ⟨lx (.Z q), 0, none⟩), .int .i64 1, .bool false] 110 (0, 0))) with heap := (w4.alloc (.cells #[.pointer (some ⟨lx (.Z q), 0, none⟩), .int .i64 1, .bool false] 110 (0, 0))).heap.setIfInBounds (l.k .M) ((s.k.m.gm fun i => l.k (.R i)).put (.int q) (.pointer (some ⟨w4.heap.size, 0, none⟩))).obj } : World).cell? ⟨l.k .K, 3, none⟩ = some (.map (some (l.k .M))) ∧ ({ (w4.alloc (.cells #[.pointer (some ⟨lx (.Z q), 0, none⟩), .int .i64 1, .bool false] 110 (0, 0))) with heap := (w4.alloc (.cells #[.pointer (some ⟨lx (.Z q), 0, none⟩), .int .i64 1, .bool false] 110 (0, 0))).heap.setIfInBounds (l.k .M) ((s.k.m.gm fun i => l.k (.R i)).put (.int q) (.pointer (some ⟨w4.heap.size, 0, none⟩))).obj } : World).cell? ⟨l.k (.R p), 0, none⟩ = some (.pointer (some ⟨l.x (.Z p), 0, none⟩)) ∧ ({ (w4.alloc (.cells #[.pointer (some ⟨lx (.Z q), 0, none⟩), .int .i64 1, .bool false] 110 (0, 0))) with heap := (w4.alloc (.cells #[.pointer (some ⟨lx (.Z q), 0, none⟩), .int .i64 1, .bool false] 110 (0, 0))).heap.setIfInBounds (l.k .M) ((s.k.m.gm fun i => l.k (.R i)).put (.int q) (.pointer (some ⟨w4.heap.size, 0, none⟩))).obj } : World).cell? ⟨l.k (.R p), 1, none⟩ = some (.int .i64 1)) ∧ Forked s l w p q l0 { (w4.alloc (.cells #[.pointer (some ⟨lx (.Z q), 0, none⟩), .int .i64 1, .bool false] 110 (0, 0))) with heap := (w4.alloc (.cells #[.pointer (some ⟨lx (.Z q), 0, none⟩), .int .i64 1, .bool false] 110 (0, 0))).heap.setIfInBounds (l.k .M) ((s.k.m.gm fun i => l.k (.R i)).put (.int q) (.pointer (some ⟨w4.heap.size, 0, none⟩))).obj } := fun w4 hx => by
    have I4 := (hK4 w4 hx).is
    refine ⟨⟨I4.k3, hlz ▸ I4.r0 (i := p) hm.pk, I4.r1 (i := p) hm.pk⟩, ?_, ?_, ?_⟩
    · have := GMap.store (P := Tryz.prog) (w := w4.alloc (.cells #[.pointer (some ⟨lx (.Z q), 0, none⟩), .int .i64 1, .bool false] 110 (0, 0))) (k := .int q) (v := .pointer (some ⟨w4.heap.size, 0, none⟩)) Tryz.underlying77 Tryz.underlying3 (PMap.of_gm s.k.m fun i => l.k (.R i)) ((Below.heap_alloc w4 _ _ (I4.kx.owns_lt ⟨.M, by simp [Kx.obj], rfl⟩)).trans (kx_m I4.kx))
      simpa only [Key.val] using this
    · have K5 := kadd_step (hK4 w4 hx) (q := q) hm.qk (fun j => if j = .R q then w4.heap.size else l.k j) (fun j => rfl)
      have e3 := K5.is.k3
      have e0 := K5.is.r0 (i := p) (PMap.mem_add.2 (.inl hm.pk))
      have e1 := K5.is.r1 (i := p) (PMap.mem_add.2 (.inl hm.pk))
      simp only [reduceCtorEq, if_false, KId.R.injEq, Ne.symm hqp, hlz] at e3 e0 e1
      exact ⟨e3, e0, e1⟩
    · exact ⟨{ l with t := fun j => if j = TId.P q then w.heap.size else l.t j, x := lx, k := fun j => if j = .R q then w4.heap.size else l.k j }, kadd_step (hK4 w4 hx) (q := q) hm.qk (fun j => if j = .R q then w4.heap.size else l.k j) (fun j => rfl)⟩
  have HALL := Lib.hid hall
  have HSF := Lib.hid (setfork_any (s := s.x) (lay := l.x) p q l0 lx w3.drew K3d.is.fx hm.zp hm.zq hm.cnt hlx)
  have hlm : l.k .M < w3.heap.size := I3.kx.owns_lt ⟨.M, by simp [Kx.obj], rfl⟩
  unfold ptrOf at *
  clear K3 I3 hr K3d hK4 hlx hlz hqp hall
  go_region_held3 (fun W => W.cell? ⟨l.k .K, 3, none⟩ = some (.map (some (l.k .M))) ∧ W.cell? ⟨l.k (.R p), 0, none⟩ = some (.pointer (some ⟨l.x (.Z p), 0, none⟩)) ∧ W.cell? ⟨l.k (.R p), 1, none⟩ = some (.int .i64 1)) (first | go_keep | exact ⟨b3, b0, b1⟩ | exact ⟨g3, g0, g1⟩ | exact ⟨e3, e0, e1⟩) (first | (go_at_call 108; refine HSF.out.mono ?_; rintro e w4 ⟨rfl, hx⟩; obtain ⟨⟨g3, g0, g1⟩, hsto, ⟨e3, e0, e1⟩, hfk⟩ := HALL.out _ hx; have HFK := Lib.hid hfk; clear hfk hx))
  go_wp2_with fail
  go_ret2
  exact ⟨rfl, HFK.out⟩
end Go.Proofs.YtelohloaoocoaaaGreatDoor
/- sys.Kernel: exit. -/
namespace Go.Proofs.YtelohloaoocoaaaGreatDoor
open Go.RowKit IntWalk
set_option linter.unusedVariables false
set_option linter.unusedSimpArgs false
set_option linter.unnecessarySimpa false

/-- what the end of a child asks -/
structure MayEnd (s : Ks) (i p : Int) (l0 : List (Option Nat)) : Prop where
  ik : i ∈ s.k.m.keys
  it : i ∈ s.t.m.keys
  is : (s.t.pr i).state ≠ 3
  ip : (s.t.pr i).parent = p
  i1 : i ≠ 1
  one : 1 ∈ s.t.m.keys
  pt : p ∈ s.t.m.keys
  np : i ≠ p
  p0 : p ≠ 0
  ps : (s.t.pr p).state ≠ 3
  no : ∀ j ∈ s.t.m.keys, (s.t.pr j).parent ≠ i
  zi : s.x.zs i = some l0
  cnt : ∀ k, some k ∈ l0 → ∃ v c, s.x.op k = some (v, c) ∧ (l0.count (some k) : Int) < c ∧ c < 1000000
  u0 : 0 < s.r.users
  u1 : s.r.users < 1000000
/-- a kernel of which a child has ended -/
def Ks.endedK (s : Ks) (i p st : Int) (l0 : List (Option Nat)) : Ks :=
  { s with t := ((s.t.setP i ⟨3, p, st⟩).setP i { (s.t.setP i ⟨3, p, st⟩).pr i with parent := p }).turnS p 1, x := s.x.endS i l0 16, k := s.k.delR i, r := s.r.setU (s.r.users - 1) }
set_option maxHeartbeats 1000000 in
set_option maxRecDepth 100000 in
theorem kexit_kid {s l} (i p st : Int) (l0 : List (Option Nat)) (w : World) (h : KsIs s l w) (hm : MayEnd s i p l0) (hst0 : 0 ≤ st) (hst1 : st ≤ 255) :
    Calls Tryz.prog 77 #[ptrOf (l.k .K), .int .i64 i, ptrOf (l.k (.R i)), .int .i64 st] w fun e w' => e = .returned (.tuple #[]) ∧ KStep s l w (s.endedK i p st l0) l w' := by
  have r0 := h.r0 hm.ik
  have HE := Lib.hid (setend_more i l0 w h.fx hm.zi hm.cnt)
  have hm0 : st % 256 = st := Int.emod_eq_of_lt hst0 (by omega)
  have hm1 : (st + 256) % 256 = st := by omega
  have hib : (i == 1) = false := by simpa using hm.i1
  have H := Lib.hid h
  unfold ptrOf at *
  clear h
  go_enter Tryz.func77, Tryz.ntmps77
  go_wp2_with (go_at_call 109; refine HE.out.mono ?_; rintro e w1 ⟨rfl, hx⟩)
  have K1 := KStep.fx H.out hx (fun i hi => rfl) (by obtain ⟨c, hc⟩ := H.out.ok.sk; exact ⟨_, endS_op hc⟩) rfl
  have a0 := K1.is.k0
  have a1 := K1.is.r1 (i := i) hm.ik
  have HK1 := Lib.hid K1
  unfold ptrOf at *
  clear K1 hx r0
  go_still_tail 8, (by kernel_rfl)
  have K2 := HK1.out.drew
  change wpList _ _ _ _ _ w1.drew
  generalize w1.drew = w2 at K2 ⊢
  have HL := Lib.hid (rt_loose w2 K2.is.rt hm.u0 hm.u1)
  have HK2 := Lib.hid K2
  unfold ptrOf at *
  clear K2 a0 a1
  have hloose : ∀ w3, RStep s.r l.r w2 (s.r.setU (s.r.users - 1)) w3 → (w3.cell? ⟨l.k .K, 3, none⟩ = some (.map (some (l.k .M)))) ∧ (∀ ty, (Builtin.delete_ #[77, 3] ty #[.map (some (l.k .M)), .int .i64 i]).run Tryz.prog w3 = .ok (.tuple #[]) { w3 with heap := w3.heap.setIfInBounds (l.k .M) ((s.k.m.gm fun i => l.k (.R i)).del (.int i)).obj }) ∧
      (({ w3 with heap := w3.heap.setIfInBounds (l.k .M) ((s.k.m.gm fun i => l.k (.R i)).del (.int i)).obj } : World).cell? ⟨l.k .K, 2, none⟩ = some (.pointer (some ⟨l.t .T, 0, none⟩))) ∧ KStep s l w { s with x := s.x.endS i l0 16, k := s.k.delR i, r := s.r.setU (s.r.users - 1) } l { w3 with heap := w3.heap.setIfInBounds (l.k .M) ((s.k.m.gm fun i => l.k (.R i)).del (.int i)).obj } := fun w3 hr => by
    have K3 := HK2.out.trans (KStep.rt HK2.out.is hr)
    have K4 := K3.trans (KStep.kx K3.is (kx_del (GStep.refl K3.is.kx) K3.ok.k i) (K3.ok.k.del i) rfl rfl rfl rfl (fun j hj => K3.ok.zb j (PMap.mem_del.1 hj).1))
    refine ⟨K3.is.k3, fun ty => ?_, K4.is.k2, K4⟩
    have := GMap.drop (P := Tryz.prog) (w := w3) (ts := #[77, 3]) (ty := ty) (k := .int i) rfl Tryz.underlying77 Tryz.underlying3 (PMap.of_gm s.k.m _) (kx_m K3.is.kx)
    simpa only [Key.val] using this
  have HLO := Lib.hid hloose
  clear hloose
  go_wp2_with first
    | (go_at_call 110; refine HL.out.mono ?_; rintro e w3 ⟨rfl, hr⟩; obtain ⟨b3, hdel, b2, K4⟩ := HLO.out _ hr; have HT := Lib.hid (ended_kid i p st _ K4.is.tab hm.it hm.is hm.ip hm.i1 hm.one hm.pt hm.np hm.p0 hm.ps hm.no); have HK4 := Lib.hid K4; clear K4 hr; unfold ptrOf at HT)
    | (go_at_call 111; refine HT.out.mono ?_; rintro e w5 ⟨rfl, ht⟩)
  go_end0
  exact ⟨rfl, HK4.out.trans (KStep.tab HK4.out.is ht)⟩
/-- what the end of the first process asks -/
structure MayEnd1 (s : Ks) (b0 b1 b2 : Nat) : Prop where
  ik : 1 ∈ s.k.m.keys
  it : 1 ∈ s.t.m.keys
  is : (s.t.pr 1).state ≠ 3
  ip : (s.t.pr 1).parent = 0
  no : ∀ j ∈ s.t.m.keys, (s.t.pr j).parent ≠ 1
  zi : s.x.zs 1 = some stdSlots
  o0 : s.x.op 0 = some (.iface 166 (ptrOf b0), 1)
  o1 : s.x.op 1 = some (.iface 144 (ptrOf b1), 1)
  o2 : s.x.op 2 = some (.iface 144 (ptrOf b2), 1)
  many : s.x.many = 3
  u0 : 0 < s.r.users
  u1 : s.r.users < 1000000
  ne : s.k.ended = false
/-- a kernel of which the first process has ended -/
def Ks.ended1 (s : Ks) (st : Int) : Ks :=
  { s with t := (s.t.setP 1 ⟨3, 0, st⟩).delP 1, x := s.x.lastS 1 16, k := (s.k.delR 1).setEnd st true, r := s.r.setU (s.r.users - 1) }
set_option maxHeartbeats 1000000 in
set_option maxRecDepth 100000 in
theorem kexit_one {s l} (st : Int) (b0 b1 b2 : Nat) (w : World) (h : KsIs s l w) (hm : MayEnd1 s b0 b1 b2) (hst0 : 0 ≤ st) (hst1 : st ≤ 255) :
    Calls Tryz.prog 77 #[ptrOf (l.k .K), .int .i64 1, ptrOf (l.k (.R 1)), .int .i64 st] w fun e w' => e = .returned (.tuple #[]) ∧ KStep s l w (s.ended1 st) l w' := by
  have r0 := h.r0 hm.ik
  have HE := Lib.hid (setend_last 1 b0 b1 b2 w h.fx hm.zi hm.o0 hm.o1 hm.o2 hm.many)
  have hm0 : st % 256 = st := Int.emod_eq_of_lt hst0 (by omega)
  have hm1 : (st + 256) % 256 = st := by omega
  have HNE := Lib.hid hm.ne
  have H := Lib.hid h
  unfold ptrOf at *
  clear h
  go_enter Tryz.func77, Tryz.ntmps77
  go_wp2_with (go_at_call 109; refine HE.out.mono ?_; rintro e w1 ⟨rfl, hx⟩)
  have K1 := KStep.fx H.out hx (fun i hi => rfl) (by obtain ⟨c, hc⟩ := H.out.ok.sk; exact ⟨0, by simp only [Fx.lastS]; rw [if_pos (by decide), hc]; rfl⟩) rfl
  have a0 := K1.is.k0
  have a1 := K1.is.r1 (i := 1) hm.ik
  have HK1 := Lib.hid K1
  unfold ptrOf at *
  clear K1 hx r0
  go_still_tail 8, (by kernel_rfl)
  have K2 := HK1.out.drew
  change wpList _ _ _ _ _ w1.drew
  generalize w1.drew = w2 at K2 ⊢
  have HL := Lib.hid (rt_loose w2 K2.is.rt hm.u0 hm.u1)
  have HK2 := Lib.hid K2
  unfold ptrOf at *
  clear K2 a0 a1
  have hloose : ∀ w3, RStep s.r l.r w2 (s.r.setU (s.r.users - 1)) w3 → (w3.cell? ⟨l.k .K, 3, none⟩ = some (.map (some (l.k .M)))) ∧ (∀ ty, (Builtin.delete_ #[77, 3] ty #[.map (some (l.k .M)), .int .i64 1]).run Tryz.prog w3 = .ok (.tuple #[]) { w3 with heap := w3.heap.setIfInBounds (l.k .M) ((s.k.m.gm fun i => l.k (.R i)).del (.int 1)).obj }) ∧
      (({ w3 with heap := w3.heap.setIfInBounds (l.k .M) ((s.k.m.gm fun i => l.k (.R i)).del (.int 1)).obj } : World).cell? ⟨l.k .K, 2, none⟩ = some (.pointer (some ⟨l.t .T, 0, none⟩))) ∧ KStep s l w { s with x := s.x.lastS 1 16, k := s.k.delR 1, r := s.r.setU (s.r.users - 1) } l { w3 with heap := w3.heap.setIfInBounds (l.k .M) ((s.k.m.gm fun i => l.k (.R i)).del (.int 1)).obj } := fun w3 hr => by
    have K3 := HK2.out.trans (KStep.rt HK2.out.is hr)
    have K4 := K3.trans (KStep.kx K3.is (kx_del (GStep.refl K3.is.kx) K3.ok.k 1) (K3.ok.k.del 1) rfl rfl rfl rfl (fun j hj => K3.ok.zb j (PMap.mem_del.1 hj).1))
    refine ⟨K3.is.k3, fun ty => ?_, K4.is.k2, K4⟩
    have := GMap.drop (P := Tryz.prog) (w := w3) (ts := #[77, 3]) (ty := ty) (k := .int 1) rfl Tryz.underlying77 Tryz.underlying3 (PMap.of_gm s.k.m _) (kx_m K3.is.kx)
    simpa only [Key.val] using this
  have HLO := Lib.hid hloose
  clear hloose
  go_wp2_with first
    | (go_at_call 110; refine HL.out.mono ?_; rintro e w3 ⟨rfl, hr⟩; obtain ⟨b3, hdel, b2, K4⟩ := HLO.out _ hr; have HT := Lib.hid (ended_one st _ K4.is.tab hm.it hm.is hm.ip hm.no); have HK4 := Lib.hid K4; clear K4 hr; unfold ptrOf at HT)
    | (go_at_call 111; refine HT.out.mono ?_; rintro e w5 ⟨rfl, ht⟩; have K5 := HK4.out.trans (KStep.tab HK4.out.is ht); have b5 : w5.cell? ⟨l.k .K, 5, none⟩ = some (.bool false) := (HNE.out ▸ K5.is.k5 : w5.cell? ⟨l.k .K, 5, none⟩ = some (.bool false)); have b4 := K5.is.k4; have f5 := kx_kf K5.is.kx 5; have f4 := kx_kf K5.is.kx 4; have K6 := K5.trans (KStep.kx K5.is (kx_setEnded (kx_setStatus (GStep.refl K5.is.kx) st) true) K5.ok.k rfl rfl rfl rfl K5.ok.zb); have HK6 := Lib.hid K6; clear K5 K6 ht)
  go_end0
  exact ⟨rfl, HK6.out⟩
end Go.Proofs.YtelohloaoocoaaaGreatDoor
