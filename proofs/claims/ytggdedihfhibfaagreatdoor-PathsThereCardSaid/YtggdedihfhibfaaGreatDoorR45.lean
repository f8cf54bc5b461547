/- Texts of one proof, packed: PtL, PtM, PtN, PtO, PtP -/
import Derived.Test.YtggdedihfhibfaaGreatDoorR37
import Derived.Test.YtggdedihfhibfaaGreatDoorR44
set_option linter.unusedVariables false
set_option linter.unusedSimpArgs false
set_option linter.deprecated false
set_option linter.unnecessarySimpa false
/- The tree of the examples, and what their fields come to: reckoned by the kernel. -/
namespace Go.Proofs.YtggdedihfhibfaaGreatDoor
open Go.RowKit IntWalk
set_option linter.unusedVariables false
set_option linter.unusedSimpArgs false

def nameB (e : Key × Value × Nat) : Bool := decide (0 < (nameOf e).length) && decide ((nameOf e).length ≤ 32)
/-- Tr, as a question -/
def trB (s : Fs) : Bool :=
  ((List.range s.nodes.length).all fun k => match s.nodes[k]? with
    | some (some x) => x.kind != 2 || (s.dr ((k : Int) + 1)).isSome
    | _ => true) && s.dirs.all fun e => decide (e.2.1.names.es.length ≤ 100) && e.2.1.names.es.all nameB
theorem tr_of {s : Fs} (h : trB s = true) : Tr s := by
  unfold trB at h
  rw [Bool.and_eq_true] at h
  obtain ⟨h1, h2⟩ := h
  rw [List.all_eq_true] at h1 h2
  have hd : ∀ i d, s.dr i = some d → d.names.es.length ≤ 100 ∧ ∀ e ∈ d.names.es, nameB e = true := fun i d hi => by
    obtain ⟨n, hn⟩ := dirE_mem hi
    have := h2 _ hn
    rw [Bool.and_eq_true, List.all_eq_true] at this
    exact ⟨of_decide_eq_true this.1, this.2⟩
  refine ⟨fun i x hn hk => ?_, fun i d hi => (hd i d hi).1, fun i d hi e he => ?_⟩
  · obtain ⟨h3, h4, h5⟩ := Fs.nd_slot hn
    have := h1 (slotOf i) (by rw [List.mem_range]; unfold slotOf; omega)
    rw [h5] at this
    have e : ((slotOf i : Nat) : Int) + 1 = i := by unfold slotOf; omega
    rw [e] at this
    simpa [hk] using this
  · have := (hd i d hi).2 e he
    unfold nameB at this
    rw [Bool.and_eq_true] at this
    exact ⟨of_decide_eq_true this.1, of_decide_eq_true this.2⟩
def treeA : Fs := treeS [⟨[46, 104], false, []⟩]
theorem treeA_tr : trB treeA = true := by kernel_rfl
theorem exA : treeA.expandS 1 [91, 102, 103, 93] [] = [[102], [103]] := by kernel_rfl
theorem exB : treeA.expandS 1 [42, 47, 102] [] = [[100, 47, 102], [108, 47, 102]] := by kernel_rfl
theorem exC : treeA.expandS 1 [46, 42] [] = [[46, 104]] := by kernel_rfl
theorem exD : treeA.expandS 1 [42] [true] = [[42]] := by kernel_rfl
theorem exE : treeA.expandS 1 [121, 42] [] = [[121, 42]] := by kernel_rfl
end Go.Proofs.YtggdedihfhibfaaGreatDoor
/- conchlaw21.awake: the chapter's examples. -/
namespace Go.Proofs.YtggdedihfhibfaaGreatDoor
open Go.RowKit IntWalk
set_option linter.unusedVariables false
set_option linter.unusedSimpArgs false

section
variable {W0 : World} {F : Nat} {s : Fs}
theorem FT.kept {w w' : World} (h : FT W0 F s w) (hb : Below w.heap.size w w') : FT W0 F s w' := by
  obtain ⟨lay, h1, h2, h3⟩ := h
  exact ⟨lay, h1, h2.kept hb, h3⟩
theorem FT.below {w : World} (h : FT W0 F s w) : Below W0.heap.size W0 w := by
  obtain ⟨lay, h1, h2, h3⟩ := h
  exact h2.below
/-- Expand, of whatever field, in whatever tree -/
theorem expand_ft (hE : EnvG W0) (hT : Tr s) (dir : Int) (x : List UInt8) (q : List Bool) (qv : Value) (w : World) (h : FT W0 F s w) (hq : BoolsC w qv q) (hx : x.length ≤ 1000) (hql : q.length ≤ 9223372036854775807) :
    Calls Tryz.prog 11 #[ptrTo F, .int .i64 dir, fieldV x qv] w (Gives w (s.expandS dir x q)) := by
  obtain ⟨lay, rfl, h2, _⟩ := h
  cases hsp : anyS (piecesS (cutP x) q) with
  | true => exact expand_some hE hT dir x q qv w h2 hq hx hql hsp
  | false =>
    obtain ⟨m, hm⟩ := hE.at_ h2.below
    have e : s.expandS dir x q = [x] := by unfold Fs.expandS; rw [hsp]; rfl
    rw [e]
    exact expand_plain (lay .F) dir x q qv w hq hx hql hsp m hm
end
theorem no_bools (w : World) : BoolsC w (.slice none 0 0) [] := ⟨⟨none, 0, rfl, fun h => by simp at h⟩, fun a n c e => by cases e; omega⟩
theorem one_bool (w : World) (t : Bool) : BoolsC (w.alloc (.cells #[.bool t] 4)) (.slice (some ⟨w.heap.size, 0, none⟩) 1 1) [t] := by
  refine ⟨⟨_, 1, rfl, fun _ => ⟨w.heap.size, 0, rfl, by simp, fun i u hu => ?_⟩⟩, fun a n c e => by cases e; omega⟩
  cases i with
  | zero => simp at hu; subst hu; exact cell0 (r_alloc_at _ _)
  | succ i => simp at hu
theorem one_cell {w : World} {base : Nat} {v : Value} {a : List UInt8} (h : w.ownsRow base 9 1 v 1 [encB a]) : ∃ g c, v = .slice (some ⟨g, 0, none⟩) 1 c ∧ w.cell? ⟨g, 0, none⟩ = some (.string ⟨a.toArray⟩) := by
  obtain ⟨g, c, e⟩ : ∃ g c, v = .slice (some ⟨g, 0, none⟩) 1 c := by
    rcases h.2 with ⟨_, hn⟩ | ⟨g, cap, cur, rfl, _⟩
    · cases hn
    · exact ⟨g, cap, rfl⟩
  subst e
  obtain ⟨cur, hR, _, _, _, hc⟩ := row_cur (l := [a]) h
  exact ⟨g, c, rfl, hR.cell (hc 0 a rfl)⟩
theorem two_cells {w : World} {base : Nat} {v : Value} {a b : List UInt8} (h : w.ownsRow base 9 1 v 2 [encB a, encB b]) : ∃ g c, v = .slice (some ⟨g, 0, none⟩) 2 c ∧ w.cell? ⟨g, 0, none⟩ = some (.string ⟨a.toArray⟩) ∧ w.cell? ⟨g, 1, none⟩ = some (.string ⟨b.toArray⟩) := by
  obtain ⟨g, c, e⟩ : ∃ g c, v = .slice (some ⟨g, 0, none⟩) 2 c := by
    rcases h.2 with ⟨_, hn⟩ | ⟨g, cap, cur, rfl, _⟩
    · cases hn
    · exact ⟨g, cap, rfl⟩
  subst e
  obtain ⟨cur, hR, _, _, _, hc⟩ := row_cur (l := [a, b]) h
  exact ⟨g, c, rfl, hR.cell (hc 0 a rfl), hR.cell (hc 1 b rfl)⟩
theorem EnvG.next {W W' : World} (h : EnvG W) (hb : Below W.heap.size W W') : EnvG W' := by
  obtain ⟨m, hm⟩ := h.maxlen
  exact ⟨m, (hb.cell (cell_lt hm)).trans hm⟩
theorem mades_one (W : World) (m : MadeR) (h1 : m.path.length ≤ 100) (h2 : m.to.length ≤ 100) : Mades (W.alloc (.cells #[.string ⟨m.path.toArray⟩, .bool m.dir, .string ⟨m.to.toArray⟩] 55)) (.slice (some ⟨W.heap.size, 0, none⟩) 1 1) [m] := by
  have hb := r_alloc_at W (.cells #[.string ⟨m.path.toArray⟩, .bool m.dir, .string ⟨m.to.toArray⟩] 55)
  refine ⟨by simp [maxLen], ⟨_, 1, rfl, fun _ => ⟨W.heap.size, 0, rfl, by simp, fun i n hn => ?_⟩⟩, fun i n hn => ?_⟩
  · cases i with
    | zero =>
      simp at hn
      subst hn
      exact ⟨by unfold World.cell?; rw [hb]; rfl, by unfold World.cell?; rw [hb]; rfl, by unfold World.cell?; rw [hb]; rfl⟩
    | succ i => simp at hn
  · cases i with
    | zero =>
      simp at hn
      subst hn
      exact ⟨by simp only [maxLen]; omega, by simp only [maxLen]; omega⟩
    | succ i => simp at hn
set_option maxRecDepth 100000 in
set_option maxHeartbeats 4000000 in
theorem awake_any (W : World) (hE : EnvG W) : Calls Tryz.prog 9 #[] W fun e w' => e = .returned (.bool true) ∧ Below W.heap.size W w' := by
  have hb1 : Below W.heap.size W (W.alloc (.cells #[.string ⟨[46, 104].toArray⟩, .bool false, .string ⟨[].toArray⟩] 55)) := (Below.refl _ W).alloc (Nat.le_refl _) _
  have HB1 := Lib.hid hb1
  have hE1 := hE.next hb1
  have HT := Lib.hid (tree_any _ _ [⟨[46, 104], false, []⟩] (mades_one W ⟨[46, 104], false, []⟩ (by decide) (by decide)) hE1 (by decide) (fun i m hm => by
    cases i with
    | zero => simp at hm; subst hm; exact ⟨by decide, by decide⟩
    | succ i => simp at hm))
  have HTR := Lib.hid (tr_of treeA_tr)
  have HX := Lib.hid (fun (F : Nat) (dir : Int) (x : List UInt8) (q : List Bool) (qv : Value) (w : World) (h : FT _ F treeA w) (hq : BoolsC w qv q) (hx : x.length ≤ 1000) (hql : q.length ≤ 9223372036854775807) => expand_ft hE1 HTR.out dir x q qv w h hq hx hql)
  dsimp only at HT
  clear hb1 hE1 hE
  unfold ptrTo fieldV at *
  go_enter Tryz.func9, Tryz.ntmps9
  go_wp2_with first
    | (go_at_call 11; (refine (HX.out F 1 [121, 42] [] _ w6 HF6.out (no_bools w6) (by decide) (by decide)).mono ?_); rintro e w7 ⟨⟨ve, rfl, hre⟩, hq7⟩; rw [exE] at hre; obtain ⟨ge, ce, rfl, e0_7⟩ := one_cell hre; have hb7 := hq7; have a0_7 := (hb7.cell (cell_lt a0_6)).trans a0_6; have a1_7 := (hb7.cell (cell_lt a1_6)).trans a1_6; have b0_7 := (hb7.cell (cell_lt b0_6)).trans b0_6; have b1_7 := (hb7.cell (cell_lt b1_6)).trans b1_6; have c0_7 := (hb7.cell (cell_lt c0_6)).trans c0_6; have d0_7 := (hb7.cell (cell_lt d0_6)).trans d0_6; have HF7 := Lib.hid (HF6.out.kept hb7); clear a0_6; clear a1_6; clear b0_6; clear b1_6; clear c0_6; clear d0_6; clear hre hq7 hb7)
    | (go_at_call 11; (refine (HX.out F 1 [42] [true] _ (w5.alloc (.cells #[.bool true] 4)) (HF5.out.kept ((Below.refl _ w5).alloc (Nat.le_refl _) _)) (one_bool w5 true) (by decide) (by decide)).mono ?_); rintro e w6 ⟨⟨vd, rfl, hrd⟩, hq6⟩; rw [exD] at hrd; obtain ⟨gd, cd, rfl, d0_6⟩ := one_cell hrd; have hb6 := (((Below.refl _ w5).alloc (Nat.le_refl _) (.cells #[.bool true] 4)).trans (hq6.mono (by simp))); have a0_6 := (hb6.cell (cell_lt a0_5)).trans a0_5; have a1_6 := (hb6.cell (cell_lt a1_5)).trans a1_5; have b0_6 := (hb6.cell (cell_lt b0_5)).trans b0_5; have b1_6 := (hb6.cell (cell_lt b1_5)).trans b1_5; have c0_6 := (hb6.cell (cell_lt c0_5)).trans c0_5; have HF6 := Lib.hid (HF5.out.kept hb6); clear a0_5; clear a1_5; clear b0_5; clear b1_5; clear c0_5; clear hrd hq6 hb6)
    | (go_at_call 11; (refine (HX.out F 1 [46, 42] [] _ w4 HF4.out (no_bools w4) (by decide) (by decide)).mono ?_); rintro e w5 ⟨⟨vc, rfl, hrc⟩, hq5⟩; rw [exC] at hrc; obtain ⟨gc, cc, rfl, c0_5⟩ := one_cell hrc; have hb5 := hq5; have a0_5 := (hb5.cell (cell_lt a0_4)).trans a0_4; have a1_5 := (hb5.cell (cell_lt a1_4)).trans a1_4; have b0_5 := (hb5.cell (cell_lt b0_4)).trans b0_4; have b1_5 := (hb5.cell (cell_lt b1_4)).trans b1_4; have HF5 := Lib.hid (HF4.out.kept hb5); clear a0_4; clear a1_4; clear b0_4; clear b1_4; clear hrc hq5 hb5)
    | (go_at_call 11; (refine (HX.out F 1 [42, 47, 102] [] _ w3 HF3.out (no_bools w3) (by decide) (by decide)).mono ?_); rintro e w4 ⟨⟨vb, rfl, hrb⟩, hq4⟩; rw [exB] at hrb; obtain ⟨gb, cb, rfl, b0_4, b1_4⟩ := two_cells hrb; have hb4 := hq4; have a0_4 := (hb4.cell (cell_lt a0_3)).trans a0_3; have a1_4 := (hb4.cell (cell_lt a1_3)).trans a1_3; have HF4 := Lib.hid (HF3.out.kept hb4); clear a0_3; clear a1_3; clear hrb hq4 hb4)
    | (go_at_call 11; (refine (HX.out F 1 [91, 102, 103, 93] [] _ w2 HF2.out (no_bools w2) (by decide) (by decide)).mono ?_); rintro e w3 ⟨⟨va, rfl, hra⟩, hq3⟩; rw [exA] at hra; obtain ⟨ga, ca, rfl, a0_3, a1_3⟩ := two_cells hra; have hb3 := hq3; have HF3 := Lib.hid (HF2.out.kept hb3); clear hra hq3 hb3)
    | (go_at_call 10; (refine HT.out.mono ?_); rintro e w2 ⟨F, rb, rfl, hf2⟩; have HF2 := Lib.hid (show FT _ F treeA w2 from hf2); clear hf2)
  go_ret
  exact ⟨rfl, HB1.out.trans (HF7.out.below.mono HB1.out.size)⟩
end Go.Proofs.YtggdedihfhibfaaGreatDoor
/- conchlaw21.Few. -/
namespace Go.Proofs.YtggdedihfhibfaaGreatDoor
open Go.RowKit IntWalk
set_option linter.unusedVariables false
set_option linter.unusedSimpArgs false

def smallB (m : MadeR) : Bool := decide (m.path.length ≤ 100) && decide (m.to.length ≤ 100)
def fewS (L : List MadeR) : Bool := decide (L.length ≤ 15) && L.all smallB
theorem fewS_ok {L : List MadeR} (h : fewS L = true) : L.length ≤ 15 ∧ ∀ (i : Nat) (m : MadeR), L[i]? = some m → m.small := by
  unfold fewS at h
  rw [Bool.and_eq_true, List.all_eq_true] at h
  refine ⟨of_decide_eq_true h.1, fun i m hm => ?_⟩
  have := h.2 m (List.mem_of_getElem? hm)
  unfold smallB at this
  rw [Bool.and_eq_true] at this
  exact ⟨of_decide_eq_true this.1, of_decide_eq_true this.2⟩
set_option maxRecDepth 100000 in
set_option maxHeartbeats 2000000 in
theorem few_any (W : World) (v : Value) (L : List MadeR) (hL : Mades W v L) : Calls Tryz.prog 8 #[v] W fun e w' => e = .returned (.bool (fewS L)) ∧ Below W.heap.size W w' := by
  obtain ⟨a, cap, rfl, hsh⟩ := hL.shape
  have hml := hL.len
  have HOK := Lib.hid hL.ok
  have HSH := Lib.hid hsh
  clear hL hsh
  by_cases h15 : L.length ≤ 15
  · have h15z : ¬ (15 : Int) < (L.length : Int) := by omega
    go_enter Tryz.func8, Tryz.ntmps8
    go_wp2
    go_loopw [3] (fun iv W' => ∃ k : Nat, iv = .int .i64 k ∧ k ≤ L.length ∧ RowKit.Hid ((L.take k).all smallB = true) ∧ Below W.heap.size W W') (fun iv _ => L.length - (intOf iv).toNat)
    case atStart => exact ⟨0, rfl, Nat.zero_le _, Lib.hid rfl, Below.refl _ _⟩
    case round =>
      obtain ⟨k, rfl, hk, HT, hb⟩ := hrel
      by_cases hlt : k < L.length
      · obtain ⟨g, off, rfl, hg, hm⟩ := HSH.out (by omega)
        have hlk : L[k]? = some L[k] := List.getElem?_eq_getElem hlt
        have hma := (hm k _ hlk).below (hb.mono (Nat.le_refl _)) hg
        have HTK := Lib.hid (show (L.take (k + 1)).all smallB = ((L.take k).all smallB && smallB L[k]) by
          rw [List.take_add_one, hlk, List.all_append]
          show ((L.take k).all smallB && [L[k]].all smallB) = _
          simp only [List.all_cons, List.all_nil, Bool.and_true])
        have HAL := Lib.hid (show smallB L[k] = false → fewS L = false by
          intro h
          unfold fewS
          rw [Bool.and_eq_false_iff]
          refine .inr ?_
          rw [List.all_eq_false]
          exact ⟨L[k], List.mem_of_getElem? hlk, by rw [h]; simp⟩)
        obtain ⟨ol1, ol2⟩ := HOK.out k _ hlk
        generalize L[k] = m at hma HTK HAL ol1 ol2
        obtain ⟨mp, md, mt⟩ := m
        obtain ⟨c0, c1, c2⟩ := hma
        dsimp only at c0 c1 c2 ol1 ol2
        have hkl : (k : Int) < (L.length : Int) := by omega
        clear hlk hm
        by_cases hp : mp.length ≤ 100
        · have hpz : ¬ (100 : Int) < (mp.length : Int) := by omega
          by_cases ht : mt.length ≤ 100
          · have htz : ¬ (100 : Int) < (mt.length : Int) := by omega
            go_wp2
            go_roundw
            case rel => exact ⟨k + 1, by go_num, by omega, Lib.hid (by rw [HTK.out, HT.out]; unfold smallB; simp [hp, ht]), hb⟩
            case measure => simp [intOf]; omega
          · have htz : (100 : Int) < (mt.length : Int) := by omega
            go_wp2
            go_ret
            exact ⟨by rw [HAL.out (by unfold smallB; simp [hp, ht])]; rfl, hb⟩
        · have hpz : (100 : Int) < (mp.length : Int) := by omega
          go_wp2
          go_ret
          exact ⟨by rw [HAL.out (by unfold smallB; simp [hp])]; rfl, hb⟩
      · obtain rfl : k = L.length := by omega
        have hkl : ¬ (L.length : Int) < (L.length : Int) := by omega
        go_wp2
        go_ret
        have := HT.out
        rw [List.take_length] at this
        exact ⟨by unfold fewS; rw [this]; simp [h15], hb⟩
  · have h15z : (15 : Int) < (L.length : Int) := by omega
    have HF := Lib.hid (show fewS L = false by unfold fewS; simp [h15])
    go_enter Tryz.func8, Tryz.ntmps8
    go_wp2
    go_ret
    exact ⟨by rw [HF.out]; rfl, Below.refl _ _⟩
end Go.Proofs.YtggdedihfhibfaaGreatDoor
/- conchlaw21.PathsPlain: what is quoted has no special parts; the walk. -/
namespace Go.Proofs.YtggdedihfhibfaaGreatDoor
open Go.RowKit IntWalk
set_option linter.unusedVariables false
set_option linter.unusedSimpArgs false

/-- quoted through and through -/
def AllQ (q : List Bool) : Prop := ∀ (i : Nat) (t : Bool), q[i]? = some t → t = true
theorem plainS_q {s : List UInt8} {q : List Bool} (hq : AllQ q) (hl : s.length ≤ q.length) (i : Nat) (c : UInt8) : plainS s q i c = false := by
  unfold plainS
  cases hs : s[i]? with
  | none => rfl
  | some b =>
    have hi := (List.getElem?_eq_some_iff.1 hs).1
    have hqi : q[i]? = some q[i] := List.getElem?_eq_getElem (by omega)
    have h1 := hq i _ hqi
    show (b == c && !(q[i]?.getD false)) = false
    rw [hqi, h1]
    simp
theorem tokS_q {s : List UInt8} {q : List Bool} (hq : AllQ q) (hl : s.length ≤ q.length) (i : Nat) : (tokS s q i).1.k = 1 := by
  unfold tokS
  rw [plainS_q hq hl, plainS_q hq hl, plainS_q hq hl]
  rfl
theorem tokensS_q {s : List UInt8} {q : List Bool} (hq : AllQ q) (hl : s.length ≤ q.length) : ∀ f i, specialS (tokensS s q f i) = false
  | 0, i => rfl
  | f + 1, i => by
    unfold tokensS
    split
    · unfold specialS
      rw [List.any_cons, tokS_q hq hl]
      have := tokensS_q hq hl f (tokS s q i).2
      unfold specialS at this
      rw [this]; rfl
    · rfl
theorem AllQ.drop {q : List Bool} (h : AllQ q) (n : Nat) : AllQ (q.drop n) := fun i t ht => h (n + i) t (by rw [List.getElem?_drop] at ht; exact ht)
theorem pieces_q : ∀ (l : List (List UInt8)) (q : List Bool), AllQ q → (l.map (fun y => y.length + 1)).sum ≤ q.length + 1 → anyS (piecesS l q) = false
  | [], q, _, _ => rfl
  | y :: l, q, hq, hs => by
    rw [List.map_cons, List.sum_cons] at hs
    have h1 : specialS (parseS y q) = false := tokensS_q hq (by omega) _ _
    have h2 : anyS (piecesS l (q.drop (y.length + 1))) = false := by
      by_cases hl : l = []
      · subst hl; rfl
      · have hp : 0 < (l.map (fun y => y.length + 1)).sum := by
          cases l with
          | nil => exact absurd rfl hl
          | cons z l => rw [List.map_cons, List.sum_cons]; omega
        exact pieces_q l _ (hq.drop _) (by rw [List.length_drop]; omega)
    show anyS (⟨y, parseS y q⟩ :: piecesS l (q.drop (y.length + 1))) = false
    unfold anyS at h2 ⊢
    rw [List.any_cons, h1, h2]; rfl
theorem cutP_sum : ∀ x : List UInt8, ((cutP x).map (fun y => y.length + 1)).sum = x.length + 1
  | [] => rfl
  | c :: t => by
    have ih := cutP_sum t
    unfold cutP
    by_cases hc : c = 47
    · rw [if_pos hc, List.map_cons, List.sum_cons, ih]; simp; omega
    · rw [if_neg hc]
      cases hp : cutP t with
      | nil => exact absurd hp (cutP_ne t)
      | cons y r =>
        rw [hp, List.map_cons, List.sum_cons] at ih
        show ((c :: y) :: r |>.map (fun y => y.length + 1)).sum = _
        rw [List.map_cons, List.sum_cons]
        simp only [List.length_cons] at ih ⊢
        omega
theorem quoted_plain (x : List UInt8) : anyS (piecesS (cutP x) (List.replicate x.length true)) = false := by
  refine pieces_q _ _ (fun i t ht => ?_) (by rw [cutP_sum, List.length_replicate]; exact Nat.le_refl _)
  rw [List.getElem?_replicate] at ht
  split at ht
  · cases ht; rfl
  · cases ht
/-- so many bools, the first k of them true -/
def QRow (W : World) (g n k : Nat) : Prop := ∃ cur, W.heap[g]? = some (.cells cur 4 (0, 0)) ∧ cur.size = n ∧ ∀ i, i < n → cur[i]? = some (.bool (decide (i < k)))
def zerosQ (n : Nat) : Obj := .cells (madeCells #[.bool false] n) 4
theorem make_q (w : World) (n : Nat) (h1 : n ≤ 100000) : (Instr.makeSlice 29 (.int .i64 n) (.int .i64 n)).run Tryz.prog w = .ok (.slice (some ⟨w.heap.size, 0, none⟩) n n) (w.alloc (zerosQ n)) := by
  have hinf : (Tryz.prog.info? 4).map (fun i => (i.zero, i.size, i.bytes)) = some (some (.bool false), 1, 1) := by kernel_rfl
  obtain ⟨i0, hi, hz0, hz1, hz2⟩ := info_parts hinf
  have := run_make (P := Tryz.prog) w 29 4 i0 (.bool false) (by kernel_rfl) hi hz0 .i64 .i64 (n : Int) (n : Int) (by omega) (Int.le_refl _) (by rw [hz2]; omega) (by omega)
  rw [hz1, Nat.mul_one, show ((n : Int)).toNat = n by omega] at this
  exact this
section
variable {W W' : World} {g n k : Nat}
theorem QRow.new (W : World) (n : Nat) : QRow (W.alloc (zerosQ n)) W.heap.size n 0 :=
  ⟨madeCells #[.bool false] n, r_alloc_at _ _, by simp [madeCells], fun i hi => by simp [madeCells, Nat.mod_one, hi]⟩
theorem QRow.below (h : QRow W g n k) (hb : Below W.heap.size W W') : QRow W' g n k := by
  obtain ⟨cur, hc, hs⟩ := h
  exact ⟨cur, (hb.block _ (blk_lt hc)).trans hc, hs⟩
theorem QRow.lt (h : QRow W g n k) : g < W.heap.size := by obtain ⟨cur, hc, hs⟩ := h; exact blk_lt hc
theorem QRow.cell (h : QRow W g n k) (i : Nat) (hi : i < n) : W.cell? ⟨g, i, none⟩ = some (.bool (decide (i < k))) := by
  obtain ⟨cur, hc, hs, hv⟩ := h
  simp [World.cell?, hc, hv i hi]
theorem QRow.fz (h : QRow W g n k) (i : Nat) : W.frozen? ⟨g, i, none⟩ = false := by
  obtain ⟨cur, hc, hs, hv⟩ := h
  simp [World.frozen?, hc]
theorem QRow.set (h : QRow W g n k) (hk : k < n) : QRow (W.setCell ⟨g, k, none⟩ (.bool true)) g n (k + 1) := by
  obtain ⟨cur, hc, hs, hv⟩ := h
  refine ⟨cur.setIfInBounds k (.bool true), set_row hc, by simpa using hs, fun j hj => ?_⟩
  rw [Array.getElem?_setIfInBounds]
  by_cases e : k = j
  · subst e; rw [if_pos rfl, if_pos (by omega)]; simp
  · rw [if_neg e, hv j hj]
    congr 2
    simp only [decide_eq_decide]
    omega
theorem QRow.bools (h : QRow W g n k) (t : Bool) (ht : ∀ i, i < n → decide (i < k) = t) : BoolsC W (.slice (some ⟨g, 0, none⟩) n n) (List.replicate n t) := by
  refine ⟨⟨some ⟨g, 0, none⟩, n, by rw [List.length_replicate], fun h0 => ⟨g, 0, rfl, h.lt, fun i u hu => ?_⟩⟩, fun a m c e => by cases e; omega⟩
  rw [List.getElem?_replicate] at hu
  split at hu
  · rename_i hi
    cases hu
    rw [Nat.zero_add, h.cell i hi, ht i hi]
  · cases hu
end
end Go.Proofs.YtggdedihfhibfaaGreatDoor
/- conchlaw21.PathsPlain: the walk. -/
namespace Go.Proofs.YtggdedihfhibfaaGreatDoor
open Go.RowKit IntWalk
set_option linter.unusedVariables false
set_option linter.unusedSimpArgs false

theorem Mades.below {W W' : World} {v : Value} {L : List MadeR} (h : Mades W v L) (hb : Below W.heap.size W W') : Mades W' v L := by
  obtain ⟨a, cap, rfl, hs⟩ := h.shape
  refine ⟨h.len, ⟨a, cap, rfl, fun h0 => ?_⟩, h.ok⟩
  obtain ⟨g, off, rfl, hg, hm⟩ := hs h0
  exact ⟨g, off, rfl, Nat.lt_of_lt_of_le hg hb.size, fun i m hi => (hm i m hi).below hb hg⟩
theorem below_set {B : Nat} {w W : World} {a : Addr} {v : Value} (h : Below B w W) (hB : B ≤ a.block) : Below B w (W.setCell a v) :=
  ⟨h.os, h.tape, h.output, by simpa [World.setCell] using h.size, fun k hk => (Below.heap_setCell _ _ _ _ (by omega)).trans (h.block k hk)⟩
theorem one_at {w : World} {base : Nat} {v : Value} {a : List UInt8} (h : w.ownsRow base 9 1 v 1 [encB a]) : ∃ g c, v = .slice (some ⟨g, 0, none⟩) 1 c ∧ base ≤ g ∧ w.cell? ⟨g, 0, none⟩ = some (.string ⟨a.toArray⟩) := by
  obtain ⟨g, c, rfl, hc⟩ := one_cell h
  exact ⟨g, c, rfl, (World.ownsRow.lt h g rfl).1, hc⟩
def fieldW (w2 : World) (s : List UInt8) : World := (w2.alloc (zerosQ s.length)).alloc (.cells #[.string ⟨s.toArray⟩, .slice (some ⟨w2.heap.size, 0, none⟩) s.length s.length] 31)
theorem fieldW_at (w2 : World) (s : List UInt8) : Below w2.heap.size w2 (fieldW w2 s) ∧ (fieldW w2 s).heap.size = w2.heap.size + 2 ∧ QRow (fieldW w2 s) w2.heap.size s.length 0 ∧ (fieldW w2 s).heap[w2.heap.size + 1]? = some (.cells #[.string ⟨s.toArray⟩, .slice (some ⟨w2.heap.size, 0, none⟩) s.length s.length] 31 (0, 0)) := by
  unfold fieldW
  refine ⟨((Below.refl _ w2).alloc (Nat.le_refl _) _).alloc (by simp) _, by simp, (QRow.new w2 _).below ((Below.refl _ _).alloc (Nat.le_refl _) _), ?_⟩
  have := r_alloc_at (w2.alloc (zerosQ s.length)) (.cells #[.string ⟨s.toArray⟩, .slice (some ⟨w2.heap.size, 0, none⟩) s.length s.length] 31)
  simpa using this
theorem nil_at {W : World} (hE : EnvG W) (w2 : World) (hb : Below W.heap.size W w2) (s : List UInt8) (hs : s.length ≤ 400) :
    Calls Tryz.prog 11 #[.pointer none, .int .i64 1, .agg #[.string ⟨s.toArray⟩, .slice (some ⟨w2.heap.size, 0, none⟩) s.length s.length]] (fieldW w2 s) (Gives (fieldW w2 s) [s]) := by
  obtain ⟨h1, h2, h3, h4⟩ := fieldW_at w2 s
  obtain ⟨m, hm⟩ := hE.at_ (hb.trans (h1.mono hb.size))
  exact expand_nil 1 s (List.replicate s.length false) _ _ (h3.bools false (fun i _ => by simp)) (by omega) (by rw [List.length_replicate]; omega) m hm
theorem all_at {W : World} (hE : EnvG W) {W0 w : World} {F : Nat} {t : Fs} (hf : FT W0 F t w) (hb : Below W.heap.size W w) (s : List UInt8) (hs : s.length ≤ 400) (g : Nat) (hq : QRow w g s.length s.length) :
    Calls Tryz.prog 11 #[ptrTo F, .int .i64 1, .agg #[.string ⟨s.toArray⟩, .slice (some ⟨g, 0, none⟩) s.length s.length]] w (Gives w [s]) := by
  obtain ⟨m, hm⟩ := hE.at_ hb
  exact expand_plain F 1 s (List.replicate s.length true) _ w (hq.bools true (fun i hi => by simp [hi])) (by omega) (by rw [List.length_replicate]; omega) (quoted_plain s) m hm
set_option maxRecDepth 100000 in
set_option maxHeartbeats 4000000 in
theorem plain_law (W : World) (v : Value) (L : List MadeR) (hL : Mades W v L) (s : List UInt8) (hs : s.length ≤ maxLen) (hE : EnvG W) :
    Calls Tryz.prog 3 #[v, .string ⟨s.toArray⟩] W fun e w' => e = .returned (.bool true) ∧ Below W.heap.size W w' := by
  have HFw := Lib.hid (few_any W v L hL)
  have HAw := Lib.hid (fun (V : World) (hb : Below W.heap.size W V) => awake_any V (hE.next hb))
  have HL := Lib.hid hL
  have HE := Lib.hid hE
  obtain ⟨a, cap, rfl, _⟩ := hL.shape
  clear hL hE
  cases hf : fewS L
  · rw [hf] at HFw
    go_enter Tryz.func3, Tryz.ntmps3
    go_wp2_with first
      | (go_at_call 9; (refine (HAw.out w1 HB1.out).mono ?_); rintro e w2 ⟨rfl, hb2⟩)
      | (go_at_call 8; (with_reducible refine HFw.out.mono ?_); rintro e w1 ⟨rfl, hb1⟩; have HB1 := Lib.hid hb1; clear hb1)
    go_ret
    exact ⟨rfl, HB1.out.trans (hb2.mono HB1.out.size)⟩
  · rw [hf] at HFw
    obtain ⟨h15, hsm⟩ := fewS_ok hf
    by_cases h400 : s.length ≤ 400
    · have h400z : ¬ (400 : Int) < (s.length : Int) := by omega
      have HT := Lib.hid (fun (w1 : World) (hb : Below W.heap.size W w1) => tree_any w1 _ L (HL.out.below hb) (HE.out.next hb) h15 hsm)
      clear hsm hf
      unfold ptrTo at HT
      go_enter Tryz.func3, Tryz.ntmps3
      go_wp2_with first
        | (go_at_call 11; (refine (nil_at HE.out w2 HB2.out s h400).mono ?_); rintro e w4 ⟨⟨vn, rfl, hrn⟩, hb4⟩; obtain ⟨gn, cn, rfl, hgn, n0⟩ := one_at hrn; have HB4 := Lib.hid hb4; clear hrn hb4)
        | (go_at_call 10; (refine (HT.out w1 HB1.out).mono ?_); rintro e w2 ⟨F, rb, rfl, hf2⟩; have HF2 := Lib.hid hf2; have HB2 := Lib.hid (HB1.out.trans (hf2.below.mono HB1.out.size)); have hmk := make_q w2 s.length (by omega); clear hf2)
        | (go_at_call 8; (with_reducible refine HFw.out.mono ?_); rintro e w1 ⟨rfl, hb1⟩; have HB1 := Lib.hid hb1; clear hb1)
      have HFW := Lib.hid (fieldW_at w2 s)
      have hfs := HFW.out.2.1
      rw [hfs] at hgn
      have hqs : (fieldW w2 s).heap.size ≤ w4.heap.size := HB4.out.size
      have HQ4 := Lib.hid (HFW.out.2.2.1.below HB4.out)
      have HX4 := Lib.hid ((HB4.out.block _ (by omega)).trans HFW.out.2.2.2)
      have HBW := Lib.hid (show Below w2.heap.size w2 w4 from HFW.out.1.trans (HB4.out.mono (by omega)))
      have HN4 := Lib.hid n0
      clear n0 hmk
      go_loopw [9] (fun iv wr => ∃ k : Nat, iv = .int .i64 k ∧ k ≤ s.length ∧ RowKit.Hid (QRow wr w2.heap.size s.length k) ∧ RowKit.Hid (Below w2.heap.size w2 wr) ∧ RowKit.Hid (wr.heap[w2.heap.size + 1]? = some (.cells #[.string ⟨s.toArray⟩, .slice (some ⟨w2.heap.size, 0, none⟩) s.length s.length] 31 (0, 0))) ∧
        RowKit.Hid (wr.cell? ⟨gn, 0, none⟩ = some (.string ⟨s.toArray⟩))) (fun iv _ => s.length - (intOf iv).toNat)
      case atStart => exact ⟨0, rfl, Nat.zero_le _, HQ4, HBW, HX4, HN4⟩
      case round =>
        obtain ⟨k, rfl, hk, HQ, HB, HXX, HN⟩ := hrel
        obtain ⟨x0, x1⟩ := cell01 HXX.out
        by_cases hlt : k < s.length
        · have c0 := HQ.out.cell k hlt
          have f0 := HQ.out.fz k
          have hkl : (k : Int) < (s.length : Int) := by omega
          go_wp2
          go_roundw
          case rel =>
            refine ⟨k + 1, by go_num, by omega, Lib.hid (HQ.out.set hlt), Lib.hid (below_set HB.out (Nat.le_refl _)), Lib.hid ((Below.heap_setCell _ _ _ _ (by simp)).trans HXX.out), Lib.hid ((cs_other (by first | (simp; done) | (simp; omega))).trans HN.out)⟩
          case measure => simp [intOf]; omega
        · obtain rfl : k = s.length := by omega
          have hkl : ¬ (s.length : Int) < (s.length : Int) := by omega
          have HAL := Lib.hid (all_at HE.out (HF2.out.kept HB.out) (HB2.out.trans (HB.out.mono HB2.out.size)) s h400 w2.heap.size HQ.out)
          unfold ptrTo at HAL
          have n1 := HN.out
          go_wp2_with first
            | (go_at_call 9; (refine (HAw.out w6 HB6.out).mono ?_); rintro e w7 ⟨rfl, hb7⟩)
            | (go_at_call 11; (with_reducible refine HAL.out.mono ?_); rintro e w6 ⟨⟨vo, rfl, hro⟩, hb6⟩; obtain ⟨go, co, rfl, hgo, o0⟩ := one_at hro; have n2 := (hb6.cell (cell_lt n1)).trans n1; have HB6 := Lib.hid ((HB2.out.trans (HB.out.mono HB2.out.size)).trans (hb6.mono (Nat.le_trans HB2.out.size HB.out.size))); clear hro hb6 n1)
          go_ret
          exact ⟨rfl, HB6.out.trans (hb7.mono HB6.out.size)⟩
    · have h400z : (400 : Int) < (s.length : Int) := by omega
      clear hsm hf
      go_enter Tryz.func3, Tryz.ntmps3
      go_wp2_with first
        | (go_at_call 9; (refine (HAw.out w1 HB1.out).mono ?_); rintro e w2 ⟨rfl, hb2⟩)
        | (go_at_call 8; (with_reducible refine HFw.out.mono ?_); rintro e w1 ⟨rfl, hb1⟩; have HB1 := Lib.hid hb1; clear hb1)
      go_ret
      exact ⟨rfl, HB1.out.trans (hb2.mono HB1.out.size)⟩
end Go.Proofs.YtggdedihfhibfaaGreatDoor
