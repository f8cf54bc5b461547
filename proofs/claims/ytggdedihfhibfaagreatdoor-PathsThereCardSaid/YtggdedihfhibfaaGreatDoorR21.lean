/- Texts of one proof, packed: NmE, NmG, NmW -/
import Derived.Test.YtggdedihfhibfaaGreatDoorR20
import Derived.Test.YtggdedihfhibfaaGreatDoorShelf
set_option linter.unusedVariables false
set_option linter.unusedSimpArgs false
set_option linter.deprecated false
set_option linter.unnecessarySimpa false
/- names: a way through a tree, all of it. -/
namespace Go.Proofs.YtggdedihfhibfaaGreatDoor
open Go.RowKit IntWalk
set_option linter.unusedVariables false
set_option linter.unusedSimpArgs false

theorem EnvG.at_ {W0 w : World} (hE : EnvG W0) (hB : Below W0.heap.size W0 w) : ∃ m, w.cell? ⟨0, 0, none⟩ = some (.int .i64 m) := by
  obtain ⟨m, hm⟩ := hE.maxlen
  exact ⟨m, by rw [World.cell?_of_block (hB.block _ (World.block_lt_of_cell? W0 ⟨0, 0, none⟩ hm))]; exact hm⟩
/-- strings that lie in a new block -/
def StrsAt (w : World) (b : Nat) (l : List (List UInt8)) : Prop := ∀ (j : Nat) (x : List UInt8), l[j]? = some x → w.cell? ⟨b, j, none⟩ = some (.string ⟨x.toArray⟩)
theorem split_any (s : List UInt8) (hs : s.length ≤ 100000) (w : World) (m : Int) (hm : w.cell? ⟨0, 0, none⟩ = some (.int .i64 m)) : Calls Tryz.prog 59 #[.string ⟨s.toArray⟩, .string ⟨#[47]⟩] w fun e w' =>
    e = .returned (.slice (some ⟨w.heap.size, 0, none⟩) (cutP s).length (cutP s).length) ∧ StrsAt w' w.heap.size (cutP s) ∧ Below w.heap.size w w' := by
  have h := Tryz.strings_Split ⟨s.toArray⟩ ⟨#[47]⟩ m w (by show s.length < _; omega) hm (by decide)
  have hd : (ByteArray.mk s.toArray).data.toList = s := by simp
  have hd2 : (ByteArray.mk #[47]).data.toList = [47] := rfl
  have hc : Lib.countB ⟨s.toArray⟩ ⟨#[47]⟩ = s.count 47 := by
    show Lib.count _ _ = _
    rw [hd, hd2, Lib.count_one]
  have hcut := splitB_cutP s
  have hlen := cutP_len s
  rw [hc, ← hlen] at h
  refine h.mono ?_
  rintro e w' ⟨rfl, rfl⟩
  refine ⟨rfl, fun j x hj => ?_, (Below.refl _ _).alloc (Nat.le_refl _) _⟩
  rw [World.cell?_alloc_new]
  show (((Lib.splitB ⟨#[47]⟩ 0 (s.count 47) ⟨s.toArray⟩).map Value.string).toArray)[j]? = _
  have hx : ((Lib.splitB ⟨#[47]⟩ 0 (s.count 47) ⟨s.toArray⟩).map (·.data.toList))[j]? = some x := by rw [hcut]; exact hj
  rw [List.getElem?_map] at hx
  rw [List.getElem?_toArray, List.getElem?_map]
  cases hb : (Lib.splitB ⟨#[47]⟩ 0 (s.count 47) ⟨s.toArray⟩)[j]? with
  | none => rw [hb] at hx; cases hx
  | some y =>
    rw [hb] at hx
    cases hx
    show some (Value.string y) = some (Value.string ⟨y.data.toList.toArray⟩)
    rw [Array.toArray_toList]
section
variable {W0 : World} {s : Fs} {lay : FId → Nat} {L : Nat}
set_option maxRecDepth 100000 in
theorem goes_short (f : Nat) (at_ : Int) (path : List UInt8) (fol : Bool) (links : Nat) (w : World) (h : WayIs W0 s lay L links w) (hp : path = [] ∨ 256 < path.length) :
    Calls Tryz.prog 39 #[ptrTo L, .int .i64 at_, .string ⟨path.toArray⟩, .bool fol] w fun e w' =>
      e = .returned (.tuple #[.int .i64 (s.goesS (f + 1) at_ path fol links).1, .int .i64 (s.goesS (f + 1) at_ path fol links).2.1]) ∧ WayIs W0 s lay L (s.goesS (f + 1) at_ path fol links).2.2 w' ∧ Turned (WayT s lay L) w w' := by
  rcases hp with rfl | hp
  · have hg : s.goesS (f + 1) at_ [] fol links = (0, 23, links) := by unfold Fs.goesS; rw [if_pos rfl]
    rw [hg]
    unfold ptrTo at *
    go_enter Tryz.func39, Tryz.ntmps39
    go_wp2
    go_ret2
    exact ⟨rfl, h, Turned.refl _ _⟩
  · have hg : s.goesS (f + 1) at_ path fol links = (0, 3, links) := by
      unfold Fs.goesS
      rw [if_neg (fun q => by rw [q] at hp; simp at hp), if_pos hp]
    rw [hg]
    have hp' : (256 : Int) < path.length := by omega
    have b0 : path.isEmpty = false := by cases path with | nil => simp at hp | cons _ _ => rfl
    unfold ptrTo at *
    go_enter Tryz.func39, Tryz.ntmps39
    go_wp2
    go_ret2
    exact ⟨rfl, h, Turned.refl _ _⟩
end
end Go.Proofs.YtggdedihfhibfaaGreatDoor
/- names: a way through a tree: the parts, one behind the other. -/
namespace Go.Proofs.YtggdedihfhibfaaGreatDoor
open Go.RowKit IntWalk
set_option linter.unusedVariables false
set_option linter.unusedSimpArgs false

section
variable {W0 : World} {s : Fs} {lay : FId → Nat} {L : Nat}
/-- does a path begin at the root? -/
def rooted : List UInt8 → Bool
  | 47 :: _ => true
  | _ => false
def unroot : List UInt8 → List UInt8
  | 47 :: r => r
  | p => p
theorem fromS_eq (at_ : Int) (path : List UInt8) : fromS at_ path = (if rooted path then 1 else at_, unroot path) := by
  unfold fromS rooted unroot
  split <;> simp_all
theorem cut_any (path : List UInt8) (w : World) : Calls Tryz.prog 71 #[.string ⟨path.toArray⟩, .string ⟨#[47]⟩] w fun e w' => e = .returned (.tuple #[.string ⟨(unroot path).toArray⟩, .bool (rooted path)]) ∧ w = w' := by
  refine (Tryz.strings_CutPrefix ⟨path.toArray⟩ ⟨#[47]⟩ w).mono ?_
  rintro e w' ⟨rfl, rfl⟩
  refine ⟨?_, rfl⟩
  have h1 : Lib.hasPrefix path [47] = rooted path := by
    cases path with
    | nil => rfl
    | cons c r =>
      unfold Lib.hasPrefix rooted
      by_cases hc : c = 47
      · subst hc; simp
      · have : ((47 : UInt8) == c) = false := by rw [beq_eq_false_iff_ne]; exact fun q => hc q.symm
        simp [List.isPrefixOf, this]
        split
        · rename_i q; cases q; exact absurd rfl hc
        · rfl
  have h2 : Lib.trimPrefix path [47] = unroot path := by
    unfold Lib.trimPrefix
    rw [h1]
    unfold rooted unroot
    split <;> simp
  show Ending.returned (.tuple #[.string ⟨(Lib.trimPrefix path [47]).toArray⟩, .bool (Lib.hasPrefix path [47])]) = _
  rw [h1, h2]
theorem WayIs.keep_below {links : Nat} {w w' : World} (h : WayIs W0 s lay L links w) (hB : Below w.heap.size w w') : WayIs W0 s lay L links w' :=
  ⟨⟨h.is.lies.kept fun i hi => hB.block _ (h.is.lies.owns_lt ⟨i, hi, rfl⟩), h.is.ok⟩, h.wk.keep (hB.block L h.wk.lt), h.below.trans (hB.mono h.below.size)⟩
theorem WayIs.wayT {links : Nat} {w : World} (h : WayIs W0 s lay L links w) {k : Nat} (hk : w.heap.size ≤ k) : ¬ WayT s lay L k := by
  rintro (rfl | q)
  · have := h.wk.lt; omega
  · have := h.is.lies.owns_lt q; omega
/-- where the parts stand -/
structure GoR (W0 : World) (s : Fs) (lay : FId → Nat) (L : Nat) (go : Int → List UInt8 → Nat → Int × Int × Nat) (fol : Bool) (ps : List (List UInt8)) (w : World) (res : Int × Int × Nat) (b : Nat) (a : Int) (k links : Nat) (W : World) : Prop where
  way : WayIs W0 s lay L links W
  turned : Turned (WayT s lay L) w W
  row : StrsAt W b ps
  rest : s.partsS go fol a (ps.drop k) links = res
  le : k ≤ ps.length
  new : ¬ WayT s lay L b
  lt : ps ≠ [] → b < W.heap.size
  l8 : links ≤ 8
set_option maxRecDepth 100000 in
set_option maxHeartbeats 1000000 in
theorem goes_long (hW : s.Whole) (hlow : ∀ k, WayT s lay L k → W0.heap.size ≤ k) (hE : EnvG W0) (f : Nat) (at_ : Int) (path : List UInt8) (fol : Bool) (links : Nat) (w : World) (hf : 9 ≤ links + (f + 1)) (hl8 : links ≤ 8) (hG : GoOk W0 s lay L f) (h : WayIs W0 s lay L links w) (h0 : path ≠ []) (h1 : path.length ≤ 256) :
    Calls Tryz.prog 39 #[ptrTo L, .int .i64 at_, .string ⟨path.toArray⟩, .bool fol] w fun e w' =>
      e = .returned (.tuple #[.int .i64 (s.goesS (f + 1) at_ path fol links).1, .int .i64 (s.goesS (f + 1) at_ path fol links).2.1]) ∧ WayIs W0 s lay L (s.goesS (f + 1) at_ path fol links).2.2 w' ∧ Turned (WayT s lay L) w w' := by
  have hg : s.goesS (f + 1) at_ path fol links = s.partsS (fun a p k => s.goesS f a p true k) fol (if rooted path then 1 else at_) (cutP (unroot path)) links := by
    rw [Fs.goesS, if_neg h0, if_neg (by omega), fromS_eq]
  rw [hg]
  have HP := Lib.hid (fun (a : Int) (q : List UInt8) (b : Bool) (k : Nat) (W : World) (hk : 9 ≤ k + 1 + f) (hk8 : k ≤ 8) (hWW : WayIs W0 s lay L k W) => part_any (links := k) hW hlow (fun _ => hG) hk8 a q b W hWW hk)
  have hps : (unroot path).length ≤ 256 := by unfold unroot; split <;> simp_all <;> omega
  have b0 : path.isEmpty = false := by cases path with | nil => exact absurd rfl h0 | cons _ _ => rfl
  have h1' : ¬ (256 : Int) < path.length := by omega
  have hC := Lib.hid (cut_any path)
  obtain ⟨m, hm⟩ := hE.at_ h.below
  have hS := Lib.hid (split_any (unroot path) (by omega) w m hm)
  have hlen : (cutP (unroot path)).length ≤ 1000 := by rw [cutP_len]; have := List.count_le_length (a := (47 : UInt8)) (l := unroot path); omega
  have hqq : rooted path = false → unroot path = path := by unfold rooted unroot; split <;> simp
  clear hg hps hm
  generalize rooted path = rt at *
  generalize unroot path = q at *
  generalize cutP q = ps at *
  generalize hgo : (fun a p k => s.goesS f a p true k) = go at *
  have hup : ∀ a p k, k ≤ 8 → UpTo k (go a p k) := by subst hgo; exact fun a p k hk => goesS_up f a p true k hk
  generalize hres : s.partsS go fol (if rt then 1 else at_) ps links = res
  have HU := Lib.hid hup
  clear hgo hup
  rcases rt with _ | _
  · obtain rfl := hqq rfl
    unfold ptrTo at *
    go_enter Tryz.func39, Tryz.ntmps39
    go_wp2_with first
      | (go_at_call 71; refine (hC.out _).mono ?_; rintro e w' ⟨rfl, rfl⟩)
      | (go_at_call 59; refine hS.out.mono ?_; rintro e w1 ⟨rfl, hrow, hB1⟩)
    have rowlt : ps ≠ [] → w.heap.size < w1.heap.size := fun q => by
      cases ps with
      | nil => exact absurd rfl q
      | cons x r => exact World.block_lt_of_cell? w1 ⟨w.heap.size, 0, none⟩ (hrow 0 x rfl)
    have  hw1 : GoR W0 s lay L go fol ps w res w.heap.size (if false then 1 else at_) 0 links w1 := ⟨h.keep_below hB1, (Turned.of_below hB1), hrow, by simpa using hres, by omega, h.wayT (Nat.le_refl _), rowlt, hl8⟩
    clear rowlt hS hC hres h hrow hB1
    go_loopw [1, 34] (fun av kv V => ∃ (a : Int) (k k' : Nat), av = .int .i64 a ∧ kv = .int .i64 k ∧ links ≤ k' ∧ GoR W0 s lay L go fol ps w res w.heap.size a k k' V) (fun _ kv _ => ps.length - (intOf kv).toNat)
    case atStart => exact ⟨_, 0, links, rfl, rfl, Nat.le_refl _, hw1⟩
    case round =>
      obtain ⟨a, k, k', rfl, rfl, hlk, hR⟩ := hrel
      have HR := Lib.hid hR
      clear hR hw1
      by_cases hk : k < ps.length
      · have hkI : (k : Int) < ps.length := by omega
        obtain ⟨p, hp⟩ : ∃ p, ps[k]? = some p := ⟨_, List.getElem?_eq_getElem hk⟩
        have hc := HR.out.row k p hp
        have hk0 : k ≤ 1000 := by omega
        have hne : ps ≠ [] := fun q => by rw [q] at hk; simp at hk
        have hlt := Lib.hid (HR.out.lt hne)
        obtain ⟨b, hb⟩ : ∃ b, b = (fol || !(ps.drop (k + 1)).isEmpty) := ⟨_, rfl⟩
        have HQ := Lib.hid (HP.out a p b k' wr (by omega) HR.out.l8 HR.out.way)
        have hup := partS_up (s := s) HU.out a p b k' HR.out.l8
        obtain ⟨n, e, k2, hr⟩ : ∃ n e k2, s.partS go a p b k' = (n, e, k2) := ⟨_, _, _, rfl⟩
        rw [hr] at HQ hup
        have hrest := HR.out.rest
        rw [List.drop_eq_getElem_cons hk, show ps[k] = p from by rw [List.getElem?_eq_getElem hk] at hp; exact Option.some.inj hp, Fs.partsS, ← hb, hr] at hrest
        have hnext : e = 0 → s.partsS go fol n (ps.drop (k + 1)) k2 = res := fun q => by subst q; exact hrest
        have hstop : e ≠ 0 → res = (0, e, k2) := fun q => by
          rw [← hrest]
          split
          · rename_i q2; cases q2; exact absurd rfl q
          · rename_i q2; cases q2; rfl
        have HNX := Lib.hid hnext
        have HST := Lib.hid hstop
        have hcases : (fol = true ∧ b = true) ∨ (fol = false ∧ (k : Int) < (ps.length : Int) - 1 ∧ b = true) ∨ (fol = false ∧ ¬ ((k : Int) < (ps.length : Int) - 1) ∧ b = false) := by
          cases fol with
          | true => exact .inl ⟨rfl, by rw [hb]; rfl⟩
          | false =>
            by_cases q : k + 1 < ps.length
            · refine .inr (.inl ⟨rfl, by omega, ?_⟩)
              rw [hb, List.drop_eq_getElem_cons q]; rfl
            · refine .inr (.inr ⟨rfl, by omega, ?_⟩)
              rw [hb, List.drop_eq_nil_of_le (by omega)]; rfl
        have HUP := Lib.hid hup
        clear hrest hnext hstop hr hb hup
        have HQ2 := HQ
        rcases hcases with ⟨rfl, rfl⟩ | ⟨rfl, hl, rfl⟩ | ⟨rfl, hl, rfl⟩ <;> by_cases he : e = 0
        all_goals
          go_wp2_with (go_at_call 72; refine HQ.out.mono ?_; rintro e1 w2 ⟨rfl, hway, htn⟩)
        all_goals first
          | (exact ⟨⟨n, k + 1, k2, rfl, by go_num, Nat.le_trans hlk HUP.out.1, ⟨hway, HR.out.turned.trans htn (fun b hb _ => hb), fun j x hj => by rw [World.cell?_of_block (htn.block _ hlt.out HR.out.new)]; exact HR.out.row j x hj, HNX.out he, by omega, HR.out.new, fun q => Nat.lt_of_lt_of_le (HR.out.lt q) htn.size, HUP.out.2⟩⟩, by simp [intOf]; omega⟩)
          | (go_ret2; rw [HST.out he]; exact ⟨rfl, hway, HR.out.turned.trans htn (fun b hb _ => hb)⟩)
      · have hrest := HR.out.rest
        rw [List.drop_eq_nil_of_le (by omega)] at hrest
        have hkI : (ps.length : Int) ≤ k := by omega
        rw [Fs.partsS] at hrest
        go_wp2_with fail
        go_ret2
        rw [← hrest]
        exact ⟨rfl, HR.out.way, HR.out.turned⟩
  · clear hqq
    unfold ptrTo at *
    go_enter Tryz.func39, Tryz.ntmps39
    go_wp2_with first
      | (go_at_call 71; refine (hC.out _).mono ?_; rintro e w' ⟨rfl, rfl⟩)
      | (go_at_call 59; refine hS.out.mono ?_; rintro e w1 ⟨rfl, hrow, hB1⟩)
    have rowlt : ps ≠ [] → w.heap.size < w1.heap.size := fun q => by
      cases ps with
      | nil => exact absurd rfl q
      | cons x r => exact World.block_lt_of_cell? w1 ⟨w.heap.size, 0, none⟩ (hrow 0 x rfl)
    have  hw1 : GoR W0 s lay L go fol ps w res w.heap.size (if true then 1 else at_) 0 links w1 := ⟨h.keep_below hB1, (Turned.of_below hB1), hrow, by simpa using hres, by omega, h.wayT (Nat.le_refl _), rowlt, hl8⟩
    clear rowlt hS hC hres h hrow hB1
    go_loopw [1, 34] (fun av kv V => ∃ (a : Int) (k k' : Nat), av = .int .i64 a ∧ kv = .int .i64 k ∧ links ≤ k' ∧ GoR W0 s lay L go fol ps w res w.heap.size a k k' V) (fun _ kv _ => ps.length - (intOf kv).toNat)
    case atStart => exact ⟨_, 0, links, rfl, rfl, Nat.le_refl _, hw1⟩
    case round =>
      obtain ⟨a, k, k', rfl, rfl, hlk, hR⟩ := hrel
      have HR := Lib.hid hR
      clear hR hw1
      by_cases hk : k < ps.length
      · have hkI : (k : Int) < ps.length := by omega
        obtain ⟨p, hp⟩ : ∃ p, ps[k]? = some p := ⟨_, List.getElem?_eq_getElem hk⟩
        have hc := HR.out.row k p hp
        have hk0 : k ≤ 1000 := by omega
        have hne : ps ≠ [] := fun q => by rw [q] at hk; simp at hk
        have hlt := Lib.hid (HR.out.lt hne)
        obtain ⟨b, hb⟩ : ∃ b, b = (fol || !(ps.drop (k + 1)).isEmpty) := ⟨_, rfl⟩
        have HQ := Lib.hid (HP.out a p b k' wr (by omega) HR.out.l8 HR.out.way)
        have hup := partS_up (s := s) HU.out a p b k' HR.out.l8
        obtain ⟨n, e, k2, hr⟩ : ∃ n e k2, s.partS go a p b k' = (n, e, k2) := ⟨_, _, _, rfl⟩
        rw [hr] at HQ hup
        have hrest := HR.out.rest
        rw [List.drop_eq_getElem_cons hk, show ps[k] = p from by rw [List.getElem?_eq_getElem hk] at hp; exact Option.some.inj hp, Fs.partsS, ← hb, hr] at hrest
        have hnext : e = 0 → s.partsS go fol n (ps.drop (k + 1)) k2 = res := fun q => by subst q; exact hrest
        have hstop : e ≠ 0 → res = (0, e, k2) := fun q => by
          rw [← hrest]
          split
          · rename_i q2; cases q2; exact absurd rfl q
          · rename_i q2; cases q2; rfl
        have HNX := Lib.hid hnext
        have HST := Lib.hid hstop
        have hcases : (fol = true ∧ b = true) ∨ (fol = false ∧ (k : Int) < (ps.length : Int) - 1 ∧ b = true) ∨ (fol = false ∧ ¬ ((k : Int) < (ps.length : Int) - 1) ∧ b = false) := by
          cases fol with
          | true => exact .inl ⟨rfl, by rw [hb]; rfl⟩
          | false =>
            by_cases q : k + 1 < ps.length
            · refine .inr (.inl ⟨rfl, by omega, ?_⟩)
              rw [hb, List.drop_eq_getElem_cons q]; rfl
            · refine .inr (.inr ⟨rfl, by omega, ?_⟩)
              rw [hb, List.drop_eq_nil_of_le (by omega)]; rfl
        have HUP := Lib.hid hup
        clear hrest hnext hstop hr hb hup
        have HQ2 := HQ
        rcases hcases with ⟨rfl, rfl⟩ | ⟨rfl, hl, rfl⟩ | ⟨rfl, hl, rfl⟩ <;> by_cases he : e = 0
        all_goals
          go_wp2_with (go_at_call 72; refine HQ.out.mono ?_; rintro e1 w2 ⟨rfl, hway, htn⟩)
        all_goals first
          | (exact ⟨⟨n, k + 1, k2, rfl, by go_num, Nat.le_trans hlk HUP.out.1, ⟨hway, HR.out.turned.trans htn (fun b hb _ => hb), fun j x hj => by rw [World.cell?_of_block (htn.block _ hlt.out HR.out.new)]; exact HR.out.row j x hj, HNX.out he, by omega, HR.out.new, fun q => Nat.lt_of_lt_of_le (HR.out.lt q) htn.size, HUP.out.2⟩⟩, by simp [intOf]; omega⟩)
          | (go_ret2; rw [HST.out he]; exact ⟨rfl, hway, HR.out.turned.trans htn (fun b hb _ => hb)⟩)
      · have hrest := HR.out.rest
        rw [List.drop_eq_nil_of_le (by omega)] at hrest
        have hkI : (ps.length : Int) ≤ k := by omega
        rw [Fs.partsS] at hrest
        go_wp2_with fail
        go_ret2
        rw [← hrest]
        exact ⟨rfl, HR.out.way, HR.out.turned⟩
theorem go_ok (hW : s.Whole) (hlow : ∀ k, WayT s lay L k → W0.heap.size ≤ k) (hE : EnvG W0) : ∀ f, GoOk W0 s lay L f
  | 0 => fun _ _ _ links _ h9 h8 _ => absurd h9 (by omega)
  | f + 1 => fun at_ path fol links w h9 h8 h => by
    by_cases h0 : path = []
    · exact goes_short f at_ path fol links w h (.inl h0)
    · by_cases h1 : path.length ≤ 256
      · exact goes_long hW hlow hE f at_ path fol links w h9 h8 (go_ok hW hlow hE f) h h0 h1
      · exact goes_short f at_ path fol links w h (.inr (by omega))
end
end Go.Proofs.YtggdedihfhibfaaGreatDoor
/- names: Walk. -/
namespace Go.Proofs.YtggdedihfhibfaaGreatDoor
open Go.RowKit IntWalk
set_option linter.unusedVariables false
set_option linter.unusedSimpArgs false

section
variable {W0 : World} {s : Fs} {lay : FId → Nat}
/-- a tree in a world that began as W0: what is the tree's was made since -/
structure FsIn (W0 : World) (s : Fs) (lay : FId → Nat) (w : World) : Prop where
  is : FsIs s lay w
  low : ∀ k, Owns (s.obj lay) lay k → W0.heap.size ≤ k
  below : Below W0.heap.size W0 w
  whole : s.Whole
theorem FsIn.drewN {w : World} (h : FsIn W0 s lay w) (n : Nat) : FsIn W0 s lay (w.drewN n) := ⟨h.is.drewN n, h.low, ⟨h.below.os, h.below.tape, h.below.output, h.below.size, h.below.block⟩, h.whole⟩
theorem FsIn.step {w : World} (h : FsIn W0 s lay w) {s' : Fs} {lay' : FId → Nat} {w' : World} (hs : Step s lay w s' lay' w') (hw : s'.Whole) : FsIn W0 s' lay' w' :=
  ⟨hs.is, fun k hk => by
    rcases hs.own k hk with q | q
    · exact h.low k q
    · exact Nat.le_trans h.below.size q, below_turned h.below hs.turned h.low, hw⟩
set_option maxRecDepth 100000 in
theorem walk_none (dir : Int) (path : List UInt8) (fol : Bool) (w : World) (h : FsIs s lay w) (hd : s.dirOf dir = none) :
    Calls Tryz.prog 14 #[ptrTo (lay .F), .int .i64 dir, .string ⟨path.toArray⟩, .bool fol] w fun e w' => e = .returned (.tuple #[.int .i64 0, .int .i64 25]) ∧ w = w' := by
  have HD := Lib.hid (dir_any dir w h)
  have hp := dirPtr_none (lay := lay) hd
  unfold ptrTo at *
  go_enter Tryz.func14, Tryz.ntmps14
  go_wp2_with (go_at_call 38; refine HD.out.mono ?_; rintro e w' ⟨rfl, rfl⟩; rw [hp])
  go_ret2
  exact ⟨rfl, rfl⟩
set_option maxRecDepth 100000 in
theorem walk_some (hE : EnvG W0) (dir : Int) (path : List UInt8) (fol : Bool) (w : World) (h : FsIn W0 s lay w) (d : Dr) (hd : s.dirOf dir = some d) :
    Calls Tryz.prog 14 #[ptrTo (lay .F), .int .i64 dir, .string ⟨path.toArray⟩, .bool fol] w fun e w' => e = .returned (.tuple #[.int .i64 (s.goesS 9 dir path fol 0).1, .int .i64 (s.goesS 9 dir path fol 0).2.1]) ∧ Step s lay w s lay w' := by
  have HD := Lib.hid (dir_any dir w h.is)
  have hp := dirPtr_some (lay := lay) hd
  have HI := Lib.hid h
  clear h
  have hout : ¬ Owns (s.obj lay) lay w.heap.size := fun q => by have := HI.out.is.lies.owns_lt q; omega
  have HG := Lib.hid (fun (W : World) (hw : WayIs W0 s lay w.heap.size 0 W) => go_ok HI.out.whole (fun k hk => by
    rcases hk with rfl | q
    · exact HI.out.below.size
    · exact HI.out.low k q) hE 9 dir path fol 0 W (by omega) (by omega) hw)
  unfold ptrTo at *
  go_enter Tryz.func14, Tryz.ntmps14
  go_wp2_with first
    | (go_at_call 38; refine HD.out.mono ?_; rintro e w' ⟨rfl, rfl⟩; rw [hp])
    | (go_at_call 39; (with_reducible refine (HG.out _ ?_).mono ?_); rotate_left; (rintro e w1 ⟨rfl, hway, htn⟩))
  rotate_left
  · exact ⟨HI.out.is.alloc _, ⟨by rw [World.cell?_alloc_new]; rfl, by rw [World.cell?_alloc_new]; rfl, by rw [World.frozen?_alloc_new], hout⟩, HI.out.below.alloc HI.out.below.size _⟩
  go_ret2
  refine ⟨rfl, hway.is, ?_, fun k hk => .inl hk⟩
  exact ((Turned.refl (Owns (s.obj lay) lay) w).alloc _).trans htn (fun b hb hlt => hb.resolve_left (by omega))
/-- where a path leads -/
theorem walk_any (hE : EnvG W0) (dir : Int) (path : List UInt8) (fol : Bool) (w : World) (h : FsIn W0 s lay w) :
    Calls Tryz.prog 14 #[ptrTo (lay .F), .int .i64 dir, .string ⟨path.toArray⟩, .bool fol] w fun e w' => e = .returned (.tuple #[.int .i64 (s.walkS dir path fol).1, .int .i64 (s.walkS dir path fol).2]) ∧ Step s lay w s lay w' := by
  unfold Fs.walkS
  cases hd : s.dirOf dir with
  | none => exact (walk_none dir path fol w h.is hd).mono (by rintro e w' ⟨rfl, rfl⟩; exact ⟨rfl, Step.refl h.is⟩)
  | some d => exact walk_some hE dir path fol w h d hd
end
end Go.Proofs.YtggdedihfhibfaaGreatDoor
