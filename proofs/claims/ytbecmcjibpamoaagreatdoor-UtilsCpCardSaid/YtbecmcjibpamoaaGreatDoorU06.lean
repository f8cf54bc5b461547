/- Texts of one proof, packed: GnA, GnB -/
import Derived.Test.YtbecmcjibpamoaaGreatDoorU04
import Derived.Test.YtbecmcjibpamoaaGreatDoorU05
set_option linter.unusedVariables false
set_option linter.unusedSimpArgs false
set_option linter.deprecated false
set_option linter.unnecessarySimpa false
/- A tree with directories and links, plain: what holds of each that is made so. No program's text. -/
namespace Go.Proofs.YtbecmcjibpamoaaGreatDoor
open Go.RowKit IntWalk
set_option linter.unusedVariables false
set_option linter.unusedSimpArgs false

/-- what holds of a node -/
structure NdG (x : Nd) : Prop where
  up : PartsUp x
  ok : PartsOk x.parts
  size : 0 ≤ x.size ∧ x.size ≤ 4096
structure Gen (s : Fs) : Prop where
  blk : Blk s
  nds : ∀ (j : Nat) x, s.nodes[j]? = some (some x) → NdG x
  dirs : ∀ i, (s.dr i).isSome = true → (s.nd i).isSome = true
  blen : s.bs.length ≤ 4096
section
variable {s s' : Fs}
theorem Gen.whole (h : Gen s) : s.Whole := fun i x hn => by
  obtain ⟨_, _, h3⟩ := Fs.nd_slot hn
  refine ⟨fun p b hpb => (h.blk.iff b).1 ?_, (h.nds _ x h3).size⟩
  obtain ⟨R, h1, _⟩ := usedL_split h3
  rw [show s.used = usedL s.nodes from rfl, h1.mem_iff, List.mem_append]
  exact .inl (part_mem hpb)
theorem freshG (kind : Int) : NdG (freshNd kind) := ⟨(fun e he => by cases he), ⟨GMap.Good.empty, (fun e he => by cases he)⟩, by show (0 : Int) ≤ 0 ∧ (0 : Int) ≤ 4096; decide⟩
/-- a node turns -/
theorem Gen.node (h : Gen s) {k : Nat} {o : Option Nd} (hat : s'.nodes[k]? = some o) (ho : ∀ j, j ≠ k → s'.nodes[j]? = s.nodes[j]?) (hb : Blk s') (hbl : s'.bs.length = s.bs.length) (hd : s'.dirs = s.dirs) (hx : ∀ x, o = some x → NdG x) (hn : o = none → s.dr ((k : Int) + 1) = none) : Gen s' := by
  refine ⟨hb, fun j x hj => ?_, fun i hi => ?_, by rw [hbl]; exact h.blen⟩
  · by_cases e : j = k
    · subst e; rw [hat] at hj; cases hj; exact hx x rfl
    · rw [ho j e] at hj; exact h.nds j x hj
  · have hi' : (s.dr i).isSome = true := by unfold Fs.dr at hi ⊢; rwa [hd] at hi
    have := h.dirs i hi'
    unfold Fs.nd at this ⊢
    by_cases h1 : i < 1
    · rw [if_pos h1] at this; cases this
    · rw [if_neg h1] at this ⊢
      by_cases e : slotOf i = k
      · rw [e, hat]
        cases o with
        | some x => rfl
        | none =>
          have : i = (k : Int) + 1 := by unfold slotOf at e; omega
          rw [this, hn rfl] at hi'; cases hi'
      · rw [ho _ e]; exact this
theorem Gen.nodr (h : Gen s) {k : Nat} (hk : s.nodes[k]? = some none) : s.dr ((k : Int) + 1) = none := by
  cases hd : s.dr ((k : Int) + 1) with
  | none => rfl
  | some d =>
    have := h.dirs ((k : Int) + 1) (by rw [hd]; rfl)
    unfold Fs.nd at this
    rw [if_neg (by omega), slotOf_eq, hk] at this
    cases this
theorem Gen.fresh (h : Gen s) {k : Nat} (hk : s.nodes[k]? = some none) (kind : Int) : Gen (s.setNd k (freshNd kind)) := by
  have hlt := (List.getElem?_eq_some_iff.1 hk).1
  exact h.node (k := k) (o := some (freshNd kind)) (by show (s.nodes.set _ _)[_]? = _; rw [List.getElem?_set, if_pos rfl, if_pos hlt]) (fun j hj => by show (s.nodes.set _ _)[_]? = _; rw [List.getElem?_set, if_neg (Ne.symm hj)]) (h.blk.newNd hk rfl) rfl rfl (fun x hx => by cases hx; exact freshG kind) (fun q => by cases q)
theorem Gen.setDr (h : Gen s) (i : Int) (d : Dr) : Gen (s.setDr i d) := by
  refine ⟨h.blk.of (List.Perm.refl _) rfl rfl, h.nds, fun j hj => ?_, h.blen⟩
  rw [setDr_dr] at hj
  refine h.dirs j ?_
  split at hj
  · cases q : s.dr j with
    | none => rw [q] at hj; cases hj
    | some d => rfl
  · exact hj
theorem Gen.addDr (h : Gen s) {i par : Int} (hd : s.dr i = none) (hi : (s.nd i).isSome = true) : Gen (s.addDr i par) := by
  refine ⟨h.blk.of (List.Perm.refl _) rfl rfl, h.nds, fun j hj => ?_, h.blen⟩
  rw [addDr_dr hd] at hj
  split at hj
  · rename_i e; subst e; exact hi
  · exact h.dirs j hj
/-- a fresh node is written into -/
theorem Gen.write (h : Gen s) {k : Nat} (hk : s.nodes[k]? = some none) (kind : Int) (t : List UInt8) (ht : t.length ≤ 4096) : ∃ x, ((s.setNd k (freshNd kind)).writeS k (freshNd kind) 0 t).2.nodes[k]? = some (some x) ∧ x.names = 1 ∧ x.users = 0 ∧ Gen ((s.setNd k (freshNd kind)).writeS k (freshNd kind) 0 t).2 ∧ (∀ j, j ≠ k → ((s.setNd k (freshNd kind)).writeS k (freshNd kind) 0 t).2.nodes[j]? = s.nodes[j]?) ∧ ((s.setNd k (freshNd kind)).writeS k (freshNd kind) 0 t).2.bs.length = s.bs.length := by
  have hlt := (List.getElem?_eq_some_iff.1 hk).1
  have hG := h.fresh hk kind
  have hat : (s.setNd k (freshNd kind)).nodes[k]? = some (some (freshNd kind)) := by show (s.nodes.set _ _)[_]? = _; rw [List.getElem?_set, if_pos rfl, if_pos hlt]
  have hot : ∀ j, j ≠ k → (s.setNd k (freshNd kind)).nodes[j]? = s.nodes[j]? := fun j hj => by show (s.nodes.set _ _)[_]? = _; rw [List.getElem?_set, if_neg (Ne.symm hj)]
  have hw0 : Wr (s.setNd k (freshNd kind)) k (freshNd kind) (s.setNd k (freshNd kind)) (freshNd kind) := ⟨hG.blk, hat, fun _ _ => rfl, rfl, rfl, rfl, ⟨rfl, rfl, rfl, rfl⟩, (freshG kind).up, (freshG kind).ok, fun _ hb => hb⟩
  obtain ⟨hw, hle⟩ := writeL_wr (at_ := 0) (d := t) (t.length + 1) 0 (s.setNd k (freshNd kind)) (freshNd kind) hw0 h.blen (by omega)
  unfold Fs.writeS
  generalize Fs.writeL k 0 t (t.length + 1) 0 (s.setNd k (freshNd kind)) (freshNd kind) = r at *
  obtain ⟨n, s1, x1⟩ := r
  dsimp only at hw hle ⊢
  obtain ⟨g1, g2, g3, g4⟩ := hw.same
  have hlt' := (List.getElem?_eq_some_iff.1 hw.at_).1
  have hx1 : NdG x1 := ⟨hw.up, hw.ok, by rw [g4]; exact (freshG kind).size⟩
  by_cases hn : 0 < n
  · rw [if_pos hn]
    have hx2 : NdG { x1 with size := max (freshNd kind).size ((0 + n : Nat) : Int) } := ⟨hw.up, hw.ok, by
      have := (freshG kind).size
      show 0 ≤ max (freshNd kind).size ((0 + n : Nat) : Int) ∧ max (freshNd kind).size ((0 + n : Nat) : Int) ≤ 4096
      omega⟩
    refine ⟨{ x1 with size := max (freshNd kind).size ((0 + n : Nat) : Int) }, by show (s1.nodes.set _ _)[_]? = _; rw [List.getElem?_set, if_pos rfl, if_pos hlt'], g1, g2, ?_, fun j hj => ?_, hw.blen⟩
    · exact hG.node (k := k) (by show (s1.nodes.set _ _)[_]? = _; rw [List.getElem?_set, if_pos rfl, if_pos hlt']) (fun j hj => by show (s1.nodes.set _ _)[_]? = _; rw [List.getElem?_set, if_neg (Ne.symm hj)]; exact hw.other j hj) (hw.blk.setNd hw.at_ rfl) hw.blen hw.dirs (fun x hx => by cases hx; exact hx2) (fun q => by cases q)
    · show (s1.nodes.set _ _)[_]? = _
      rw [List.getElem?_set, if_neg (Ne.symm hj), hw.other j hj, hot j hj]
  · rw [if_neg hn]
    refine ⟨x1, hw.at_, g1, g2, ?_, fun j hj => by rw [hw.other j hj, hot j hj], hw.blen⟩
    exact hG.node (k := k) hw.at_ hw.other hw.blk hw.blen hw.dirs (fun x hx => by cases hx; exact hx1) (fun q => by cases q)
/-- a node of one name is untied -/
theorem Gen.untie (h : Gen s) {k : Nat} {x : Nd} (hk : s.nodes[k]? = some (some x)) (hn : x.names = 1) (hu : x.users = 0) (hd : s.dr ((k : Int) + 1) = none) : Gen (s.untieS ((k : Int) + 1)) := by
  have hlt := (List.getElem?_eq_some_iff.1 hk).1
  have hnd : s.nd ((k : Int) + 1) = some x := by
    unfold Fs.nd
    rw [if_neg (by omega), slotOf_eq, hk]; rfl
  unfold Fs.untieS
  rw [hnd]
  dsimp only
  rw [if_neg (by rw [hn]; decide)]
  have hdw : decW x.names = 0 := by rw [hn]; simp [decW, wrap64]
  have hid : idle { x with names := decW x.names } = true := by
    unfold idle
    dsimp only
    rw [hdw, hu]; rfl
  unfold Fs.lessS
  rw [hid, if_pos rfl, slotOf_eq]
  have hG := h.nds k x hk
  have h1 : Blk (s.setNd k { x with names := decW x.names }) := h.blk.setNd hk rfl
  have hat : (s.setNd k { x with names := decW x.names }).nodes[k]? = some (some { x with names := decW x.names }) := by show (s.nodes.set _ _)[_]? = _; rw [List.getElem?_set, if_pos rfl, if_pos hlt]
  rw [dropS_eq (x := { x with names := decW x.names }) hG.up]
  obtain ⟨b1, b2, b3, b4⟩ := h1.drop h.blen hat
  have hat2 : ((givesS (s.setNd k { x with names := decW x.names }) x.parts.es).setNd k (bare { x with names := decW x.names })).nodes[k]? = some (some (bare { x with names := decW x.names })) := by
    show (List.set _ _ _)[_]? = _
    rw [List.getElem?_set, if_pos rfl, b2, if_pos (by show k < (s.nodes.set _ _).length; rw [List.length_set]; exact hlt)]
  have hl2 := (List.getElem?_eq_some_iff.1 hat2).1
  refine h.node (k := k) (o := none) (by show (List.set _ _ _)[_]? = _; rw [List.getElem?_set, if_pos rfl, if_pos hl2]) (fun j hj => ?_) (b1.noNd hat2 rfl) b4 b3 (fun y hy => by cases hy) (fun _ => hd)
  show (List.set _ _ _)[_]? = _
  rw [List.getElem?_set, if_neg (Ne.symm hj)]
  show (List.set _ _ _)[_]? = _
  rw [List.getElem?_set, if_neg (Ne.symm hj), b2]
  show (s.nodes.set _ _)[_]? = _
  rw [List.getElem?_set, if_neg (Ne.symm hj)]
end
end Go.Proofs.YtbecmcjibpamoaaGreatDoor
/- names: Make, Mkdir, Symlink over a tree of any kind, and what holds of the tree behind them. -/
namespace Go.Proofs.YtbecmcjibpamoaaGreatDoor
open Go.RowKit IntWalk
set_option linter.unusedVariables false
set_option linter.unusedSimpArgs false

/-- what Mkdir answers, and leaves -/
def Fs.mkdirS (s : Fs) (dir : Int) (path : List UInt8) : Int × Fs :=
  if s.freeS dir path ≠ 0 then (s.freeS dir path, s)
  else match gapAt s.nodes with
    | none => (21, s)
    | some k => match s.dr (s.placeS dir path).1 with
      | none => (0, s)
      | some d => (0, ((s.setNd k (freshNd 2)).addDr ((k : Int) + 1) (s.placeS dir path).1).setDr (s.placeS dir path).1 ⟨d.names.put (.str (s.placeS dir path).2.1) (.int .i64 (k + 1)), d.parent⟩)
/-- what the making of a link answers, and leaves -/
def Fs.linkS (s : Fs) (dir : Int) (path t : List UInt8) : Int × Fs :=
  if s.freeS dir path ≠ 0 then (s.freeS dir path, s)
  else match gapAt s.nodes with
    | none => (21, s)
    | some k => match s.dr (s.placeS dir path).1 with
      | none => (0, s)
      | some d =>
        if ((s.setNd k (freshNd 3)).writeS k (freshNd 3) 0 t).1 < t.length then (20, ((s.setNd k (freshNd 3)).writeS k (freshNd 3) 0 t).2.untieS ((k : Int) + 1))
        else (0, ((s.setNd k (freshNd 3)).writeS k (freshNd 3) 0 t).2.setDr (s.placeS dir path).1 ⟨d.names.put (.str (s.placeS dir path).2.1) (.int .i64 (k + 1)), d.parent⟩)
/-- what Symlink answers, and leaves -/
def Fs.slinkS (s : Fs) (dir : Int) (t path : List UInt8) : Int × Fs :=
  if (s.dirOf dir).isNone then (25, s) else if t = [] then (1, s) else if 256 < t.length then (3, s) else s.linkS dir path t
section
variable {W0 : World} {s : Fs} {lay : FId → Nat} {w : World}
/-- a place at which something may be made -/
theorem free_dir {dir : Int} {path : List UInt8} (he : s.freeS dir path = 0) : ∃ n nm d, s.placeS dir path = (n, nm, 0) ∧ s.dr n = some d := by
  obtain ⟨n, nm, e, hr⟩ : ∃ n nm e, s.placeS dir path = (n, nm, e) := ⟨_, _, _, rfl⟩
  have he0 : e = 0 := by
    unfold Fs.freeS at he
    rw [hr] at he
    dsimp only at he
    by_cases q : e = 0
    · exact q
    · rw [if_pos q] at he; exact absurd he q
  subst he0
  obtain ⟨d, hd, _, _⟩ := placeS_dir (s := s) (dir := dir) (path := path) (by rw [hr])
  rw [hr] at hd
  exact ⟨n, nm, d, hr, dirOf_dr hd⟩
theorem Gen.makeS (h : Gen s) (dir : Int) (path : List UInt8) : Gen (s.makeS dir path).2.2 := by
  unfold Fs.makeS
  by_cases he : s.freeS dir path = 0
  · rw [if_neg (by simpa using he)]
    cases hg : gapAt s.nodes with
    | none => exact h
    | some k =>
      obtain ⟨n, nm, d, hr, hd⟩ := free_dir he
      rw [hr]
      dsimp only
      rw [hd]
      exact (h.fresh (gapAt_some _ _ hg).1 1).setDr _ _
  · rw [if_pos he]; exact h
theorem fresh_nd {k : Nat} (hk : s.nodes[k]? = some none) (kind : Int) : (s.setNd k (freshNd kind)).nd ((k : Int) + 1) = some (freshNd kind) := by
  have hlt := (List.getElem?_eq_some_iff.1 hk).1
  unfold Fs.nd
  rw [if_neg (by omega), slotOf_eq, Fs.setNd_get, if_pos rfl, if_pos hlt]; rfl
theorem Gen.mkdirS (h : Gen s) (dir : Int) (path : List UInt8) : Gen (s.mkdirS dir path).2 := by
  unfold Fs.mkdirS
  by_cases he : s.freeS dir path = 0
  · rw [if_neg (by simpa using he)]
    cases hg : gapAt s.nodes with
    | none => exact h
    | some k =>
      obtain ⟨n, nm, d, hr, hd⟩ := free_dir he
      rw [hr]
      dsimp only
      rw [hd]
      have hk := (gapAt_some _ _ hg).1
      exact ((h.fresh hk 2).addDr (h.nodr hk) (by rw [fresh_nd hk]; rfl)).setDr _ _
  · rw [if_pos he]; exact h
theorem Gen.linkS (h : Gen s) (dir : Int) (path t : List UInt8) (ht : t.length ≤ 4096) : Gen (s.linkS dir path t).2 := by
  unfold Fs.linkS
  by_cases he : s.freeS dir path = 0
  · rw [if_neg (by simpa using he)]
    cases hg : gapAt s.nodes with
    | none => exact h
    | some k =>
      obtain ⟨n, nm, d, hr, hd⟩ := free_dir he
      rw [hr]
      dsimp only
      rw [hd]
      dsimp only
      have hk := (gapAt_some _ _ hg).1
      obtain ⟨x, h1, h2, h3, h4, _, _⟩ := h.write hk 3 t ht
      split
      · refine h4.untie h1 h2 h3 ?_
        show dirE ((k : Int) + 1) ((s.setNd k (freshNd 3)).writeS k (freshNd 3) 0 t).2.dirs = none
        rw [writeS_dirs]
        exact h.nodr hk
      · exact h4.setDr _ _
  · rw [if_pos he]; exact h
theorem Gen.slinkS (h : Gen s) (dir : Int) (t path : List UInt8) : Gen (s.slinkS dir t path).2 := by
  unfold Fs.slinkS
  split
  · exact h
  split
  · exact h
  split
  · exact h
  · exact h.linkS dir path t (by omega)
theorem madedir_any (hE : EnvG W0) (dir : Int) (path : List UInt8) (hpl : path.length ≤ 100000) (h : FsIn W0 s lay w) (hG : Gen s) :
    Calls Tryz.prog 17 #[ptrTo (lay .F), .int .i64 dir, .string ⟨path.toArray⟩, .int .i64 2, .string ByteArray.empty] w fun e w' => (∃ n : Int, e = .returned (.tuple #[.int .i64 n, .int .i64 (s.mkdirS dir path).1])) ∧ ∃ lay', lay' .F = lay .F ∧ Step s lay w (s.mkdirS dir path).2 lay' w' := by
  unfold Fs.mkdirS
  by_cases he : s.freeS dir path = 0
  · rw [if_neg (by simpa using he)]
    cases hg : gapAt s.nodes with
    | none => exact (mk_full 2 ByteArray.empty (by omega) (by omega) hE dir path hpl w h he hg).mono (by rintro e w' ⟨rfl, hs⟩; exact ⟨⟨_, rfl⟩, lay, rfl, hs⟩)
    | some k =>
      obtain ⟨n, nm, d, hr, hd⟩ := free_dir he
      rw [hr]
      dsimp only
      rw [hd]
      exact (mk_dir hE dir path hpl w h he k hg n nm hr d hd (hG.nodr (gapAt_some _ _ hg).1)).mono (by rintro e w' ⟨rfl, hs⟩; exact ⟨⟨_, rfl⟩, hs⟩)
  · rw [if_pos he]
    exact (mk_fail 2 ByteArray.empty hE dir path hpl w h he).mono (by rintro e w' ⟨rfl, hs⟩; exact ⟨⟨_, rfl⟩, lay, rfl, hs⟩)
theorem madelink_any (hE : EnvG W0) (dir : Int) (path t : List UInt8) (hpl : path.length ≤ 100000) (ht : t ≠ []) (ht2 : t.length ≤ 256) (h : FsIn W0 s lay w) (hG : Gen s) :
    Calls Tryz.prog 17 #[ptrTo (lay .F), .int .i64 dir, .string ⟨path.toArray⟩, .int .i64 3, .string ⟨t.toArray⟩] w fun e w' => (∃ n : Int, e = .returned (.tuple #[.int .i64 n, .int .i64 (s.linkS dir path t).1])) ∧ ∃ lay', lay' .F = lay .F ∧ Step s lay w (s.linkS dir path t).2 lay' w' := by
  unfold Fs.linkS
  by_cases he : s.freeS dir path = 0
  · rw [if_neg (by simpa using he)]
    cases hg : gapAt s.nodes with
    | none => exact (mk_full 3 ⟨t.toArray⟩ (by omega) (by omega) hE dir path hpl w h he hg).mono (by rintro e w' ⟨rfl, hs⟩; exact ⟨⟨_, rfl⟩, lay, rfl, hs⟩)
    | some k =>
      obtain ⟨n, nm, d, hr, hd⟩ := free_dir he
      rw [hr]
      dsimp only
      rw [hd]
      refine (mk_link t ht ht2 hE dir path hpl w h he k hg n nm hr d hd).mono ?_
      rintro e w' ⟨m, s2, lay', hm, hl, hh⟩
      dsimp only
      rw [← hm]
      dsimp only
      rcases hh with ⟨h1, rfl, h2⟩ | ⟨h1, rfl, h2⟩
      · rw [if_pos h1]; exact ⟨⟨_, rfl⟩, lay', hl, h2⟩
      · rw [if_neg (by omega)]; exact ⟨⟨_, rfl⟩, lay', hl, h2⟩
  · rw [if_pos he]
    exact (mk_fail 3 ⟨t.toArray⟩ hE dir path hpl w h he).mono (by rintro e w' ⟨rfl, hs⟩; exact ⟨⟨_, rfl⟩, lay, rfl, hs⟩)
theorem mkdir_any (hE : EnvG W0) (dir : Int) (path : List UInt8) (hpl : path.length ≤ 100000) (h : FsIn W0 s lay w) (hG : Gen s) :
    Calls Tryz.prog 15 #[ptrTo (lay .F), .int .i64 dir, .string ⟨path.toArray⟩] w fun e w' => e = .returned (.int .i64 (s.mkdirS dir path).1) ∧ ∃ lay', lay' .F = lay .F ∧ Step s lay w (s.mkdirS dir path).2 lay' w' := by
  have HM := Lib.hid (madedir_any hE dir path hpl h hG)
  clear h hG
  generalize s.mkdirS dir path = r at *
  unfold ptrTo at *
  go_enter Tryz.func15, Tryz.ntmps15
  go_wp2_with (go_at_call 17; refine HM.out.mono ?_; rintro e w' ⟨⟨n, rfl⟩, hs⟩)
  go_ret
  exact ⟨rfl, hs⟩
set_option maxRecDepth 100000 in
theorem symlink_any (hE : EnvG W0) (dir : Int) (t path : List UInt8) (hpl : path.length ≤ 100000) (h : FsIn W0 s lay w) (hG : Gen s) :
    Calls Tryz.prog 16 #[ptrTo (lay .F), .int .i64 dir, .string ⟨t.toArray⟩, .string ⟨path.toArray⟩] w fun e w' => e = .returned (.int .i64 (s.slinkS dir t path).1) ∧ ∃ lay', lay' .F = lay .F ∧ Step s lay w (s.slinkS dir t path).2 lay' w' := by
  have HD := Lib.hid (dir_any dir w h.is)
  have HR := Lib.hid (Step.refl h.is)
  unfold Fs.slinkS
  cases hd : s.dirOf dir with
  | none =>
    have hp := dirPtr_none (lay := lay) hd
    rw [show (Option.isNone (none : Option Dr)) = true from rfl, if_pos rfl]
    unfold ptrTo at *
    go_enter Tryz.func16, Tryz.ntmps16
    go_wp2_with (go_at_call 26; refine HD.out.mono ?_; rintro e w' ⟨rfl, rfl⟩; rw [hp])
    go_ret
    exact ⟨rfl, lay, rfl, HR.out⟩
  | some d =>
    have hp := dirPtr_some (lay := lay) hd
    rw [show (Option.isNone (some d)) = false from rfl, if_neg (by simp)]
    by_cases ht : t = []
    · subst ht
      rw [if_pos rfl]
      unfold ptrTo at *
      go_enter Tryz.func16, Tryz.ntmps16
      go_wp2_with (go_at_call 26; refine HD.out.mono ?_; rintro e w' ⟨rfl, rfl⟩; rw [hp])
      go_ret
      exact ⟨rfl, lay, rfl, HR.out⟩
    rw [if_neg ht]
    have hte : t.isEmpty = false := by cases t with | nil => exact absurd rfl ht | cons => rfl
    by_cases ht2 : 256 < t.length
    · rw [if_pos ht2]
      unfold ptrTo at *
      go_enter Tryz.func16, Tryz.ntmps16
      go_wp2_with (go_at_call 26; refine HD.out.mono ?_; rintro e w' ⟨rfl, rfl⟩; rw [hp])
      go_ret
      exact ⟨rfl, lay, rfl, HR.out⟩
    · rw [if_neg ht2]
      have HM := Lib.hid (madelink_any hE dir path t hpl ht (by omega) h hG)
      clear h hG
      generalize s.linkS dir path t = r at *
      unfold ptrTo at *
      go_enter Tryz.func16, Tryz.ntmps16
      go_wp2_with first
        | (go_at_call 26; refine HD.out.mono ?_; rintro e w' ⟨rfl, rfl⟩; rw [hp])
        | (go_at_call 17; refine HM.out.mono ?_; rintro e w' ⟨⟨n, rfl⟩, hs⟩)
      go_ret
      exact ⟨rfl, hs⟩
end
end Go.Proofs.YtbecmcjibpamoaaGreatDoor
