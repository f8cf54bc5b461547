/- Texts of one proof, packed: TrA, TrB, NaA, BeA, PrA, ThA, PrB -/
import Derived.Test.YtggdedihfhibfaaGreatDoorR37
import Derived.Lib.ItoaNum
set_option linter.unusedVariables false
set_option linter.unusedSimpArgs false
set_option linter.deprecated false
set_option linter.unnecessarySimpa false
/- The trees that are made: their names, and where d is. No program's text. -/
namespace Go.Proofs.YtggdedihfhibfaaGreatDoor
open Go.RowKit IntWalk
set_option linter.unusedVariables false
set_option linter.unusedSimpArgs false

/-- a name of a directory's -/
structure NmOk (t : List UInt8) : Prop where
  len : t.length ≤ 32
  ne : t ≠ []
  dot : t ≠ dotL
  dots : t ≠ dotsL
  stroke : (47 : UInt8) ∉ t
theorem lastS_stroke (path : List UInt8) : (47 : UInt8) ∉ lastS path := by
  intro hm
  obtain ⟨j, hj⟩ := List.getElem?_of_mem hm
  unfold lastS at hj
  rw [List.getElem?_drop] at hj
  obtain ⟨h1, h2, h3⟩ := atS_eq path
  have hlt := (List.getElem?_eq_some_iff.1 hj).1
  have hsz : (ByteArray.mk (trimS path).toArray).size = (trimS path).length := by simp [ByteArray.size]
  have hv : (((ByteArray.mk (trimS path).toArray).data[atS path + j]!).toNat : Int) = 47 := by
    have h5 := (List.getElem?_eq_some_iff.1 hj).2
    rw [getElem!_pos _ _ (by simpa using hlt)]
    show (((trimS path).toArray[atS path + j]).toNat : Int) = 47
    rw [List.getElem_toArray, h5]; rfl
  rcases Lib.lastIndexByte_spec ⟨(trimS path).toArray⟩ 47 with ⟨h, hn⟩ | ⟨i, hi, hl, hb, hn⟩
  · exact hn (atS path + j) (by rw [hsz]; exact hlt) hv
  · exact hn (atS path + j) (by omega) (by rw [hsz]; exact hlt) hv
section
variable {s s2 : Fs}
theorem place_name {dir : Int} {path : List UInt8} (h : (s.placeS dir path).2.2 = 0) : NmOk (s.placeS dir path).2.1 := by
  unfold Fs.placeS at h ⊢
  cases hd : s.dirOf dir with
  | none => rw [hd] at h; cases h
  | some d =>
    rw [hd] at h
    dsimp only at h ⊢
    by_cases h1 : path = []
    · rw [if_pos h1] at h; cases h
    rw [if_neg h1] at h ⊢
    by_cases h2 : lastS path = [] ∨ lastS path = dotL ∨ lastS path = dotsL
    · rw [if_pos h2] at h; cases h
    rw [if_neg h2] at h ⊢
    by_cases h3 : 256 < path.length ∨ 32 < (lastS path).length
    · rw [if_pos h3] at h; cases h
    rw [if_neg h3] at h ⊢
    generalize (if atS path = 0 then (dir, (0 : Int)) else s.walkS dir (upS path) true) = r at h ⊢
    by_cases h4 : r.2 ≠ 0
    · rw [if_pos h4] at h; exact absurd h h4
    rw [if_neg h4] at h ⊢
    cases h5 : s.dirOf r.1 with
    | none => rw [h5] at h; cases h
    | some d2 =>
      exact ⟨by show (lastS path).length ≤ 32; omega, fun e => h2 (.inl e), fun e => h2 (.inr (.inl e)), fun e => h2 (.inr (.inr e)), lastS_stroke path⟩
/-- a free place has a name that its directory has not -/
theorem free_name {dir : Int} {path : List UInt8} (he : s.freeS dir path = 0) {d : Dr} (hd : s.dr (s.placeS dir path).1 = some d) : NmOk (s.placeS dir path).2.1 ∧ d.name (s.placeS dir path).2.1 = none := by
  unfold Fs.freeS at he
  dsimp only at he
  by_cases h1 : (s.placeS dir path).2.2 ≠ 0
  · rw [if_pos h1] at he; exact absurd he h1
  rw [if_neg h1, hd] at he
  dsimp only at he
  refine ⟨place_name (by simpa using h1), ?_⟩
  cases hn : d.name (s.placeS dir path).2.1 with
  | none => rfl
  | some x => rw [hn] at he; cases he
theorem kind_at {k : Nat} (hk : s.nodes[k]? = some none) {i : Int} (hi : s.fld Nd.kind i ≠ 0) : 1 ≤ i ∧ slotOf i ≠ k := by
  unfold Fs.fld Fs.nd at hi
  by_cases h1 : i < 1
  · rw [if_pos h1] at hi; exact absurd rfl hi
  · refine ⟨by omega, fun e => ?_⟩
    rw [if_neg h1, e, hk] at hi
    exact hi rfl
theorem kind_same {k : Nat} (ho : ∀ j, j ≠ k → s2.nodes[j]? = s.nodes[j]?) {i : Int} (hi : slotOf i ≠ k ∨ i < 1) : s2.fld Nd.kind i = s.fld Nd.kind i := by
  unfold Fs.fld Fs.nd
  by_cases h1 : i < 1
  · rw [if_pos h1, if_pos h1]
  · rw [if_neg h1, if_neg h1, ho _ (hi.resolve_right h1)]
theorem setDr_kind (i : Int) (d : Dr) (j : Int) : (s.setDr i d).fld Nd.kind j = s.fld Nd.kind j := rfl
/-- a tree grows: nodes keep their kinds, directories get names -/
structure Grow (s s' : Fs) : Prop where
  gen : Gen s'
  keep : ∀ i, s.fld Nd.kind i ≠ 0 → s'.fld Nd.kind i = s.fld Nd.kind i
  dir : ∀ i, s'.fld Nd.kind i = 2 → s.fld Nd.kind i = 2 ∨ (s'.dr i).isSome = true
  drs : ∀ i, (s.dr i).isSome = true → (s'.dr i).isSome = true
  from_ : ∀ i d', s'.dr i = some d' → (s.dr i = none ∧ d'.names = GMap.empty) ∨ ∃ d, s.dr i = some d ∧ (d' = d ∨ ∃ t b, d'.names = d.names.put (.str t) (.int .i64 b) ∧ NmOk t ∧ d.name t = none)
theorem Grow.refl (h : Gen s) : Grow s s := ⟨h, fun _ _ => rfl, fun i hi => .inl hi, fun _ h => h, fun i d' hd => .inr ⟨d', hd, .inl rfl⟩⟩
theorem Grow.nodes {k : Nat} (hG : Gen s2) (ho : ∀ j, j ≠ k → s2.nodes[j]? = s.nodes[j]?) (hk : s.nodes[k]? = some none) (hkd : s2.fld Nd.kind ((k : Int) + 1) = 2 → (s2.dr ((k : Int) + 1)).isSome = true)
    (hdr : ∀ i, s2.dr i = s.dr i) : Grow s s2 := by
  refine ⟨hG, fun i hi => kind_same ho (.inl (kind_at hk hi).2), fun i hi => ?_, fun i h => by rw [hdr]; exact h, fun i d' hd => .inr ⟨d', by rw [← hdr]; exact hd, .inl rfl⟩⟩
  by_cases h1 : i < 1
  · rw [kind_same ho (.inr h1)] at hi; exact .inl hi
  · by_cases e : slotOf i = k
    · have : i = (k : Int) + 1 := by unfold slotOf at e; omega
      subst this
      exact .inr (hkd hi)
    · rw [kind_same ho (.inl e)] at hi; exact .inl hi
theorem Grow.named {k : Nat} {n b : Int} {nm : List UInt8} {d d2 : Dr} (hG : Gen (s2.setDr n d2)) (ho : ∀ j, j ≠ k → s2.nodes[j]? = s.nodes[j]?) (hk : s.nodes[k]? = some none) (hkd : s2.fld Nd.kind ((k : Int) + 1) = 2 → (s2.dr ((k : Int) + 1)).isSome = true)
    (hdr : ∀ i, s2.dr i = s.dr i ∨ (s.dr i = none ∧ ∃ par, s2.dr i = some ⟨GMap.empty, par⟩)) (hd : s.dr n = some d) (hd2 : d2.names = d.names.put (.str nm) (.int .i64 b)) (hnm : NmOk nm) (hf : d.name nm = none) : Grow s (s2.setDr n d2) := by
  have hsome : ∀ i, (s2.dr i).isSome = true → ((s2.setDr n d2).dr i).isSome = true := fun i hi => by
    rw [setDr_dr]
    split
    · rw [Option.isSome_map]; exact hi
    · exact hi
  refine ⟨hG, fun i hi => by rw [setDr_kind]; exact kind_same ho (.inl (kind_at hk hi).2), fun i hi => ?_, fun i h => hsome i ?_, fun i d' hd' => ?_⟩
  · rw [setDr_kind] at hi
    by_cases h1 : i < 1
    · rw [kind_same ho (.inr h1)] at hi; exact .inl hi
    · by_cases e : slotOf i = k
      · have : i = (k : Int) + 1 := by unfold slotOf at e; omega
        subst this
        exact .inr (hsome _ (hkd hi))
      · rw [kind_same ho (.inl e)] at hi; exact .inl hi
  · rcases hdr i with q | ⟨q, _⟩
    · rw [q]; exact h
    · rw [q] at h; cases h
  · rw [setDr_dr] at hd'
    by_cases e : i = n
    · subst e
      rw [if_pos rfl] at hd'
      have hs : s2.dr i = some d := by
        rcases hdr i with q | ⟨q, _⟩
        · rw [q, hd]
        · rw [hd] at q; cases q
      rw [hs] at hd'
      cases hd'
      exact .inr ⟨d, hd, .inr ⟨nm, b, hd2, hnm, hf⟩⟩
    · rw [if_neg e] at hd'
      rcases hdr i with q | ⟨q, par, q2⟩
      · exact .inr ⟨d', by rw [← q]; exact hd', .inl rfl⟩
      · rw [q2] at hd'; cases hd'
        exact .inl ⟨q, rfl⟩
/-- what holds of each tree that is made -/
structure TrN (N : Nat) (s : Fs) : Prop where
  gen : Gen s
  dir : ∀ i, s.fld Nd.kind i = 2 → (s.dr i).isSome = true
  many : ∀ i d, s.dr i = some d → d.names.es.length ≤ N
  name : ∀ i d, s.dr i = some d → ∀ e ∈ d.names.es, NmOk (nameOf e)
  root : s.fld Nd.kind 1 = 2
  d : ∃ d1 n, s.dr 1 = some d1 ∧ d1.name [100] = some n ∧ s.fld Nd.kind n = 2
theorem setE_len (k : Key) (v : Value) (b : Nat) : ∀ l : List (Key × Value × Nat), (setE k v b l).length ≤ l.length + 1
  | [] => by simp [setE]
  | e :: l => by
    unfold setE
    split
    · simp
    · have := setE_len k v b l; simp only [List.length_cons]; omega
theorem name_put {d d' : Dr} {t u : List UInt8} {b : Int} (h : d'.names = d.names.put (.str t) (.int .i64 b)) (hu : u ≠ t) : d'.name u = d.name u := by
  unfold Dr.name
  rw [h]
  show (match getE (.str u) (setE (.str t) (.int .i64 b) d.names.clk d.names.es) with | some (.int .i64 n) => some n | _ => none) = _
  rw [getE_setE, if_neg (by intro e; cases e; exact hu rfl)]
  rfl
theorem TrN.grow {N : Nat} {s' : Fs} (h : TrN N s) (g : Grow s s') : TrN (N + 1) s' := by
  refine ⟨g.gen, fun i hi => ?_, fun i d' hd' => ?_, fun i d' hd' e he => ?_, by rw [g.keep 1 (by rw [h.root]; decide)]; exact h.root, ?_⟩
  · rcases g.dir i hi with q | q
    · exact g.drs i (h.dir i q)
    · exact q
  · rcases g.from_ i d' hd' with ⟨_, q⟩ | ⟨d, hd, rfl | ⟨t, b, q, _, _⟩⟩
    · rw [q]; exact Nat.zero_le _
    · have := h.many i d' hd; omega
    · have h1 := h.many i d hd
      rw [q]
      have h2 := setE_len (.str t) (.int .i64 b) d.names.clk d.names.es
      show (setE (.str t) (.int .i64 b) d.names.clk d.names.es).length ≤ N + 1
      omega
  · rcases g.from_ i d' hd' with ⟨_, q⟩ | ⟨d, hd, rfl | ⟨t, b, q, ht, _⟩⟩
    · rw [q] at he; cases he
    · exact h.name i d' hd e he
    · rw [q] at he
      rcases setE_mem (show e ∈ setE (.str t) (.int .i64 b) d.names.clk d.names.es from he) with q2 | ⟨q2, _⟩
      · exact h.name i d hd e q2
      · have : nameOf e = t := by unfold nameOf; rw [q2]
        rw [this]; exact ht
  · obtain ⟨d1, n, h1, h2, h3⟩ := h.d
    obtain ⟨d', hd'⟩ := Option.isSome_iff_exists.1 (g.drs 1 (by rw [h1]; rfl))
    refine ⟨d', n, hd', ?_, by rw [g.keep n (by rw [h3]; decide)]; exact h3⟩
    rcases g.from_ 1 d' hd' with ⟨q, _⟩ | ⟨d, hd, rfl | ⟨t, b, q, _, hf⟩⟩
    · rw [q] at h1; cases h1
    · rw [h1] at hd; cases hd; exact h2
    · rw [h1] at hd; cases hd
      rw [name_put q (by rintro rfl; rw [hf] at h2; cases h2)]
      exact h2
theorem TrN.tr {N : Nat} (h : TrN N s) (hN : N ≤ 100) : Tr s := by
  refine ⟨fun i x hn hk => h.dir i (by unfold Fs.fld; rw [hn]; exact hk), fun i d hd => Nat.le_trans (h.many i d hd) hN, fun i d hd e he => ?_⟩
  have := h.name i d hd e he
  exact ⟨List.length_pos_iff.2 this.ne, this.len⟩
end
end Go.Proofs.YtggdedihfhibfaaGreatDoor
/- The trees that are made: each step. No program's text. -/
namespace Go.Proofs.YtggdedihfhibfaaGreatDoor
open Go.RowKit IntWalk
set_option linter.unusedVariables false
set_option linter.unusedSimpArgs false

section
variable {s : Fs}
theorem fresh_kind {k : Nat} (hk : s.nodes[k]? = some none) (kind : Int) : (s.setNd k (freshNd kind)).fld Nd.kind ((k : Int) + 1) = kind := by
  unfold Fs.fld
  rw [fresh_nd hk kind]; rfl
theorem fresh_other {k : Nat} (kind : Int) : ∀ j, j ≠ k → (s.setNd k (freshNd kind)).nodes[j]? = s.nodes[j]? := fun j hj => by rw [Fs.setNd_get, if_neg (Ne.symm hj)]
theorem grow_make (h : Gen s) (dir : Int) (path : List UInt8) : Grow s (s.makeS dir path).2.2 := by
  have hG := h.makeS dir path
  unfold Fs.makeS at hG ⊢
  by_cases he : s.freeS dir path = 0
  · rw [if_neg (by simpa using he)] at hG ⊢
    cases hg : gapAt s.nodes with
    | none => exact Grow.refl h
    | some k =>
      have hk := (gapAt_some _ _ hg).1
      rw [hg] at hG
      dsimp only at hG ⊢
      cases hd : s.dr (s.placeS dir path).1 with
      | none => exact Grow.refl h
      | some d =>
        rw [hd] at hG
        dsimp only at hG ⊢
        obtain ⟨hnm, hf⟩ := free_name he hd
        exact Grow.named (s2 := s.setNd k (freshNd 1)) hG (fresh_other 1) hk (fun q => by rw [fresh_kind hk] at q; cases q) (fun i => .inl rfl) hd rfl hnm hf
  · rw [if_pos he]; exact Grow.refl h
theorem grow_mkdir (h : Gen s) (dir : Int) (path : List UInt8) : Grow s (s.mkdirS dir path).2 := by
  have hG := h.mkdirS dir path
  unfold Fs.mkdirS at hG ⊢
  by_cases he : s.freeS dir path = 0
  · rw [if_neg (by simpa using he)] at hG ⊢
    cases hg : gapAt s.nodes with
    | none => exact Grow.refl h
    | some k =>
      have hk := (gapAt_some _ _ hg).1
      rw [hg] at hG
      dsimp only at hG ⊢
      cases hd : s.dr (s.placeS dir path).1 with
      | none => exact Grow.refl h
      | some d =>
        rw [hd] at hG
        dsimp only at hG ⊢
        obtain ⟨hnm, hf⟩ := free_name he hd
        have hn := h.nodr hk
        have hadd := fun j => addDr_dr (s := s.setNd k (freshNd 2)) (i := (k : Int) + 1) (par := (s.placeS dir path).1) hn j
        refine Grow.named (s2 := (s.setNd k (freshNd 2)).addDr ((k : Int) + 1) (s.placeS dir path).1) hG (fresh_other 2) hk (fun _ => by rw [hadd, if_pos rfl]; rfl) (fun i => ?_) hd rfl hnm hf
        rw [hadd]
        by_cases e : i = (k : Int) + 1
        · rw [if_pos e, e]; exact .inr ⟨hn, _, rfl⟩
        · rw [if_neg e]; exact .inl rfl
  · rw [if_pos he]; exact Grow.refl h
theorem write_kind (h : Gen s) {k : Nat} (hk : s.nodes[k]? = some none) (kind : Int) (t : List UInt8) (ht : t.length ≤ 4096) : ((s.setNd k (freshNd kind)).writeS k (freshNd kind) 0 t).2.fld Nd.kind ((k : Int) + 1) = kind := by
  have hlt := (List.getElem?_eq_some_iff.1 hk).1
  have hG := h.fresh hk kind
  have hat : (s.setNd k (freshNd kind)).nodes[k]? = some (some (freshNd kind)) := by show (s.nodes.set _ _)[_]? = _; rw [List.getElem?_set, if_pos rfl, if_pos hlt]
  have hw0 : Wr (s.setNd k (freshNd kind)) k (freshNd kind) (s.setNd k (freshNd kind)) (freshNd kind) := ⟨hG.blk, hat, fun _ _ => rfl, rfl, rfl, rfl, ⟨rfl, rfl, rfl, rfl⟩, (freshG kind).up, (freshG kind).ok, fun _ hb => hb⟩
  obtain ⟨hw, hle⟩ := writeL_wr (at_ := 0) (d := t) (t.length + 1) 0 (s.setNd k (freshNd kind)) (freshNd kind) hw0 h.blen (by omega)
  unfold Fs.writeS
  generalize Fs.writeL k 0 t (t.length + 1) 0 (s.setNd k (freshNd kind)) (freshNd kind) = r at *
  obtain ⟨n, s1, x1⟩ := r
  dsimp only at hw hle ⊢
  obtain ⟨g1, g2, g3, g4⟩ := hw.same
  have hlt' := (List.getElem?_eq_some_iff.1 hw.at_).1
  have hone : ∀ (q : Fs) (y : Nd), q.nodes[k]? = some (some y) → q.fld Nd.kind ((k : Int) + 1) = y.kind := fun q y hq => by
    unfold Fs.fld Fs.nd
    rw [if_neg (by omega), slotOf_eq, hq]; rfl
  by_cases hn : 0 < n
  · rw [if_pos hn, hone _ { x1 with size := max (freshNd kind).size ((0 + n : Nat) : Int) } (by show (s1.nodes.set _ _)[_]? = _; rw [List.getElem?_set, if_pos rfl, if_pos hlt'])]
    exact g3
  · rw [if_neg hn, hone _ x1 hw.at_]
    exact g3
theorem untie_nodes (h : Gen s) {k : Nat} {x : Nd} (hk : s.nodes[k]? = some (some x)) (hn : x.names = 1) (hu : x.users = 0) : (∀ j, j ≠ k → (s.untieS ((k : Int) + 1)).nodes[j]? = s.nodes[j]?) ∧ (s.untieS ((k : Int) + 1)).nodes[k]? = some none ∧ (s.untieS ((k : Int) + 1)).dirs = s.dirs := by
  have hlt := (List.getElem?_eq_some_iff.1 hk).1
  have hnd : s.nd ((k : Int) + 1) = some x := by
    unfold Fs.nd
    rw [if_neg (by omega), slotOf_eq, hk]; rfl
  unfold Fs.untieS
  rw [hnd]
  dsimp only
  rw [if_neg (by rw [hn]; decide)]
  have hdw : decW x.names = 0 := by rw [hn]; simp [decW, wrap64]
  have hid : idle { x with names := decW x.names } = true := by
    unfold idle
    dsimp only
    rw [hdw, hu]; rfl
  unfold Fs.lessS
  rw [hid, if_pos rfl, slotOf_eq]
  have hG := h.nds k x hk
  have h1 : Blk (s.setNd k { x with names := decW x.names }) := h.blk.setNd hk rfl
  have hat : (s.setNd k { x with names := decW x.names }).nodes[k]? = some (some { x with names := decW x.names }) := by show (s.nodes.set _ _)[_]? = _; rw [List.getElem?_set, if_pos rfl, if_pos hlt]
  rw [dropS_eq (x := { x with names := decW x.names }) hG.up]
  obtain ⟨b1, b2, b3, b4⟩ := h1.drop h.blen hat
  have hat2 : ((givesS (s.setNd k { x with names := decW x.names }) x.parts.es).setNd k (bare { x with names := decW x.names })).nodes[k]? = some (some (bare { x with names := decW x.names })) := by
    show (List.set _ _ _)[_]? = _
    rw [List.getElem?_set, if_pos rfl, b2, if_pos (by show k < (s.nodes.set _ _).length; rw [List.length_set]; exact hlt)]
  have hl2 := (List.getElem?_eq_some_iff.1 hat2).1
  refine ⟨fun j hj => ?_, by show (List.set _ _ _)[_]? = _; rw [List.getElem?_set, if_pos rfl, if_pos hl2], b3⟩
  show (List.set _ _ _)[_]? = _
  rw [List.getElem?_set, if_neg (Ne.symm hj)]
  show (List.set _ _ _)[_]? = _
  rw [List.getElem?_set, if_neg (Ne.symm hj), b2]
  show (s.nodes.set _ _)[_]? = _
  rw [List.getElem?_set, if_neg (Ne.symm hj)]
theorem grow_link (h : Gen s) (dir : Int) (path t : List UInt8) (ht : t.length ≤ 4096) : Grow s (s.linkS dir path t).2 := by
  have hG := h.linkS dir path t ht
  unfold Fs.linkS at hG ⊢
  by_cases he : s.freeS dir path = 0
  · rw [if_neg (by simpa using he)] at hG ⊢
    cases hg : gapAt s.nodes with
    | none => exact Grow.refl h
    | some k =>
      have hk := (gapAt_some _ _ hg).1
      rw [hg] at hG
      dsimp only at hG ⊢
      cases hd : s.dr (s.placeS dir path).1 with
      | none => exact Grow.refl h
      | some d =>
        rw [hd] at hG
        dsimp only at hG ⊢
        obtain ⟨hnm, hf⟩ := free_name he hd
        obtain ⟨x, h1, h2, h3, h4, h5, _⟩ := h.write hk 3 t ht
        have hkd := write_kind h hk 3 t ht
        have hdr : ∀ i, ((s.setNd k (freshNd 3)).writeS k (freshNd 3) 0 t).2.dr i = s.dr i := fun i => by
          show dirE i ((s.setNd k (freshNd 3)).writeS k (freshNd 3) 0 t).2.dirs = _
          rw [writeS_dirs]; rfl
        by_cases hlen : ((s.setNd k (freshNd 3)).writeS k (freshNd 3) 0 t).1 < t.length
        · rw [if_pos hlen] at hG ⊢
          obtain ⟨u1, u2, u3⟩ := untie_nodes h4 h1 h2 h3
          refine Grow.nodes (k := k) hG (fun j hj => (u1 j hj).trans (h5 j hj)) hk (fun q => ?_) (fun i => ?_)
          · exfalso
            unfold Fs.fld Fs.nd at q
            rw [if_neg (by omega), slotOf_eq, u2] at q
            cases q
          · show dirE i (Fs.untieS _ _).dirs = _
            rw [u3]
            exact hdr i
        · rw [if_neg hlen] at hG ⊢
          exact Grow.named (s2 := ((s.setNd k (freshNd 3)).writeS k (freshNd 3) 0 t).2) hG h5 hk (fun q => by rw [hkd] at q; cases q) (fun i => .inl (hdr i)) hd rfl hnm hf
  · rw [if_pos he]; exact Grow.refl h
theorem grow_mk1 (h : Gen s) (m : MadeR) : Grow s (mk1 s m) := by
  unfold mk1
  split
  · unfold Fs.slinkS
    split
    · exact Grow.refl h
    split
    · exact Grow.refl h
    · exact grow_link h 1 m.path m.to (by omega)
  · split
    · exact grow_mkdir h 1 m.path
    · exact grow_make h 1 m.path
end
/-- TrN, as a question, of the tree that all begin with -/
def nmB (t : List UInt8) : Bool := decide (t.length ≤ 32) && t != [] && t != dotL && t != dotsL && t.all (fun c => c != 47)
theorem nmB_ok {t : List UInt8} (h : nmB t = true) : NmOk t := by
  unfold nmB at h
  simp only [Bool.and_eq_true, bne_iff_ne, decide_eq_true_eq, List.all_eq_true] at h
  obtain ⟨⟨⟨⟨a, b⟩, c⟩, d⟩, e⟩ := h
  exact ⟨a, b, c, d, fun hm => e 47 hm rfl⟩
def beginB : Bool := trB0 beginS
where trB0 (s : Fs) : Bool :=
  ((List.range s.nodes.length).all fun k => match s.nodes[k]? with
    | some (some x) => x.kind != 2 || (s.dr ((k : Int) + 1)).isSome
    | _ => true) && (s.dirs.all fun e => decide (e.2.1.names.es.length ≤ 6) && e.2.1.names.es.all fun x => nmB (nameOf x)) && (s.fld Nd.kind 1 == 2) &&
  (match s.dr 1 with
    | some d1 => (match d1.name [100] with
      | some n => s.fld Nd.kind n == 2
      | none => false)
    | none => false)
theorem begin_ok : beginB = true := by kernel_rfl
theorem begin_trn (hG : Gen beginS) : TrN 6 beginS := by
  have h := begin_ok
  unfold beginB beginB.trB0 at h
  simp only [Bool.and_eq_true] at h
  obtain ⟨⟨⟨h1, h2⟩, h3⟩, h4⟩ := h
  rw [List.all_eq_true] at h1 h2
  have hd : ∀ i d, beginS.dr i = some d → d.names.es.length ≤ 6 ∧ ∀ e ∈ d.names.es, nmB (nameOf e) = true := fun i d hi => by
    obtain ⟨n, hn⟩ := dirE_mem hi
    have := h2 _ hn
    rw [Bool.and_eq_true, List.all_eq_true] at this
    exact ⟨of_decide_eq_true this.1, this.2⟩
  refine ⟨hG, fun i hi => ?_, fun i d hi => (hd i d hi).1, fun i d hi e he => nmB_ok ((hd i d hi).2 e he), by simpa using h3, ?_⟩
  · unfold Fs.fld at hi
    cases hn : beginS.nd i with
    | none => rw [hn] at hi; cases hi
    | some x =>
      rw [hn] at hi
      obtain ⟨q3, q4, q5⟩ := Fs.nd_slot hn
      have := h1 (slotOf i) (by rw [List.mem_range]; unfold slotOf; omega)
      rw [q5] at this
      have e : ((slotOf i : Nat) : Int) + 1 = i := by unfold slotOf; omega
      rw [e] at this
      have hi' : x.kind = 2 := hi
      simpa [hi'] using this
  · cases hdr : beginS.dr 1 with
    | none => rw [hdr] at h4; cases h4
    | some d1 =>
      rw [hdr] at h4
      dsimp only at h4
      cases hnm : d1.name [100] with
      | none => rw [hnm] at h4; cases h4
      | some n => rw [hnm] at h4; exact ⟨d1, n, rfl, hnm, by simpa using h4⟩
theorem tree_trn (hG : Gen beginS) : ∀ (L : List MadeR) (N : Nat) (s : Fs), TrN N s → TrN (N + L.length) (L.foldl mk1 s)
  | [], N, s, h => h
  | m :: L, N, s, h => by
    have := tree_trn hG L (N + 1) (mk1 s m) (h.grow (grow_mk1 h.gen m))
    rw [List.foldl_cons, List.length_cons, show N + (L.length + 1) = N + 1 + L.length by omega]
    exact this
theorem treeS_trn (hG : Gen beginS) (L : List MadeR) : TrN (6 + L.length) (treeS L) := tree_trn hG L 6 beginS (begin_trn hG)
end Go.Proofs.YtggdedihfhibfaaGreatDoor
/- PathsNames, plain: what a pattern without strokes comes to. No program's text. -/
namespace Go.Proofs.YtggdedihfhibfaaGreatDoor
open Go.RowKit IntWalk
set_option linter.unusedVariables false
set_option linter.unusedSimpArgs false

theorem gen_begin : Gen beginS := by
  unfold beginS
  exact (((((((Gen.new0.mkdirS 1 _).slinkS 1 _ _).slinkS 1 _ _).makeS 1 _).nputS _ _ (by decide)).makeS 1 _).nputS _ _ (by decide) |>.makeS 1 _).nputS _ _ (by decide)
section
variable {s : Fs} {N : Nat}
theorem TrN.dir1 (h : TrN N s) : ∃ d, s.dirOf 1 = some d ∧ s.dr 1 = some d := by
  obtain ⟨d, hd⟩ := Option.isSome_iff_exists.1 (h.dir 1 h.root)
  exact ⟨d, by unfold Fs.dirOf; rw [if_pos h.root, hd], hd⟩
theorem walk_dot {dir : Int} {d : Dr} (hd : s.dirOf dir = some d) (f : Bool) : s.walkS dir [46] f = (dir, 0) := by
  unfold Fs.walkS
  rw [hd]
  have h1 : s.goesS 9 dir [46] f 0 = (dir, 0, 0) := by
    unfold Fs.goesS
    rw [if_neg (by simp), if_neg (by simp)]
    have hc : cutP (fromS dir [46]).2 = [[46]] := rfl
    have hf : (fromS dir [46]).1 = dir := rfl
    rw [hc, hf]
    unfold Fs.partsS
    have hp : s.partS (fun a p k => s.goesS 8 a p true k) dir [46] (f || !([] : List (List UInt8)).isEmpty) 0 = (dir, 0, 0) := by
      unfold Fs.partS
      rw [hd]
      dsimp only
      rw [if_pos (.inr rfl)]
    rw [hp]
    rfl
  rw [h1]
theorem get_mem {m : GMap} (h : NamesOk m) {e : Key × Value × Nat} (he : e ∈ m.es) : ∃ n, (Dr.mk m 0).name (nameOf e) = some n := by
  obtain ⟨t, b, e1, e2⟩ := h.ints e he
  have hn : nameOf e = t := by unfold nameOf; rw [e1]
  rw [hn]
  rcases h.name t with ⟨hg, _⟩ | ⟨n, _, hnn⟩
  · exact absurd e1 (getE_none.1 hg e he)
  · exact ⟨n, hnn 0⟩
theorem walk_name {dir : Int} {d : Dr} (hd : s.dirOf dir = some d) {t : List UInt8} (ht : NmOk t) {n : Int} (hn : d.name t = some n) : s.walkS dir t false = (n, 0) := by
  unfold Fs.walkS
  rw [hd]
  have h1 : s.goesS 9 dir t false 0 = (n, 0, 0) := by
    unfold Fs.goesS
    rw [if_neg ht.ne, if_neg (by have := ht.len; omega)]
    have hf : fromS dir t = (dir, t) := by
      unfold fromS
      cases t with
      | nil => rfl
      | cons c r =>
        by_cases hc : c = 47
        · subst hc; exact absurd (by simp) ht.stroke
        · split
          · rename_i heq; cases heq; exact absurd rfl hc
          · rfl
    rw [hf, cutP_none t ht.stroke]
    unfold Fs.partsS
    have hp : s.partS (fun a p k => s.goesS 8 a p true k) dir t (false || !([] : List (List UInt8)).isEmpty) 0 = (n, 0, 0) := by
      unfold Fs.partS
      rw [hd]
      dsimp only
      rw [if_neg (fun q => q.elim ht.ne ht.dot), if_neg ht.dots, if_neg (by have := ht.len; omega), hn]
      dsimp only
      rw [if_pos (.inr rfl)]
    rw [hp]
    rfl
  rw [h1]
theorem list_mem (h : TrN N s) (hOk : s.Ok) {t : List UInt8} (ht : t ∈ s.listS 1) : NmOk t ∧ s.isS 1 t = true := by
  obtain ⟨d, hd, hdr⟩ := h.dir1
  have hk := h.root
  unfold Fs.fld at hk
  cases hn : s.nd 1 with
  | none => rw [hn] at hk; cases hk
  | some x =>
    rw [hn] at hk
    unfold Fs.listS at ht
    rw [hn] at ht
    dsimp only at ht hk
    rw [if_pos hk, hdr] at ht
    obtain ⟨e, he, rfl⟩ := List.mem_map.1 ((sortS_perm _).mem_iff.1 ht)
    have hnm := h.name 1 d hdr e he
    obtain ⟨n, hn2⟩ := get_mem (names_ok hOk hdr) he
    refine ⟨hnm, ?_⟩
    unfold Fs.isS
    rw [walk_name hd hnm (n := n) hn2]
    rfl
end
theorem many_false : ∀ i, manyS (fun _ => false) i = false
  | 0 => rfl
  | i + 1 => by unfold manyS; rw [many_false i]; rfl
theorem step_false (s : List UInt8) (t : GTok) : stepS s (fun _ => false) t = fun _ => false := by
  funext i
  unfold stepS
  split
  · exact many_false i
  · cases i with
    | zero => rfl
    | succ i => unfold oneS; simp
theorem fold_false (s : List UInt8) : ∀ L : List GTok, L.foldl (stepS s) (fun _ => false) = fun _ => false
  | [] => rfl
  | t :: L => by rw [List.foldl_cons, step_false, fold_false s L]
/-- a pattern that begins with a byte fits names alone that begin with it -/
theorem match_first {t0 : GTok} {L : List GTok} {c : UInt8} {n : List UInt8} (h : matchS (t0 :: L) (c :: n) = true) (hk : t0.k = 1) : t0.c = c := by
  by_cases hc : t0.c = c
  · exact hc
  · exfalso
    have h1 : stepS (c :: n) (fun i => i == 0) t0 = fun _ => false := by
      funext i
      unfold stepS
      rw [if_neg (by omega)]
      cases i with
      | zero => rfl
      | succ i =>
        unfold oneS
        cases i with
        | zero =>
          have : hasS t0 (atB (c :: n) 0) = false := by show hasS t0 c = false; unfold hasS; rw [if_pos hk]; simpa using hc
          simp [this]
        | succ i => simp
    unfold matchS reachS at h
    rw [List.foldl_cons, h1, fold_false] at h
    cases h
/-- the law's own choice -/
def picksS (L : List GTok) (n : List UInt8) : Bool := matchS L n && (n.head? != some 46 || (match L with
  | t :: _ => t.k == 1
  | [] => false))
theorem picks_fits {L : List GTok} {n : List UInt8} (hL : L ≠ []) (hn : n ≠ []) : fitsS L n = picksS L n := by
  obtain ⟨t0, tr, rfl⟩ : ∃ t r, L = t :: r := by cases L with | nil => exact absurd rfl hL | cons t r => exact ⟨t, r, rfl⟩
  obtain ⟨c, r, rfl⟩ : ∃ c r, n = c :: r := by cases n with | nil => exact absurd rfl hn | cons c r => exact ⟨c, r, rfl⟩
  unfold fitsS picksS hiddenS
  dsimp only [List.head?]
  cases hm : matchS (t0 :: tr) (c :: r) with
  | false => simp
  | true =>
    by_cases hc : c = 46
    · by_cases hk : t0.k = 1
      · have := match_first hm hk
        simp [hc, hk, this]
      · simp [hc, hk]
    · have e1 : (c == 46) = false := by simpa using hc
      have e2 : (some c != some (46 : UInt8)) = true := by simpa using hc
      simp [e1, e2]
def wantS (s : Fs) (x : List UInt8) (q : List Bool) : List (List UInt8) :=
  endsX x (if specialS (parseS x q) then (s.listS 1).filter (picksS (parseS x q)) else [])
where endsX (x : List UInt8) (l : List (List UInt8)) : List (List UInt8) := if l = [] then [x] else l
theorem expand_want {s : Fs} {N : Nat} (h : TrN N s) (hN : N ≤ 100) (hOk : s.Ok) (x : List UInt8) (q : List Bool) (hx : (47 : UInt8) ∉ x) : s.expandS 1 x q = wantS s x q := by
  have hc : cutP x = [x] := cutP_none x hx
  have hp : piecesS [x] q = [⟨x, parseS x q⟩] := rfl
  unfold Fs.expandS wantS
  rw [hc, hp]
  have ha : anyS [⟨x, parseS x q⟩] = specialS (parseS x q) := by unfold anyS; simp
  rw [ha]
  cases hsp : specialS (parseS x q) with
  | false => rfl
  | true =>
    rw [if_pos rfl, if_pos rfl]
    obtain ⟨d, hd, hdr⟩ := h.dir1
    have hfit : s.nextS 1 true ⟨x, parseS x q⟩ [[]] = (s.listS 1).filter (picksS (parseS x q)) := by
      unfold Fs.nextS
      rw [List.flatMap_cons, List.flatMap_nil, List.append_nil]
      unfold Fs.moreS
      dsimp only
      rw [hsp, if_pos rfl]
      have he : onS true [] = [] := rfl
      rw [he]
      unfold Fs.fitS
      have hl : lookS [] = [46] := rfl
      rw [hl, walk_dot hd, if_pos rfl]
      rw [show (([] : List UInt8) ++ ·) = id from by funext y; rfl, List.map_id]
      exact List.filter_congr fun n hn => picks_fits (special_ne hsp) (list_mem h hOk hn).1.ne
    have hlen : ¬ 256 < ((s.listS 1).filter (picksS (parseS x q))).length := by
      have := List.length_filter_le (picksS (parseS x q)) (s.listS 1)
      have := (list_len (h.tr hN) 1).1
      omega
    unfold Fs.beginsS
    rw [hfit, if_neg hlen]
    unfold Fs.beginsS
    dsimp only
    have hall : ((s.listS 1).filter (picksS (parseS x q))).filter (s.isS 1) = (s.listS 1).filter (picksS (parseS x q)) :=
      List.filter_eq_self.2 fun n hn => (list_mem h hOk (List.mem_filter.1 hn).1).2
    rw [hall]
    unfold endsS wantS.endsX
    split
    · rfl
    · refine sortS_id (List.Pairwise.filter _ ?_)
      unfold Fs.listS
      cases s.nd 1 with
      | none => exact List.Pairwise.nil
      | some y =>
        dsimp only
        split
        · cases s.dr 1 with
          | none => exact List.Pairwise.nil
          | some d => exact sortS_pairwise _
        · exact List.Pairwise.nil
end Go.Proofs.YtggdedihfhibfaaGreatDoor
/- PathsBelow, plain: what a field fits below a directory. No program's text. -/
namespace Go.Proofs.YtggdedihfhibfaaGreatDoor
open Go.RowKit IntWalk
set_option linter.unusedVariables false
set_option linter.unusedSimpArgs false

def D2 : List UInt8 := [100, 47]
def onto (b : List UInt8) : List UInt8 := D2 ++ b
/-- what may be walked from a directory -/
structure GoodB (b : List UInt8) (n : Nat) : Prop where
  ne : b ≠ []
  head : b.head? ≠ some 47
  len : b.length ≤ n
theorem leS_onto (a b : List UInt8) : leS (onto a) (onto b) = leS a b := by
  unfold leS onto D2
  rw [decide_eq_decide]
  show (100 :: 47 :: a ≤ 100 :: 47 :: b) ↔ a ≤ b
  rw [List.cons_le_cons_iff, List.cons_le_cons_iff]
  constructor
  · rintro (h | ⟨_, h | ⟨_, h⟩⟩)
    · exact absurd h (UInt8.lt_irrefl _)
    · exact absurd h (UInt8.lt_irrefl _)
    · exact h
  · exact fun h => .inr ⟨rfl, .inr ⟨rfl, h⟩⟩
theorem insS_map (x : List UInt8) : ∀ l : List (List UInt8), insS (onto x) (l.map onto) = (insS x l).map onto
  | [] => rfl
  | y :: l => by
    rw [List.map_cons]
    unfold insS
    rw [leS_onto]
    split
    · rfl
    · rw [insS_map x l]; rfl
theorem sortS_map : ∀ l : List (List UInt8), sortS (l.map onto) = (sortS l).map onto
  | [] => rfl
  | x :: l => by
    show insS (onto x) (sortS (l.map onto)) = (insS x (sortS l)).map onto
    rw [sortS_map l, insS_map]
section
variable {s : Fs} {N : Nat}
theorem list_nm (h : TrN N s) {i : Int} {t : List UInt8} (ht : t ∈ s.listS i) : NmOk t := by
  unfold Fs.listS at ht
  cases hn : s.nd i with
  | none => rw [hn] at ht; cases ht
  | some x =>
    rw [hn] at ht
    dsimp only at ht
    by_cases hk : x.kind = 2
    · rw [if_pos hk] at ht
      cases hdr : s.dr i with
      | none => rw [hdr] at ht; cases ht
      | some d =>
        rw [hdr] at ht
        obtain ⟨e, he, rfl⟩ := List.mem_map.1 ((sortS_perm _).mem_iff.1 ht)
        exact h.name i d hdr e he
    · rw [if_neg hk] at ht; cases ht
/-- where d is -/
structure DAt (s : Fs) (dn : Int) (d1 d2 : Dr) : Prop where
  o1 : s.dirOf 1 = some d1
  nm : d1.name [100] = some dn
  kind : s.fld Nd.kind dn = 2
  o2 : s.dirOf dn = some d2
theorem TrN.dat (h : TrN N s) : ∃ dn d1 d2, DAt s dn d1 d2 := by
  obtain ⟨d1, n, h1, h2, h3⟩ := h.d
  obtain ⟨d, hd, hdr⟩ := h.dir1
  rw [h1] at hdr
  cases hdr
  obtain ⟨d2, hd2⟩ := Option.isSome_iff_exists.1 (h.dir n h3)
  exact ⟨n, d1, d2, hd, h2, h3, by unfold Fs.dirOf; rw [if_pos h3, hd2]⟩
variable {dn : Int} {d1 d2 : Dr}
theorem part_d (h : DAt s dn d1 d2) (go : Int → List UInt8 → Nat → Int × Int × Nat) (f : Bool) : s.partS go 1 [100] f 0 = (dn, 0, 0) := by
  unfold Fs.partS
  rw [h.o1]
  dsimp only
  rw [if_neg (by decide), if_neg (by decide), if_neg (by decide), h.nm]
  dsimp only
  rw [if_pos (.inl (by rw [h.kind]; decide))]
theorem walk_d (h : DAt s dn d1 d2) (f : Bool) : s.walkS 1 [100] f = (dn, 0) := by
  unfold Fs.walkS
  rw [h.o1]
  have h1 : s.goesS 9 1 [100] f 0 = (dn, 0, 0) := by
    unfold Fs.goesS
    rw [if_neg (by simp), if_neg (by simp)]
    have hc : cutP (fromS 1 [100]).2 = [[100]] := rfl
    have hf : (fromS 1 [100]).1 = 1 := rfl
    rw [hc, hf]
    unfold Fs.partsS
    rw [part_d h]
    rfl
  rw [h1]
theorem walk_below (h : DAt s dn d1 d2) {b : List UInt8} (hb : GoodB b 254) (f : Bool) : s.walkS 1 (onto b) f = s.walkS dn b f := by
  unfold Fs.walkS
  rw [h.o1, h.o2]
  dsimp only
  have hlen := hb.len
  have hc : cutP (onto b) = [100] :: cutP b := cutP_some [100] b (by decide)
  have hfr : fromS dn b = (dn, b) := by
    unfold fromS
    cases b with
    | nil => rfl
    | cons c r =>
      split
      · rename_i heq; cases heq; exact absurd rfl hb.head
      · rfl
  have hgo : ∃ go : Int → List UInt8 → Nat → Int × Int × Nat, go = fun a p k => s.goesS 8 a p true k := ⟨_, rfl⟩
  obtain ⟨go, hgo⟩ := hgo
  have e1 : s.goesS 9 1 (onto b) f 0 = s.partsS go f dn (cutP b) 0 := by
    unfold Fs.goesS
    rw [← hgo, if_neg (by unfold onto D2; simp), if_neg (by unfold onto D2; simp; omega)]
    have hf1 : fromS 1 (onto b) = (1, onto b) := rfl
    rw [hf1, hc]
    show s.partsS go f 1 ([100] :: cutP b) 0 = _
    rw [Fs.partsS, part_d h]
    rfl
  have e2 : s.goesS 9 dn b f 0 = s.partsS go f dn (cutP b) 0 := by
    unfold Fs.goesS
    rw [← hgo, if_neg hb.ne, if_neg (by omega), hfr]
  rw [e1, e2]
theorem walk_stroke (h : DAt s dn d1 d2) (f : Bool) : s.walkS 1 (onto []) f = (dn, 0) := by
  unfold Fs.walkS
  rw [h.o1]
  have h1 : s.goesS 9 1 (onto []) f 0 = (dn, 0, 0) := by
    unfold Fs.goesS
    rw [if_neg (by unfold onto D2; simp), if_neg (by unfold onto D2; simp)]
    have hc : cutP (fromS 1 (onto [])).2 = [[100], []] := rfl
    have hf : (fromS 1 (onto [])).1 = 1 := rfl
    rw [hc, hf]
    unfold Fs.partsS
    rw [part_d h]
    show s.partsS _ f dn [[]] 0 = _
    unfold Fs.partsS
    have hp : s.partS (fun a p k => s.goesS 8 a p true k) dn [] (f || !([] : List (List UInt8)).isEmpty) 0 = (dn, 0, 0) := by
      unfold Fs.partS
      rw [h.o2]
      dsimp only
      rw [if_pos (.inl rfl)]
    rw [hp]
    rfl
  rw [h1]
theorem fit_below (h : DAt s dn d1 d2) (L : List GTok) {b : List UInt8} (hb : b = [] ∨ GoodB b 254) : s.fitS 1 L (onto b) = s.fitS dn L b := by
  have hl : lookS (onto b) = onto b := by unfold lookS; rw [if_neg (by unfold onto D2; simp)]
  unfold Fs.fitS
  rw [hl]
  rcases hb with rfl | hb
  · rw [walk_stroke h, show lookS [] = [46] from rfl, walk_dot h.o2]
  · rw [show lookS b = b by unfold lookS; rw [if_neg hb.ne], walk_below h hb]
theorem more_below (h : DAt s dn d1 d2) (p : PartS) {b : List UInt8} (hb : b = [] ∨ GoodB b 254) : s.moreS 1 p (onto b) = (s.moreS dn p b).map onto := by
  unfold Fs.moreS
  split
  · rw [fit_below h p.toks hb, List.map_map]
    refine List.map_congr_left fun y _ => ?_
    show onto b ++ y = onto (b ++ y)
    unfold onto; rw [List.append_assoc]
  · show [onto b ++ p.text] = [onto (b ++ p.text)]
    unfold onto; rw [List.append_assoc]
theorem head_app {b c : List UInt8} (hb : b ≠ []) : (b ++ c).head? = b.head? := by
  cases b with
  | nil => exact absurd rfl hb
  | cons x r => rfl
theorem more_good (h : TrN N s) (p : PartS) (hp : p.text.length ≤ 32) {b : List UInt8} {n : Nat} (hb : GoodB b n) : ∀ y ∈ s.moreS dn p b, GoodB y (n + 32) := by
  have hlen := hb.len
  intro y hy
  unfold Fs.moreS at hy
  split at hy
  · obtain ⟨z, hz, rfl⟩ := List.mem_map.1 hy
    have hzl : z.length ≤ 32 := by
      unfold Fs.fitS at hz
      split at hz
      · exact (list_nm h (List.mem_filter.1 hz).1).len
      · cases hz
    exact ⟨by simp [hb.ne], by rw [head_app hb.ne]; exact hb.head, by rw [List.length_append]; omega⟩
  · simp at hy
    subst hy
    exact ⟨by simp [hb.ne], by rw [head_app hb.ne]; exact hb.head, by rw [List.length_append]; omega⟩
theorem begins_below (h : TrN N s) (hd : DAt s dn d1 d2) : ∀ (ps : List PartS) (bs : List (List UInt8)) (k : Nat), (∀ p ∈ ps, p.text.length ≤ 32) → (∀ b ∈ bs, GoodB b (33 * k)) → k + ps.length ≤ 7 →
    s.beginsS 1 false ps (bs.map onto) = (s.beginsS dn false ps bs).map (List.map onto) ∧ ∀ r, s.beginsS dn false ps bs = some r → ∀ b ∈ r, GoodB b 254
  | [], bs, k, _, hb, hk => ⟨rfl, fun r hr b hm => by
      cases hr
      have := hb b hm
      simp only [List.length_nil] at hk
      exact ⟨this.ne, this.head, by have := this.len; omega⟩⟩
  | p :: ps, bs, k, hp, hb, hk => by
    simp only [List.length_cons] at hk
    have hnx : s.nextS 1 false p (bs.map onto) = (s.nextS dn false p bs).map onto := by
      unfold Fs.nextS
      rw [List.flatMap_map, List.map_flatMap]
      have key : ∀ b ∈ bs, s.moreS 1 p (onS false (onto b)) = (s.moreS dn p (onS false b)).map onto := fun b hm => by
        have hg := hb b hm
        have := more_below (b := b ++ [47]) hd p (.inr ⟨by simp, by rw [head_app hg.ne]; exact hg.head, by rw [List.length_append]; have := hg.len; simp; omega⟩)
        show s.moreS 1 p (onto b ++ [47]) = _
        rw [show onto b ++ [47] = onto (b ++ [47]) by unfold onto; rw [List.append_assoc]]
        exact this
      clear hb
      induction bs with
      | nil => rfl
      | cons b bs ih => rw [List.flatMap_cons, List.flatMap_cons, key b (by simp), ih (fun c hc => key c (List.mem_cons_of_mem _ hc))]
    have hgood : ∀ y ∈ s.nextS dn false p bs, GoodB y (33 * (k + 1)) := fun y hy => by
      unfold Fs.nextS at hy
      obtain ⟨b, hm, hy⟩ := List.mem_flatMap.1 hy
      have hg := hb b hm
      have h2 := more_good h p (hp p (by simp)) (b := b ++ [47]) (n := 33 * k + 1) ⟨by simp, by rw [head_app hg.ne]; exact hg.head, by rw [List.length_append]; have := hg.len; simp; omega⟩ y hy
      exact ⟨h2.ne, h2.head, by have := h2.len; omega⟩
    obtain ⟨i1, i2⟩ := begins_below h hd ps (s.nextS dn false p bs) (k + 1) (fun q hq => hp q (List.mem_cons_of_mem _ hq)) hgood (by omega)
    have hl1 : (s.nextS 1 false p (bs.map onto)).length = (s.nextS dn false p bs).length := by rw [hnx, List.length_map]
    unfold Fs.beginsS
    rw [hl1]
    by_cases h256 : 256 < (s.nextS dn false p bs).length
    · rw [if_pos h256, if_pos h256]
      exact ⟨rfl, fun r hr => by cases hr⟩
    · rw [if_neg h256, if_neg h256, hnx]
      exact ⟨i1, i2⟩
theorem cutP_head {c : UInt8} {t : List UInt8} (hc : c ≠ 47) : ∃ y r, cutP (c :: t) = (c :: y) :: r := by
  unfold cutP
  rw [if_neg hc]
  cases h : cutP t with
  | nil => exact absurd h (cutP_ne t)
  | cons y r => exact ⟨y, r, rfl⟩
theorem pieces_text : ∀ (l : List (List UInt8)) (q : List Bool), ∀ p ∈ piecesS l q, p.text ∈ l
  | [], q, p, hp => by cases hp
  | y :: l, q, p, hp => by
    rcases List.mem_cons.1 (show p ∈ ⟨y, parseS y q⟩ :: piecesS l (q.drop (y.length + 1)) from hp) with rfl | hp
    · simp
    · exact List.mem_cons_of_mem _ (pieces_text l _ p hp)
theorem ends_len {x : List UInt8} {l : List (List UInt8)} {n : Nat} (hx : x.length ≤ n) (hl : ∀ b ∈ l, b.length ≤ n) : ∀ y ∈ endsS x l, y.length ≤ n := by
  intro y hy
  unfold endsS at hy
  split at hy
  · have hy' : y = x := List.mem_singleton.1 hy
    rw [hy']; exact hx
  · exact hl y ((sortS_perm l).mem_iff.1 hy)
theorem expand_below (h : TrN N s) (hd : DAt s dn d1 d2) (x : List UInt8) (q : List Bool) (hx : x.length ≤ 30) (hc : x.count 47 ≤ 4) (h47 : x.head? ≠ some 47) :
    s.expandS 1 (onto x) (false :: false :: q) = (s.expandS dn x q).map onto ∧ ∀ y ∈ s.expandS dn x q, y.length ≤ 300 := by
  have hcut : cutP (onto x) = [100] :: cutP x := cutP_some [100] x (by decide)
  have hp0 : piecesS ([100] :: cutP x) (false :: false :: q) = ⟨[100], parseS [100] (false :: false :: q)⟩ :: piecesS (cutP x) q := rfl
  have hs0 : specialS (parseS [100] (false :: false :: q)) = false := rfl
  have ha : anyS (⟨[100], parseS [100] (false :: false :: q)⟩ :: piecesS (cutP x) q) = anyS (piecesS (cutP x) q) := by
    unfold anyS
    rw [List.any_cons, hs0, Bool.false_or]
  unfold Fs.expandS
  rw [hcut, hp0, ha]
  cases hany : anyS (piecesS (cutP x) q) with
  | false => exact ⟨rfl, fun y hy => by have hy' : y = x := List.mem_singleton.1 hy; subst hy'; omega⟩
  | true =>
    rw [if_pos rfl, if_pos rfl]
    have hxne : x ≠ [] := by
      rintro rfl
      exact Bool.noConfusion (show false = true from hany)
    obtain ⟨c, t, rfl⟩ : ∃ c t, x = c :: t := by cases x with | nil => exact absurd rfl hxne | cons c t => exact ⟨c, t, rfl⟩
    have hc47 : c ≠ 47 := fun e => h47 (by rw [e]; rfl)
    have htext : ∀ p ∈ piecesS (cutP (c :: t)) q, p.text.length ≤ 32 := fun p hp => by
      have := cutP_mem (pieces_text _ _ p hp); omega
    have hplen : (piecesS (cutP (c :: t)) q).length ≤ 5 := by rw [piecesS_len, cutP_len]; omega
    obtain ⟨y, r, hyr⟩ := cutP_head (t := t) hc47
    rw [hyr] at htext hplen ⊢
    have hpc : piecesS ((c :: y) :: r) q = ⟨c :: y, parseS (c :: y) q⟩ :: piecesS r (q.drop ((c :: y).length + 1)) := rfl
    rw [hpc] at htext hplen ⊢
    generalize piecesS r (q.drop ((c :: y).length + 1)) = ps at htext hplen ⊢
    generalize hp1 : (⟨c :: y, parseS (c :: y) q⟩ : PartS) = p1 at htext hplen ⊢
    -- the first part, d
    have hstep0 : s.beginsS 1 true (⟨[100], parseS [100] (false :: false :: q)⟩ :: p1 :: ps) [[]] = s.beginsS 1 false (p1 :: ps) [[100]] := by
      conv => lhs; unfold Fs.beginsS
      have hn : s.nextS 1 true ⟨[100], parseS [100] (false :: false :: q)⟩ [[]] = [[100]] := by
        unfold Fs.nextS
        rw [List.flatMap_cons, List.flatMap_nil, List.append_nil]
        unfold Fs.moreS
        dsimp only
        rw [hs0]
        rfl
      rw [hn, if_neg (by decide)]
    rw [hstep0]
    have hn1 : s.nextS 1 false p1 [[100]] = (s.nextS dn true p1 [[]]).map onto := by
      unfold Fs.nextS
      rw [List.flatMap_cons, List.flatMap_nil, List.append_nil, List.flatMap_cons, List.flatMap_nil, List.append_nil]
      exact more_below hd p1 (b := []) (.inl rfl)
    have hg1 : ∀ b ∈ s.nextS dn true p1 [[]], GoodB b (33 * 1) := fun b hb => by
      unfold Fs.nextS at hb
      rw [List.flatMap_cons, List.flatMap_nil, List.append_nil] at hb
      unfold Fs.moreS at hb
      split at hb
      · obtain ⟨z, hz, rfl⟩ := List.mem_map.1 hb
        have hzn : NmOk z := by
          unfold Fs.fitS at hz
          split at hz
          · exact list_nm h (List.mem_filter.1 hz).1
          · cases hz
        have he : onS true [] ++ z = z := rfl
        rw [he]
        exact ⟨hzn.ne, fun e => hzn.stroke (List.mem_of_mem_head? e), by have := hzn.len; omega⟩
      · simp at hb
        have hb' : b = c :: y := by rw [hb, ← hp1]; rfl
        have hl := htext p1 (by simp)
        rw [← hp1] at hl
        subst hb'
        exact ⟨by simp, by simpa using hc47, by dsimp only at hl; omega⟩
    have hlen1 : (s.nextS 1 false p1 [[100]]).length = (s.nextS dn true p1 [[]]).length := by rw [hn1, List.length_map]
    obtain ⟨k1, k2⟩ := begins_below h hd ps (s.nextS dn true p1 [[]]) 1 (fun p hp => htext p (List.mem_cons_of_mem _ hp)) hg1 (by simp only [List.length_cons] at hplen; omega)
    have hA : s.beginsS 1 false (p1 :: ps) [[100]] = (s.beginsS dn true (p1 :: ps) [[]]).map (List.map onto) ∧ ∀ r, s.beginsS dn true (p1 :: ps) [[]] = some r → ∀ b ∈ r, GoodB b 254 := by
      unfold Fs.beginsS
      rw [hlen1]
      by_cases h256 : 256 < (s.nextS dn true p1 [[]]).length
      · rw [if_pos h256, if_pos h256]
        exact ⟨rfl, fun r hr => by cases hr⟩
      · rw [if_neg h256, if_neg h256, hn1]
        exact ⟨k1, k2⟩
    rw [hA.1]
    cases hB : s.beginsS dn true (p1 :: ps) [[]] with
    | none => exact ⟨rfl, fun y hy => by have hy' : y = c :: t := List.mem_singleton.1 hy; subst hy'; omega⟩
    | some bs =>
      have hgd := hA.2 bs hB
      refine ⟨?_, fun y hy => ends_len (by omega) (fun b hb => by have := (hgd b (List.mem_filter.1 hb).1).len; omega) y hy⟩
      show endsS (onto (c :: t)) ((bs.map onto).filter (s.isS 1)) = (endsS (c :: t) (bs.filter (s.isS dn))).map onto
      have hf : (bs.map onto).filter (s.isS 1) = (bs.filter (s.isS dn)).map onto := by
        rw [List.filter_map]
        refine congrArg (List.map onto) (List.filter_congr fun b hb => ?_)
        show ((s.walkS 1 (onto b) false).2 == 0) = ((s.walkS dn b false).2 == 0)
        rw [walk_below hd (hgd b hb)]
      rw [hf]
      unfold endsS
      by_cases hz : bs.filter (s.isS dn) = []
      · rw [hz]; rfl
      · rw [if_neg hz, if_neg (by simpa using hz), sortS_map]
end
end Go.Proofs.YtggdedihfhibfaaGreatDoor
/- names.FS.Print, plain: what of a tree is told, and how long it may be. No program's text. -/
namespace Go.Proofs.YtggdedihfhibfaaGreatDoor
open Go.RowKit IntWalk
set_option linter.unusedVariables false
set_option linter.unusedSimpArgs false

def Fs.childS (s : Fs) (i : Int) (t : List UInt8) : Int := match s.dr i with
  | some d => (d.name t).getD 0
  | none => 0
/-- what a file holds -/
def Fs.fileS (s : Fs) (i : Int) : List UInt8 := if fileE (s.fld Nd.kind i) = 0 then (match s.nd i with
  | some x => s.bytes x 0 x.size.toNat
  | none => []) else []
/-- a name's line, and what is below it -/
def Fs.entS (s : Fs) (go : Int → List UInt8 → List UInt8) (dir : Int) (path t : List UInt8) : List UInt8 :=
  if s.fld Nd.kind (s.childS dir t) = 2 then (path ++ [47] ++ t ++ [47, 10]) ++ go (s.childS dir t) (path ++ [47] ++ t)
  else if s.fld Nd.kind (s.childS dir t) = 3 then path ++ [47] ++ t ++ [32, 45, 62, 32] ++ s.link (s.childS dir t) ++ [10]
  else path ++ [47] ++ t ++ [32] ++ Lib.itoa (s.fileS (s.childS dir t)).length ++ [10] ++ s.fileS (s.childS dir t) ++ [10]
/-- all that can be reached from a directory; the first number: how deep at most -/
def Fs.printS (s : Fs) : Nat → Int → List UInt8 → List UInt8
  | 0, _, _ => []
  | f + 1, dir, path => (s.listS dir).flatMap (s.entS (s.printS f) dir path)
/-- every entry has a rank, below its directory's -/
structure Rk (s : Fs) (b : Nat) (rk : Int → Nat) : Prop where
  live : ∀ i d t x, s.dr i = some d → d.name t = some x → s.fld Nd.kind x ≠ 0
  low : ∀ i d t x, s.dr i = some d → d.name t = some x → rk x < rk i
  inj : ∀ i d t t' x x', s.dr i = some d → d.name t = some x → d.name t' = some x' → rk x = rk x' → t = t'
  lo1 : ∀ i d, s.dr i = some d → b ≤ rk i
  lo2 : ∀ i d t x, s.dr i = some d → d.name t = some x → b ≤ rk x
/-- sums of powers of distinct numbers -/
def powS : List Nat → Nat
  | [] => 0
  | a :: l => 2 ^ a + powS l
theorem powS_perm {l l' : List Nat} (h : l.Perm l') : powS l = powS l' := by
  induction h with
  | nil => rfl
  | cons a _ ih => simp only [powS, ih]
  | swap a b l => simp only [powS]; omega
  | trans _ _ ih1 ih2 => exact ih1.trans ih2
theorem powS_le : ∀ (m : Nat) (l : List Nat), l.Nodup → (∀ a ∈ l, a < m) → powS l + 1 ≤ 2 ^ m
  | 0, l, _, h => by
    cases l with
    | nil => simp [powS]
    | cons a l => exact absurd (h a (by simp)) (by omega)
  | m + 1, l, hn, h => by
    have h2 : 2 ^ (m + 1) = 2 ^ m + 2 ^ m := by rw [Nat.pow_succ]; omega
    by_cases hm : m ∈ l
    · have hp := List.perm_cons_erase hm
      have hn2 : (m :: l.erase m).Nodup := hp.nodup_iff.1 hn
      have hne := List.nodup_cons.1 hn2
      have := powS_le m (l.erase m) hne.2 (fun a ha => by
        have h1 := h a (List.mem_of_mem_erase ha)
        have h3 : a ≠ m := fun e => hne.1 (e ▸ ha)
        omega)
      rw [powS_perm hp]
      simp only [powS]
      omega
    · have := powS_le m l hn (fun a ha => by
        have h1 := h a ha
        have h3 : a ≠ m := fun e => hm (e ▸ ha)
        omega)
      omega
theorem flatP_len {f : List UInt8 → List UInt8} {g : List UInt8 → Nat} {K : Nat} : ∀ l : List (List UInt8), (∀ t ∈ l, (f t).length ≤ K * 2 ^ g t) → (l.flatMap f).length ≤ K * powS (l.map g)
  | [], _ => by simp
  | a :: l, h => by
    have h1 := h a (by simp)
    have h2 := flatP_len l (fun t ht => h t (by simp [ht]))
    simp only [List.flatMap_cons, List.length_append, List.map_cons, powS, Nat.mul_add]
    omega
theorem dec_len : ∀ (k u : Nat), u < 10 ^ (k + 1) → (Lib.decDigits u).length ≤ k + 1
  | 0, u, h => by
    rw [Lib.decDigits, dif_pos (by simpa using h)]; simp
  | k + 1, u, h => by
    rw [Lib.decDigits]
    split
    · simp
    · rw [Nat.pow_succ] at h
      have := dec_len k (u / 10) (by omega)
      simp only [List.length_append, List.length_cons, List.length_nil]
      omega
theorem itoa_len (n : Nat) (hn : n ≤ 4096) : (Lib.itoa (n : Int)).length ≤ 20 := by
  unfold Lib.itoa
  rw [if_neg (by omega)]
  have := dec_len 3 n (by omega)
  simp only [Int.toNat_natCast]
  omega
section
variable {s : Fs}
theorem file_len (hW : s.Whole) (i : Int) : (s.fileS i).length ≤ 4096 := by
  unfold Fs.fileS
  split
  · cases hn : s.nd i with
    | none => simp
    | some x =>
      have := (hW i x hn).2
      simp [Fs.bytes]
      omega
  · simp
theorem link_len (i : Int) : (s.link i).length ≤ 256 := by
  unfold Fs.link
  cases s.nd i with
  | none => simp
  | some x => simp [Fs.bytes]; omega
theorem list_child (hok : s.Ok) (hT : Tr s) {i : Int} {t : List UInt8} (ht : t ∈ s.listS i) : ∃ d x, s.dr i = some d ∧ d.name t = some x ∧ s.childS i t = x := by
  unfold Fs.listS at ht
  cases hn : s.nd i with
  | none => rw [hn] at ht; cases ht
  | some x =>
    rw [hn] at ht
    dsimp only at ht
    split at ht
    · cases hd : s.dr i with
      | none => rw [hd] at ht; cases ht
      | some d =>
        rw [hd] at ht
        obtain ⟨e, he, rfl⟩ := List.mem_map.1 ((sortS_perm _).mem_iff.1 ht)
        obtain ⟨n, hm⟩ := dirE_mem hd
        have hno := hok.names _ hm
        obtain ⟨t, c, h1, h2⟩ := hno.ints e he
        have hne : nameOf e = t := by unfold nameOf; rw [h1]
        rw [hne]
        rcases hno.name t with ⟨q1, _⟩ | ⟨n', _, q2⟩
        · exact absurd h1 (getE_none.1 q1 e he)
        · refine ⟨d, n', rfl, q2 d.parent, ?_⟩
          unfold Fs.childS
          rw [hd]
          show (d.name t).getD 0 = n'
          rw [show d.name t = some n' from q2 d.parent]; rfl
    · cases ht
def keyT : Key → List UInt8
  | .str t => t
  | _ => []
theorem list_nodup (hok : s.Ok) (i : Int) : (s.listS i).Nodup := by
  unfold Fs.listS
  cases hn : s.nd i with
  | none => exact List.nodup_nil
  | some x =>
    dsimp only
    split
    · cases hd : s.dr i with
      | none => exact List.nodup_nil
      | some d =>
        refine (sortS_perm _).nodup_iff.2 ?_
        obtain ⟨n, hm⟩ := dirE_mem hd
        have hno := hok.names _ hm
        have hk : (d.names.es.map (·.1)).Nodup := by
          have := hno.good.keys
          unfold kb at this
          rw [List.map_map] at this
          exact this
        have e1 : d.names.es.map nameOf = (d.names.es.map (·.1)).map keyT := by
          rw [List.map_map]
          refine List.map_congr_left fun e he => ?_
          obtain ⟨t, c, h1, h2⟩ := hno.ints e he
          show nameOf e = keyT e.1
          unfold nameOf
          rw [h1]; rfl
        show (d.names.es.map nameOf).Nodup
        rw [e1]
        refine nodup_map_on (fun a ha b hb e => ?_) hk
        obtain ⟨ea, hea, rfl⟩ := List.mem_map.1 ha
        obtain ⟨eb, heb, rfl⟩ := List.mem_map.1 hb
        obtain ⟨t, c, h1, _⟩ := hno.ints ea hea
        obtain ⟨t', c', h1', _⟩ := hno.ints eb heb
        rw [h1, h1'] at e ⊢
        exact congrArg Key.str e
    · exact List.nodup_nil
theorem print_len (hok : s.Ok) (hT : Tr s) (hW : s.Whole) {b : Nat} {rk : Int → Nat} (hR : Rk s b rk) : ∀ (f : Nat) (dir : Int) (path : List UInt8), path.length + 34 * rk dir ≤ 1100 → (s.printS f dir path).length + 6000 ≤ 6000 * 2 ^ rk dir
  | 0, dir, path, _ => by
    have := Nat.one_le_two_pow (n := rk dir)
    show 0 + 6000 ≤ _
    omega
  | f + 1, dir, path, hp => by
    have hent : ∀ t ∈ s.listS dir, (s.entS (s.printS f) dir path t).length ≤ 6000 * 2 ^ rk (s.childS dir t) := fun t ht => by
      obtain ⟨d, x, hd, hx, hc⟩ := list_child hok hT ht
      have hlow := hR.low dir d t x hd hx
      have htl := (list_len hT dir).2 t ht
      rw [hc]
      have hpw := Nat.one_le_two_pow (n := rk x)
      unfold Fs.entS
      rw [hc]
      split
      · have ih := print_len hok hT hW hR f x (path ++ [47] ++ t) (by simp; omega)
        simp only [List.length_append, List.length_cons, List.length_nil]
        omega
      · split
        · have := link_len (s := s) x
          simp only [List.length_append, List.length_cons, List.length_nil]
          omega
        · have h1 := file_len hW x
          have h2 := itoa_len _ h1
          simp only [List.length_append, List.length_cons, List.length_nil]
          omega
    have hsum := powS_le (rk dir) ((s.listS dir).map fun t => rk (s.childS dir t)) (nodup_map_on (fun t ht t' ht' e => by
        obtain ⟨d, x, hd, hx, hc⟩ := list_child hok hT ht
        obtain ⟨d', x', hd', hx', hc'⟩ := list_child hok hT ht'
        rw [hd] at hd'
        cases hd'
        rw [hc, hc'] at e
        exact hR.inj dir d t t' x x' hd hx hx' e) (list_nodup hok dir)) (fun a ha => by
        obtain ⟨t, ht, rfl⟩ := List.mem_map.1 ha
        obtain ⟨d, x, hd, hx, hc⟩ := list_child hok hT ht
        rw [hc]
        exact hR.low dir d t x hd hx)
    have hfl := flatP_len (K := 6000) (s.listS dir) hent
    show ((s.listS dir).flatMap _).length + 6000 ≤ _
    have : 6000 * (powS ((s.listS dir).map fun t => rk (s.childS dir t)) + 1) ≤ 6000 * 2 ^ rk dir := Nat.mul_le_mul_left _ hsum
    omega
end
end Go.Proofs.YtggdedihfhibfaaGreatDoor
/- PathsThere, plain: what a field comes to is there, rising, or is the field alone. No program's text. -/
namespace Go.Proofs.YtggdedihfhibfaaGreatDoor
open Go.RowKit IntWalk
set_option linter.unusedVariables false
set_option linter.unusedSimpArgs false

theorem stroke_inj {a b n m : List UInt8} (hn : (47 : UInt8) ∉ n) (hm : (47 : UInt8) ∉ m) (h : a ++ 47 :: n = b ++ 47 :: m) : a = b ∧ n = m := by
  rcases List.append_eq_append_iff.1 h with ⟨c, h1, h2⟩ | ⟨c, h1, h2⟩
  · cases c with
    | nil =>
      rw [List.append_nil] at h1
      rw [List.nil_append, List.cons.injEq] at h2
      exact ⟨h1.symm, h2.2⟩
    | cons d r =>
      rw [List.cons_append, List.cons.injEq] at h2
      exact absurd (show (47 : UInt8) ∈ n by rw [h2.2]; simp) hn
  · cases c with
    | nil =>
      rw [List.append_nil] at h1
      rw [List.nil_append, List.cons.injEq] at h2
      exact ⟨h1, h2.2.symm⟩
    | cons d r =>
      rw [List.cons_append, List.cons.injEq] at h2
      exact absurd (show (47 : UInt8) ∈ m by rw [h2.2]; simp) hm
theorem cut_stroke : ∀ (x y : List UInt8), y ∈ cutP x → (47 : UInt8) ∉ y
  | [], y, h => by simp [cutP] at h; subst h; simp
  | c :: t, y, h => by
    have ih := cut_stroke t
    unfold cutP at h
    by_cases hc : c = 47
    · rw [if_pos hc] at h
      rcases List.mem_cons.1 h with rfl | h
      · simp
      · exact ih y h
    · rw [if_neg hc] at h
      cases hp : cutP t with
      | nil => exact absurd hp (cutP_ne t)
      | cons z r =>
        rw [hp] at h ih
        rcases List.mem_cons.1 (show y ∈ (c :: z) :: r from h) with rfl | h
        · intro hm
          rcases List.mem_cons.1 hm with e | hm
          · exact hc e.symm
          · exact ih z (by simp) hm
        · exact ih y (by simp [h])
theorem pieces_stroke : ∀ (l : List (List UInt8)) (q : List Bool), (∀ y ∈ l, (47 : UInt8) ∉ y) → ∀ p ∈ piecesS l q, (47 : UInt8) ∉ p.text
  | [], q, _, p, hp => by simp [piecesS] at hp
  | y :: l, q, h, p, hp => by
    rcases List.mem_cons.1 (show p ∈ ⟨y, parseS y q⟩ :: piecesS l (q.drop (y.length + 1)) from hp) with rfl | hp
    · exact h y (by simp)
    · exact pieces_stroke l _ (fun z hz => h z (List.mem_cons_of_mem _ hz)) p hp
section
variable {s : Fs} {N : Nat}
/-- what comes behind a begin -/
def Fs.tailS (s : Fs) (dir : Int) (p : PartS) (b : List UInt8) : List (List UInt8) := if specialS p.toks then s.fitS dir p.toks b else [p.text]
theorem more_tail (dir : Int) (p : PartS) (b : List UInt8) : s.moreS dir p b = (s.tailS dir p b).map (b ++ ·) := by
  unfold Fs.moreS Fs.tailS
  split
  · rfl
  · rfl
theorem tail_nodup (h : TrN N s) (hok : s.Ok) (dir : Int) (p : PartS) (b : List UInt8) (hp : (47 : UInt8) ∉ p.text) : (s.tailS dir p b).Nodup ∧ ∀ y ∈ s.tailS dir p b, (47 : UInt8) ∉ y := by
  unfold Fs.tailS
  split
  · unfold Fs.fitS
    split
    · refine ⟨List.Pairwise.filter _ (list_nodup hok _), fun y hy => ?_⟩
      exact (list_nm h (List.mem_filter.1 hy).1).stroke
    · exact ⟨List.nodup_nil, fun y hy => by cases hy⟩
  · refine ⟨by simp, fun y hy => ?_⟩
    simp at hy
    subst hy
    exact hp
theorem next_nodup (h : TrN N s) (hok : s.Ok) (dir : Int) (p : PartS) (hp : (47 : UInt8) ∉ p.text) {bs : List (List UInt8)} (hb : bs.Nodup) : (s.nextS dir false p bs).Nodup := by
  unfold Fs.nextS
  refine List.pairwise_flatMap.2 ⟨fun b _ => ?_, List.Pairwise.imp ?_ hb⟩
  · rw [more_tail]
    exact nodup_map_on (fun x _ y _ e => List.append_cancel_left e) (tail_nodup h hok dir p _ hp).1
  · intro b c hbc x hx y hy e
    rw [more_tail] at hx hy
    obtain ⟨n, hn, rfl⟩ := List.mem_map.1 hx
    obtain ⟨m, hm, rfl⟩ := List.mem_map.1 hy
    have hn' := (tail_nodup h hok dir p _ hp).2 n hn
    have hm' := (tail_nodup h hok dir p _ hp).2 m hm
    have e' : b ++ 47 :: n = c ++ 47 :: m := by
      have : (b ++ [47]) ++ n = (c ++ [47]) ++ m := e
      simpa using this
    exact hbc (stroke_inj hn' hm' e').1
theorem begins_nodup (h : TrN N s) (hok : s.Ok) (dir : Int) : ∀ (ps : List PartS) (bs r : List (List UInt8)), (∀ p ∈ ps, (47 : UInt8) ∉ p.text) → bs.Nodup → s.beginsS dir false ps bs = some r → r.Nodup
  | [], bs, r, _, hb, hr => by
    unfold Fs.beginsS at hr
    cases hr; exact hb
  | p :: ps, bs, r, hp, hb, hr => by
    unfold Fs.beginsS at hr
    split at hr
    · cases hr
    · exact begins_nodup h hok dir ps _ r (fun z hz => hp z (List.mem_cons_of_mem _ hz)) (next_nodup h hok dir p (hp p (by simp)) hb) hr
theorem begins_nodup1 (h : TrN N s) (hok : s.Ok) (dir : Int) (ps : List PartS) (r : List (List UInt8)) (hp : ∀ p ∈ ps, (47 : UInt8) ∉ p.text) (hr : s.beginsS dir true ps [[]] = some r) : r.Nodup := by
  cases ps with
  | nil => unfold Fs.beginsS at hr; cases hr; simp
  | cons p ps =>
    unfold Fs.beginsS at hr
    split at hr
    · cases hr
    · refine begins_nodup h hok dir ps _ r (fun z hz => hp z (List.mem_cons_of_mem _ hz)) ?_ hr
      unfold Fs.nextS
      rw [List.flatMap_cons, List.flatMap_nil, List.append_nil, more_tail]
      exact nodup_map_on (fun x _ y _ e => List.append_cancel_left e) (tail_nodup h hok dir p _ (hp p (by simp))).1
/-- what is asked of an answer -/
structure ThereS (s : Fs) (dir : Int) (x : List UInt8) (L : List (List UInt8)) : Prop where
  ne : 0 < L.length
  up : ∀ i a b, L[i]? = some a → L[i + 1]? = some b → a < b
  is : L = [x] ∨ ∀ y ∈ L, (s.walkS dir y false).2 = 0
theorem there_one (dir : Int) (x : List UInt8) : ThereS s dir x [x] := ⟨by simp, fun i a b _ h => by simp at h, .inl rfl⟩
theorem expand_there (h : TrN N s) (hok : s.Ok) (dir : Int) (x : List UInt8) (q : List Bool) : ThereS s dir x (s.expandS dir x q) := by
  unfold Fs.expandS
  split
  · cases hb : s.beginsS dir true (piecesS (cutP x) q) [[]] with
    | none => exact there_one dir x
    | some bs =>
      dsimp only
      have hnd := begins_nodup1 h hok dir _ bs (pieces_stroke _ q (cut_stroke x)) hb
      unfold endsS
      split
      · exact there_one dir x
      · rename_i hne
        have hnf : (bs.filter (s.isS dir)).Nodup := List.Pairwise.filter _ hnd
        have hsn : (sortS (bs.filter (s.isS dir))).Nodup := (sortS_perm _).nodup_iff.2 hnf
        refine ⟨by rw [(sortS_perm _).length_eq]; exact List.length_pos_iff.2 hne, fun i a b ha hb => ?_, .inr fun y hy => ?_⟩
        · have hpw := sortS_pairwise (bs.filter (s.isS dir))
          obtain ⟨hi, rfl⟩ := List.getElem?_eq_some_iff.1 ha
          obtain ⟨hi2, rfl⟩ := List.getElem?_eq_some_iff.1 hb
          have h1 := List.pairwise_iff_getElem.1 hpw i (i + 1) hi hi2 (by omega)
          have h2 := List.pairwise_iff_getElem.1 hsn i (i + 1) hi hi2 (by omega)
          unfold leS at h1
          exact Std.lt_of_le_of_ne (of_decide_eq_true h1) h2
        · have := (List.mem_filter.1 ((sortS_perm _).mem_iff.1 hy)).2
          unfold Fs.isS at this
          exact eq_of_beq this
  · exact there_one dir x
end
end Go.Proofs.YtggdedihfhibfaaGreatDoor
/- The trees that are made: every entry has a rank. No program's text. -/
namespace Go.Proofs.YtggdedihfhibfaaGreatDoor
open Go.RowKit IntWalk
set_option linter.unusedVariables false
set_option linter.unusedSimpArgs false

section
variable {s s' : Fs}
theorem Rk.same {b : Nat} {rk : Int → Nat} (h : Rk s b rk) (hd : ∀ i, s'.dr i = s.dr i) (hk : ∀ i, s.fld Nd.kind i ≠ 0 → s'.fld Nd.kind i ≠ 0) : Rk s' b rk :=
  ⟨fun i d t x e1 e2 => hk x (h.live i d t x (by rw [← hd]; exact e1) e2), fun i d t x e1 => h.low i d t x (by rw [← hd]; exact e1), fun i d t t' x x' e1 => h.inj i d t t' x x' (by rw [← hd]; exact e1),
    fun i d e1 => h.lo1 i d (by rw [← hd]; exact e1), fun i d t x e1 => h.lo2 i d t x (by rw [← hd]; exact e1)⟩
theorem Rk.less {b c : Nat} {rk : Int → Nat} (h : Rk s b rk) (hc : c ≤ b) : Rk s c rk :=
  ⟨h.live, h.low, h.inj, fun i d e => Nat.le_trans hc (h.lo1 i d e), fun i d t x e1 e2 => Nat.le_trans hc (h.lo2 i d t x e1 e2)⟩
theorem put_name {d d' : Dr} {t : List UInt8} {b : Int} (h : d'.names = d.names.put (.str t) (.int .i64 b)) : d'.name t = some b := by
  unfold Dr.name
  rw [h]
  show (match getE _ (setE _ _ _ _) with | some (.int .i64 n) => some n | _ => none) = _
  rw [getE_setE, if_pos rfl]
theorem empty_name {d : Dr} (h : d.names = GMap.empty) (t : List UInt8) : d.name t = none := by
  unfold Dr.name
  rw [h]; rfl
theorem Rk.named {b : Nat} {rk : Int → Nat} (h : Rk s (b + 1) rk) {k : Nat} {n : Int} {nm : List UInt8} {d d2 : Dr} (hk : s.nodes[k]? = some none) (hno : s.dr ((k : Int) + 1) = none) (hd : s.dr n = some d)
    (hd2 : d2.names = d.names.put (.str nm) (.int .i64 ((k : Int) + 1)))
    (hdr : ∀ i d', s'.dr i = some d' → (i = n ∧ d' = d2) ∨ (i ≠ n ∧ s.dr i = some d') ∨ (i = (k : Int) + 1 ∧ d'.names = GMap.empty))
    (hkeep : ∀ i, s.fld Nd.kind i ≠ 0 → s'.fld Nd.kind i ≠ 0) (hkd : s'.fld Nd.kind ((k : Int) + 1) ≠ 0) :
    Rk s' b (fun j => if j = (k : Int) + 1 then b else rk j) := by
  have hne : ∀ x, s.fld Nd.kind x ≠ 0 → x ≠ (k : Int) + 1 := fun x hx e => by
    have := (kind_at hk hx).2
    rw [e, slotOf_eq] at this
    exact this rfl
  have hdn : ∀ i d', s.dr i = some d' → i ≠ (k : Int) + 1 := fun i d' hi e => by rw [e, hno] at hi; cases hi
  have hnn := hdn n d hd
  have key : ∀ i d' t x, s'.dr i = some d' → d'.name t = some x → i ≠ (k : Int) + 1 ∧ (∃ d0, s.dr i = some d0 ∧ ((d0 = d' ∧ i ≠ n) ∨ (i = n ∧ d' = d2 ∧ d0 = d)) ∧ ((i = n ∧ t = nm ∧ x = (k : Int) + 1) ∨ d0.name t = some x)) := fun i d' t x e1 e2 => by
    rcases hdr i d' e1 with ⟨rfl, rfl⟩ | ⟨h1, h2⟩ | ⟨rfl, h2⟩
    · refine ⟨hnn, d, hd, .inr ⟨rfl, rfl, rfl⟩, ?_⟩
      by_cases ht : t = nm
      · subst ht
        rw [put_name hd2] at e2
        cases e2
        exact .inl ⟨rfl, rfl, rfl⟩
      · rw [name_put hd2 ht] at e2
        exact .inr e2
    · exact ⟨hdn i d' h2, d', h2, .inl ⟨rfl, h1⟩, .inr e2⟩
    · rw [empty_name h2] at e2; cases e2
  refine ⟨fun i d' t x e1 e2 => ?_, fun i d' t x e1 e2 => ?_, fun i d' t t' x x' e1 e2 e3 e4 => ?_, fun i d' e1 => ?_, fun i d' t x e1 e2 => ?_⟩
  · obtain ⟨_, d0, q1, _, ⟨_, _, rfl⟩ | q3⟩ := key i d' t x e1 e2
    · exact hkd
    · exact hkeep x (h.live i d0 t x q1 q3)
  · obtain ⟨hi, d0, q1, _, ⟨_, _, rfl⟩ | q3⟩ := key i d' t x e1 e2
    · rw [if_pos rfl, if_neg hi]
      have := h.lo1 i d0 q1; omega
    · rw [if_neg hi, if_neg (hne x (h.live i d0 t x q1 q3))]
      exact h.low i d0 t x q1 q3
  · obtain ⟨hi, d0, q1, _, q3⟩ := key i d' t x e1 e2
    obtain ⟨_, d0', q1', _, q3'⟩ := key i d' t' x' e1 e3
    rw [q1] at q1'
    cases q1'
    rcases q3 with ⟨_, rfl, rfl⟩ | q3 <;> rcases q3' with ⟨_, rfl, rfl⟩ | q3'
    · rfl
    · rw [if_pos rfl, if_neg (hne x' (h.live i d0 t' x' q1 q3'))] at e4
      have := h.lo2 i d0 t' x' q1 q3'; omega
    · rw [if_pos rfl, if_neg (hne x (h.live i d0 t x q1 q3))] at e4
      have := h.lo2 i d0 t x q1 q3; omega
    · rw [if_neg (hne x (h.live i d0 t x q1 q3)), if_neg (hne x' (h.live i d0 t' x' q1 q3'))] at e4
      exact h.inj i d0 t t' x x' q1 q3 q3' e4
  · split
    · omega
    · rename_i hi
      rcases hdr i d' e1 with ⟨rfl, rfl⟩ | ⟨h1, h2⟩ | ⟨rfl, h2⟩
      · have := h.lo1 i d hd; omega
      · have := h.lo1 i d' h2; omega
      · exact absurd rfl hi
  · split
    · omega
    · rename_i hx
      obtain ⟨hi, d0, q1, _, ⟨_, _, rfl⟩ | q3⟩ := key i d' t x e1 e2
      · exact absurd rfl hx
      · have := h.lo2 i d0 t x q1 q3; omega
/-- a tree in which all have ranks, and the root's -/
def Ranked (s : Fs) (b : Nat) : Prop := ∃ rk, Rk s b rk ∧ rk 1 = 29
theorem Ranked.same {b : Nat} (h : Ranked s (b + 1)) (hd : ∀ i, s'.dr i = s.dr i) (hk : ∀ i, s.fld Nd.kind i ≠ 0 → s'.fld Nd.kind i ≠ 0) : Ranked s' b := by
  obtain ⟨rk, h1, h2⟩ := h
  exact ⟨rk, (h1.less (by omega)).same hd hk, h2⟩
theorem Ranked.refl {b : Nat} (h : Ranked s (b + 1)) : Ranked s b := h.same (fun _ => rfl) (fun _ h => h)
theorem Ranked.named {b : Nat} (h : Ranked s (b + 1)) (hr : s.fld Nd.kind 1 ≠ 0) {k : Nat} {n : Int} {nm : List UInt8} {d d2 : Dr} (hk : s.nodes[k]? = some none) (hno : s.dr ((k : Int) + 1) = none) (hd : s.dr n = some d)
    (hd2 : d2.names = d.names.put (.str nm) (.int .i64 ((k : Int) + 1)))
    (hdr : ∀ i d', s'.dr i = some d' → (i = n ∧ d' = d2) ∨ (i ≠ n ∧ s.dr i = some d') ∨ (i = (k : Int) + 1 ∧ d'.names = GMap.empty))
    (hkeep : ∀ i, s.fld Nd.kind i ≠ 0 → s'.fld Nd.kind i ≠ 0) (hkd : s'.fld Nd.kind ((k : Int) + 1) ≠ 0) : Ranked s' b := by
  obtain ⟨rk, h1, h2⟩ := h
  refine ⟨_, h1.named hk hno hd hd2 hdr hkeep hkd, ?_⟩
  rw [if_neg]
  · exact h2
  · intro e
    have := (kind_at hk hr).2
    rw [e, slotOf_eq] at this
    exact this rfl
theorem set_cases {n : Int} {d d2 : Dr} {k : Nat} (hd : s'.dr n = some d) : ∀ i d', (s'.setDr n d2).dr i = some d' → (i = n ∧ d' = d2) ∨ (i ≠ n ∧ s'.dr i = some d') := fun i d' e => by
  rw [setDr_dr] at e
  by_cases h : i = n
  · subst h
    rw [if_pos rfl, hd] at e
    cases e
    exact .inl ⟨rfl, rfl⟩
  · rw [if_neg h] at e
    exact .inr ⟨h, e⟩
end
section
variable {s : Fs} {b : Nat}
theorem rk_make (h : Gen s) (hR : Ranked s (b + 1)) (hr : s.fld Nd.kind 1 ≠ 0) (dir : Int) (path : List UInt8) : Ranked (s.makeS dir path).2.2 b := by
  have hG := grow_make h dir path
  unfold Fs.makeS at hG ⊢
  by_cases he : s.freeS dir path = 0
  · rw [if_neg (by simpa using he)] at hG ⊢
    cases hg : gapAt s.nodes with
    | none => exact hR.refl
    | some k =>
      have hk := (gapAt_some _ _ hg).1
      rw [hg] at hG
      dsimp only at hG ⊢
      cases hd : s.dr (s.placeS dir path).1 with
      | none => exact hR.refl
      | some d =>
        rw [hd] at hG
        dsimp only at hG ⊢
        refine hR.named (d2 := ⟨d.names.put (.str (s.placeS dir path).2.1) (.int .i64 ((k : Int) + 1)), d.parent⟩) hr hk (h.nodr hk) hd rfl (fun i d' e => ?_) (fun i hi => by rw [hG.keep i hi]; exact hi) (by rw [setDr_kind, fresh_kind hk]; decide)
        rcases set_cases (s' := s.setNd k (freshNd 1)) (k := k) hd i d' e with q | q
        · exact .inl q
        · exact .inr (.inl q)
  · rw [if_pos he]; exact hR.refl
theorem rk_mkdir (h : Gen s) (hR : Ranked s (b + 1)) (hr : s.fld Nd.kind 1 ≠ 0) (dir : Int) (path : List UInt8) : Ranked (s.mkdirS dir path).2 b := by
  have hG := grow_mkdir h dir path
  unfold Fs.mkdirS at hG ⊢
  by_cases he : s.freeS dir path = 0
  · rw [if_neg (by simpa using he)] at hG ⊢
    cases hg : gapAt s.nodes with
    | none => exact hR.refl
    | some k =>
      have hk := (gapAt_some _ _ hg).1
      rw [hg] at hG
      dsimp only at hG ⊢
      cases hd : s.dr (s.placeS dir path).1 with
      | none => exact hR.refl
      | some d =>
        rw [hd] at hG
        dsimp only at hG ⊢
        have hn := h.nodr hk
        have hadd := fun j => addDr_dr (s := s.setNd k (freshNd 2)) (i := (k : Int) + 1) (par := (s.placeS dir path).1) hn j
        have hne : (s.placeS dir path).1 ≠ (k : Int) + 1 := fun e => by rw [e, hn] at hd; cases hd
        have hd' : ((s.setNd k (freshNd 2)).addDr ((k : Int) + 1) (s.placeS dir path).1).dr (s.placeS dir path).1 = some d := by rw [hadd, if_neg hne]; exact hd
        refine hR.named (d2 := ⟨d.names.put (.str (s.placeS dir path).2.1) (.int .i64 ((k : Int) + 1)), d.parent⟩) hr hk hn hd rfl (fun i d' e => ?_) (fun i hi => by rw [hG.keep i hi]; exact hi) (by rw [setDr_kind]; show (s.setNd k (freshNd 2)).fld Nd.kind _ ≠ 0; rw [fresh_kind hk]; decide)
        rcases set_cases (k := k) hd' i d' e with q | ⟨q1, q2⟩
        · exact .inl q
        · rw [hadd] at q2
          by_cases hik : i = (k : Int) + 1
          · rw [if_pos hik] at q2
            cases q2
            exact .inr (.inr ⟨hik, rfl⟩)
          · rw [if_neg hik] at q2
            exact .inr (.inl ⟨q1, q2⟩)
  · rw [if_pos he]; exact hR.refl
theorem rk_link (h : Gen s) (hR : Ranked s (b + 1)) (hr : s.fld Nd.kind 1 ≠ 0) (dir : Int) (path t : List UInt8) (ht : t.length ≤ 4096) : Ranked (s.linkS dir path t).2 b := by
  have hG := grow_link h dir path t ht
  unfold Fs.linkS at hG ⊢
  by_cases he : s.freeS dir path = 0
  · rw [if_neg (by simpa using he)] at hG ⊢
    cases hg : gapAt s.nodes with
    | none => exact hR.refl
    | some k =>
      have hk := (gapAt_some _ _ hg).1
      rw [hg] at hG
      dsimp only at hG ⊢
      cases hd : s.dr (s.placeS dir path).1 with
      | none => exact hR.refl
      | some d =>
        rw [hd] at hG
        dsimp only at hG ⊢
        obtain ⟨x, h1, h2, h3, h4, h5, _⟩ := h.write hk 3 t ht
        have hkd := write_kind h hk 3 t ht
        have hdr : ∀ i, ((s.setNd k (freshNd 3)).writeS k (freshNd 3) 0 t).2.dr i = s.dr i := fun i => by
          show dirE i ((s.setNd k (freshNd 3)).writeS k (freshNd 3) 0 t).2.dirs = _
          rw [writeS_dirs]; rfl
        by_cases hlen : ((s.setNd k (freshNd 3)).writeS k (freshNd 3) 0 t).1 < t.length
        · rw [if_pos hlen] at hG ⊢
          obtain ⟨u1, u2, u3⟩ := untie_nodes h4 h1 h2 h3
          refine hR.same (fun i => ?_) (fun i hi => by rw [hG.keep i hi]; exact hi)
          show dirE i (Fs.untieS _ _).dirs = _
          rw [u3]
          exact hdr i
        · rw [if_neg hlen] at hG ⊢
          refine hR.named (d2 := ⟨d.names.put (.str (s.placeS dir path).2.1) (.int .i64 ((k : Int) + 1)), d.parent⟩) hr hk (h.nodr hk) hd rfl (fun i d' e => ?_) (fun i hi => by rw [hG.keep i hi]; exact hi) (by rw [setDr_kind, hkd]; decide)
          rcases set_cases (k := k) ((hdr _).trans hd) i d' e with q | ⟨q1, q2⟩
          · exact .inl q
          · exact .inr (.inl ⟨q1, by rw [← hdr]; exact q2⟩)
  · rw [if_pos he]; exact hR.refl
theorem rk_mk1 (h : Gen s) (hR : Ranked s (b + 1)) (hr : s.fld Nd.kind 1 ≠ 0) (m : MadeR) : Ranked (mk1 s m) b := by
  unfold mk1
  split
  · unfold Fs.slinkS
    split
    · exact hR.refl
    split
    · exact hR.refl
    · exact rk_link h hR hr 1 m.path m.to (by omega)
  · split
    · exact rk_mkdir h hR hr 1 m.path
    · exact rk_make h hR hr 1 m.path
end
/-- the ranks of the tree that all begin with -/
def rk0 (i : Int) : Nat := 30 - i.toNat
def rkB (s : Fs) : Bool := s.dirs.all fun e => decide (20 ≤ rk0 e.1) && e.2.1.names.es.all fun x => match x.2.1 with
  | .int .i64 c => s.fld Nd.kind c != 0 && decide (rk0 c < rk0 e.1) && decide (20 ≤ rk0 c) && e.2.1.names.es.all fun y => match y.2.1 with
    | .int .i64 c' => rk0 c != rk0 c' || nameOf x == nameOf y
    | _ => true
  | _ => true
theorem rkB_ok : rkB beginS = true := by kernel_rfl
theorem begin_rk : Ranked beginS 20 := by
  have h := rkB_ok
  unfold rkB at h
  rw [List.all_eq_true] at h
  have hd : ∀ i d, beginS.dr i = some d → 20 ≤ rk0 i ∧ ∀ t x, d.name t = some x → beginS.fld Nd.kind x ≠ 0 ∧ rk0 x < rk0 i ∧ 20 ≤ rk0 x ∧ ∀ t' x', d.name t' = some x' → rk0 x = rk0 x' → t = t' := fun i d hi => by
    obtain ⟨n, hn⟩ := dirE_mem hi
    have h1 := h _ hn
    rw [Bool.and_eq_true, List.all_eq_true] at h1
    have hmem : ∀ t x, d.name t = some x → ∃ m, ((Key.str t, Value.int .i64 x, m) : Key × Value × Nat) ∈ d.names.es := fun t x hx => by
      unfold Dr.name at hx
      cases hg : d.names.get (.str t) with
      | none => rw [hg] at hx; cases hx
      | some v =>
        rw [hg] at hx
        obtain ⟨m, hm⟩ := getE_mem hg
        refine ⟨m, ?_⟩
        have : v = .int .i64 x := by
          cases v with
          | int k z => cases k <;> first | (cases hx; rfl) | cases hx
          | _ => cases hx
        rw [← this]; exact hm
    refine ⟨of_decide_eq_true h1.1, fun t x hx => ?_⟩
    obtain ⟨m, hm⟩ := hmem t x hx
    have h2 := h1.2 _ hm
    dsimp only at h2
    simp only [Bool.and_eq_true, List.all_eq_true, bne_iff_ne, decide_eq_true_eq] at h2
    obtain ⟨⟨⟨q1, q2⟩, q3⟩, q4⟩ := h2
    refine ⟨q1, q2, q3, fun t' x' hx' e => ?_⟩
    obtain ⟨m', hm'⟩ := hmem t' x' hx'
    have h3 := q4 _ hm'
    dsimp only at h3
    rw [Bool.or_eq_true] at h3
    rcases h3 with h3 | h3
    · rw [bne_iff_ne] at h3; exact absurd e h3
    · exact eq_of_beq h3
  exact ⟨rk0, ⟨fun i d t x e1 e2 => ((hd i d e1).2 t x e2).1, fun i d t x e1 e2 => ((hd i d e1).2 t x e2).2.1, fun i d t t' x x' e1 e2 e3 e4 => ((hd i d e1).2 t x e2).2.2.2 t' x' e3 e4, fun i d e1 => (hd i d e1).1, fun i d t x e1 e2 => ((hd i d e1).2 t x e2).2.2.1⟩, rfl⟩
theorem tree_rk : ∀ (L : List MadeR) (b N : Nat) (s : Fs), TrN N s → Ranked s (b + L.length) → Ranked (L.foldl mk1 s) b
  | [], b, N, s, _, h => h
  | m :: L, b, N, s, hT, h => by
    have h1 : Ranked s ((b + L.length) + 1) := by rw [List.length_cons] at h; exact h
    exact tree_rk L b (N + 1) (mk1 s m) (hT.grow (grow_mk1 hT.gen m)) (rk_mk1 hT.gen h1 (by rw [hT.root]; decide) m)
theorem treeS_rk (hG : Gen beginS) (L : List MadeR) (h15 : L.length ≤ 15) : Ranked (treeS L) 5 := by
  refine tree_rk L 5 6 beginS (begin_trn hG) ?_
  obtain ⟨rk, h1, h2⟩ := begin_rk
  exact ⟨rk, h1.less (by omega), h2⟩
end Go.Proofs.YtggdedihfhibfaaGreatDoor
