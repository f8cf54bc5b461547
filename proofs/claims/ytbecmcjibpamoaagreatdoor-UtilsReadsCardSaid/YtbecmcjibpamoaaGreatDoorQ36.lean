/- TdB TdC GnA GnB GnC GnD -/
import Derived.Test.YtbecmcjibpamoaaGreatDoorQ35
import Derived.Laws.MakeOwn
set_option linter.unusedVariables false
set_option linter.unusedSimpArgs false
set_option linter.deprecated false
set_option linter.unnecessarySimpa false
namespace Go.Proofs.YtbecmcjibpamoaaGreatDoor
open Go.RowKit IntWalk
theorem give_spec {s : Fs} {b : Int} (hb : (s.bk b).isSome = true) (hf : s.free = freeN s.bs) (hl : s.bs.length ≤ 4096) : (s.giveS b).nodes = s.nodes ∧ (s.giveS b).dirs = s.dirs ∧ (s.giveS b).bs.length = s.bs.length ∧ (s.giveS b).free = freeN (s.giveS b).bs := by
  obtain ⟨h1, h2, _, h4⟩ := giveS_nodes s b
  refine ⟨h1, h2, h4, ?_⟩
  cases hk : s.bk b with
  | none => rw [hk] at hb; cases hb
  | some l =>
    obtain ⟨g1, g2, g3⟩ := Fs.bk_slot hk
    have := freeN_set g3 (false, l)
    simp at this
    have hle : freeN s.bs ≤ s.bs.length := List.length_filter_le _ _
    have e : s.giveS b = (s.setB (slotOf b) (false, l)).setFree (incW s.free) := by unfold Fs.giveS; rw [hk]
    rw [e]
    show incW s.free = freeN (s.bs.set (slotOf b) (false, l))
    unfold incW
    rw [hf, wrap64_in _ ⟨by omega, by omega⟩]
    omega
theorem gives_spec : ∀ (l : List (Key × Value × Nat)) (s : Fs), (∀ e ∈ l, (s.bk (blockOf e)).isSome = true) → (l.map blockOf).Nodup → s.free = freeN s.bs → s.bs.length ≤ 4096 →
    (givesS s l).nodes = s.nodes ∧ (givesS s l).dirs = s.dirs ∧ (givesS s l).bs.length = s.bs.length ∧ (∀ b, ((givesS s l).bk b).isSome = true ↔ (s.bk b).isSome = true ∧ b ∉ l.map blockOf) ∧ (givesS s l).free = freeN (givesS s l).bs
  | [], s, _, _, hf, _ => ⟨rfl, rfl, rfl, fun b => by simp [givesS], hf⟩
  | e :: l, s, he, hn, hf, hl => by
    rw [List.map_cons, List.nodup_cons] at hn
    obtain ⟨a1, a2, a3, a4⟩ := give_spec (he e (by simp)) hf hl
    have hbk : ∀ a, (s.giveS (blockOf e)).bk a = if a = blockOf e then none else s.bk a := fun a => giveS_bk s a (blockOf e)
    obtain ⟨b1, b2, b3, b4, b5⟩ := gives_spec l (s.giveS (blockOf e)) (fun x hx => by
      rw [hbk, if_neg (fun q => hn.1 (by rw [← q]; exact List.mem_map_of_mem hx))]
      exact he x (by simp [hx])) hn.2 a4 (by rw [a3]; exact hl)
    refine ⟨b1.trans a1, b2.trans a2, b3.trans a3, fun b => ?_, b5⟩
    show ((givesS (s.giveS (blockOf e)) l).bk b).isSome = true ↔ _
    rw [b4, hbk]
    by_cases q : b = blockOf e
    · simp [q]
    · rw [if_neg q]; simp [q]
def PartsUp (x : Nd) : Prop := ∀ e ∈ x.parts.es, 0 ≤ partOf e
theorem goes_all {x : Nd} (h : PartsUp x) : x.parts.es.filter (goes (fun _ => true) 0) = x.parts.es ∧ x.parts.es.filter (fun e => !goes (fun _ => true) 0 e) = [] := by
  refine ⟨List.filter_eq_self.2 fun e he => ?_, List.filter_eq_nil_iff.2 fun e he => ?_⟩
  · simp [goes, h e he]
  · simp [goes, h e he]
def bare (x : Nd) : Nd := { x with parts := ⟨[], x.parts.clk⟩ }
theorem dropS_eq {s : Fs} {k : Nat} {x : Nd} (h : PartsUp x) : s.dropS k x 0 = (givesS s x.parts.es).setNd k (bare x) := by
  unfold Fs.dropS Fs.dropped bare
  rw [(goes_all h).1, (goes_all h).2]
theorem Blk.drop {s : Fs} (h : Blk s) (hl : s.bs.length ≤ 4096) {k : Nat} {x : Nd} (hk : s.nodes[k]? = some (some x)) : Blk ((givesS s x.parts.es).setNd k (bare x)) ∧ (givesS s x.parts.es).nodes = s.nodes ∧ (givesS s x.parts.es).dirs = s.dirs ∧ (givesS s x.parts.es).bs.length = s.bs.length := by
  obtain ⟨R, h1, h2⟩ := usedL_split hk
  have hn := h1.nodup_iff.1 h.nodup
  have hpart : partsOf (some x) = x.parts.es.map blockOf := rfl
  rw [hpart] at h1 hn
  rw [List.nodup_append] at hn
  obtain ⟨b1, b2, b3, b4, b5⟩ := gives_spec x.parts.es s (fun e he => (h.iff _).1 (h1.mem_iff.2 (by simp; exact .inl ⟨e.1, e.2.1, e.2.2, he, rfl⟩))) hn.1 h.free hl
  refine ⟨⟨?_, fun b => ?_, b5⟩, b1, b2, b3⟩
  · have : ((givesS s x.parts.es).setNd k (bare x)).used.Perm R := by
      show (usedL ((givesS s x.parts.es).nodes.set k (some (bare x)))).Perm R
      rw [b1]
      exact h2 (some (bare x))
    exact this.nodup_iff.2 hn.2.1
  · have : ((givesS s x.parts.es).setNd k (bare x)).used.Perm R := by
      show (usedL ((givesS s x.parts.es).nodes.set k (some (bare x)))).Perm R
      rw [b1]
      exact h2 (some (bare x))
    rw [this.mem_iff]
    show _ ↔ ((givesS s x.parts.es).bk b).isSome = true
    rw [b4, ← h.iff, show s.used = usedL s.nodes from rfl, h1.mem_iff, List.mem_append]
    constructor
    · intro hR
      exact ⟨.inr hR, fun q => hn.2.2 b q b hR rfl⟩
    · rintro ⟨q | q, z⟩
      · exact absurd q z
      · exact q
structure Wr (s : Fs) (k : Nat) (x : Nd) (s' : Fs) (x' : Nd) : Prop where
  blk : Blk s'
  at_ : s'.nodes[k]? = some (some x')
  other : ∀ j, j ≠ k → s'.nodes[j]? = s.nodes[j]?
  len : s'.nodes.length = s.nodes.length
  blen : s'.bs.length = s.bs.length
  dirs : s'.dirs = s.dirs
  same : x'.names = x.names ∧ x'.users = x.users ∧ x'.kind = x.kind ∧ x'.size = x.size
  up : PartsUp x'
  ok : PartsOk x'.parts
  keep : ∀ b, (s.bk b).isSome = true → (s'.bk b).isSome = true
theorem part_mem {x : Nd} {p b : Int} (h : x.part p = some b) : b ∈ x.parts.es.map blockOf := by
  unfold Nd.part at h
  split at h
  · rename_i k b' hg
    cases h
    obtain ⟨n, hm⟩ := getE_mem hg
    exact List.mem_map.2 ⟨_, hm, rfl⟩
  · cases h
theorem setE_up {p : Int} {v : Value} {c : Nat} (hp : 0 ≤ p) : ∀ {es : List (Key × Value × Nat)}, (∀ e ∈ es, 0 ≤ partOf e) → ∀ e ∈ setE (.int p) v c es, 0 ≤ partOf e := fun h e he => by
  rcases setE_mem he with q | ⟨q, _⟩
  · exact h e q
  · unfold partOf; rw [q]; exact hp
theorem into_wr {s0 s s' : Fs} {k : Nat} {x0 x x' : Nd} {pos : Nat} {d : List UInt8} (h : Wr s0 k x0 s x) (hl : s.bs.length ≤ 4096) (hi : s.into k x pos d = some (s', x')) : Wr s0 k x0 s' x' := by
  unfold Fs.into at hi
  cases hp : x.part (pos / 64 : Nat) with
  | some b =>
    rw [hp] at hi
    cases hi
    have hused : (s.bk b).isSome = true := (h.blk.iff b).1 (by
      obtain ⟨R, h1, _⟩ := usedL_split h.at_
      rw [show s.used = usedL s.nodes from rfl, h1.mem_iff, List.mem_append]
      exact .inl (part_mem hp))
    cases hbk : s.bk b with
    | none => rw [hbk] at hused; cases hused
    | some l =>
      obtain ⟨g1, g2, g3⟩ := Fs.bk_slot hbk
      refine ⟨h.blk.bytes g3, h.at_, h.other, h.len, by simpa [Fs.setB] using h.blen, h.dirs, h.same, h.up, h.ok, fun c hc => ?_⟩
      have hlt := (List.getElem?_eq_some_iff.1 g3).1
      rw [bk_setB hlt]
      split
      · rfl
      · exact h.keep c hc
  | none =>
    rw [hp] at hi
    dsimp only at hi
    cases hj : freeAt s.bs with
    | none => rw [hj] at hi; cases hi
    | some j =>
      rw [hj] at hi
      cases hi
      obtain ⟨l0, hl0⟩ := freeAt_some s.bs j hj
      have hlt := (List.getElem?_eq_some_iff.1 hl0).1
      have hklt := (List.getElem?_eq_some_iff.1 h.at_).1
      have ht := h.blk.take h.at_ h.ok hp hj hl
      have hbs : (s.takeS k x (pos / 64 : Nat) j).bs[j]? = some (true, zeros) := by
        show (s.bs.set j (true, zeros))[j]? = _
        rw [List.getElem?_set, if_pos rfl, if_pos hlt]
      refine ⟨ht.bytes hbs, ?_, fun i hi => ?_, ?_, ?_, h.dirs, h.same, ?_, h.ok.put _ _, fun c hc => ?_⟩
      · show (s.nodes.set k _)[k]? = _
        rw [List.getElem?_set, if_pos rfl, if_pos hklt]
      · show (s.nodes.set k _)[i]? = _
        rw [List.getElem?_set, if_neg (Ne.symm hi)]
        exact h.other i hi
      · show (s.nodes.set k _).length = _
        rw [List.length_set]; exact h.len
      · show ((s.bs.set j _).set j _).length = _
        rw [List.length_set, List.length_set]; exact h.blen
      · exact setE_up (by omega) h.up
      · have h1 : ((s.setB j (true, zeros)).bk c).isSome = true := by
          rw [bk_setB hlt]
          split
          · rfl
          · exact h.keep c hc
        show (((s.takeS k x (pos / 64 : Nat) j).setB j _).bk c).isSome = true
        rw [bk_setB (by show j < (s.bs.set j _).length; rw [List.length_set]; exact hlt)]
        split
        · rfl
        · exact h1
theorem writeL_wr {s0 : Fs} {k at_ : Nat} {x0 : Nd} {d : List UInt8} : ∀ (f done : Nat) (s : Fs) (x : Nd), Wr s0 k x0 s x → s.bs.length ≤ 4096 → done ≤ d.length → Wr s0 k x0 (Fs.writeL k at_ d f done s x).2.1 (Fs.writeL k at_ d f done s x).2.2 ∧ (Fs.writeL k at_ d f done s x).1 ≤ d.length
  | 0, done, s, x, h, hl, hd => ⟨h, hd⟩
  | f + 1, done, s, x, h, hl, hd => by
    unfold Fs.writeL
    by_cases hlt : done < d.length
    · rw [if_pos hlt]
      cases hi : s.into k x (at_ + done) (chunkAt (at_ + done) done d) with
      | none => exact ⟨h, hd⟩
      | some r =>
        obtain ⟨s', x'⟩ := r
        have h' := into_wr h hl hi
        exact writeL_wr f _ s' x' h' (by rw [h'.blen, ← h.blen]; exact hl) (by unfold chunkAt; simp; omega)
    · rw [if_neg hlt]
      exact ⟨h, hd⟩
end Go.Proofs.YtbecmcjibpamoaaGreatDoor
namespace Go.Proofs.YtbecmcjibpamoaaGreatDoor
open Go.RowKit IntWalk
def GoodT (t : List UInt8) : Prop := t ≠ [] ∧ (47 : UInt8) ∉ t ∧ t ≠ dotL ∧ t ≠ dotsL ∧ t.length ≤ 32
structure NamesT (s : Fs) (d : Dr) : Prop where
  ent : ∀ e ∈ d.names.es, ∃ t i, e.1 = .str t ∧ e.2.1 = .int .i64 i ∧ GoodT t ∧ 2 ≤ i ∧ (s.nd i).isSome = true
  inj : (d.names.es.map blockOf).Nodup
  all : ∀ i x, 2 ≤ i → s.nd i = some x → i ∈ d.names.es.map blockOf
  keys : (d.names.es.map (·.1)).Nodup
structure RootT (x : Nd) : Prop where
  names : x.names = 1
  users : x.users = 0
  kind : x.kind = 2
  size : x.size = 0
  parts : x.parts.es = []
structure FileT (x : Nd) (u : Nat) : Prop where
  kind : x.kind = 1
  names : x.names = 1
  users : x.users = u
  size : 0 ≤ x.size ∧ x.size ≤ 4096
  up : PartsUp x
structure Tidy (s : Fs) (us : Int → Nat) : Prop where
  len : s.nodes.length = 9
  blen : s.bs.length = 20
  root : ∃ x, s.nodes[0]? = some (some x) ∧ RootT x
  dir : ∃ d b, s.dirs = [(1, d, b)] ∧ d.parent = 1 ∧ NamesT s d
  file : ∀ i x, 2 ≤ i → s.nd i = some x → FileT x (us i)
  gone : ∀ i, (i < 2 ∨ s.nd i = none) → us i = 0
  blk : Blk s
  ok : ∀ x, some x ∈ s.nodes → PartsOk x.parts
section
variable {s : Fs} {us : Int → Nat}
theorem Tidy.nd1 (h : Tidy s us) : ∃ x, s.nd 1 = some x ∧ RootT x := by
  obtain ⟨x, h1, h2⟩ := h.root
  refine ⟨x, ?_, h2⟩
  unfold Fs.nd
  rw [if_neg (by omega), show slotOf 1 = 0 from rfl, h1]
  rfl
theorem Tidy.kind1 (h : Tidy s us) : s.fld Nd.kind 1 = 2 := by
  obtain ⟨x, h1, h2⟩ := h.nd1
  unfold Fs.fld
  rw [h1]
  exact h2.kind
theorem Tidy.kind2 (h : Tidy s us) {i : Int} (hi : 2 ≤ i) (hs : (s.nd i).isSome = true) : s.fld Nd.kind i = 1 := by
  unfold Fs.fld
  cases hn : s.nd i with
  | none => rw [hn] at hs; cases hs
  | some x => exact (h.file i x hi hn).kind
theorem Tidy.nd_pos {i : Int} (hs : (s.nd i).isSome = true) : 1 ≤ i := by
  unfold Fs.nd at hs
  by_cases h1 : i < 1
  · rw [if_pos h1] at hs; cases hs
  · omega
theorem Tidy.dir1 (h : Tidy s us) : ∃ d, s.dirOf 1 = some d ∧ s.dr 1 = some d ∧ d.parent = 1 ∧ NamesT s d := by
  obtain ⟨d, b, h1, h2, h3⟩ := h.dir
  have : s.dr 1 = some d := by unfold Fs.dr; rw [h1]; rfl
  refine ⟨d, ?_, this, h2, h3⟩
  unfold Fs.dirOf
  rw [if_pos h.kind1, this]
theorem Tidy.dirOf_some (h : Tidy s us) {i : Int} {d : Dr} (hd : s.dirOf i = some d) : i = 1 := by
  unfold Fs.dirOf at hd
  by_cases hk : s.fld Nd.kind i = 2
  · cases hn : s.nd i with
    | none => unfold Fs.fld at hk; rw [hn] at hk; cases hk
    | some x =>
      have hp := Tidy.nd_pos (s := s) (i := i) (by rw [hn]; rfl)
      by_cases h2 : 2 ≤ i
      · have := h.kind2 h2 (by rw [hn]; rfl)
        omega
      · omega
  · rw [if_neg hk] at hd; cases hd
theorem Tidy.whole (h : Tidy s us) : s.Whole := fun i x hn => by
  have hp := Tidy.nd_pos (s := s) (i := i) (by rw [hn]; rfl)
  refine ⟨fun p b hpb => (h.blk.iff b).1 ?_, ?_⟩
  · obtain ⟨_, _, h3⟩ := Fs.nd_slot hn
    obtain ⟨R, h1, _⟩ := usedL_split h3
    rw [show s.used = usedL s.nodes from rfl, h1.mem_iff, List.mem_append]
    exact .inl (part_mem hpb)
  · by_cases h2 : 2 ≤ i
    · exact (h.file i x h2 hn).size
    · obtain ⟨y, hy, hr⟩ := h.nd1
      have : i = 1 := by omega
      subst this
      rw [hn] at hy
      cases hy
      rw [hr.size]
      omega
def AnyT (s : Fs) (i : Int) : Prop := i = 1 ∨ (2 ≤ i ∧ (s.nd i).isSome = true)
theorem name_mem {d : Dr} {t : List UInt8} {i : Int} (h : d.name t = some i) : ∃ n, (Key.str t, Value.int .i64 i, n) ∈ d.names.es := by
  unfold Dr.name at h
  split at h
  · rename_i b hg
    cases h
    exact getE_mem hg
  · cases h
theorem Tidy.partT (h : Tidy s us) {go : Int → List UInt8 → Nat → Int × Int × Nat} {at_ : Int} {p : List UInt8} {fol : Bool} {links : Nat} (he : (s.partS go at_ p fol links).2.1 = 0) : AnyT s (s.partS go at_ p fol links).1 := by
  unfold Fs.partS at he ⊢
  cases hd : s.dirOf at_ with
  | none => rw [hd] at he; cases he
  | some d =>
    obtain rfl := h.dirOf_some hd
    obtain ⟨d', hd', _, hp, hn⟩ := h.dir1
    rw [hd] at hd'
    cases hd'
    rw [hd] at he
    dsimp only at he ⊢
    by_cases c1 : p = [] ∨ p = dotL
    · rw [if_pos c1]; exact .inl rfl
    rw [if_neg c1] at he ⊢
    by_cases c2 : p = dotsL
    · rw [if_pos c2] at he ⊢
      rw [hp, h.kind1]
      exact .inl rfl
    rw [if_neg c2] at he ⊢
    by_cases c3 : 32 < p.length
    · rw [if_pos c3] at he; cases he
    rw [if_neg c3] at he ⊢
    cases hnm : d.name p with
    | none => rw [hnm] at he; cases he
    | some i =>
      obtain ⟨n, hm⟩ := name_mem hnm
      obtain ⟨t, i', e1, e2, _, e4, e5⟩ := hn.ent _ hm
      cases e2
      dsimp only
      rw [if_pos (.inl (by rw [h.kind2 e4 e5]; omega))]
      exact .inr ⟨e4, e5⟩
theorem Tidy.partsT (h : Tidy s us) {go : Int → List UInt8 → Nat → Int × Int × Nat} {fol : Bool} : ∀ (l : List (List UInt8)) (at_ : Int) (links : Nat), AnyT s at_ → (s.partsS go fol at_ l links).2.1 = 0 → AnyT s (s.partsS go fol at_ l links).1
  | [], at_, links, ha, _ => ha
  | p :: l, at_, links, ha, he => by
    unfold Fs.partsS at he ⊢
    split at he
    · rename_i n k hp
      have h1 := h.partT (go := go) (at_ := at_) (p := p) (fol := fol || !l.isEmpty) (links := links) (by rw [hp])
      rw [hp] at h1
      exact h.partsT l n k h1 he
    · rename_i n e k hne hp
      exact absurd he (fun q => hne q)
theorem Tidy.goesT (h : Tidy s us) {f : Nat} {at_ : Int} {path : List UInt8} {fol : Bool} {links : Nat} (ha : AnyT s at_) (he : (s.goesS (f + 1) at_ path fol links).2.1 = 0) : AnyT s (s.goesS (f + 1) at_ path fol links).1 := by
  unfold Fs.goesS at he ⊢
  by_cases c1 : path = []
  · rw [if_pos c1] at he; cases he
  rw [if_neg c1] at he ⊢
  by_cases c2 : 256 < path.length
  · rw [if_pos c2] at he; cases he
  rw [if_neg c2] at he ⊢
  refine h.partsT _ _ _ ?_ he
  unfold fromS
  split
  · exact .inl rfl
  · exact ha
theorem Tidy.walk (h : Tidy s us) {path : List UInt8} {fol : Bool} (he : (s.walkS 1 path fol).2 = 0) : AnyT s (s.walkS 1 path fol).1 := by
  obtain ⟨d, hd, _⟩ := h.dir1
  unfold Fs.walkS at he ⊢
  rw [hd] at he ⊢
  exact h.goesT (f := 8) (.inl rfl) he
theorem Tidy.turn (h : Tidy s us) {i : Int} (hi : 2 ≤ i) {y : Nd} (hy : s.nd i = some y) {s' : Fs} {x : Nd} {us' : Int → Nat} (hat : s'.nodes[slotOf i]? = some (some x)) (ho : ∀ j, j ≠ slotOf i → s'.nodes[j]? = s.nodes[j]?) (hl : s'.nodes.length = s.nodes.length) (hbl : s'.bs.length = s.bs.length) (hd : s'.dirs = s.dirs) (hb : Blk s')
    (hx : FileT x (us' i)) (hok : PartsOk x.parts) (hus : ∀ j, j ≠ i → us' j = us j) : Tidy s' us' := by
  have hnd : ∀ j, s'.nd j = if j = i then some x else s.nd j := fun j => by
    unfold Fs.nd
    by_cases h1 : j < 1
    · rw [if_pos h1, if_neg (by omega), if_pos h1]
    · rw [if_neg h1]
      by_cases e : j = i
      · subst e; rw [if_pos rfl, hat]; rfl
      · rw [if_neg e, if_neg h1, ho _ (by unfold slotOf; omega)]
  refine ⟨hl.trans h.len, hbl.trans h.blen, ?_, ?_, fun j z hj hz => ?_, fun j hj => ?_, hb, fun z hz => ?_⟩
  · obtain ⟨r, h1, h2⟩ := h.root
    exact ⟨r, by rw [ho 0 (by unfold slotOf; omega)]; exact h1, h2⟩
  · obtain ⟨d, b, h1, h2, h3⟩ := h.dir
    refine ⟨d, b, hd.trans h1, h2, ⟨fun e he => ?_, h3.inj, fun j z hj hz => ?_, h3.keys⟩⟩
    · obtain ⟨t, j, e1, e2, e3, e4, e5⟩ := h3.ent e he
      refine ⟨t, j, e1, e2, e3, e4, ?_⟩
      rw [hnd]
      split
      · rfl
      · exact e5
    · rw [hnd] at hz
      by_cases e : j = i
      · subst e; exact h3.all j y hj hy
      · rw [if_neg e] at hz; exact h3.all j z hj hz
  · rw [hnd] at hz
    by_cases e : j = i
    · subst e; rw [if_pos rfl] at hz; cases hz; exact hx
    · rw [if_neg e] at hz; rw [hus j e]; exact h.file j z hj hz
  · have hji : j ≠ i := by
      rintro rfl
      rcases hj with q | q
      · omega
      · rw [hnd, if_pos rfl] at q; cases q
    rw [hus j hji]
    refine h.gone j ?_
    rcases hj with q | q
    · exact .inl q
    · rw [hnd, if_neg hji] at q; exact .inr q
  · obtain ⟨k, hk⟩ := List.mem_iff_getElem?.1 hz
    by_cases e : k = slotOf i
    · subst e; rw [hat] at hk; cases hk; exact hok
    · rw [ho k e] at hk; exact h.ok z (List.mem_of_getElem? hk)
theorem Tidy.at_ (h : Tidy s us) {i : Int} (hi : 2 ≤ i) {x : Nd} (hx : s.nd i = some x) : s.nodes[slotOf i]? = some (some x) ∧ FileT x (us i) ∧ PartsOk x.parts :=
  ⟨(Fs.nd_slot hx).2.2, h.file i x hi hx, h.ok x (List.mem_of_getElem? (Fs.nd_slot hx).2.2)⟩
theorem Tidy.hold (h : Tidy s us) {i : Int} (hi : 2 ≤ i) (hs : (s.nd i).isSome = true) (hu : us i < 100000) : Tidy (s.holdS i).2 (fun j => if j = i then us i + 1 else us j) := by
  cases hn : s.nd i with
  | none => rw [hn] at hs; cases hs
  | some x =>
    obtain ⟨h1, h2, h3⟩ := h.at_ hi hn
    have hlt := (List.getElem?_eq_some_iff.1 h1).1
    have e : (s.holdS i).2 = s.setNd (slotOf i) { x with users := incW x.users } := by unfold Fs.holdS; rw [hn]
    rw [e]
    refine h.turn hi hn (x := { x with users := incW x.users }) (by show (s.nodes.set _ _)[_]? = _; rw [List.getElem?_set, if_pos rfl, if_pos hlt]) (fun j hj => by show (s.nodes.set _ _)[_]? = _; rw [List.getElem?_set, if_neg (Ne.symm hj)]) (by show (s.nodes.set _ _).length = _; rw [List.length_set]) rfl rfl (h.blk.setNd h1 rfl) ⟨h2.kind, h2.names, ?_, h2.size, h2.up⟩ h3 (fun j hj => by rw [if_neg hj])
    rw [if_pos rfl]
    show incW x.users = _
    unfold incW
    rw [h2.users, wrap64_in _ ⟨by omega, by omega⟩]
    omega
theorem Tidy.write (h : Tidy s us) {i : Int} (hi : 2 ≤ i) {x : Nd} (hx : s.nd i = some x) (at_ : Nat) (d : List UInt8) (hd : at_ + d.length ≤ 4096) : Tidy (s.writeS (slotOf i) x at_ d).2 us ∧ (s.writeS (slotOf i) x at_ d).1 ≤ d.length := by
  obtain ⟨h1, h2, h3⟩ := h.at_ hi hx
  have hlt := (List.getElem?_eq_some_iff.1 h1).1
  have hw0 : Wr s (slotOf i) x s x := ⟨h.blk, h1, fun _ _ => rfl, rfl, rfl, rfl, ⟨rfl, rfl, rfl, rfl⟩, h2.up, h3, fun _ hb => hb⟩
  obtain ⟨hw, hle⟩ := writeL_wr (at_ := at_) (d := d) (d.length + 1) 0 s x hw0 (by rw [h.blen]; omega) (by omega)
  unfold Fs.writeS
  generalize Fs.writeL (slotOf i) at_ d (d.length + 1) 0 s x = r at *
  obtain ⟨n, s', x'⟩ := r
  dsimp only at hw hle ⊢
  obtain ⟨g1, g2, g3, g4⟩ := hw.same
  refine ⟨?_, hle⟩
  have hlt' := (List.getElem?_eq_some_iff.1 hw.at_).1
  by_cases hn : 0 < n
  · rw [if_pos hn]
    refine h.turn hi hx (x := { x' with size := max x.size ((at_ + n : Nat) : Int) }) (by show (s'.nodes.set _ _)[_]? = _; rw [List.getElem?_set, if_pos rfl, if_pos hlt']) (fun j hj => by show (s'.nodes.set _ _)[_]? = _; rw [List.getElem?_set, if_neg (Ne.symm hj)]; exact hw.other j hj) (by show (s'.nodes.set _ _).length = _; rw [List.length_set]; exact hw.len) hw.blen hw.dirs (hw.blk.setNd hw.at_ rfl) ⟨g3.trans h2.kind, g1.trans h2.names, g2.trans h2.users, ?_, hw.up⟩ hw.ok (fun _ _ => rfl)
    have := h2.size
    show 0 ≤ max x.size ((at_ + n : Nat) : Int) ∧ max x.size ((at_ + n : Nat) : Int) ≤ 4096
    omega
  · rw [if_neg hn]
    exact h.turn hi hx (x := x') hw.at_ hw.other hw.len hw.blen hw.dirs hw.blk ⟨g3.trans h2.kind, g1.trans h2.names, g2.trans h2.users, by rw [g4]; exact h2.size, hw.up⟩ hw.ok (fun _ _ => rfl)
end
end Go.Proofs.YtbecmcjibpamoaaGreatDoor
namespace Go.Proofs.YtbecmcjibpamoaaGreatDoor
open Go.RowKit IntWalk
structure NdG (x : Nd) : Prop where
  up : PartsUp x
  ok : PartsOk x.parts
  size : 0 ≤ x.size ∧ x.size ≤ 4096
structure Gen (s : Fs) : Prop where
  blk : Blk s
  nds : ∀ (j : Nat) x, s.nodes[j]? = some (some x) → NdG x
  dirs : ∀ i, (s.dr i).isSome = true → (s.nd i).isSome = true
  blen : s.bs.length ≤ 4096
section
variable {s s' : Fs}
theorem Gen.whole (h : Gen s) : s.Whole := fun i x hn => by
  obtain ⟨_, _, h3⟩ := Fs.nd_slot hn
  refine ⟨fun p b hpb => (h.blk.iff b).1 ?_, (h.nds _ x h3).size⟩
  obtain ⟨R, h1, _⟩ := usedL_split h3
  rw [show s.used = usedL s.nodes from rfl, h1.mem_iff, List.mem_append]
  exact .inl (part_mem hpb)
theorem freshG (kind : Int) : NdG (freshNd kind) := ⟨(fun e he => by cases he), ⟨GMap.Good.empty, (fun e he => by cases he)⟩, by show (0 : Int) ≤ 0 ∧ (0 : Int) ≤ 4096; decide⟩
theorem Gen.node (h : Gen s) {k : Nat} {o : Option Nd} (hat : s'.nodes[k]? = some o) (ho : ∀ j, j ≠ k → s'.nodes[j]? = s.nodes[j]?) (hb : Blk s') (hbl : s'.bs.length = s.bs.length) (hd : s'.dirs = s.dirs) (hx : ∀ x, o = some x → NdG x) (hn : o = none → s.dr ((k : Int) + 1) = none) : Gen s' := by
  refine ⟨hb, fun j x hj => ?_, fun i hi => ?_, by rw [hbl]; exact h.blen⟩
  · by_cases e : j = k
    · subst e; rw [hat] at hj; cases hj; exact hx x rfl
    · rw [ho j e] at hj; exact h.nds j x hj
  · have hi' : (s.dr i).isSome = true := by unfold Fs.dr at hi ⊢; rwa [hd] at hi
    have := h.dirs i hi'
    unfold Fs.nd at this ⊢
    by_cases h1 : i < 1
    · rw [if_pos h1] at this; cases this
    · rw [if_neg h1] at this ⊢
      by_cases e : slotOf i = k
      · rw [e, hat]
        cases o with
        | some x => rfl
        | none =>
          have : i = (k : Int) + 1 := by unfold slotOf at e; omega
          rw [this, hn rfl] at hi'; cases hi'
      · rw [ho _ e]; exact this
theorem Gen.nodr (h : Gen s) {k : Nat} (hk : s.nodes[k]? = some none) : s.dr ((k : Int) + 1) = none := by
  cases hd : s.dr ((k : Int) + 1) with
  | none => rfl
  | some d =>
    have := h.dirs ((k : Int) + 1) (by rw [hd]; rfl)
    unfold Fs.nd at this
    rw [if_neg (by omega), slotOf_eq, hk] at this
    cases this
theorem Gen.fresh (h : Gen s) {k : Nat} (hk : s.nodes[k]? = some none) (kind : Int) : Gen (s.setNd k (freshNd kind)) := by
  have hlt := (List.getElem?_eq_some_iff.1 hk).1
  exact h.node (k := k) (o := some (freshNd kind)) (by show (s.nodes.set _ _)[_]? = _; rw [List.getElem?_set, if_pos rfl, if_pos hlt]) (fun j hj => by show (s.nodes.set _ _)[_]? = _; rw [List.getElem?_set, if_neg (Ne.symm hj)]) (h.blk.newNd hk rfl) rfl rfl (fun x hx => by cases hx; exact freshG kind) (fun q => by cases q)
theorem Gen.setDr (h : Gen s) (i : Int) (d : Dr) : Gen (s.setDr i d) := by
  refine ⟨h.blk.of (List.Perm.refl _) rfl rfl, h.nds, fun j hj => ?_, h.blen⟩
  rw [setDr_dr] at hj
  refine h.dirs j ?_
  split at hj
  · cases q : s.dr j with
    | none => rw [q] at hj; cases hj
    | some d => rfl
  · exact hj
theorem Gen.addDr (h : Gen s) {i par : Int} (hd : s.dr i = none) (hi : (s.nd i).isSome = true) : Gen (s.addDr i par) := by
  refine ⟨h.blk.of (List.Perm.refl _) rfl rfl, h.nds, fun j hj => ?_, h.blen⟩
  rw [addDr_dr hd] at hj
  split at hj
  · rename_i e; subst e; exact hi
  · exact h.dirs j hj
theorem Gen.write (h : Gen s) {k : Nat} (hk : s.nodes[k]? = some none) (kind : Int) (t : List UInt8) (ht : t.length ≤ 4096) : ∃ x, ((s.setNd k (freshNd kind)).writeS k (freshNd kind) 0 t).2.nodes[k]? = some (some x) ∧ x.names = 1 ∧ x.users = 0 ∧ Gen ((s.setNd k (freshNd kind)).writeS k (freshNd kind) 0 t).2 ∧ (∀ j, j ≠ k → ((s.setNd k (freshNd kind)).writeS k (freshNd kind) 0 t).2.nodes[j]? = s.nodes[j]?) ∧ ((s.setNd k (freshNd kind)).writeS k (freshNd kind) 0 t).2.bs.length = s.bs.length := by
  have hlt := (List.getElem?_eq_some_iff.1 hk).1
  have hG := h.fresh hk kind
  have hat : (s.setNd k (freshNd kind)).nodes[k]? = some (some (freshNd kind)) := by show (s.nodes.set _ _)[_]? = _; rw [List.getElem?_set, if_pos rfl, if_pos hlt]
  have hot : ∀ j, j ≠ k → (s.setNd k (freshNd kind)).nodes[j]? = s.nodes[j]? := fun j hj => by show (s.nodes.set _ _)[_]? = _; rw [List.getElem?_set, if_neg (Ne.symm hj)]
  have hw0 : Wr (s.setNd k (freshNd kind)) k (freshNd kind) (s.setNd k (freshNd kind)) (freshNd kind) := ⟨hG.blk, hat, fun _ _ => rfl, rfl, rfl, rfl, ⟨rfl, rfl, rfl, rfl⟩, (freshG kind).up, (freshG kind).ok, fun _ hb => hb⟩
  obtain ⟨hw, hle⟩ := writeL_wr (at_ := 0) (d := t) (t.length + 1) 0 (s.setNd k (freshNd kind)) (freshNd kind) hw0 h.blen (by omega)
  unfold Fs.writeS
  generalize Fs.writeL k 0 t (t.length + 1) 0 (s.setNd k (freshNd kind)) (freshNd kind) = r at *
  obtain ⟨n, s1, x1⟩ := r
  dsimp only at hw hle ⊢
  obtain ⟨g1, g2, g3, g4⟩ := hw.same
  have hlt' := (List.getElem?_eq_some_iff.1 hw.at_).1
  have hx1 : NdG x1 := ⟨hw.up, hw.ok, by rw [g4]; exact (freshG kind).size⟩
  by_cases hn : 0 < n
  · rw [if_pos hn]
    have hx2 : NdG { x1 with size := max (freshNd kind).size ((0 + n : Nat) : Int) } := ⟨hw.up, hw.ok, by
      have := (freshG kind).size
      show 0 ≤ max (freshNd kind).size ((0 + n : Nat) : Int) ∧ max (freshNd kind).size ((0 + n : Nat) : Int) ≤ 4096
      omega⟩
    refine ⟨{ x1 with size := max (freshNd kind).size ((0 + n : Nat) : Int) }, by show (s1.nodes.set _ _)[_]? = _; rw [List.getElem?_set, if_pos rfl, if_pos hlt'], g1, g2, ?_, fun j hj => ?_, hw.blen⟩
    · exact hG.node (k := k) (by show (s1.nodes.set _ _)[_]? = _; rw [List.getElem?_set, if_pos rfl, if_pos hlt']) (fun j hj => by show (s1.nodes.set _ _)[_]? = _; rw [List.getElem?_set, if_neg (Ne.symm hj)]; exact hw.other j hj) (hw.blk.setNd hw.at_ rfl) hw.blen hw.dirs (fun x hx => by cases hx; exact hx2) (fun q => by cases q)
    · show (s1.nodes.set _ _)[_]? = _
      rw [List.getElem?_set, if_neg (Ne.symm hj), hw.other j hj, hot j hj]
  · rw [if_neg hn]
    refine ⟨x1, hw.at_, g1, g2, ?_, fun j hj => by rw [hw.other j hj, hot j hj], hw.blen⟩
    exact hG.node (k := k) hw.at_ hw.other hw.blk hw.blen hw.dirs (fun x hx => by cases hx; exact hx1) (fun q => by cases q)
theorem Gen.untie (h : Gen s) {k : Nat} {x : Nd} (hk : s.nodes[k]? = some (some x)) (hn : x.names = 1) (hu : x.users = 0) (hd : s.dr ((k : Int) + 1) = none) : Gen (s.untieS ((k : Int) + 1)) := by
  have hlt := (List.getElem?_eq_some_iff.1 hk).1
  have hnd : s.nd ((k : Int) + 1) = some x := by
    unfold Fs.nd
    rw [if_neg (by omega), slotOf_eq, hk]; rfl
  unfold Fs.untieS
  rw [hnd]
  dsimp only
  rw [if_neg (by rw [hn]; decide)]
  have hdw : decW x.names = 0 := by rw [hn]; simp [decW, wrap64]
  have hid : idle { x with names := decW x.names } = true := by
    unfold idle
    dsimp only
    rw [hdw, hu]; rfl
  unfold Fs.lessS
  rw [hid, if_pos rfl, slotOf_eq]
  have hG := h.nds k x hk
  have h1 : Blk (s.setNd k { x with names := decW x.names }) := h.blk.setNd hk rfl
  have hat : (s.setNd k { x with names := decW x.names }).nodes[k]? = some (some { x with names := decW x.names }) := by show (s.nodes.set _ _)[_]? = _; rw [List.getElem?_set, if_pos rfl, if_pos hlt]
  rw [dropS_eq (x := { x with names := decW x.names }) hG.up]
  obtain ⟨b1, b2, b3, b4⟩ := h1.drop h.blen hat
  have hat2 : ((givesS (s.setNd k { x with names := decW x.names }) x.parts.es).setNd k (bare { x with names := decW x.names })).nodes[k]? = some (some (bare { x with names := decW x.names })) := by
    show (List.set _ _ _)[_]? = _
    rw [List.getElem?_set, if_pos rfl, b2, if_pos (by show k < (s.nodes.set _ _).length; rw [List.length_set]; exact hlt)]
  have hl2 := (List.getElem?_eq_some_iff.1 hat2).1
  refine h.node (k := k) (o := none) (by show (List.set _ _ _)[_]? = _; rw [List.getElem?_set, if_pos rfl, if_pos hl2]) (fun j hj => ?_) (b1.noNd hat2 rfl) b4 b3 (fun y hy => by cases hy) (fun _ => hd)
  show (List.set _ _ _)[_]? = _
  rw [List.getElem?_set, if_neg (Ne.symm hj)]
  show (List.set _ _ _)[_]? = _
  rw [List.getElem?_set, if_neg (Ne.symm hj), b2]
  show (s.nodes.set _ _)[_]? = _
  rw [List.getElem?_set, if_neg (Ne.symm hj)]
end
end Go.Proofs.YtbecmcjibpamoaaGreatDoor
namespace Go.Proofs.YtbecmcjibpamoaaGreatDoor
open Go.RowKit IntWalk
def Fs.mkdirS (s : Fs) (dir : Int) (path : List UInt8) : Int × Fs :=
  if s.freeS dir path ≠ 0 then (s.freeS dir path, s)
  else match gapAt s.nodes with
    | none => (21, s)
    | some k => match s.dr (s.placeS dir path).1 with
      | none => (0, s)
      | some d => (0, ((s.setNd k (freshNd 2)).addDr ((k : Int) + 1) (s.placeS dir path).1).setDr (s.placeS dir path).1 ⟨d.names.put (.str (s.placeS dir path).2.1) (.int .i64 (k + 1)), d.parent⟩)
def Fs.linkS (s : Fs) (dir : Int) (path t : List UInt8) : Int × Fs :=
  if s.freeS dir path ≠ 0 then (s.freeS dir path, s)
  else match gapAt s.nodes with
    | none => (21, s)
    | some k => match s.dr (s.placeS dir path).1 with
      | none => (0, s)
      | some d =>
        if ((s.setNd k (freshNd 3)).writeS k (freshNd 3) 0 t).1 < t.length then (20, ((s.setNd k (freshNd 3)).writeS k (freshNd 3) 0 t).2.untieS ((k : Int) + 1))
        else (0, ((s.setNd k (freshNd 3)).writeS k (freshNd 3) 0 t).2.setDr (s.placeS dir path).1 ⟨d.names.put (.str (s.placeS dir path).2.1) (.int .i64 (k + 1)), d.parent⟩)
def Fs.slinkS (s : Fs) (dir : Int) (t path : List UInt8) : Int × Fs :=
  if (s.dirOf dir).isNone then (25, s) else if t = [] then (1, s) else if 256 < t.length then (3, s) else s.linkS dir path t
section
variable {W0 : World} {s : Fs} {lay : FId → Nat} {w : World}
theorem free_dir {dir : Int} {path : List UInt8} (he : s.freeS dir path = 0) : ∃ n nm d, s.placeS dir path = (n, nm, 0) ∧ s.dr n = some d := by
  obtain ⟨n, nm, e, hr⟩ : ∃ n nm e, s.placeS dir path = (n, nm, e) := ⟨_, _, _, rfl⟩
  have he0 : e = 0 := by
    unfold Fs.freeS at he
    rw [hr] at he
    dsimp only at he
    by_cases q : e = 0
    · exact q
    · rw [if_pos q] at he; exact absurd he q
  subst he0
  obtain ⟨d, hd, _, _⟩ := placeS_dir (s := s) (dir := dir) (path := path) (by rw [hr])
  rw [hr] at hd
  exact ⟨n, nm, d, hr, dirOf_dr hd⟩
theorem Gen.makeS (h : Gen s) (dir : Int) (path : List UInt8) : Gen (s.makeS dir path).2.2 := by
  unfold Fs.makeS
  by_cases he : s.freeS dir path = 0
  · rw [if_neg (by simpa using he)]
    cases hg : gapAt s.nodes with
    | none => exact h
    | some k =>
      obtain ⟨n, nm, d, hr, hd⟩ := free_dir he
      rw [hr]
      dsimp only
      rw [hd]
      exact (h.fresh (gapAt_some _ _ hg).1 1).setDr _ _
  · rw [if_pos he]; exact h
theorem fresh_nd {k : Nat} (hk : s.nodes[k]? = some none) (kind : Int) : (s.setNd k (freshNd kind)).nd ((k : Int) + 1) = some (freshNd kind) := by
  have hlt := (List.getElem?_eq_some_iff.1 hk).1
  unfold Fs.nd
  rw [if_neg (by omega), slotOf_eq, Fs.setNd_get, if_pos rfl, if_pos hlt]; rfl
theorem Gen.mkdirS (h : Gen s) (dir : Int) (path : List UInt8) : Gen (s.mkdirS dir path).2 := by
  unfold Fs.mkdirS
  by_cases he : s.freeS dir path = 0
  · rw [if_neg (by simpa using he)]
    cases hg : gapAt s.nodes with
    | none => exact h
    | some k =>
      obtain ⟨n, nm, d, hr, hd⟩ := free_dir he
      rw [hr]
      dsimp only
      rw [hd]
      have hk := (gapAt_some _ _ hg).1
      exact ((h.fresh hk 2).addDr (h.nodr hk) (by rw [fresh_nd hk]; rfl)).setDr _ _
  · rw [if_pos he]; exact h
theorem Gen.linkS (h : Gen s) (dir : Int) (path t : List UInt8) (ht : t.length ≤ 4096) : Gen (s.linkS dir path t).2 := by
  unfold Fs.linkS
  by_cases he : s.freeS dir path = 0
  · rw [if_neg (by simpa using he)]
    cases hg : gapAt s.nodes with
    | none => exact h
    | some k =>
      obtain ⟨n, nm, d, hr, hd⟩ := free_dir he
      rw [hr]
      dsimp only
      rw [hd]
      dsimp only
      have hk := (gapAt_some _ _ hg).1
      obtain ⟨x, h1, h2, h3, h4, _, _⟩ := h.write hk 3 t ht
      split
      · refine h4.untie h1 h2 h3 ?_
        show dirE ((k : Int) + 1) ((s.setNd k (freshNd 3)).writeS k (freshNd 3) 0 t).2.dirs = none
        rw [writeS_dirs]
        exact h.nodr hk
      · exact h4.setDr _ _
  · rw [if_pos he]; exact h
theorem Gen.slinkS (h : Gen s) (dir : Int) (t path : List UInt8) : Gen (s.slinkS dir t path).2 := by
  unfold Fs.slinkS
  split
  · exact h
  split
  · exact h
  split
  · exact h
  · exact h.linkS dir path t (by omega)
theorem madedir_any (hE : EnvG W0) (dir : Int) (path : List UInt8) (hpl : path.length ≤ 100000) (h : FsIn W0 s lay w) (hG : Gen s) :
    Calls Tryz.prog 17 #[ptrTo (lay .F), .int .i64 dir, .string ⟨path.toArray⟩, .int .i64 2, .string ByteArray.empty] w fun e w' => (∃ n : Int, e = .returned (.tuple #[.int .i64 n, .int .i64 (s.mkdirS dir path).1])) ∧ ∃ lay', lay' .F = lay .F ∧ Step s lay w (s.mkdirS dir path).2 lay' w' := by
  unfold Fs.mkdirS
  by_cases he : s.freeS dir path = 0
  · rw [if_neg (by simpa using he)]
    cases hg : gapAt s.nodes with
    | none => exact (mk_full 2 ByteArray.empty (by omega) (by omega) hE dir path hpl w h he hg).mono (by rintro e w' ⟨rfl, hs⟩; exact ⟨⟨_, rfl⟩, lay, rfl, hs⟩)
    | some k =>
      obtain ⟨n, nm, d, hr, hd⟩ := free_dir he
      rw [hr]
      dsimp only
      rw [hd]
      exact (mk_dir hE dir path hpl w h he k hg n nm hr d hd (hG.nodr (gapAt_some _ _ hg).1)).mono (by rintro e w' ⟨rfl, hs⟩; exact ⟨⟨_, rfl⟩, hs⟩)
  · rw [if_pos he]
    exact (mk_fail 2 ByteArray.empty hE dir path hpl w h he).mono (by rintro e w' ⟨rfl, hs⟩; exact ⟨⟨_, rfl⟩, lay, rfl, hs⟩)
theorem madelink_any (hE : EnvG W0) (dir : Int) (path t : List UInt8) (hpl : path.length ≤ 100000) (ht : t ≠ []) (ht2 : t.length ≤ 256) (h : FsIn W0 s lay w) (hG : Gen s) :
    Calls Tryz.prog 17 #[ptrTo (lay .F), .int .i64 dir, .string ⟨path.toArray⟩, .int .i64 3, .string ⟨t.toArray⟩] w fun e w' => (∃ n : Int, e = .returned (.tuple #[.int .i64 n, .int .i64 (s.linkS dir path t).1])) ∧ ∃ lay', lay' .F = lay .F ∧ Step s lay w (s.linkS dir path t).2 lay' w' := by
  unfold Fs.linkS
  by_cases he : s.freeS dir path = 0
  · rw [if_neg (by simpa using he)]
    cases hg : gapAt s.nodes with
    | none => exact (mk_full 3 ⟨t.toArray⟩ (by omega) (by omega) hE dir path hpl w h he hg).mono (by rintro e w' ⟨rfl, hs⟩; exact ⟨⟨_, rfl⟩, lay, rfl, hs⟩)
    | some k =>
      obtain ⟨n, nm, d, hr, hd⟩ := free_dir he
      rw [hr]
      dsimp only
      rw [hd]
      refine (mk_link t ht ht2 hE dir path hpl w h he k hg n nm hr d hd).mono ?_
      rintro e w' ⟨m, s2, lay', hm, hl, hh⟩
      dsimp only
      rw [← hm]
      dsimp only
      rcases hh with ⟨h1, rfl, h2⟩ | ⟨h1, rfl, h2⟩
      · rw [if_pos h1]; exact ⟨⟨_, rfl⟩, lay', hl, h2⟩
      · rw [if_neg (by omega)]; exact ⟨⟨_, rfl⟩, lay', hl, h2⟩
  · rw [if_pos he]
    exact (mk_fail 3 ⟨t.toArray⟩ hE dir path hpl w h he).mono (by rintro e w' ⟨rfl, hs⟩; exact ⟨⟨_, rfl⟩, lay, rfl, hs⟩)
theorem mkdir_any (hE : EnvG W0) (dir : Int) (path : List UInt8) (hpl : path.length ≤ 100000) (h : FsIn W0 s lay w) (hG : Gen s) :
    Calls Tryz.prog 15 #[ptrTo (lay .F), .int .i64 dir, .string ⟨path.toArray⟩] w fun e w' => e = .returned (.int .i64 (s.mkdirS dir path).1) ∧ ∃ lay', lay' .F = lay .F ∧ Step s lay w (s.mkdirS dir path).2 lay' w' := by
  have HM := Lib.hid (madedir_any hE dir path hpl h hG)
  clear h hG
  generalize s.mkdirS dir path = r at *
  unfold ptrTo at *
  go_enter Tryz.func15, Tryz.ntmps15
  go_wp2_with (go_at_call 17; refine HM.out.mono ?_; rintro e w' ⟨⟨n, rfl⟩, hs⟩)
  go_ret
  exact ⟨rfl, hs⟩
set_option maxRecDepth 100000 in
theorem symlink_any (hE : EnvG W0) (dir : Int) (t path : List UInt8) (hpl : path.length ≤ 100000) (h : FsIn W0 s lay w) (hG : Gen s) :
    Calls Tryz.prog 16 #[ptrTo (lay .F), .int .i64 dir, .string ⟨t.toArray⟩, .string ⟨path.toArray⟩] w fun e w' => e = .returned (.int .i64 (s.slinkS dir t path).1) ∧ ∃ lay', lay' .F = lay .F ∧ Step s lay w (s.slinkS dir t path).2 lay' w' := by
  have HD := Lib.hid (dir_any dir w h.is)
  have HR := Lib.hid (Step.refl h.is)
  unfold Fs.slinkS
  cases hd : s.dirOf dir with
  | none =>
    have hp := dirPtr_none (lay := lay) hd
    rw [show (Option.isNone (none : Option Dr)) = true from rfl, if_pos rfl]
    unfold ptrTo at *
    go_enter Tryz.func16, Tryz.ntmps16
    go_wp2_with (go_at_call 26; refine HD.out.mono ?_; rintro e w' ⟨rfl, rfl⟩; rw [hp])
    go_ret
    exact ⟨rfl, lay, rfl, HR.out⟩
  | some d =>
    have hp := dirPtr_some (lay := lay) hd
    rw [show (Option.isNone (some d)) = false from rfl, if_neg (by simp)]
    by_cases ht : t = []
    · subst ht
      rw [if_pos rfl]
      unfold ptrTo at *
      go_enter Tryz.func16, Tryz.ntmps16
      go_wp2_with (go_at_call 26; refine HD.out.mono ?_; rintro e w' ⟨rfl, rfl⟩; rw [hp])
      go_ret
      exact ⟨rfl, lay, rfl, HR.out⟩
    rw [if_neg ht]
    have hte : t.isEmpty = false := by cases t with | nil => exact absurd rfl ht | cons => rfl
    by_cases ht2 : 256 < t.length
    · rw [if_pos ht2]
      unfold ptrTo at *
      go_enter Tryz.func16, Tryz.ntmps16
      go_wp2_with (go_at_call 26; refine HD.out.mono ?_; rintro e w' ⟨rfl, rfl⟩; rw [hp])
      go_ret
      exact ⟨rfl, lay, rfl, HR.out⟩
    · rw [if_neg ht2]
      have HM := Lib.hid (madelink_any hE dir path t hpl ht (by omega) h hG)
      clear h hG
      generalize s.linkS dir path t = r at *
      unfold ptrTo at *
      go_enter Tryz.func16, Tryz.ntmps16
      go_wp2_with first
        | (go_at_call 26; refine HD.out.mono ?_; rintro e w' ⟨rfl, rfl⟩; rw [hp])
        | (go_at_call 17; refine HM.out.mono ?_; rintro e w' ⟨⟨n, rfl⟩, hs⟩)
      go_ret
      exact ⟨rfl, hs⟩
end
end Go.Proofs.YtbecmcjibpamoaaGreatDoor
namespace Go.Proofs.YtbecmcjibpamoaaGreatDoor
open Go.RowKit IntWalk
def blk0 : Bool × List UInt8 := (false, List.replicate 64 0)
def Fs.bare0 : Fs := ⟨List.replicate 30 none, List.replicate 200 blk0, 200, [], 0⟩
def Fs.new0 : Fs := (Fs.bare0.setNd 0 (freshNd 2)).addDr 1 1
theorem flat_rep {α β : Type} (f : α → List β) (a : α) (m : Nat) (hm : (f a).length = m) : ∀ (n j : Nat), j < n * m → ((List.replicate n a).flatMap f)[j]? = (f a)[j % m]?
  | 0, j, h => by omega
  | n + 1, j, h => by
    rw [List.replicate_succ, List.flatMap_cons]
    by_cases q : j < m
    · rw [List.getElem?_append_left (by omega), Nat.mod_eq_of_lt q]
    · rw [List.getElem?_append_right (by omega), hm, flat_rep f a m hm n (j - m) (by rw [Nat.succ_mul] at h; omega)]
      rw [Nat.mod_eq_sub_mod (by omega : m ≤ j)]
theorem flat_rep_len {α β : Type} (f : α → List β) (a : α) (m : Nat) (hm : (f a).length = m) (n : Nat) : ((List.replicate n a).flatMap f).length = n * m := by
  rw [List.length_flatMap, List.map_replicate, hm]
  simp
theorem made_get2 (z : Array Value) (n j : Nat) (hj : j < n) (h0 : 0 < z.size) : (madeCells z n)[j]? = z[j % z.size]? := by
  have : j % z.size < z.size := Nat.mod_lt _ h0
  simp [madeCells, hj, this]
theorem made_flat {α : Type} (f : α → List Value) (a : α) (z : Array Value) (hz : f a = z.toList) (h0 : 0 < z.size) (n : Nat) : madeCells z (n * z.size) = ((List.replicate n a).flatMap f).toArray := by
  have hm : (f a).length = z.size := by rw [hz]; simp
  apply Array.ext'
  apply List.ext_getElem?
  intro j
  rw [Array.getElem?_toList]
  by_cases q : j < n * z.size
  · rw [made_get2 z _ j q h0]
    show _ = ((List.replicate n a).flatMap f)[j]?
    rw [flat_rep f a z.size hm n j q, hz, Array.getElem?_toList]
  · rw [Array.getElem?_eq_none (by rw [size_madeCells]; omega)]
    show _ = ((List.replicate n a).flatMap f)[j]?
    rw [List.getElem?_eq_none (by rw [flat_rep_len f a _ hm]; omega)]
end Go.Proofs.YtbecmcjibpamoaaGreatDoor
namespace Go.Proofs.YtbecmcjibpamoaaGreatDoor
open Go.RowKit IntWalk
def bsO : Obj := .cells ((List.replicate 200 blk0).flatMap blockV).toArray 133
def gsO : Obj := .cells ((List.replicate 30 (none : Option Nd)).mapIdx fun i o => match o with | some _ => Value.pointer (some ⟨i, 0, none⟩) | none => Value.pointer none).toArray 83
theorem blk0_len : (blockV blk0).length = 65 := by
  unfold blockV blk0
  rw [List.length_cons, List.length_map, List.length_replicate]
theorem run_bs (w : World) : (Instr.makeSlice 157 (.int .i64 200) (.int .i64 200)).run Tryz.prog w = .ok (.slice (some ⟨w.heap.size, 0, none⟩) 200 200) (w.alloc bsO) := by
  obtain ⟨i, hi, h1, h2, h3⟩ := info_parts (show (Tryz.prog.info? 133).map (fun i => (i.zero, i.size, i.bytes)) = some (some (.agg (blockV blk0).toArray), 65, 65) by kernel_rfl)
  have := run_make (P := Tryz.prog) w 157 133 i _ Tryz.underlying157 hi h1 .i64 .i64 200 200 (by omega) (by omega) (by rw [h3]; omega) (by omega)
  have e : madeCells (Value.agg (blockV blk0).toArray).cells (Int.toNat 200 * i.size) = ((List.replicate 200 blk0).flatMap blockV).toArray := by
    rw [h2]
    have := made_flat blockV blk0 (blockV blk0).toArray (by simp) (by simp [blk0_len]) 200
    rw [show (blockV blk0).toArray.size = 65 by simp [blk0_len]] at this
    exact this
  rw [this, e]
  unfold bsO
  rw [show Int.toNat 200 = 200 from rfl]
theorem gs_eq (n : Nat) (f : Nat → Option Nd → Value) (hf : ∀ i, f i none = .pointer none) : madeCells #[Value.pointer none] n = ((List.replicate n (none : Option Nd)).mapIdx f).toArray := by
  apply Array.ext'
  apply List.ext_getElem?
  intro j
  rw [Array.getElem?_toList, List.getElem?_mapIdx, List.getElem?_replicate]
  by_cases q : j < n
  · rw [made_get2 #[Value.pointer none] n j q (by show 0 < 1; omega), if_pos q, Option.map_some, hf]
    show (#[Value.pointer none] : Array Value)[j % 1]? = _
    rw [Nat.mod_one]; rfl
  · rw [Array.getElem?_eq_none (by rw [size_madeCells]; omega), if_neg q]; rfl
theorem run_gs (w : World) : (Instr.makeSlice 87 (.int .i64 30) (.int .i64 30)).run Tryz.prog w = .ok (.slice (some ⟨w.heap.size, 0, none⟩) 30 30) (w.alloc gsO) := by
  obtain ⟨i, hi, h1, h2, h3⟩ := info_parts (show (Tryz.prog.info? 83).map (fun i => (i.zero, i.size, i.bytes)) = some (some (.pointer none), 1, 8) by kernel_rfl)
  have := run_make (P := Tryz.prog) w 87 83 i _ Tryz.underlying87 hi h1 .i64 .i64 30 30 (by omega) (by omega) (by rw [h3]; omega) (by omega)
  have e : madeCells (Value.pointer none).cells (Int.toNat 30 * i.size) = ((List.replicate 30 (none : Option Nd)).mapIdx fun i o => match o with | some _ => Value.pointer (some ⟨i, 0, none⟩) | none => Value.pointer none).toArray := by
    rw [h2]
    exact gs_eq 30 _ (fun _ => rfl)
  rw [this, e]
  unfold gsO
  rw [show Int.toNat 30 = 30 from rfl]
def lay0 (k : Nat) : FId → Nat
  | .B => k
  | .S => k + 1
  | .G => k + 2
  | .T => k + 3
  | .D => k + 4
  | .F => k + 5
  | _ => 0
theorem bare_ok : Fs.bare0.Ok := by
  refine ⟨by show (List.replicate 30 none).length ≤ 1024; rw [List.length_replicate]; omega, by show (List.replicate 200 blk0).length ≤ 4096; rw [List.length_replicate]; omega, fun b hb => ?_, fun x hx => ?_, (fun e he => by cases he), ⟨List.nodup_nil, List.nodup_nil, (fun e he => by cases he)⟩⟩
  · rw [List.eq_of_mem_replicate hb]
    show (List.replicate 64 (0 : UInt8)).length = 64
    exact List.length_replicate
  · have := List.eq_of_mem_replicate hx
    cases this
theorem bare_none (lay : FId → Nat) (i : Nat) : Fs.bare0.obj lay (.N i) = none ∧ Fs.bare0.obj lay (.P i) = none := by
  have h : Fs.bare0.nodes[i]? = none ∨ Fs.bare0.nodes[i]? = some none := by
    show (List.replicate 30 none)[i]? = none ∨ (List.replicate 30 none)[i]? = some none
    rw [List.getElem?_replicate]
    split
    · exact .inr rfl
    · exact .inl rfl
  constructor <;> (rcases h with h | h <;> simp [Fs.obj, h])
theorem bare_live (lay : FId → Nat) (i : FId) (h : Fs.bare0.obj lay i ≠ none) : i = .B ∨ i = .S ∨ i = .G ∨ i = .T ∨ i = .D ∨ i = .F := by
  cases i with
  | N i => exact absurd (bare_none lay i).1 h
  | P i => exact absurd (bare_none lay i).2 h
  | E i => exact absurd rfl h
  | M i => exact absurd rfl h
  | F => simp
  | T => simp
  | G => simp
  | S => simp
  | B => simp
  | D => simp
theorem bare_lies (k : Nat) (w : World) (hB : w.heap[k]? = some bsO) (hS : w.heap[k + 1]? = some (.cells #[.slice (some ⟨k, 0, none⟩) 200 200, .int .i64 200] 159 (0, 0)))
    (hG : w.heap[k + 2]? = some gsO) (hT : w.heap[k + 3]? = some (.cells #[.slice (some ⟨k + 2, 0, none⟩) 30 30, ptrTo (k + 1)] 90 (0, 0)))
    (hD : w.heap[k + 4]? = some (.map #[] 0)) (hF : w.heap[k + 5]? = some (.cells #[ptrTo (k + 3), .map (some (k + 4))] 51 (0, 0))) : FsIs Fs.bare0 (lay0 k) w := by
  refine ⟨⟨fun i o ho => ?_, fun i j hi hj e => ?_⟩, bare_ok⟩
  · rcases bare_live (lay0 k) i (by rw [ho]; simp) with rfl | rfl | rfl | rfl | rfl | rfl
    · cases ho; exact hB
    · cases ho
      show w.heap[k + 1]? = _
      rw [hS]
      show _ = some (Obj.cells #[.slice (some ⟨k, 0, none⟩) (List.replicate 200 blk0).length (List.replicate 200 blk0).length, _] _ _)
      rw [List.length_replicate]; rfl
    · cases ho
      show w.heap[k + 2]? = _
      rw [hG]; rfl
    · cases ho
      show w.heap[k + 3]? = _
      rw [hT]
      show _ = some (Obj.cells #[.slice (some ⟨k + 2, 0, none⟩) (List.replicate 30 (none : Option Nd)).length (List.replicate 30 (none : Option Nd)).length, _] _ _)
      rw [List.length_replicate]; rfl
    · cases ho; exact hD
    · cases ho; exact hF
  · rcases bare_live (lay0 k) i hi with rfl | rfl | rfl | rfl | rfl | rfl <;> rcases bare_live (lay0 k) j hj with rfl | rfl | rfl | rfl | rfl | rfl <;> first | rfl | (simp only [lay0] at e; omega)
theorem bnew_any (w : World) : Calls Tryz.prog 64 #[.int .i64 200] w fun e w' => e = .returned (.tuple #[ptrTo (w.heap.size + 1), .int .i64 0]) ∧ w' = (w.alloc bsO).alloc (.cells #[.slice (some ⟨w.heap.size, 0, none⟩) 200 200, .int .i64 200] 159 (0, 0)) := by
  have hr := fun W => run_bs W
  go_enter Tryz.func64, Tryz.ntmps64
  go_wp2
  go_ret2
  exact ⟨rfl, rfl⟩
theorem inew_any (w : World) : Calls Tryz.prog 31 #[.int .i64 30, .int .i64 200] w fun e w' => e = .returned (.tuple #[ptrTo (w.heap.size + 3), .int .i64 0]) ∧ w' = (((w.alloc bsO).alloc (.cells #[.slice (some ⟨w.heap.size, 0, none⟩) 200 200, .int .i64 200] 159 (0, 0))).alloc gsO).alloc (.cells #[.slice (some ⟨w.heap.size + 2, 0, none⟩) 30 30, ptrTo (w.heap.size + 1)] 90 (0, 0)) := by
  have HB := Lib.hid (bnew_any w)
  have hr := fun W => run_gs W
  unfold ptrTo at *
  go_enter Tryz.func31, Tryz.ntmps31
  go_wp2_with (go_at_call 64; (with_reducible refine HB.out.mono ?_); rintro e w1 ⟨rfl, rfl⟩)
  go_ret2
  exact ⟨rfl, rfl⟩
end Go.Proofs.YtbecmcjibpamoaaGreatDoor
