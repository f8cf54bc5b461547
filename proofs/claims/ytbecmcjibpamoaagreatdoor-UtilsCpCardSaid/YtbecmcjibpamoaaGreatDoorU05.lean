/- Texts of one proof, packed: TdA, TdB, TdC -/
import Derived.Test.YtbecmcjibpamoaaGreatDoorU02
set_option linter.unusedVariables false
set_option linter.unusedSimpArgs false
set_option linter.deprecated false
set_option linter.unnecessarySimpa false
/- A tree that files alone are made in, plain: its names and nodes, its blocks. No program's text. -/
namespace Go.Proofs.YtbecmcjibpamoaaGreatDoor
open Go.RowKit IntWalk
set_option linter.unusedVariables false
set_option linter.unusedSimpArgs false

/-! ### blocks -/
def partsOf : Option Nd → List Int
  | some x => x.parts.es.map blockOf
  | none => []
def usedL (l : List (Option Nd)) : List Int := l.flatMap partsOf
def Fs.used (s : Fs) : List Int := usedL s.nodes
def freeN (l : List (Bool × List UInt8)) : Nat := (l.filter fun b => !b.1).length
structure Blk (s : Fs) : Prop where
  nodup : s.used.Nodup
  iff : ∀ b, b ∈ s.used ↔ (s.bk b).isSome = true
  free : s.free = freeN s.bs
theorem usedL_split {l : List (Option Nd)} {k : Nat} {o : Option Nd} (h : l[k]? = some o) : ∃ R, (usedL l).Perm (partsOf o ++ R) ∧ ∀ o', (usedL (l.set k o')).Perm (partsOf o' ++ R) := by
  induction l generalizing k with
  | nil => simp at h
  | cons a l ih =>
    cases k with
    | zero =>
      simp at h
      subst h
      exact ⟨usedL l, by simp [usedL], fun o' => by simp [usedL]⟩
    | succ k =>
      obtain ⟨R, h1, h2⟩ := ih (k := k) (by simpa using h)
      refine ⟨partsOf a ++ R, ?_, fun o' => ?_⟩
      · have : usedL (a :: l) = partsOf a ++ usedL l := by simp [usedL]
        rw [this]
        exact (h1.append_left _).trans (by
          rw [← List.append_assoc, ← List.append_assoc]
          exact List.perm_append_comm.append_right R)
      · have : usedL ((a :: l).set (k + 1) o') = partsOf a ++ usedL (l.set k o') := by simp [usedL]
        rw [this]
        exact ((h2 o').append_left _).trans (by
          rw [← List.append_assoc, ← List.append_assoc]
          exact List.perm_append_comm.append_right R)
theorem freeN_set {l : List (Bool × List UInt8)} {k : Nat} {b : Bool × List UInt8} (h : l[k]? = some b) (c : Bool × List UInt8) : freeN (l.set k c) + (if b.1 then 0 else 1) = freeN l + (if c.1 then 0 else 1) := by
  induction l generalizing k with
  | nil => simp at h
  | cons a l ih =>
    cases k with
    | zero =>
      simp at h
      subst h
      unfold freeN
      simp only [List.set_cons_zero, List.filter_cons]
      cases a.1 <;> cases c.1 <;> simp
    | succ k =>
      have := ih (k := k) (by simpa using h)
      unfold freeN at this ⊢
      simp only [List.set_cons_succ, List.filter_cons]
      cases a.1 <;> simp <;> omega
theorem bk_setB {s : Fs} {k : Nat} (hk : k < s.bs.length) (c : Bool × List UInt8) (b : Int) : ((s.setB k c).bk b).isSome = if b = k + 1 then c.1 else (s.bk b).isSome := by
  unfold Fs.bk Fs.setB
  by_cases h1 : b < 1
  · rw [if_pos h1, if_neg (by omega), if_pos h1]
  · rw [if_neg h1, if_neg h1]
    dsimp only
    by_cases e : b = k + 1
    · subst e
      rw [slotOf_eq, List.getElem?_set, if_pos rfl, if_pos hk, if_pos rfl]
      obtain ⟨t, l⟩ := c
      cases t <;> rfl
    · rw [if_neg e, List.getElem?_set, if_neg (by unfold slotOf; omega)]
/-- blocks hang on what nodes have of them alone -/
theorem Blk.of {s s' : Fs} (h : Blk s) (hu : s'.used.Perm s.used) (hb : s'.bs = s.bs) (hf : s'.free = s.free) : Blk s' := by
  refine ⟨hu.nodup_iff.2 h.nodup, fun b => ?_, by rw [hf, hb]; exact h.free⟩
  rw [hu.mem_iff, h.iff]
  unfold Fs.bk
  rw [hb]
theorem Blk.setNd {s : Fs} (h : Blk s) {k : Nat} {x y : Nd} (hk : s.nodes[k]? = some (some y)) (hp : x.parts.es.map blockOf = y.parts.es.map blockOf) : Blk (s.setNd k x) := by
  refine h.of ?_ rfl rfl
  obtain ⟨R, h1, h2⟩ := usedL_split hk
  refine (h2 (some x)).trans ?_
  show (List.map blockOf x.parts.es ++ R).Perm s.used
  rw [hp]
  exact h1.symm
theorem Blk.newNd {s : Fs} (h : Blk s) {k : Nat} {x : Nd} (hk : s.nodes[k]? = some none) (hp : x.parts.es = []) : Blk (s.setNd k x) := by
  refine h.of ?_ rfl rfl
  obtain ⟨R, h1, h2⟩ := usedL_split hk
  refine (h2 (some x)).trans ?_
  show (List.map blockOf x.parts.es ++ R).Perm s.used
  rw [hp]
  exact h1.symm
theorem Blk.noNd {s : Fs} (h : Blk s) {k : Nat} {x : Nd} (hk : s.nodes[k]? = some (some x)) (hp : x.parts.es = []) : Blk (s.noNd k) := by
  refine h.of ?_ rfl rfl
  obtain ⟨R, h1, h2⟩ := usedL_split hk
  refine (h2 none).trans ?_
  have : partsOf (some x) = [] := by simp [partsOf, hp]
  rw [this] at h1
  exact h1.symm
theorem Blk.bytes {s : Fs} (h : Blk s) {k : Nat} {l l' : List UInt8} (hk : s.bs[k]? = some (true, l)) : Blk (s.setB k (true, l')) := by
  have hlt := (List.getElem?_eq_some_iff.1 hk).1
  refine ⟨h.nodup, fun b => ?_, ?_⟩
  · show b ∈ s.used ↔ _
    rw [h.iff, bk_setB hlt]
    by_cases e : b = k + 1
    · rw [if_pos e, e]
      have : s.bk ((k : Int) + 1) = some l := by
        unfold Fs.bk
        rw [if_neg (by omega), slotOf_eq, hk]
      simp [this]
    · rw [if_neg e]
  · have := freeN_set hk (true, l')
    simp at this
    show s.free = freeN (s.bs.set k (true, l'))
    rw [h.free, this]
/-- a block is taken for a part -/
theorem Blk.take {s : Fs} (h : Blk s) {k j : Nat} {x : Nd} {p : Int} (hk : s.nodes[k]? = some (some x)) (hx : PartsOk x.parts) (hp : x.part p = none) (hj : freeAt s.bs = some j) (h64 : s.bs.length ≤ 4096) : Blk (s.takeS k x p j) := by
  obtain ⟨l0, hl0⟩ := freeAt_some s.bs j hj
  have hlt := (List.getElem?_eq_some_iff.1 hl0).1
  have hput : (x.parts.put (.int p) (.int .i64 (j + 1))).es.map blockOf = x.parts.es.map blockOf ++ [((j : Int) + 1)] := by
    have hn := Nd.part_none hx hp
    unfold GMap.put
    dsimp only
    have : ∀ es : List (Key × Value × Nat), getE (.int p) es = none → (setE (.int p) (.int .i64 ((j : Int) + 1)) x.parts.clk es).map blockOf = es.map blockOf ++ [(j : Int) + 1] := by
      intro es
      induction es with
      | nil => intro _; rfl
      | cons e es ih =>
        intro he
        unfold getE at he
        split at he
        · cases he
        · rename_i hne
          unfold setE
          rw [if_neg hne, List.map_cons, ih he]
          rfl
    exact this _ hn
  obtain ⟨R, h1, h2⟩ := usedL_split hk
  have hperm : (s.takeS k x p j).used.Perm (((j : Int) + 1) :: s.used) := by
    refine (h2 _).trans ?_
    show (List.map blockOf (x.parts.put (.int p) (.int .i64 (j + 1))).es ++ R).Perm _
    rw [hput]
    refine List.Perm.trans ?_ (List.Perm.cons _ h1.symm)
    show (List.map blockOf x.parts.es ++ [(j : Int) + 1] ++ R).Perm (((j : Int) + 1) :: (List.map blockOf x.parts.es ++ R))
    rw [List.append_assoc]
    exact List.perm_middle
  have hnot : ((j : Int) + 1) ∉ s.used := by
    rw [h.iff]
    have : s.bk ((j : Int) + 1) = none := by
      unfold Fs.bk
      rw [if_neg (by omega), slotOf_eq, hl0]
    simp [this]
  refine ⟨hperm.nodup_iff.2 (List.nodup_cons.2 ⟨hnot, h.nodup⟩), fun b => ?_, ?_⟩
  · rw [hperm.mem_iff, List.mem_cons, h.iff]
    show _ ↔ ((s.setB j (true, zeros)).bk b).isSome = true
    rw [bk_setB hlt]
    by_cases e : b = j + 1
    · simp [e]
    · simp [e]
  · have := freeN_set hl0 (true, zeros)
    simp at this
    show decW s.free = freeN (s.bs.set j (true, zeros))
    have hf := h.free
    have hle : freeN s.bs ≤ s.bs.length := List.length_filter_le _ _
    unfold decW
    rw [hf, wrap64_in _ ⟨by omega, by omega⟩]
    omega
end Go.Proofs.YtbecmcjibpamoaaGreatDoor
/- Blocks that are given back, plain; a write's blocks. No program's text. -/
namespace Go.Proofs.YtbecmcjibpamoaaGreatDoor
open Go.RowKit IntWalk
set_option linter.unusedVariables false
set_option linter.unusedSimpArgs false

theorem give_spec {s : Fs} {b : Int} (hb : (s.bk b).isSome = true) (hf : s.free = freeN s.bs) (hl : s.bs.length ≤ 4096) : (s.giveS b).nodes = s.nodes ∧ (s.giveS b).dirs = s.dirs ∧ (s.giveS b).bs.length = s.bs.length ∧ (s.giveS b).free = freeN (s.giveS b).bs := by
  obtain ⟨h1, h2, _, h4⟩ := giveS_nodes s b
  refine ⟨h1, h2, h4, ?_⟩
  cases hk : s.bk b with
  | none => rw [hk] at hb; cases hb
  | some l =>
    obtain ⟨g1, g2, g3⟩ := Fs.bk_slot hk
    have := freeN_set g3 (false, l)
    simp at this
    have hle : freeN s.bs ≤ s.bs.length := List.length_filter_le _ _
    have e : s.giveS b = (s.setB (slotOf b) (false, l)).setFree (incW s.free) := by unfold Fs.giveS; rw [hk]
    rw [e]
    show incW s.free = freeN (s.bs.set (slotOf b) (false, l))
    unfold incW
    rw [hf, wrap64_in _ ⟨by omega, by omega⟩]
    omega
theorem gives_spec : ∀ (l : List (Key × Value × Nat)) (s : Fs), (∀ e ∈ l, (s.bk (blockOf e)).isSome = true) → (l.map blockOf).Nodup → s.free = freeN s.bs → s.bs.length ≤ 4096 →
    (givesS s l).nodes = s.nodes ∧ (givesS s l).dirs = s.dirs ∧ (givesS s l).bs.length = s.bs.length ∧ (∀ b, ((givesS s l).bk b).isSome = true ↔ (s.bk b).isSome = true ∧ b ∉ l.map blockOf) ∧ (givesS s l).free = freeN (givesS s l).bs
  | [], s, _, _, hf, _ => ⟨rfl, rfl, rfl, fun b => by simp [givesS], hf⟩
  | e :: l, s, he, hn, hf, hl => by
    rw [List.map_cons, List.nodup_cons] at hn
    obtain ⟨a1, a2, a3, a4⟩ := give_spec (he e (by simp)) hf hl
    have hbk : ∀ a, (s.giveS (blockOf e)).bk a = if a = blockOf e then none else s.bk a := fun a => giveS_bk s a (blockOf e)
    obtain ⟨b1, b2, b3, b4, b5⟩ := gives_spec l (s.giveS (blockOf e)) (fun x hx => by
      rw [hbk, if_neg (fun q => hn.1 (by rw [← q]; exact List.mem_map_of_mem hx))]
      exact he x (by simp [hx])) hn.2 a4 (by rw [a3]; exact hl)
    refine ⟨b1.trans a1, b2.trans a2, b3.trans a3, fun b => ?_, b5⟩
    show ((givesS (s.giveS (blockOf e)) l).bk b).isSome = true ↔ _
    rw [b4, hbk]
    by_cases q : b = blockOf e
    · simp [q]
    · rw [if_neg q]; simp [q]
/-- a node's parts have all numbers from nought on -/
def PartsUp (x : Nd) : Prop := ∀ e ∈ x.parts.es, 0 ≤ partOf e
theorem goes_all {x : Nd} (h : PartsUp x) : x.parts.es.filter (goes (fun _ => true) 0) = x.parts.es ∧ x.parts.es.filter (fun e => !goes (fun _ => true) 0 e) = [] := by
  refine ⟨List.filter_eq_self.2 fun e he => ?_, List.filter_eq_nil_iff.2 fun e he => ?_⟩
  · simp [goes, h e he]
  · simp [goes, h e he]
def bare (x : Nd) : Nd := { x with parts := ⟨[], x.parts.clk⟩ }
theorem dropS_eq {s : Fs} {k : Nat} {x : Nd} (h : PartsUp x) : s.dropS k x 0 = (givesS s x.parts.es).setNd k (bare x) := by
  unfold Fs.dropS Fs.dropped bare
  rw [(goes_all h).1, (goes_all h).2]
/-- all of a node's blocks are given back; y: the node as it lies, with the same parts -/
theorem Blk.drop {s : Fs} (h : Blk s) (hl : s.bs.length ≤ 4096) {k : Nat} {x : Nd} (hk : s.nodes[k]? = some (some x)) : Blk ((givesS s x.parts.es).setNd k (bare x)) ∧ (givesS s x.parts.es).nodes = s.nodes ∧ (givesS s x.parts.es).dirs = s.dirs ∧ (givesS s x.parts.es).bs.length = s.bs.length := by
  obtain ⟨R, h1, h2⟩ := usedL_split hk
  have hn := h1.nodup_iff.1 h.nodup
  have hpart : partsOf (some x) = x.parts.es.map blockOf := rfl
  rw [hpart] at h1 hn
  rw [List.nodup_append] at hn
  obtain ⟨b1, b2, b3, b4, b5⟩ := gives_spec x.parts.es s (fun e he => (h.iff _).1 (h1.mem_iff.2 (by simp; exact .inl ⟨e.1, e.2.1, e.2.2, he, rfl⟩))) hn.1 h.free hl
  refine ⟨⟨?_, fun b => ?_, b5⟩, b1, b2, b3⟩
  · have : ((givesS s x.parts.es).setNd k (bare x)).used.Perm R := by
      show (usedL ((givesS s x.parts.es).nodes.set k (some (bare x)))).Perm R
      rw [b1]
      exact h2 (some (bare x))
    exact this.nodup_iff.2 hn.2.1
  · have : ((givesS s x.parts.es).setNd k (bare x)).used.Perm R := by
      show (usedL ((givesS s x.parts.es).nodes.set k (some (bare x)))).Perm R
      rw [b1]
      exact h2 (some (bare x))
    rw [this.mem_iff]
    show _ ↔ ((givesS s x.parts.es).bk b).isSome = true
    rw [b4, ← h.iff, show s.used = usedL s.nodes from rfl, h1.mem_iff, List.mem_append]
    constructor
    · intro hR
      exact ⟨.inr hR, fun q => hn.2.2 b q b hR rfl⟩
    · rintro ⟨q | q, z⟩
      · exact absurd q z
      · exact q
/-! ### a write's blocks -/
structure Wr (s : Fs) (k : Nat) (x : Nd) (s' : Fs) (x' : Nd) : Prop where
  blk : Blk s'
  at_ : s'.nodes[k]? = some (some x')
  other : ∀ j, j ≠ k → s'.nodes[j]? = s.nodes[j]?
  len : s'.nodes.length = s.nodes.length
  blen : s'.bs.length = s.bs.length
  dirs : s'.dirs = s.dirs
  same : x'.names = x.names ∧ x'.users = x.users ∧ x'.kind = x.kind ∧ x'.size = x.size
  up : PartsUp x'
  ok : PartsOk x'.parts
  keep : ∀ b, (s.bk b).isSome = true → (s'.bk b).isSome = true
theorem part_mem {x : Nd} {p b : Int} (h : x.part p = some b) : b ∈ x.parts.es.map blockOf := by
  unfold Nd.part at h
  split at h
  · rename_i k b' hg
    cases h
    obtain ⟨n, hm⟩ := getE_mem hg
    exact List.mem_map.2 ⟨_, hm, rfl⟩
  · cases h
theorem setE_up {p : Int} {v : Value} {c : Nat} (hp : 0 ≤ p) : ∀ {es : List (Key × Value × Nat)}, (∀ e ∈ es, 0 ≤ partOf e) → ∀ e ∈ setE (.int p) v c es, 0 ≤ partOf e := fun h e he => by
  rcases setE_mem he with q | ⟨q, _⟩
  · exact h e q
  · unfold partOf; rw [q]; exact hp
theorem into_wr {s0 s s' : Fs} {k : Nat} {x0 x x' : Nd} {pos : Nat} {d : List UInt8} (h : Wr s0 k x0 s x) (hl : s.bs.length ≤ 4096) (hi : s.into k x pos d = some (s', x')) : Wr s0 k x0 s' x' := by
  unfold Fs.into at hi
  cases hp : x.part (pos / 64 : Nat) with
  | some b =>
    rw [hp] at hi
    cases hi
    have hused : (s.bk b).isSome = true := (h.blk.iff b).1 (by
      obtain ⟨R, h1, _⟩ := usedL_split h.at_
      rw [show s.used = usedL s.nodes from rfl, h1.mem_iff, List.mem_append]
      exact .inl (part_mem hp))
    cases hbk : s.bk b with
    | none => rw [hbk] at hused; cases hused
    | some l =>
      obtain ⟨g1, g2, g3⟩ := Fs.bk_slot hbk
      refine ⟨h.blk.bytes g3, h.at_, h.other, h.len, by simpa [Fs.setB] using h.blen, h.dirs, h.same, h.up, h.ok, fun c hc => ?_⟩
      have hlt := (List.getElem?_eq_some_iff.1 g3).1
      rw [bk_setB hlt]
      split
      · rfl
      · exact h.keep c hc
  | none =>
    rw [hp] at hi
    dsimp only at hi
    cases hj : freeAt s.bs with
    | none => rw [hj] at hi; cases hi
    | some j =>
      rw [hj] at hi
      cases hi
      obtain ⟨l0, hl0⟩ := freeAt_some s.bs j hj
      have hlt := (List.getElem?_eq_some_iff.1 hl0).1
      have hklt := (List.getElem?_eq_some_iff.1 h.at_).1
      have ht := h.blk.take h.at_ h.ok hp hj hl
      have hbs : (s.takeS k x (pos / 64 : Nat) j).bs[j]? = some (true, zeros) := by
        show (s.bs.set j (true, zeros))[j]? = _
        rw [List.getElem?_set, if_pos rfl, if_pos hlt]
      refine ⟨ht.bytes hbs, ?_, fun i hi => ?_, ?_, ?_, h.dirs, h.same, ?_, h.ok.put _ _, fun c hc => ?_⟩
      · show (s.nodes.set k _)[k]? = _
        rw [List.getElem?_set, if_pos rfl, if_pos hklt]
      · show (s.nodes.set k _)[i]? = _
        rw [List.getElem?_set, if_neg (Ne.symm hi)]
        exact h.other i hi
      · show (s.nodes.set k _).length = _
        rw [List.length_set]; exact h.len
      · show ((s.bs.set j _).set j _).length = _
        rw [List.length_set, List.length_set]; exact h.blen
      · exact setE_up (by omega) h.up
      · have h1 : ((s.setB j (true, zeros)).bk c).isSome = true := by
          rw [bk_setB hlt]
          split
          · rfl
          · exact h.keep c hc
        show (((s.takeS k x (pos / 64 : Nat) j).setB j _).bk c).isSome = true
        rw [bk_setB (by show j < (s.bs.set j _).length; rw [List.length_set]; exact hlt)]
        split
        · rfl
        · exact h1
theorem writeL_wr {s0 : Fs} {k at_ : Nat} {x0 : Nd} {d : List UInt8} : ∀ (f done : Nat) (s : Fs) (x : Nd), Wr s0 k x0 s x → s.bs.length ≤ 4096 → done ≤ d.length → Wr s0 k x0 (Fs.writeL k at_ d f done s x).2.1 (Fs.writeL k at_ d f done s x).2.2 ∧ (Fs.writeL k at_ d f done s x).1 ≤ d.length
  | 0, done, s, x, h, hl, hd => ⟨h, hd⟩
  | f + 1, done, s, x, h, hl, hd => by
    unfold Fs.writeL
    by_cases hlt : done < d.length
    · rw [if_pos hlt]
      cases hi : s.into k x (at_ + done) (chunkAt (at_ + done) done d) with
      | none => exact ⟨h, hd⟩
      | some r =>
        obtain ⟨s', x'⟩ := r
        have h' := into_wr h hl hi
        exact writeL_wr f _ s' x' h' (by rw [h'.blen, ← h.blen]; exact hl) (by unfold chunkAt; simp; omega)
    · rw [if_neg hlt]
      exact ⟨h, hd⟩
end Go.Proofs.YtbecmcjibpamoaaGreatDoor
/- A tree that files alone are made in, plain: what it is; where paths lead; files that are made and held. No program's text. -/
namespace Go.Proofs.YtbecmcjibpamoaaGreatDoor
open Go.RowKit IntWalk
set_option linter.unusedVariables false
set_option linter.unusedSimpArgs false

/-- a name that files have -/
def GoodT (t : List UInt8) : Prop := t ≠ [] ∧ (47 : UInt8) ∉ t ∧ t ≠ dotL ∧ t ≠ dotsL ∧ t.length ≤ 32
structure NamesT (s : Fs) (d : Dr) : Prop where
  ent : ∀ e ∈ d.names.es, ∃ t i, e.1 = .str t ∧ e.2.1 = .int .i64 i ∧ GoodT t ∧ 2 ≤ i ∧ (s.nd i).isSome = true
  inj : (d.names.es.map blockOf).Nodup
  all : ∀ i x, 2 ≤ i → s.nd i = some x → i ∈ d.names.es.map blockOf
  keys : (d.names.es.map (·.1)).Nodup
structure RootT (x : Nd) : Prop where
  names : x.names = 1
  users : x.users = 0
  kind : x.kind = 2
  size : x.size = 0
  parts : x.parts.es = []
structure FileT (x : Nd) (u : Nat) : Prop where
  kind : x.kind = 1
  names : x.names = 1
  users : x.users = u
  size : 0 ≤ x.size ∧ x.size ≤ 4096
  up : PartsUp x
/-- a tree of a root and files; us: how often each node is used -/
structure Tidy (s : Fs) (us : Int → Nat) : Prop where
  len : s.nodes.length = 9
  blen : s.bs.length = 20
  root : ∃ x, s.nodes[0]? = some (some x) ∧ RootT x
  dir : ∃ d b, s.dirs = [(1, d, b)] ∧ d.parent = 1 ∧ NamesT s d
  file : ∀ i x, 2 ≤ i → s.nd i = some x → FileT x (us i)
  gone : ∀ i, (i < 2 ∨ s.nd i = none) → us i = 0
  blk : Blk s
  ok : ∀ x, some x ∈ s.nodes → PartsOk x.parts
section
variable {s : Fs} {us : Int → Nat}
theorem Tidy.nd1 (h : Tidy s us) : ∃ x, s.nd 1 = some x ∧ RootT x := by
  obtain ⟨x, h1, h2⟩ := h.root
  refine ⟨x, ?_, h2⟩
  unfold Fs.nd
  rw [if_neg (by omega), show slotOf 1 = 0 from rfl, h1]
  rfl
theorem Tidy.kind1 (h : Tidy s us) : s.fld Nd.kind 1 = 2 := by
  obtain ⟨x, h1, h2⟩ := h.nd1
  unfold Fs.fld
  rw [h1]
  exact h2.kind
theorem Tidy.kind2 (h : Tidy s us) {i : Int} (hi : 2 ≤ i) (hs : (s.nd i).isSome = true) : s.fld Nd.kind i = 1 := by
  unfold Fs.fld
  cases hn : s.nd i with
  | none => rw [hn] at hs; cases hs
  | some x => exact (h.file i x hi hn).kind
theorem Tidy.nd_pos {i : Int} (hs : (s.nd i).isSome = true) : 1 ≤ i := by
  unfold Fs.nd at hs
  by_cases h1 : i < 1
  · rw [if_pos h1] at hs; cases hs
  · omega
theorem Tidy.dir1 (h : Tidy s us) : ∃ d, s.dirOf 1 = some d ∧ s.dr 1 = some d ∧ d.parent = 1 ∧ NamesT s d := by
  obtain ⟨d, b, h1, h2, h3⟩ := h.dir
  have : s.dr 1 = some d := by unfold Fs.dr; rw [h1]; rfl
  refine ⟨d, ?_, this, h2, h3⟩
  unfold Fs.dirOf
  rw [if_pos h.kind1, this]
theorem Tidy.dirOf_some (h : Tidy s us) {i : Int} {d : Dr} (hd : s.dirOf i = some d) : i = 1 := by
  unfold Fs.dirOf at hd
  by_cases hk : s.fld Nd.kind i = 2
  · cases hn : s.nd i with
    | none => unfold Fs.fld at hk; rw [hn] at hk; cases hk
    | some x =>
      have hp := Tidy.nd_pos (s := s) (i := i) (by rw [hn]; rfl)
      by_cases h2 : 2 ≤ i
      · have := h.kind2 h2 (by rw [hn]; rfl)
        omega
      · omega
  · rw [if_neg hk] at hd; cases hd
theorem Tidy.whole (h : Tidy s us) : s.Whole := fun i x hn => by
  have hp := Tidy.nd_pos (s := s) (i := i) (by rw [hn]; rfl)
  refine ⟨fun p b hpb => (h.blk.iff b).1 ?_, ?_⟩
  · obtain ⟨_, _, h3⟩ := Fs.nd_slot hn
    obtain ⟨R, h1, _⟩ := usedL_split h3
    rw [show s.used = usedL s.nodes from rfl, h1.mem_iff, List.mem_append]
    exact .inl (part_mem hpb)
  · by_cases h2 : 2 ≤ i
    · exact (h.file i x h2 hn).size
    · obtain ⟨y, hy, hr⟩ := h.nd1
      have : i = 1 := by omega
      subst this
      rw [hn] at hy
      cases hy
      rw [hr.size]
      omega
/-- the root, or a file -/
def AnyT (s : Fs) (i : Int) : Prop := i = 1 ∨ (2 ≤ i ∧ (s.nd i).isSome = true)
theorem name_mem {d : Dr} {t : List UInt8} {i : Int} (h : d.name t = some i) : ∃ n, (Key.str t, Value.int .i64 i, n) ∈ d.names.es := by
  unfold Dr.name at h
  split at h
  · rename_i b hg
    cases h
    exact getE_mem hg
  · cases h
theorem Tidy.partT (h : Tidy s us) {go : Int → List UInt8 → Nat → Int × Int × Nat} {at_ : Int} {p : List UInt8} {fol : Bool} {links : Nat} (he : (s.partS go at_ p fol links).2.1 = 0) : AnyT s (s.partS go at_ p fol links).1 := by
  unfold Fs.partS at he ⊢
  cases hd : s.dirOf at_ with
  | none => rw [hd] at he; cases he
  | some d =>
    obtain rfl := h.dirOf_some hd
    obtain ⟨d', hd', _, hp, hn⟩ := h.dir1
    rw [hd] at hd'
    cases hd'
    rw [hd] at he
    dsimp only at he ⊢
    by_cases c1 : p = [] ∨ p = dotL
    · rw [if_pos c1]; exact .inl rfl
    rw [if_neg c1] at he ⊢
    by_cases c2 : p = dotsL
    · rw [if_pos c2] at he ⊢
      rw [hp, h.kind1]
      exact .inl rfl
    rw [if_neg c2] at he ⊢
    by_cases c3 : 32 < p.length
    · rw [if_pos c3] at he; cases he
    rw [if_neg c3] at he ⊢
    cases hnm : d.name p with
    | none => rw [hnm] at he; cases he
    | some i =>
      obtain ⟨n, hm⟩ := name_mem hnm
      obtain ⟨t, i', e1, e2, _, e4, e5⟩ := hn.ent _ hm
      cases e2
      dsimp only
      rw [if_pos (.inl (by rw [h.kind2 e4 e5]; omega))]
      exact .inr ⟨e4, e5⟩
theorem Tidy.partsT (h : Tidy s us) {go : Int → List UInt8 → Nat → Int × Int × Nat} {fol : Bool} : ∀ (l : List (List UInt8)) (at_ : Int) (links : Nat), AnyT s at_ → (s.partsS go fol at_ l links).2.1 = 0 → AnyT s (s.partsS go fol at_ l links).1
  | [], at_, links, ha, _ => ha
  | p :: l, at_, links, ha, he => by
    unfold Fs.partsS at he ⊢
    split at he
    · rename_i n k hp
      have h1 := h.partT (go := go) (at_ := at_) (p := p) (fol := fol || !l.isEmpty) (links := links) (by rw [hp])
      rw [hp] at h1
      exact h.partsT l n k h1 he
    · rename_i n e k hne hp
      exact absurd he (fun q => hne q)
theorem Tidy.goesT (h : Tidy s us) {f : Nat} {at_ : Int} {path : List UInt8} {fol : Bool} {links : Nat} (ha : AnyT s at_) (he : (s.goesS (f + 1) at_ path fol links).2.1 = 0) : AnyT s (s.goesS (f + 1) at_ path fol links).1 := by
  unfold Fs.goesS at he ⊢
  by_cases c1 : path = []
  · rw [if_pos c1] at he; cases he
  rw [if_neg c1] at he ⊢
  by_cases c2 : 256 < path.length
  · rw [if_pos c2] at he; cases he
  rw [if_neg c2] at he ⊢
  refine h.partsT _ _ _ ?_ he
  unfold fromS
  split
  · exact .inl rfl
  · exact ha
theorem Tidy.walk (h : Tidy s us) {path : List UInt8} {fol : Bool} (he : (s.walkS 1 path fol).2 = 0) : AnyT s (s.walkS 1 path fol).1 := by
  obtain ⟨d, hd, _⟩ := h.dir1
  unfold Fs.walkS at he ⊢
  rw [hd] at he ⊢
  exact h.goesT (f := 8) (.inl rfl) he

/-! ### a node turned -/
theorem setNd_nd2 {k : Nat} {x y : Nd} (hk : s.nodes[k]? = some (some y)) (j : Int) : (s.setNd k x).nd j = if j = (k : Int) + 1 then some x else s.nd j := by
  have hlt := (List.getElem?_eq_some_iff.1 hk).1
  unfold Fs.nd Fs.setNd
  by_cases h1 : j < 1
  · rw [if_pos h1, if_neg (by omega), if_pos h1]
  · rw [if_neg h1, if_neg h1]
    dsimp only
    rw [List.getElem?_set]
    by_cases e : j = (k : Int) + 1
    · subst e
      rw [slotOf_eq, if_pos rfl, if_pos hlt, if_pos rfl]; rfl
    · rw [if_neg (by unfold slotOf; omega), if_neg e]
/-- a file's node is another, with parts that its tree knows of -/
theorem Tidy.turn (h : Tidy s us) {i : Int} (hi : 2 ≤ i) {y : Nd} (hy : s.nd i = some y) {s' : Fs} {x : Nd} {us' : Int → Nat} (hat : s'.nodes[slotOf i]? = some (some x)) (ho : ∀ j, j ≠ slotOf i → s'.nodes[j]? = s.nodes[j]?) (hl : s'.nodes.length = s.nodes.length) (hbl : s'.bs.length = s.bs.length) (hd : s'.dirs = s.dirs) (hb : Blk s')
    (hx : FileT x (us' i)) (hok : PartsOk x.parts) (hus : ∀ j, j ≠ i → us' j = us j) : Tidy s' us' := by
  have hnd : ∀ j, s'.nd j = if j = i then some x else s.nd j := fun j => by
    unfold Fs.nd
    by_cases h1 : j < 1
    · rw [if_pos h1, if_neg (by omega), if_pos h1]
    · rw [if_neg h1]
      by_cases e : j = i
      · subst e; rw [if_pos rfl, hat]; rfl
      · rw [if_neg e, if_neg h1, ho _ (by unfold slotOf; omega)]
  refine ⟨hl.trans h.len, hbl.trans h.blen, ?_, ?_, fun j z hj hz => ?_, fun j hj => ?_, hb, fun z hz => ?_⟩
  · obtain ⟨r, h1, h2⟩ := h.root
    exact ⟨r, by rw [ho 0 (by unfold slotOf; omega)]; exact h1, h2⟩
  · obtain ⟨d, b, h1, h2, h3⟩ := h.dir
    refine ⟨d, b, hd.trans h1, h2, ⟨fun e he => ?_, h3.inj, fun j z hj hz => ?_, h3.keys⟩⟩
    · obtain ⟨t, j, e1, e2, e3, e4, e5⟩ := h3.ent e he
      refine ⟨t, j, e1, e2, e3, e4, ?_⟩
      rw [hnd]
      split
      · rfl
      · exact e5
    · rw [hnd] at hz
      by_cases e : j = i
      · subst e; exact h3.all j y hj hy
      · rw [if_neg e] at hz; exact h3.all j z hj hz
  · rw [hnd] at hz
    by_cases e : j = i
    · subst e; rw [if_pos rfl] at hz; cases hz; exact hx
    · rw [if_neg e] at hz; rw [hus j e]; exact h.file j z hj hz
  · have hji : j ≠ i := by
      rintro rfl
      rcases hj with q | q
      · omega
      · rw [hnd, if_pos rfl] at q; cases q
    rw [hus j hji]
    refine h.gone j ?_
    rcases hj with q | q
    · exact .inl q
    · rw [hnd, if_neg hji] at q; exact .inr q
  · obtain ⟨k, hk⟩ := List.mem_iff_getElem?.1 hz
    by_cases e : k = slotOf i
    · subst e; rw [hat] at hk; cases hk; exact hok
    · rw [ho k e] at hk; exact h.ok z (List.mem_of_getElem? hk)
theorem Tidy.at_ (h : Tidy s us) {i : Int} (hi : 2 ≤ i) {x : Nd} (hx : s.nd i = some x) : s.nodes[slotOf i]? = some (some x) ∧ FileT x (us i) ∧ PartsOk x.parts :=
  ⟨(Fs.nd_slot hx).2.2, h.file i x hi hx, h.ok x (List.mem_of_getElem? (Fs.nd_slot hx).2.2)⟩
/-- a use more -/
theorem Tidy.hold (h : Tidy s us) {i : Int} (hi : 2 ≤ i) (hs : (s.nd i).isSome = true) (hu : us i < 100000) : Tidy (s.holdS i).2 (fun j => if j = i then us i + 1 else us j) := by
  cases hn : s.nd i with
  | none => rw [hn] at hs; cases hs
  | some x =>
    obtain ⟨h1, h2, h3⟩ := h.at_ hi hn
    have hlt := (List.getElem?_eq_some_iff.1 h1).1
    have e : (s.holdS i).2 = s.setNd (slotOf i) { x with users := incW x.users } := by unfold Fs.holdS; rw [hn]
    rw [e]
    refine h.turn hi hn (x := { x with users := incW x.users }) (by show (s.nodes.set _ _)[_]? = _; rw [List.getElem?_set, if_pos rfl, if_pos hlt]) (fun j hj => by show (s.nodes.set _ _)[_]? = _; rw [List.getElem?_set, if_neg (Ne.symm hj)]) (by show (s.nodes.set _ _).length = _; rw [List.length_set]) rfl rfl (h.blk.setNd h1 rfl) ⟨h2.kind, h2.names, ?_, h2.size, h2.up⟩ h3 (fun j hj => by rw [if_neg hj])
    rw [if_pos rfl]
    show incW x.users = _
    unfold incW
    rw [h2.users, wrap64_in _ ⟨by omega, by omega⟩]
    omega
/-- a use less -/
theorem Tidy.loose (h : Tidy s us) {i : Int} (hi : 2 ≤ i) (hu : 0 < us i) (hu2 : us i < 100000) : Tidy (s.looseS i).2 (fun j => if j = i then us i - 1 else us j) := by
  cases hn : s.nd i with
  | none => have := h.gone i (.inr hn); omega
  | some x =>
    obtain ⟨h1, h2, h3⟩ := h.at_ hi hn
    have hlt := (List.getElem?_eq_some_iff.1 h1).1
    have hne : x.users ≠ 0 := by rw [h2.users]; omega
    have hid : idle { x with users := decW x.users } = false := by
      unfold idle
      dsimp only
      rw [h2.names]; rfl
    have e : (s.looseS i).2 = s.setNd (slotOf i) { x with users := decW x.users } := by
      unfold Fs.looseS
      rw [hn]
      dsimp only
      rw [if_neg hne]
      unfold Fs.lessS
      rw [hid]; rfl
    rw [e]
    refine h.turn hi hn (x := { x with users := decW x.users }) (by show (s.nodes.set _ _)[_]? = _; rw [List.getElem?_set, if_pos rfl, if_pos hlt]) (fun j hj => by show (s.nodes.set _ _)[_]? = _; rw [List.getElem?_set, if_neg (Ne.symm hj)]) (by show (s.nodes.set _ _).length = _; rw [List.length_set]) rfl rfl (h.blk.setNd h1 rfl) ⟨h2.kind, h2.names, ?_, h2.size, h2.up⟩ h3 (fun j hj => by rw [if_neg hj])
    rw [if_pos rfl]
    show decW x.users = _
    unfold decW
    rw [h2.users, wrap64_in _ ⟨by omega, by omega⟩]
    omega
/-- cut to nothing -/
theorem Tidy.ncut (h : Tidy s us) {i : Int} (hi : AnyT s i) : Tidy (s.ncutS i) us := by
  rcases hi with rfl | ⟨hi, hs⟩
  · have : s.ncutS 1 = s := by
      unfold Fs.ncutS
      rw [h.kind1]; rfl
    rw [this]; exact h
  · cases hn : s.nd i with
    | none => rw [hn] at hs; cases hs
    | some x =>
      obtain ⟨h1, h2, h3⟩ := h.at_ hi hn
      have hlt := (List.getElem?_eq_some_iff.1 h1).1
      obtain ⟨b1, b2, b3, b4⟩ := h.blk.drop (by rw [h.blen]; omega) h1
      have e : s.ncutS i = ((givesS s x.parts.es).setNd (slotOf i) (bare x)).setNd (slotOf i) { (bare x) with size := 0 } := by
        unfold Fs.ncutS
        rw [h.kind2 hi hs, hn]
        show s.cutS i x = _
        unfold Fs.cutS
        rw [dropS_eq h2.up, (goes_all h2.up).2]
        rfl
      rw [e]
      have hk2 : ((givesS s x.parts.es).setNd (slotOf i) (bare x)).nodes[slotOf i]? = some (some (bare x)) := by
        show ((givesS s x.parts.es).nodes.set _ _)[_]? = _
        rw [b2, List.getElem?_set, if_pos rfl, if_pos hlt]
      refine h.turn hi hn (x := { (bare x) with size := 0 }) ?_ (fun j hj => ?_) ?_ b4 b3 (b1.setNd hk2 rfl) ⟨h2.kind, h2.names, h2.users, ⟨by show (0 : Int) ≤ 0; omega, by show (0 : Int) ≤ 4096; omega⟩, fun e he => by cases he⟩ ⟨?_, fun e he => by cases he⟩ (fun j hj => rfl)
      · show (((givesS s x.parts.es).nodes.set _ _).set _ _)[_]? = _
        rw [List.getElem?_set, if_pos rfl, List.length_set, b2, if_pos hlt]
      · show (((givesS s x.parts.es).nodes.set _ _).set _ _)[_]? = _
        rw [List.getElem?_set, if_neg (Ne.symm hj), List.getElem?_set, if_neg (Ne.symm hj), b2]
      · show (((givesS s x.parts.es).nodes.set _ _).set _ _).length = _
        rw [List.length_set, List.length_set, b2]
      · exact ⟨by simp [kb, bare], by simp [kb, bare], fun e he => by simp [kb, bare] at he⟩
/-- bytes are written -/
theorem Tidy.write (h : Tidy s us) {i : Int} (hi : 2 ≤ i) {x : Nd} (hx : s.nd i = some x) (at_ : Nat) (d : List UInt8) (hd : at_ + d.length ≤ 4096) : Tidy (s.writeS (slotOf i) x at_ d).2 us ∧ (s.writeS (slotOf i) x at_ d).1 ≤ d.length := by
  obtain ⟨h1, h2, h3⟩ := h.at_ hi hx
  have hlt := (List.getElem?_eq_some_iff.1 h1).1
  have hw0 : Wr s (slotOf i) x s x := ⟨h.blk, h1, fun _ _ => rfl, rfl, rfl, rfl, ⟨rfl, rfl, rfl, rfl⟩, h2.up, h3, fun _ hb => hb⟩
  obtain ⟨hw, hle⟩ := writeL_wr (at_ := at_) (d := d) (d.length + 1) 0 s x hw0 (by rw [h.blen]; omega) (by omega)
  unfold Fs.writeS
  generalize Fs.writeL (slotOf i) at_ d (d.length + 1) 0 s x = r at *
  obtain ⟨n, s', x'⟩ := r
  dsimp only at hw hle ⊢
  obtain ⟨g1, g2, g3, g4⟩ := hw.same
  refine ⟨?_, hle⟩
  have hlt' := (List.getElem?_eq_some_iff.1 hw.at_).1
  by_cases hn : 0 < n
  · rw [if_pos hn]
    refine h.turn hi hx (x := { x' with size := max x.size ((at_ + n : Nat) : Int) }) (by show (s'.nodes.set _ _)[_]? = _; rw [List.getElem?_set, if_pos rfl, if_pos hlt']) (fun j hj => by show (s'.nodes.set _ _)[_]? = _; rw [List.getElem?_set, if_neg (Ne.symm hj)]; exact hw.other j hj) (by show (s'.nodes.set _ _).length = _; rw [List.length_set]; exact hw.len) hw.blen hw.dirs (hw.blk.setNd hw.at_ rfl) ⟨g3.trans h2.kind, g1.trans h2.names, g2.trans h2.users, ?_, hw.up⟩ hw.ok (fun _ _ => rfl)
    have := h2.size
    show 0 ≤ max x.size ((at_ + n : Nat) : Int) ∧ max x.size ((at_ + n : Nat) : Int) ≤ 4096
    omega
  · rw [if_neg hn]
    exact h.turn hi hx (x := x') hw.at_ hw.other hw.len hw.blen hw.dirs hw.blk ⟨g3.trans h2.kind, g1.trans h2.names, g2.trans h2.users, by rw [g4]; exact h2.size, hw.up⟩ hw.ok (fun _ _ => rfl)
end
end Go.Proofs.YtbecmcjibpamoaaGreatDoor
