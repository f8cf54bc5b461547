/- Texts of one proof, packed: UtA, UtB, UtC -/
import Derived.Test.YtbecmcjibpamoaaGreatDoorFsL
import Derived.Test.YtbecmcjibpamoaaGreatDoorU02
import Derived.Test.YtbecmcjibpamoaaGreatDoorU07
set_option linter.unusedVariables false
set_option linter.unusedSimpArgs false
set_option linter.deprecated false
set_option linter.unnecessarySimpa false
/- A file that is written from its beginning on, into the blocks from o on: what it holds. No program's text. -/
namespace Go.Proofs.YtbecmcjibpamoaaGreatDoor
open Go.RowKit
set_option linter.unusedVariables false
set_option linter.unusedSimpArgs false

/-- how many blocks so many bytes take -/
def manyB (q : Nat) : Nat := (q + 63) / 64
/-- the node x of s has been written q bytes, g; its part j stands in the block j -/
structure JJ (o : Nat) (s : Fs) (x : Nd) (g : List UInt8) : Prop where
  bl : s.bs.length = 200
  le : o + manyB g.length ≤ 200
  parts : ∀ p : Nat, x.part p = if p < manyB g.length then some (((o + p : Nat) : Int) + 1) else none
  neg : ∀ p : Int, p < 0 → x.part p = none
  low : ∀ p : Nat, p < o → ∃ l, s.bs[p]? = some (true, l)
  taken : ∀ p : Nat, p < manyB g.length → ∃ l, s.bs[o + p]? = some (true, l) ∧ l.length = 64
  free : ∀ p : Nat, o + manyB g.length ≤ p → p < 200 → ∃ l, s.bs[p]? = some (false, l)
  bytes : ∀ j, j < g.length → s.byteAt x j = g.getD j 0
theorem bk_at {s : Fs} {p : Nat} {l : List UInt8} (hl : s.bs[p]? = some (true, l)) : s.bk ((p : Int) + 1) = some l := by
  unfold Fs.bk
  rw [if_neg (by omega), slotOf_eq, hl]
theorem JJ.freeAt {o s x g} (h : JJ o s x g) (hlt : o + manyB g.length < 200) : freeAt s.bs = some (o + manyB g.length) := by
  obtain ⟨l, hl⟩ := h.free (o + manyB g.length) (Nat.le_refl _) hlt
  refine freeAt_at _ _ l (fun j b hj hb => ?_) hl
  by_cases hjo : j < o
  · obtain ⟨l', h1⟩ := h.low j hjo
    rw [h1] at hb; cases hb; rfl
  · obtain ⟨l', h1, _⟩ := h.taken (j - o) (by omega)
    rw [show o + (j - o) = j by omega] at h1
    rw [h1] at hb; cases hb; rfl
theorem overlay_get {l d : List UInt8} {o : Nat} (h : o + d.length ≤ l.length) (j : Nat) : (overlay l o d).getD j 0 = if o ≤ j ∧ j < o + d.length then d.getD (j - o) 0 else l.getD j 0 := by
  unfold overlay
  simp only [List.getD_eq_getElem?_getD]
  by_cases h1 : j < o
  · rw [if_neg (by omega), List.append_assoc, List.getElem?_append_left (by simp; omega), List.getElem?_take_of_lt h1]
  · by_cases h2 : j < o + d.length
    · rw [if_pos (by omega), List.append_assoc, List.getElem?_append_right (by simp; omega), List.getElem?_append_left (by simp; omega)]
      congr 2
      simp; omega
    · rw [if_neg (by omega), List.getElem?_append_right (by simp; omega), List.getElem?_drop]
      congr 2
      simp; omega
theorem byteAt_eq {s : Fs} {x : Nd} {j p o : Nat} {b : Int} {l : List UInt8} (hp : p = j / 64) (ho : o = j % 64) (hx : x.part p = some b) (hl : s.bk b = some l) : s.byteAt x j = l.getD o 0 := by
  subst hp ho
  unfold Fs.byteAt
  rw [hx]
  simp only [hl, Option.getD_some]
theorem getD_append {a b : List UInt8} (j : Nat) : (a ++ b).getD j 0 = if j < a.length then a.getD j 0 else b.getD (j - a.length) 0 := by
  simp only [List.getD_eq_getElem?_getD]
  by_cases h : j < a.length
  · rw [if_pos h, List.getElem?_append_left h]
  · rw [if_neg h, List.getElem?_append_right (by omega)]
/-- a chunk is written behind -/
theorem JJ.into {o : Nat} {s : Fs} {x : Nd} {g : List UInt8} (h : JJ o s x g) (k : Nat) (c : List UInt8) (hc : 0 < c.length) (hc2 : g.length % 64 + c.length ≤ 64) (hle : o + manyB (g.length + c.length) ≤ 200) :
    ∃ s' x', s.into k x g.length c = some (s', x') ∧ JJ o s' x' (g ++ c) ∧ (∀ p, p < o → s'.bs[p]? = s.bs[p]?) ∧ x'.size = x.size ∧ x'.names = x.names ∧ x'.users = x.users ∧ x'.kind = x.kind := by
  obtain ⟨pn, hpn⟩ : ∃ pn : Nat, pn = g.length / 64 := ⟨_, rfl⟩
  obtain ⟨on, hon⟩ : ∃ on : Nat, on = g.length % 64 := ⟨_, rfl⟩
  have hlen : (g ++ c).length = g.length + c.length := List.length_append
  have hm' : manyB (g ++ c).length = pn + 1 := by rw [hlen]; unfold manyB; omega
  rw [← hlen, hm'] at hle
  by_cases h0 : on = 0
  · have hm : manyB g.length = pn := by unfold manyB; omega
    have hp : x.part pn = none := by rw [h.parts pn, if_neg (by omega)]
    have hj := h.freeAt (by omega)
    rw [hm] at hj
    refine ⟨_, _, into_take hpn hon hp hj, ?_, ?_, rfl, rfl, rfl, rfl⟩
    all_goals
      have hbs : ((s.takeS k x pn (o + pn)).setB (o + pn) (true, overlay zeros on c)).bs = (s.bs.set (o + pn) (true, zeros)).set (o + pn) (true, overlay zeros on c) := rfl
      have hz : zeros.length = 64 := by simp [zeros]
      have ho : (overlay zeros on c).length = 64 := by rw [overlay_len (by rw [hz]; omega), hz]
      have hself : ((s.takeS k x pn (o + pn)).setB (o + pn) (true, overlay zeros on c)).bs[o + pn]? = some (true, overlay zeros on c) := by
        rw [hbs, List.getElem?_set, if_pos rfl, if_pos (by rw [List.length_set, h.bl]; omega)]
      have hoth : ∀ p, p ≠ o + pn → ((s.takeS k x pn (o + pn)).setB (o + pn) (true, overlay zeros on c)).bs[p]? = s.bs[p]? := fun p hne => by
        rw [hbs, List.getElem?_set, if_neg (Ne.symm hne), List.getElem?_set, if_neg (Ne.symm hne)]
    · refine ⟨by rw [hbs]; simp [h.bl], by rw [hm']; omega, fun p => ?_, fun p hq => ?_, fun p hq => ?_, fun p hq => ?_, fun p hq hq2 => ?_, fun j hj => ?_⟩
      · rw [part_put, hm']
        by_cases e : p = pn
        · subst e; rw [if_pos rfl, if_pos (by omega)]
        · rw [if_neg (by omega), h.parts p, hm]
          by_cases q : p < pn
          · rw [if_pos q, if_pos (by omega)]
          · rw [if_neg q, if_neg (by omega)]
      · rw [part_put, if_neg (by omega)]; exact h.neg p hq
      · rw [hoth p (by omega)]; exact h.low p hq
      · rw [hm'] at hq
        by_cases e : p = pn
        · subst e; exact ⟨_, hself, ho⟩
        · rw [hoth (o + p) (by omega)]; exact h.taken p (by omega)
      · rw [hm'] at hq
        rw [hoth p (by omega)]; exact h.free p (by omega) hq2
      · rw [hlen] at hj
        rw [getD_append]
        by_cases e : j < g.length
        · rw [if_pos e, ← h.bytes j e]
          obtain ⟨l, hl, _⟩ := h.taken (j / 64) (by unfold manyB; omega)
          rw [byteAt_eq (s := s) (x := x) (l := l) (b := ((o + j / 64 : Nat) : Int) + 1) rfl rfl (by rw [h.parts, if_pos (by unfold manyB; omega)]) (bk_at hl)]
          refine byteAt_eq (b := ((o + j / 64 : Nat) : Int) + 1) rfl rfl ?_ ?_
          · rw [part_put, if_neg (by omega), h.parts, if_pos (by unfold manyB; omega)]
          · exact bk_at (by rw [hoth _ (by omega), hl])
        · rw [if_neg e]
          rw [byteAt_eq (l := overlay zeros on c) (b := ((o + pn : Nat) : Int) + 1) (p := pn) (o := j % 64) (by omega) rfl (by rw [part_put, if_pos rfl]) (bk_at hself)]
          rw [overlay_get (by rw [hz]; omega), if_pos (by omega)]
          congr 1; omega
    · intro p hq
      exact hoth p (by omega)
  · have hm : manyB g.length = pn + 1 := by unfold manyB; omega
    have hp : x.part pn = some (((o + pn : Nat) : Int) + 1) := by rw [h.parts pn, if_pos (by omega)]
    obtain ⟨l, hl, hl64⟩ := h.taken pn (by omega)
    have hbk := bk_at hl
    refine ⟨_, _, into_has hpn hon hp hbk, ?_, ?_, rfl, rfl, rfl, rfl⟩
    all_goals
      rw [slotOf_eq]
      have hbs : (s.setB (o + pn) (true, overlay l on c)).bs = s.bs.set (o + pn) (true, overlay l on c) := rfl
      have ho : (overlay l on c).length = 64 := by rw [overlay_len (by omega), hl64]
      have hself : (s.setB (o + pn) (true, overlay l on c)).bs[o + pn]? = some (true, overlay l on c) := by
        rw [hbs, List.getElem?_set, if_pos rfl, if_pos (by rw [h.bl]; omega)]
      have hoth : ∀ p, p ≠ o + pn → (s.setB (o + pn) (true, overlay l on c)).bs[p]? = s.bs[p]? := fun p hne => by
        rw [hbs, List.getElem?_set, if_neg (Ne.symm hne)]
    · refine ⟨by rw [hbs]; simp [h.bl], by rw [hm']; omega, fun p => by rw [h.parts p, hm, hm'], h.neg, fun p hq => ?_, fun p hq => ?_, fun p hq hq2 => ?_, fun j hj => ?_⟩
      · rw [hoth p (by omega)]; exact h.low p hq
      · rw [hm'] at hq
        by_cases e : p = pn
        · subst e; exact ⟨_, hself, ho⟩
        · rw [hoth (o + p) (by omega)]; exact h.taken p (by omega)
      · rw [hm'] at hq
        rw [hoth p (by omega)]; exact h.free p (by omega) hq2
      · rw [hlen] at hj
        rw [getD_append]
        by_cases q : j / 64 = pn
        · rw [byteAt_eq (l := overlay l on c) (b := ((o + pn : Nat) : Int) + 1) (p := pn) (o := j % 64) q.symm rfl hp (bk_at hself), overlay_get (by omega)]
          by_cases e : j < g.length
          · rw [if_neg (by omega), if_pos e, ← h.bytes j e, byteAt_eq q.symm rfl hp hbk]
          · rw [if_pos (by omega), if_neg e]
            congr 1; omega
        · have e : j < g.length := by omega
          rw [if_pos e, ← h.bytes j e]
          obtain ⟨l', hl', _⟩ := h.taken (j / 64) (by unfold manyB; omega)
          rw [byteAt_eq (s := s) (x := x) (l := l') (b := ((o + j / 64 : Nat) : Int) + 1) rfl rfl (by rw [h.parts, if_pos (by unfold manyB; omega)]) (bk_at hl')]
          refine byteAt_eq (b := ((o + j / 64 : Nat) : Int) + 1) rfl rfl ?_ ?_
          · rw [h.parts, if_pos (by unfold manyB; omega)]
          · exact bk_at (by rw [hoth _ (by omega), hl'])
    · intro p hq
      exact hoth p (by omega)
theorem manyB_mono {a b : Nat} (h : a ≤ b) : manyB a ≤ manyB b := by unfold manyB; omega
theorem JJ.writeL {o k : Nat} {g d : List UInt8} (hle : o + manyB (g.length + d.length) ≤ 200) : ∀ (fuel done : Nat) (s : Fs) (x : Nd), JJ o s x (g ++ d.take done) → done ≤ d.length → d.length - done < fuel →
    ∃ s' x', Fs.writeL k g.length d fuel done s x = (d.length, s', x') ∧ JJ o s' x' (g ++ d) ∧ (∀ p, p < o → s'.bs[p]? = s.bs[p]?) ∧ x'.size = x.size ∧ x'.names = x.names ∧ x'.users = x.users ∧ x'.kind = x.kind
  | 0, done, s, x, h, hd, hf => by omega
  | fuel + 1, done, s, x, h, hd, hf => by
    unfold Fs.writeL
    by_cases hlt : done < d.length
    · rw [if_pos hlt]
      have hgl : (g ++ d.take done).length = g.length + done := by rw [List.length_append, List.length_take]; omega
      have hcl : (chunkAt (g.length + done) done d).length = min (64 - (g.length + done) % 64) (d.length - done) := by unfold chunkAt; rw [List.length_take, List.length_drop]
      have hmo := manyB_mono (show (g ++ d.take done).length + (chunkAt (g.length + done) done d).length ≤ g.length + d.length by omega)
      obtain ⟨s', x', e1, e2, ek, e3, e4, e5, e6⟩ := h.into k (chunkAt (g.length + done) done d) (by omega) (by omega) (by omega)
      rw [hgl] at e1
      rw [e1]
      have hcat : (g ++ d.take done) ++ chunkAt (g.length + done) done d = g ++ d.take (done + (chunkAt (g.length + done) done d).length) := by
        rw [hcl, List.append_assoc, List.take_add]
        congr 2
        unfold chunkAt
        by_cases q : 64 - (g.length + done) % 64 ≤ d.length - done
        · rw [Nat.min_eq_left q]
        · rw [Nat.min_eq_right (by omega), List.take_of_length_le (by rw [List.length_drop]; omega), List.take_of_length_le (by rw [List.length_drop]; omega)]
      rw [hcat] at e2
      obtain ⟨s2, x2, f1, f2, fk, f3, f4, f5, f6⟩ := JJ.writeL hle fuel _ s' x' e2 (by omega) (by omega)
      exact ⟨s2, x2, f1, f2, fun p hp => (fk p hp).trans (ek p hp), f3.trans e3, f4.trans e4, f5.trans e5, f6.trans e6⟩
    · rw [if_neg hlt]
      obtain rfl : done = d.length := by omega
      rw [List.take_of_length_le (Nat.le_refl _)] at h
      exact ⟨s, x, rfl, h, fun _ _ => rfl, rfl, rfl, rfl, rfl⟩
/-- the whole file: it is the node k + 1 -/
structure Filed (o : Nat) (s : Fs) (k : Nat) (x : Nd) (g : List UInt8) : Prop where
  node : s.nodes[k]? = some (some x)
  size : x.size = g.length
  j : JJ o s x g
theorem JJ.congr {o : Nat} {s s' : Fs} {x x' : Nd} {g} (h : JJ o s x g) (hb : s'.bs = s.bs) (hx : x'.parts = x.parts) : JJ o s' x' g := by
  have hp : ∀ p, x'.part p = x.part p := fun p => by unfold Nd.part; rw [hx]
  refine ⟨by rw [hb]; exact h.bl, h.le, fun p => by rw [hp]; exact h.parts p, fun p q => by rw [hp]; exact h.neg p q, fun p q => by rw [hb]; exact h.low p q, fun p q => by rw [hb]; exact h.taken p q, fun p q => by rw [hb]; exact h.free p q, fun j q => ?_⟩
  rw [← h.bytes j q]
  unfold Fs.byteAt Fs.bk
  rw [hp, hb]
/-- what a file holds, wherever its blocks stand -/
structure Has (s : Fs) (x : Nd) (g : List UInt8) : Prop where
  size : x.size = g.length
  neg : ∀ p : Int, p < 0 → x.part p = none
  in_ : ∀ p b, x.part p = some b → ∃ n l, b = ((n : Nat) : Int) + 1 ∧ s.bs[n]? = some (true, l)
  bytes : ∀ j, j < g.length → s.byteAt x j = g.getD j 0
theorem Filed.has {o s k x g} (h : Filed o s k x g) : Has s x g := by
  refine ⟨h.size, h.j.neg, fun p b hx => ?_, h.j.bytes⟩
  by_cases hn : p < 0
  · rw [h.j.neg p hn] at hx; cases hx
  · obtain ⟨n, rfl⟩ : ∃ n : Nat, p = n := ⟨p.toNat, by omega⟩
    rw [h.j.parts n] at hx
    by_cases hm : n < manyB g.length
    · rw [if_pos hm] at hx
      cases hx
      obtain ⟨l, hl, _⟩ := h.j.taken n hm
      exact ⟨o + n, l, rfl, hl⟩
    · rw [if_neg hm] at hx; cases hx
theorem Has.takenB {s x g} (h : Has s x g) : x.taken s := by
  intro p b hx
  obtain ⟨n, l, rfl, hl⟩ := h.in_ p b hx
  rw [bk_at hl]; rfl
theorem Filed.takenB {o s k x g} (h : Filed o s k x g) : x.taken s := h.has.takenB
/-- what a file holds is kept where its blocks are -/
theorem Has.keep {s s' : Fs} {x x' : Nd} {g} (h : Has s x g) (hs : x'.size = x.size) (hp : x'.parts = x.parts) (hb : ∀ p b (n : Nat), x.part p = some b → b = (n : Int) + 1 → s'.bs[n]? = s.bs[n]?) : Has s' x' g := by
  have hpt : ∀ p, x'.part p = x.part p := fun p => by unfold Nd.part; rw [hp]
  refine ⟨hs.trans h.size, fun p q => by rw [hpt]; exact h.neg p q, fun p b hx => ?_, fun j hj => ?_⟩
  · rw [hpt] at hx
    obtain ⟨n, l, e, hl⟩ := h.in_ p b hx
    exact ⟨n, l, e, by rw [hb p b n hx e]; exact hl⟩
  · rw [← h.bytes j hj]
    unfold Fs.byteAt
    rw [hpt]
    cases hx : x.part (j / 64 : Nat) with
    | none => rfl
    | some b =>
      obtain ⟨n, l, rfl, hl⟩ := h.in_ _ b hx
      dsimp only
      rw [bk_at hl, bk_at (by rw [hb _ _ n hx rfl]; exact hl)]
theorem into_nodes {s s' : Fs} {k pos : Nat} {x x' : Nd} {c : List UInt8} (h : s.into k x pos c = some (s', x')) : s'.nodes.length = s.nodes.length := by
  unfold Fs.into at h
  cases hp : x.part (pos / 64 : Nat) with
  | some b => rw [hp] at h; cases h; rfl
  | none =>
    rw [hp] at h
    cases hj : freeAt s.bs with
    | none => rw [hj] at h; cases h
    | some j =>
      rw [hj] at h
      cases h
      show (s.nodes.set _ _).length = _
      simp
theorem writeL_nodes {k at_ : Nat} {d : List UInt8} : ∀ (fuel done : Nat) (s : Fs) (x : Nd), (Fs.writeL k at_ d fuel done s x).2.1.nodes.length = s.nodes.length
  | 0, done, s, x => rfl
  | fuel + 1, done, s, x => by
    unfold Fs.writeL
    by_cases hlt : done < d.length
    · rw [if_pos hlt]
      cases hi : s.into k x (at_ + done) (chunkAt (at_ + done) done d) with
      | none => rfl
      | some r => exact (writeL_nodes fuel _ r.1 r.2).trans (into_nodes (x' := r.2) (by rw [hi]))
    · rw [if_neg hlt]
theorem Filed.write {o s k x g} (h : Filed o s k x g) (d : List UInt8) (hle : o + manyB (g.length + d.length) ≤ 200) : ∃ s' x', s.writeS k x g.length d = (d.length, s') ∧ Filed o s' k x' (g ++ d) ∧ (∀ p, p < o → s'.bs[p]? = s.bs[p]?) ∧ x'.kind = x.kind ∧ x'.names = x.names ∧ x'.users = x.users := by
  obtain ⟨s', x', e1, e2, ek, e3, en, eu, e4⟩ := JJ.writeL (k := k) hle (d.length + 1) 0 s x (by simpa using h.j) (by omega) (by omega)
  have hlen := writeL_nodes (k := k) (at_ := g.length) (d := d) (d.length + 1) 0 s x
  rw [e1] at hlen
  by_cases h0 : 0 < d.length
  · refine ⟨s'.setNd k { x' with size := max x.size ((g.length + d.length : Nat) : Int) }, { x' with size := max x.size ((g.length + d.length : Nat) : Int) }, ?_, ⟨?_, ?_, e2.congr rfl rfl⟩, ek, e4, en, eu⟩
    · unfold Fs.writeS
      rw [e1]
      simp only [if_pos h0]
    · rw [Fs.setNd_get, if_pos rfl, if_pos]
      have := (List.getElem?_eq_some_iff.1 h.node).1
      have hlen' : s'.nodes.length = s.nodes.length := hlen
      omega
    · show max x.size ((g.length + d.length : Nat) : Int) = _
      rw [h.size, List.length_append]; omega
  · obtain rfl : d = [] := List.length_eq_zero_iff.1 (by omega)
    refine ⟨s, x, rfl, ?_, fun _ _ => rfl, rfl, rfl, rfl⟩
    rw [List.append_nil]; exact h
/-- nothing else of the tree is touched -/
def Same (k : Nat) (s s' : Fs) : Prop := s'.dirs = s.dirs ∧ ∀ j, j ≠ k → s'.nodes[j]? = s.nodes[j]?
theorem into_same {s s' : Fs} {k pos : Nat} {x x' : Nd} {c : List UInt8} (h : s.into k x pos c = some (s', x')) : Same k s s' := by
  unfold Fs.into at h
  cases hp : x.part (pos / 64 : Nat) with
  | some b => rw [hp] at h; cases h; exact ⟨rfl, fun _ _ => rfl⟩
  | none =>
    rw [hp] at h
    cases hj : freeAt s.bs with
    | none => rw [hj] at h; cases h
    | some j =>
      rw [hj] at h
      cases h
      refine ⟨rfl, fun i hi => ?_⟩
      show (s.nodes.set k _)[i]? = _
      rw [List.getElem?_set, if_neg (Ne.symm hi)]
theorem writeL_same {k at_ : Nat} {d : List UInt8} : ∀ (fuel done : Nat) (s : Fs) (x : Nd), Same k s (Fs.writeL k at_ d fuel done s x).2.1
  | 0, done, s, x => ⟨rfl, fun _ _ => rfl⟩
  | fuel + 1, done, s, x => by
    unfold Fs.writeL
    by_cases hlt : done < d.length
    · rw [if_pos hlt]
      cases hi : s.into k x (at_ + done) (chunkAt (at_ + done) done d) with
      | none => exact ⟨rfl, fun _ _ => rfl⟩
      | some r =>
        have h1 := writeL_same (k := k) (at_ := at_) (d := d) fuel (done + (chunkAt (at_ + done) done d).length) r.1 r.2
        have h2 : Same k s r.1 := into_same (x' := r.2) (by rw [hi])
        exact ⟨h1.1.trans h2.1, fun j hj => (h1.2 j hj).trans (h2.2 j hj)⟩
    · rw [if_neg hlt]; exact ⟨rfl, fun _ _ => rfl⟩
theorem writeS_same (s : Fs) (k : Nat) (x : Nd) (at_ : Nat) (d : List UInt8) : Same k s (s.writeS k x at_ d).2 := by
  have h := writeL_same (k := k) (at_ := at_) (d := d) (d.length + 1) 0 s x
  unfold Fs.writeS
  by_cases h0 : 0 < (Fs.writeL k at_ d (d.length + 1) 0 s x).1
  · simp only [if_pos h0]
    refine ⟨h.1, fun j hj => ?_⟩
    show ((Fs.writeL k at_ d (d.length + 1) 0 s x).2.1.nodes.set k _)[j]? = _
    rw [List.getElem?_set, if_neg (Ne.symm hj)]
    exact h.2 j hj
  · simp only [if_neg h0]
    exact h
/-- what is read of it -/
theorem Has.all {s x g} (h : Has s x g) : s.bytes x 0 g.length = g := by
  apply List.ext_getElem?
  intro j
  unfold Fs.bytes
  by_cases q : j < g.length
  · rw [List.getElem?_map, List.getElem?_range q]
    simp only [Option.map_some, Nat.zero_add]
    rw [h.bytes j q, List.getD_eq_getElem?_getD, List.getElem?_eq_getElem q]; rfl
  · rw [List.getElem?_eq_none (by simp; omega), List.getElem?_eq_none (by omega)]
end Go.Proofs.YtbecmcjibpamoaaGreatDoor
/- Files by their names in the root, plain: they are made, opened, written, let go. No program's text. -/
namespace Go.Proofs.YtbecmcjibpamoaaGreatDoor
open Go.RowKit IntWalk
set_option linter.unusedVariables false
set_option linter.unusedSimpArgs false

/-- a name as it may be asked for -/
structure UN (t : List UInt8) : Prop where
  ne : t ≠ []
  len : t.length ≤ 32
  dot : t ≠ dotL
  dots : t ≠ dotsL
  stroke : (47 : UInt8) ∉ t
  last : lastS t = t
  at_ : atS t = 0
/-- the root -/
structure RootAt (s : Fs) (d : Dr) : Prop where
  k : s.fld Nd.kind 1 = 2
  dr : s.dr 1 = some d
  ln : s.fld Nd.names 1 ≠ 0
section
variable {s s' : Fs} {d : Dr} {t : List UInt8} {n : Int}
theorem RootAt.of (h : RootAt s d) : s.dirOf 1 = some d := by unfold Fs.dirOf; rw [if_pos h.k, h.dr]
theorem from_un (ht : UN t) (i : Int) : fromS i t = (i, t) := by
  unfold fromS
  cases t with
  | nil => rfl
  | cons c r =>
    split
    · rename_i heq; cases heq; exact absurd (by simp) ht.stroke
    · rfl
theorem walk_un (h : RootAt s d) (ht : UN t) (f : Bool) : s.walkS 1 t f = (match d.name t with
    | none => (0, 23)
    | some n => if s.fld Nd.kind n ≠ 3 ∨ f = false then (n, 0) else ((s.goesS 9 1 t f 0).1, (s.goesS 9 1 t f 0).2.1)) := by
  unfold Fs.walkS
  rw [h.of]
  dsimp only
  cases hn : d.name t with
  | none =>
    have h1 : s.goesS 9 1 t f 0 = (0, 23, 0) := by
      unfold Fs.goesS
      rw [if_neg ht.ne, if_neg (by have := ht.len; omega), from_un ht, cutP_none t ht.stroke]
      unfold Fs.partsS
      have hp : s.partS (fun a p k => s.goesS 8 a p true k) 1 t (f || !([] : List (List UInt8)).isEmpty) 0 = (0, 23, 0) := by
        unfold Fs.partS
        rw [h.of]
        dsimp only
        rw [if_neg (fun q => q.elim ht.ne ht.dot), if_neg ht.dots, if_neg (by have := ht.len; omega), hn]
      rw [hp]
      rfl
    rw [h1]
  | some n =>
    dsimp only
    split
    · rename_i hk
      have h1 : s.goesS 9 1 t f 0 = (n, 0, 0) := by
        unfold Fs.goesS
        rw [if_neg ht.ne, if_neg (by have := ht.len; omega), from_un ht, cutP_none t ht.stroke]
        unfold Fs.partsS
        have hp : s.partS (fun a p k => s.goesS 8 a p true k) 1 t (f || !([] : List (List UInt8)).isEmpty) 0 = (n, 0, 0) := by
          unfold Fs.partS
          rw [h.of]
          dsimp only
          rw [if_neg (fun q => q.elim ht.ne ht.dot), if_neg ht.dots, if_neg (by have := ht.len; omega), hn]
          dsimp only
          rw [if_pos (by simpa using hk)]
        rw [hp]
        rfl
      rw [h1]
    · rfl
theorem walk_file (h : RootAt s d) (ht : UN t) (hn : d.name t = some n) (hk : s.fld Nd.kind n = 1) (f : Bool) : s.walkS 1 t f = (n, 0) := by
  rw [walk_un h ht, hn]
  dsimp only
  rw [if_pos (.inl (by rw [hk]; decide))]
theorem walk_gone (h : RootAt s d) (ht : UN t) (hn : d.name t = none) (f : Bool) : s.walkS 1 t f = (0, 23) := by
  rw [walk_un h ht, hn]
theorem place_un (h : RootAt s d) (ht : UN t) : s.placeS 1 t = (1, t, 0) := by
  have hl := ht.len
  unfold Fs.placeS
  rw [h.of]
  dsimp only
  rw [if_neg ht.ne, ht.last, if_neg (fun q => q.elim ht.ne (fun q => q.elim ht.dot ht.dots)), if_neg (by omega), ht.at_, if_pos rfl]
  dsimp only
  rw [if_neg (by simp), h.of]
/-- the tree behind the making of a file -/
def Fs.newS (s : Fs) (k : Nat) (d : Dr) (t : List UInt8) : Fs := (s.setNd k (freshNd 1)).setDr 1 ⟨d.names.put (.str t) (.int .i64 (k + 1)), d.parent⟩
theorem make_un (h : RootAt s d) (ht : UN t) (hn : d.name t = none) {k : Nat} (hg : gapAt s.nodes = some k) : s.makeS 1 t = ((k : Int) + 1, 0, s.newS k d t) := by
  have hf : s.freeS 1 t = 0 := by
    unfold Fs.freeS
    rw [place_un h ht]
    dsimp only
    rw [if_neg (by simp), h.dr]
    dsimp only
    rw [hn, if_neg (by simp), if_neg h.ln]
  unfold Fs.makeS
  rw [hf, if_neg (by simp), hg, place_un h ht]
  dsimp only
  rw [h.dr]
  rfl
theorem name_put1 {m : GMap} {p : Int} (t : List UInt8) (b : Int) (p' : Int) (u : List UInt8) : (Dr.mk (m.put (.str t) (.int .i64 b)) p').name u = if u = t then some b else (Dr.mk m p).name u := by
  unfold Dr.name
  show (match getE (.str u) (setE (.str t) (.int .i64 b) m.clk m.es) with | some (.int .i64 n) => some n | _ => none) = _
  rw [getE_setE]
  by_cases e : u = t
  · subst e; rw [if_pos rfl, if_pos rfl]
  · rw [if_neg (by intro q; cases q; exact e rfl), if_neg e]; rfl
/-- what a tree has but for one node; the root's names may differ -/
structure But (k : Nat) (s s' : Fs) : Prop where
  nodes : ∀ j, j ≠ k → s'.nodes[j]? = s.nodes[j]?
  len : s'.nodes.length = s.nodes.length
theorem But.refl (k : Nat) (s : Fs) : But k s s := ⟨fun _ _ => rfl, rfl⟩
theorem But.trans {k : Nat} {s s' s'' : Fs} (h : But k s s') (h' : But k s' s'') : But k s s'' := ⟨fun j hj => (h'.nodes j hj).trans (h.nodes j hj), h'.len.trans h.len⟩
theorem But.nd {k : Nat} (h : But k s s') {i : Int} (hi : slotOf i ≠ k) : s'.nd i = s.nd i := by
  unfold Fs.nd
  rw [h.nodes _ hi]
theorem But.fld {k : Nat} (h : But k s s') {i : Int} (hi : slotOf i ≠ k) {α : Type} (f : Nd → Int) : s'.fld f i = s.fld f i := by
  unfold Fs.fld
  rw [h.nd hi]
theorem setNd_but (s : Fs) (k : Nat) (x : Nd) : But k s (s.setNd k x) := ⟨fun j hj => by rw [Fs.setNd_get, if_neg (Ne.symm hj)], by show (s.nodes.set k _).length = _; simp⟩
theorem nd_at {k : Nat} {x : Nd} (h : s.nodes[k]? = some (some x)) : s.nd ((k : Int) + 1) = some x := by
  unfold Fs.nd
  rw [if_neg (by omega), slotOf_eq, h]; rfl
theorem fld_at {k : Nat} {x : Nd} (h : s.nodes[k]? = some (some x)) (f : Nd → Int) : s.fld f ((k : Int) + 1) = f x := by
  unfold Fs.fld
  rw [nd_at h]
theorem root_but {k : Nat} (h : RootAt s d) (hb : But k s s') (hk : k ≠ 0) {d' : Dr} (hd : s'.dr 1 = some d') : RootAt s' d' := by
  have h1 : slotOf 1 ≠ k := by unfold slotOf; simp; omega
  exact ⟨(hb.fld h1 (α := Unit) Nd.kind).trans h.k, hd, by rw [hb.fld h1 (α := Unit) Nd.names]; exact h.ln⟩
end
end Go.Proofs.YtbecmcjibpamoaaGreatDoor
/- A file in the root: it is opened and let go; a new one is opened, written, let go; one gets another name. No program's text. -/
namespace Go.Proofs.YtbecmcjibpamoaaGreatDoor
open Go.RowKit IntWalk
set_option linter.unusedVariables false
set_option linter.unusedSimpArgs false

theorem gapAt_at : ∀ (l : List (Option Nd)) (k : Nat), l[k]? = some none → (∀ j, j < k → ∃ x, l[j]? = some (some x)) → gapAt l = some k
  | [], k, h, _ => by simp at h
  | none :: l, 0, _, _ => rfl
  | none :: l, k + 1, _, h => by obtain ⟨x, hx⟩ := h 0 (by omega); simp at hx
  | some a :: l, 0, h, _ => by simp at h
  | some a :: l, k + 1, h, h2 => by
    have := gapAt_at l k (by simpa using h) (fun j hj => by obtain ⟨x, hx⟩ := h2 (j + 1) (by omega); exact ⟨x, by simpa using hx⟩)
    show (gapAt l).map (· + 1) = some (k + 1)
    rw [this]; rfl
/-- the blocks up to o are taken, the others free -/
structure Room (o : Nat) (s : Fs) : Prop where
  bl : s.bs.length = 200
  low : ∀ p : Nat, p < o → ∃ l, s.bs[p]? = some (true, l)
  free : ∀ p : Nat, o ≤ p → p < 200 → ∃ l, s.bs[p]? = some (false, l)
theorem Room.same {o : Nat} {s s' : Fs} (h : Room o s) (hb : s'.bs = s.bs) : Room o s' := ⟨by rw [hb]; exact h.bl, fun p hp => by rw [hb]; exact h.low p hp, fun p hp hp2 => by rw [hb]; exact h.free p hp hp2⟩
theorem Filed.room {o : Nat} {s : Fs} {k : Nat} {x : Nd} {g : List UInt8} (h : Filed o s k x g) : Room (o + manyB g.length) s := by
  refine ⟨h.j.bl, fun p hp => ?_, fun p hp hp2 => h.j.free p hp hp2⟩
  by_cases q : p < o
  · exact h.j.low p q
  · obtain ⟨l, hl, _⟩ := h.j.taken (p - o) (by omega)
    rw [show o + (p - o) = p by omega] at hl
    exact ⟨l, hl⟩
theorem Room.filed {o : Nat} {s : Fs} (h : Room o s) (ho : o ≤ 200) {k : Nat} {x : Nd} (hk : s.nodes[k]? = some (some x)) (hs : x.size = 0) (hp : x.parts.es = []) : Filed o s k x [] := by
  have hpt : ∀ p, x.part p = none := fun p => by
    unfold Nd.part GMap.get
    rw [hp]; rfl
  refine ⟨hk, hs, h.bl, by unfold manyB; simpa using ho, fun p => by rw [hpt, if_neg (by unfold manyB; simp)], fun p _ => hpt p, h.low, fun p q => by unfold manyB at q; simp at q, fun p q q2 => h.free p (by unfold manyB at q; simpa using q) q2, fun j hj => by simp at hj⟩
/-- a file of the root that nobody has open -/
structure FileAt (s : Fs) (d : Dr) (t : List UInt8) (k : Nat) (g : List UInt8) : Prop where
  root : RootAt s d
  nm : d.name t = some ((k : Int) + 1)
  node : ∃ x, s.nodes[k]? = some (some x) ∧ x.kind = 1 ∧ x.names = 1 ∧ x.users = 0 ∧ Has s x g
theorem set_back {α : Type} {l : List α} {k : Nat} {x : α} (h : l[k]? = some x) (y : α) : (l.set k y).set k x = l := by
  apply List.ext_getElem?
  intro j
  rw [List.getElem?_set, List.getElem?_set]
  by_cases e : k = j
  · subst e
    have hlt := (List.getElem?_eq_some_iff.1 h).1
    rw [if_pos rfl, if_pos (by rw [List.length_set]; exact hlt), h]
  · rw [if_neg e, if_neg e]
section
variable {s s' : Fs} {d : Dr} {t : List UInt8} {k : Nat}
theorem hold_at {x : Nd} (h : s.nodes[k]? = some (some x)) : s.holdS ((k : Int) + 1) = (0, s.setNd k { x with users := incW x.users }) := by
  unfold Fs.holdS
  rw [nd_at h, slotOf_eq]
theorem set_at (s : Fs) {k : Nat} (hlt : k < s.nodes.length) (x : Nd) : (s.setNd k x).nodes[k]? = some (some x) := by
  rw [Fs.setNd_get, if_pos rfl, if_pos hlt]
theorem loose_at {x : Nd} (h : s.nodes[k]? = some (some x)) (hu : x.users = 1) (hn : x.names = 1) : s.looseS ((k : Int) + 1) = (0, s.setNd k { x with users := 0 }) := by
  unfold Fs.looseS
  rw [nd_at h]
  dsimp only
  rw [if_neg (by rw [hu]; decide)]
  have hd : decW x.users = 0 := by rw [hu]; simp [decW, wrap64]
  unfold Fs.lessS
  have hi : idle { x with users := decW x.users } = false := by unfold idle; dsimp only; rw [hn]; rfl
  rw [hi, if_neg (by simp), slotOf_eq, hd]
/-- held and let go: the tree is as it was -/
theorem hold_loose {x : Nd} (h : s.nodes[k]? = some (some x)) (hu : x.users = 0) (hn : x.names = 1) :
    (s.holdS ((k : Int) + 1)).2.nodes[k]? = some (some { x with users := 1 }) ∧ (s.holdS ((k : Int) + 1)).2.bs = s.bs ∧ ((s.holdS ((k : Int) + 1)).2.looseS ((k : Int) + 1)) = (0, s) := by
  have hlt := (List.getElem?_eq_some_iff.1 h).1
  have hi : incW x.users = 1 := by rw [hu]; simp [incW, wrap64]
  rw [hold_at h, hi]
  have h2 : (s.setNd k { x with users := 1 }).nodes[k]? = some (some { x with users := 1 }) := set_at s hlt _
  refine ⟨h2, rfl, ?_⟩
  rw [loose_at h2 rfl hn]
  have hx : ({ ({ x with users := 1 } : Nd) with users := 0 } : Nd) = x := by cases x; cases hu; rfl
  rw [hx]
  have : (s.setNd k { x with users := 1 }).setNd k x = s := by
    show ({ s with nodes := (s.nodes.set k _).set k (some x) } : Fs) = s
    rw [set_back h]
  rw [this]
theorem flags1 : FlagsOk 1 := ⟨by decide, by decide, by kernel_rfl⟩
theorem flags26 : FlagsOk 26 := ⟨by decide, by decide, by kernel_rfl⟩
theorem has1_16 : hasF 1 16 = false := by kernel_rfl
theorem has1_8 : hasF 1 8 = false := by kernel_rfl
theorem has26_8 : hasF 26 8 = true := by kernel_rfl
theorem has26_16 : hasF 26 16 = true := by kernel_rfl
theorem has26_2 : hasF 26 2 = true := by kernel_rfl
/-- a file that is there is opened to be read -/
theorem open_old {g : List UInt8} (h : FileAt s d t k g) (ht : UN t) : s.openS 1 t 1 = (some ((k : Int) + 1), 0, (s.holdS ((k : Int) + 1)).2) := by
  obtain ⟨x, hx, hk, _⟩ := h.node
  have hf := fld_at hx Nd.kind
  have hw := walk_file h.root ht h.nm (by rw [hf]; exact hk) true
  unfold Fs.openS
  rw [if_pos flags1]
  have hfs : s.findS 1 t 1 = ((k : Int) + 1, 0, s) := by
    unfold Fs.findS
    rw [hw]
    dsimp only
    rw [if_neg (by decide), has1_8, if_neg (by simp)]
  rw [hfs]
  dsimp only
  rw [if_neg (by simp), hf, hk, if_neg (by decide), has1_16, if_neg (by simp)]
/-- a file that is not there is not found -/
theorem open_none (h : RootAt s d) (ht : UN t) (hn : d.name t = none) : s.openS 1 t 1 = (none, 23, s) := by
  unfold Fs.openS
  rw [if_pos flags1]
  have hfs : s.findS 1 t 1 = (0, 23, s) := by
    unfold Fs.findS
    rw [walk_gone h ht hn]
    dsimp only
    rw [if_pos rfl, has1_8, if_neg (by simp)]
  rw [hfs]
  dsimp only
  rw [if_pos (by decide)]
/-- what a new file has, that is open -/
structure Opened (s s' : Fs) (d : Dr) (t : List UInt8) (k : Nat) (y : Nd) : Prop where
  gen : Gen s'
  but : But k s s'
  bs : s'.bs = s.bs
  dr : s'.dr 1 = some ⟨d.names.put (.str t) (.int .i64 ((k : Int) + 1)), d.parent⟩
  at_ : s'.nodes[k]? = some (some y)
  kind : y.kind = 1
  names : y.names = 1
  users : y.users = 1
  size : y.size = 0
  parts : y.parts.es = []
theorem Gen.setAt (h : Gen s) {x y : Nd} (hk : s.nodes[k]? = some (some x)) (hp : y.parts = x.parts) (hs : y.size = x.size) : Gen (s.setNd k y) := by
  have hlt := (List.getElem?_eq_some_iff.1 hk).1
  have hx := h.nds k x hk
  refine h.node (k := k) (o := some y) (set_at s hlt y) (setNd_but s k y).nodes (h.blk.setNd hk (by rw [hp])) rfl rfl (fun z hz => ?_) (fun q => by cases q)
  cases hz
  exact ⟨by unfold PartsUp; rw [hp]; exact hx.up, by rw [hp]; exact hx.ok, by rw [hs]; exact hx.size⟩
theorem new_facts (hG : Gen s) (h : RootAt s d) {k : Nat} (hg : gapAt s.nodes = some k) : Gen (s.newS k d t) ∧ But k s (s.newS k d t) ∧ (s.newS k d t).bs = s.bs ∧ (s.newS k d t).dr 1 = some ⟨d.names.put (.str t) (.int .i64 ((k : Int) + 1)), d.parent⟩ ∧ (s.newS k d t).nodes[k]? = some (some (freshNd 1)) := by
  have hk := (gapAt_some _ _ hg).1
  have hlt := (List.getElem?_eq_some_iff.1 hk).1
  refine ⟨(hG.fresh hk 1).setDr _ _, ⟨(setNd_but s k (freshNd 1)).nodes, (setNd_but s k (freshNd 1)).len⟩, rfl, ?_, set_at s hlt _⟩
  unfold Fs.newS
  rw [setDr_dr, if_pos rfl]
  show (s.dr 1).map _ = _
  rw [h.dr]; rfl
theorem open_new (hG : Gen s) (h : RootAt s d) (ht : UN t) (hn : d.name t = none) (hg : gapAt s.nodes = some k) : ∃ s' y, s.openS 1 t 26 = (some ((k : Int) + 1), 0, s') ∧ Opened s s' d t k y := by
  obtain ⟨n1, n2, n3, n4, n5⟩ := new_facts (t := t) hG h hg
  have hlt := (List.getElem?_eq_some_iff.1 n5).1
  have hf := fld_at n5 Nd.kind
  have hfs : s.findS 1 t 26 = ((k : Int) + 1, 0, s.newS k d t) := by
    unfold Fs.findS
    rw [walk_gone h ht hn]
    dsimp only
    rw [if_pos rfl, has26_8, if_pos rfl, make_un h ht hn hg]
    dsimp only
    rw [if_neg (by decide)]
  unfold Fs.openS
  rw [if_pos flags26, hfs]
  dsimp only
  rw [if_neg (by simp), hf, if_neg (by decide), has26_16, has26_2, if_pos ⟨rfl, rfl⟩]
  have hcut : ∃ s1 y1, (s.newS k d t).ncutS ((k : Int) + 1) = s1 ∧ Gen s1 ∧ But k (s.newS k d t) s1 ∧ s1.bs = (s.newS k d t).bs ∧ s1.dirs = (s.newS k d t).dirs ∧ s1.nodes[k]? = some (some y1) ∧ y1.kind = 1 ∧ y1.names = 1 ∧ y1.users = 0 ∧ y1.size = 0 ∧ y1.parts.es = [] := by
    unfold Fs.ncutS
    rw [hf, if_pos (by decide), nd_at n5]
    dsimp only
    unfold Fs.cutS
    rw [slotOf_eq, dropS_eq (freshG 1).up]
    have hgv : givesS (s.newS k d t) (freshNd 1).parts.es = s.newS k d t := rfl
    rw [hgv]
    have hlt2 : k < ((s.newS k d t).setNd k (bare (freshNd 1))).nodes.length := by rw [(setNd_but _ k _).len]; exact hlt
    refine ⟨_, _, rfl, ?_, (setNd_but _ k _).trans (setNd_but _ k _), rfl, rfl, set_at _ hlt2 _, rfl, rfl, rfl, rfl, rfl⟩
    exact (n1.setAt n5 rfl rfl).setAt (set_at _ hlt _) rfl rfl
  obtain ⟨s1, y1, e1, c1, c2, c3, c4, c5, c6, c7, c8, c9, c10⟩ := hcut
  rw [e1, hold_at c5]
  have hlt1 := (List.getElem?_eq_some_iff.1 c5).1
  refine ⟨_, { y1 with users := incW y1.users }, rfl, c1.setAt c5 rfl rfl, (n2.trans c2).trans (setNd_but _ k _), c3.trans n3, ?_, set_at _ hlt1 _, c6, c7, by show incW y1.users = 1; rw [c8]; simp [incW, wrap64], c9, c10⟩
  show dirE 1 s1.dirs = _
  rw [c4]
  exact n4
/-- a file keeps what it has, though another one gets bytes -/
theorem FileAt.keep {d' : Dr} {t0 : List UInt8} {k0 k o : Nat} {g : List UInt8} (h : FileAt s d t0 k0 g) (hr : RootAt s' d') (hn : d'.name t0 = some ((k0 : Int) + 1)) (hR : Room o s) (hb : ∀ p, p < o → s'.bs[p]? = s.bs[p]?) (hk : k0 ≠ k) (hbut : But k s s') : FileAt s' d' t0 k0 g := by
  obtain ⟨x, hx, h1, h2, h3, h4⟩ := h.node
  refine ⟨hr, hn, x, by rw [hbut.nodes _ hk]; exact hx, h1, h2, h3, h4.keep rfl rfl (fun p b n hp hbn => ?_)⟩
  obtain ⟨m, l, e, hl⟩ := h4.in_ p b hp
  have hmn : m = n := by omega
  subst hmn
  refine hb m ?_
  rcases Nat.lt_or_ge m o with q | q
  · exact q
  · have hm2 : m < 200 := by have := (List.getElem?_eq_some_iff.1 hl).1; rw [hR.bl] at this; exact this
    obtain ⟨l', hl'⟩ := hR.free m q hm2
    rw [hl] at hl'; cases hl'
/-- bytes into a new file that is open, then it is let go -/
theorem write_new {y : Nd} {o : Nat} (hO : Opened s s' d t k y) (hR : Room o s) (ho : o ≤ 200) (hroot : RootAt s d) (hk0 : k ≠ 0) (g : List UInt8) (hle : o + manyB g.length ≤ 200) (hg : g.length ≤ 4096) :
    ∃ s2 y2, s'.writeS k y 0 g = (g.length, s2) ∧ Gen s2 ∧ s2.nodes[k]? = some (some y2) ∧ y2.users = 1 ∧ y2.names = 1 ∧ y2.kind = 1 ∧
      ∃ s3, s2.looseS ((k : Int) + 1) = (0, s3) ∧ Gen s3 ∧ FileAt s3 ⟨d.names.put (.str t) (.int .i64 ((k : Int) + 1)), d.parent⟩ t k g ∧ Room (o + manyB g.length) s3 ∧ But k s s3 ∧ (∀ p, p < o → s3.bs[p]? = s.bs[p]?) := by
  have hF : Filed o s' k y [] := (hR.same hO.bs).filed ho hO.at_ hO.size hO.parts
  obtain ⟨s2, y2, w1, w2, w3, w4, w5, w6⟩ := hF.write g (by simpa using hle)
  have w1' : s'.writeS k y 0 g = (g.length, s2) := w1
  have hsame := writeS_same s' k y 0 g
  have hgen := hO.gen.writeAny hO.at_ g hg
  rw [w1'] at hsame hgen
  rw [List.nil_append] at w2
  have hlt2 := (List.getElem?_eq_some_iff.1 w2.node).1
  have hlt' := (List.getElem?_eq_some_iff.1 hO.at_).1
  refine ⟨s2, y2, w1', hgen, w2.node, by rw [w6, hO.users], by rw [w5, hO.names], by rw [w4, hO.kind], ?_⟩
  have hlen : s2.nodes.length = s'.nodes.length := by
    have h1 := writeL_nodes (k := k) (at_ := 0) (d := g) (g.length + 1) 0 s' y
    have h2 : (s'.writeS k y 0 g).2.nodes.length = s'.nodes.length := by
      unfold Fs.writeS
      by_cases h0 : 0 < (Fs.writeL k 0 g (g.length + 1) 0 s' y).1
      · simp only [if_pos h0]
        show (List.set _ _ _).length = _
        rw [List.length_set]; exact h1
      · simp only [if_neg h0]
        exact h1
    rw [w1'] at h2; exact h2
  have hbut : But k s' s2 := ⟨hsame.2, hlen⟩
  rw [loose_at w2.node (by rw [w6, hO.users]) (by rw [w5, hO.names])]
  have hF3 : Filed o (s2.setNd k { y2 with users := 0 }) k { y2 with users := 0 } g := ⟨set_at s2 hlt2 _, w2.size, w2.j.congr rfl rfl⟩
  have hB3 : But k s (s2.setNd k { y2 with users := 0 }) := (hO.but.trans hbut).trans (setNd_but _ k _)
  have hdr : (s2.setNd k { y2 with users := 0 }).dr 1 = some ⟨d.names.put (.str t) (.int .i64 ((k : Int) + 1)), d.parent⟩ := by
    show dirE 1 s2.dirs = _
    rw [hsame.1]; exact hO.dr
  refine ⟨_, rfl, hgen.setAt w2.node rfl rfl, ⟨root_but hroot hB3 hk0 hdr, ?_, _, set_at s2 hlt2 _, by show y2.kind = 1; rw [w4, hO.kind], by show y2.names = 1; rw [w5, hO.names], rfl, hF3.has⟩, hF3.room, hB3, fun p hp => ?_⟩
  · rw [name_put1 (p := d.parent), if_pos rfl]
  · show s2.bs[p]? = _
    rw [w3 p hp, hO.bs]
theorem getE_delE (t u : Key) : ∀ l : List (Key × Value × Nat), (l.map (·.1)).Nodup → getE u (delE t l) = if u = t then none else getE u l
  | [], _ => by simp [delE, getE]
  | e :: l, h => by
    have hn := List.nodup_cons.1 h
    have ih := getE_delE t u l hn.2
    unfold delE
    by_cases he : e.1 = t
    · rw [if_pos he]
      by_cases hu : u = t
      · rw [if_pos hu]
        refine getE_none.2 fun x hx q => hn.1 ?_
        show e.1 ∈ _
        rw [he, ← hu, ← q]
        exact List.mem_map_of_mem (f := (·.1)) hx
      · rw [if_neg hu]
        unfold getE
        rw [if_neg (by rw [he]; exact fun q => hu q.symm)]
        cases l <;> rfl
    · rw [if_neg he]
      unfold getE
      by_cases hu : e.1 = u
      · rw [if_pos hu, if_neg (by rw [← hu]; exact he), if_pos hu]
      · rw [if_neg hu, ih, if_neg hu]
theorem name_del1 {m : GMap} (h : NamesOk m) (p p' : Int) (t u : List UInt8) : (Dr.mk (m.del (.str t)) p').name u = if u = t then none else (Dr.mk m p).name u := by
  have hk : (m.es.map (·.1)).Nodup := by
    have := h.good.keys
    unfold kb at this
    rw [List.map_map] at this
    exact this
  unfold Dr.name
  show (match getE (.str u) (delE (.str t) m.es) with | some (.int .i64 n) => some n | _ => none) = _
  rw [getE_delE _ _ _ hk]
  by_cases e : u = t
  · subst e; rw [if_pos rfl, if_pos rfl]
  · rw [if_neg (by intro q; cases q; exact e rfl), if_neg e]; rfl
/-- a file gets another name -/
def Fs.renS (s : Fs) (d : Dr) (t u : List UInt8) (k : Nat) : Fs := s.setDr 1 ⟨(d.names.del (.str t)).put (.str u) (.int .i64 ((k : Int) + 1)), d.parent⟩
theorem ren_file {u : List UInt8} {g : List UInt8} (hG : Gen s) (h : FileAt s d t k g) (hok : NamesOk d.names) (htu : t ≠ u) :
    Gen (s.renS d t u k) ∧ ∃ d', FileAt (s.renS d t u k) d' u k g ∧ d'.name t = none := by
  have hdr : (s.renS d t u k).dr 1 = some ⟨(d.names.del (.str t)).put (.str u) (.int .i64 ((k : Int) + 1)), d.parent⟩ := by
    unfold Fs.renS
    rw [setDr_dr, if_pos rfl, h.root.dr]; rfl
  refine ⟨hG.setDr _ _, _, ⟨⟨h.root.k, hdr, h.root.ln⟩, by rw [name_put1 (p := d.parent), if_pos rfl], ?_⟩, ?_⟩
  · obtain ⟨x, h1, h2, h3, h4, h5⟩ := h.node
    exact ⟨x, h1, h2, h3, h4, h5.keep rfl rfl (fun _ _ _ _ _ => rfl)⟩
  · rw [name_put1 (p := d.parent), if_neg htu, name_del1 hok d.parent d.parent t t, if_pos rfl]
end
end Go.Proofs.YtbecmcjibpamoaaGreatDoor
