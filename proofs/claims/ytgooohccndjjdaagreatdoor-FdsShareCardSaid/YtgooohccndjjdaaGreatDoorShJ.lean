/- A file that is written from its beginning on, in a store with room: what it holds. No program's text. -/
import Derived.Test.YtgooohccndjjdaaGreatDoorFsL
namespace Go.Proofs.YtgooohccndjjdaaGreatDoor
open Go.RowKit
set_option linter.unusedVariables false
set_option linter.unusedSimpArgs false

/-- how many blocks so many bytes take -/
def manyB (q : Nat) : Nat := (q + 63) / 64
/-- the node x of s has been written q bytes, g; its part j stands in the block j -/
structure JJ (s : Fs) (x : Nd) (g : List UInt8) : Prop where
  bl : s.bs.length = 64
  le : g.length ≤ 640
  parts : ∀ p : Nat, x.part p = if p < manyB g.length then some ((p : Int) + 1) else none
  neg : ∀ p : Int, p < 0 → x.part p = none
  taken : ∀ p : Nat, p < manyB g.length → ∃ l, s.bs[p]? = some (true, l) ∧ l.length = 64
  free : ∀ p : Nat, manyB g.length ≤ p → p < 64 → ∃ l, s.bs[p]? = some (false, l)
  bytes : ∀ j, j < g.length → s.byteAt x j = g.getD j 0
theorem JJ.bk {s x g} (h : JJ s x g) {p : Nat} (hp : p < manyB g.length) {l : List UInt8} (hl : s.bs[p]? = some (true, l)) : s.bk ((p : Int) + 1) = some l := by
  unfold Fs.bk
  rw [if_neg (by omega), slotOf_eq, hl]
theorem JJ.freeAt {s x g} (h : JJ s x g) : freeAt s.bs = some (manyB g.length) := by
  have hle := h.le
  obtain ⟨l, hl⟩ := h.free (manyB g.length) (Nat.le_refl _) (by unfold manyB; omega)
  refine freeAt_at _ _ l (fun j b hj hb => ?_) hl
  obtain ⟨l', h1, _⟩ := h.taken j hj
  rw [h1] at hb; cases hb; rfl
theorem overlay_get {l d : List UInt8} {o : Nat} (h : o + d.length ≤ l.length) (j : Nat) : (overlay l o d).getD j 0 = if o ≤ j ∧ j < o + d.length then d.getD (j - o) 0 else l.getD j 0 := by
  unfold overlay
  simp only [List.getD_eq_getElem?_getD]
  by_cases h1 : j < o
  · rw [if_neg (by omega), List.append_assoc, List.getElem?_append_left (by simp; omega), List.getElem?_take_of_lt h1]
  · by_cases h2 : j < o + d.length
    · rw [if_pos (by omega), List.append_assoc, List.getElem?_append_right (by simp; omega), List.getElem?_append_left (by simp; omega)]
      congr 2
      simp; omega
    · rw [if_neg (by omega), List.getElem?_append_right (by simp; omega), List.getElem?_drop]
      congr 2
      simp; omega
theorem byteAt_eq {s : Fs} {x : Nd} {j p o : Nat} {b : Int} {l : List UInt8} (hp : p = j / 64) (ho : o = j % 64) (hx : x.part p = some b) (hl : s.bk b = some l) : s.byteAt x j = l.getD o 0 := by
  subst hp ho
  unfold Fs.byteAt
  rw [hx]
  simp only [hl, Option.getD_some]
theorem getD_append {a b : List UInt8} (j : Nat) : (a ++ b).getD j 0 = if j < a.length then a.getD j 0 else b.getD (j - a.length) 0 := by
  simp only [List.getD_eq_getElem?_getD]
  by_cases h : j < a.length
  · rw [if_pos h, List.getElem?_append_left h]
  · rw [if_neg h, List.getElem?_append_right (by omega)]
/-- a chunk is written behind -/
theorem JJ.into {s : Fs} {x : Nd} {g : List UInt8} (h : JJ s x g) (k : Nat) (c : List UInt8) (hc : 0 < c.length) (hc2 : g.length % 64 + c.length ≤ 64) (hle : g.length + c.length ≤ 640) :
    ∃ s' x', s.into k x g.length c = some (s', x') ∧ JJ s' x' (g ++ c) ∧ x'.size = x.size ∧ x'.names = x.names ∧ x'.users = x.users ∧ x'.kind = x.kind := by
  obtain ⟨pn, hpn⟩ : ∃ pn : Nat, pn = g.length / 64 := ⟨_, rfl⟩
  obtain ⟨on, hon⟩ : ∃ on : Nat, on = g.length % 64 := ⟨_, rfl⟩
  have hlen : (g ++ c).length = g.length + c.length := List.length_append
  have hm' : manyB (g ++ c).length = pn + 1 := by rw [hlen]; unfold manyB; omega
  by_cases h0 : on = 0
  · have hm : manyB g.length = pn := by unfold manyB; omega
    have hp : x.part pn = none := by rw [h.parts pn, if_neg (by omega)]
    have hj := h.freeAt
    rw [hm] at hj
    refine ⟨_, _, into_take hpn hon hp hj, ?_, rfl, rfl, rfl, rfl⟩
    have hpl : pn < 64 := by omega
    have hbs : ((s.takeS k x pn pn).setB pn (true, overlay zeros on c)).bs = (s.bs.set pn (true, zeros)).set pn (true, overlay zeros on c) := rfl
    have hz : zeros.length = 64 := by simp [zeros]
    have ho : (overlay zeros on c).length = 64 := by rw [overlay_len (by rw [hz]; omega), hz]
    have hself : ((s.takeS k x pn pn).setB pn (true, overlay zeros on c)).bs[pn]? = some (true, overlay zeros on c) := by
      rw [hbs, List.getElem?_set, if_pos rfl, if_pos (by rw [List.length_set, h.bl]; omega)]
    have hoth : ∀ p, p ≠ pn → ((s.takeS k x pn pn).setB pn (true, overlay zeros on c)).bs[p]? = s.bs[p]? := fun p hne => by
      rw [hbs, List.getElem?_set, if_neg (Ne.symm hne), List.getElem?_set, if_neg (Ne.symm hne)]
    refine ⟨by rw [hbs]; simp [h.bl], by rw [hlen]; omega, fun p => ?_, fun p hq => ?_, fun p hq => ?_, fun p hq hq2 => ?_, fun j hj => ?_⟩
    · rw [part_put, hm']
      by_cases e : p = pn
      · subst e; rw [if_pos rfl, if_pos (by omega)]
      · rw [if_neg (by omega), h.parts p, hm]
        by_cases q : p < pn
        · rw [if_pos q, if_pos (by omega)]
        · rw [if_neg q, if_neg (by omega)]
    · rw [part_put, if_neg (by omega)]; exact h.neg p hq
    · rw [hm'] at hq
      by_cases e : p = pn
      · subst e; exact ⟨_, hself, ho⟩
      · rw [hoth p e]; exact h.taken p (by omega)
    · rw [hm'] at hq
      rw [hoth p (by omega)]; exact h.free p (by omega) hq2
    · rw [hlen] at hj
      rw [getD_append]
      by_cases e : j < g.length
      · rw [if_pos e, ← h.bytes j e]
        obtain ⟨l, hl, _⟩ := h.taken (j / 64) (by unfold manyB; omega)
        rw [byteAt_eq (s := s) (x := x) (l := l) (b := ((j / 64 : Nat) : Int) + 1) rfl rfl (by rw [h.parts, if_pos (by unfold manyB; omega)]) (by unfold Fs.bk; rw [if_neg (by omega), slotOf_eq, hl])]
        refine byteAt_eq (b := ((j / 64 : Nat) : Int) + 1) rfl rfl ?_ ?_
        · rw [part_put, if_neg (by omega), h.parts, if_pos (by unfold manyB; omega)]
        · unfold Fs.bk; rw [if_neg (by omega), slotOf_eq, hoth _ (by omega), hl]
      · rw [if_neg e]
        rw [byteAt_eq (l := overlay zeros on c) (b := (pn : Int) + 1) (p := pn) (o := j % 64) (by omega) rfl (by rw [part_put, if_pos rfl]) (by unfold Fs.bk; rw [if_neg (by omega), slotOf_eq, hself])]
        rw [overlay_get (by rw [hz]; omega), if_pos (by omega)]
        congr 1; omega
  · have hm : manyB g.length = pn + 1 := by unfold manyB; omega
    have hp : x.part pn = some ((pn : Int) + 1) := by rw [h.parts pn, if_pos (by omega)]
    obtain ⟨l, hl, hl64⟩ := h.taken pn (by omega)
    have hbk := h.bk (by omega) hl
    refine ⟨_, _, into_has hpn hon hp hbk, ?_, rfl, rfl, rfl, rfl⟩
    rw [slotOf_eq]
    have hpl : pn < 64 := by omega
    have hbs : (s.setB pn (true, overlay l on c)).bs = s.bs.set pn (true, overlay l on c) := rfl
    have ho : (overlay l on c).length = 64 := by rw [overlay_len (by omega), hl64]
    have hself : (s.setB pn (true, overlay l on c)).bs[pn]? = some (true, overlay l on c) := by
      rw [hbs, List.getElem?_set, if_pos rfl, if_pos (by rw [h.bl]; omega)]
    have hoth : ∀ p, p ≠ pn → (s.setB pn (true, overlay l on c)).bs[p]? = s.bs[p]? := fun p hne => by
      rw [hbs, List.getElem?_set, if_neg (Ne.symm hne)]
    refine ⟨by rw [hbs]; simp [h.bl], by rw [hlen]; omega, fun p => by rw [h.parts p, hm, hm'], h.neg, fun p hq => ?_, fun p hq hq2 => ?_, fun j hj => ?_⟩
    · rw [hm'] at hq
      by_cases e : p = pn
      · subst e; exact ⟨_, hself, ho⟩
      · rw [hoth p e]; exact h.taken p (by omega)
    · rw [hm'] at hq
      rw [hoth p (by omega)]; exact h.free p (by omega) hq2
    · rw [hlen] at hj
      rw [getD_append]
      by_cases q : j / 64 = pn
      · rw [byteAt_eq (l := overlay l on c) (b := (pn : Int) + 1) (p := pn) (o := j % 64) q.symm rfl hp (by unfold Fs.bk; rw [if_neg (by omega), slotOf_eq, hself]), overlay_get (by omega)]
        by_cases e : j < g.length
        · rw [if_neg (by omega), if_pos e, ← h.bytes j e, byteAt_eq q.symm rfl hp hbk]
        · rw [if_pos (by omega), if_neg e]
          congr 1; omega
      · have e : j < g.length := by omega
        rw [if_pos e, ← h.bytes j e]
        obtain ⟨l', hl', _⟩ := h.taken (j / 64) (by unfold manyB; omega)
        rw [byteAt_eq (s := s) (x := x) (l := l') (b := ((j / 64 : Nat) : Int) + 1) rfl rfl (by rw [h.parts, if_pos (by unfold manyB; omega)]) (by unfold Fs.bk; rw [if_neg (by omega), slotOf_eq, hl'])]
        refine byteAt_eq (b := ((j / 64 : Nat) : Int) + 1) rfl rfl ?_ ?_
        · rw [h.parts, if_pos (by unfold manyB; omega)]
        · unfold Fs.bk; rw [if_neg (by omega), slotOf_eq, hoth _ q, hl']
theorem JJ.writeL {k : Nat} {g d : List UInt8} (hle : g.length + d.length ≤ 640) : ∀ (fuel done : Nat) (s : Fs) (x : Nd), JJ s x (g ++ d.take done) → done ≤ d.length → d.length - done < fuel →
    ∃ s' x', Fs.writeL k g.length d fuel done s x = (d.length, s', x') ∧ JJ s' x' (g ++ d) ∧ x'.size = x.size ∧ x'.names = x.names ∧ x'.users = x.users ∧ x'.kind = x.kind
  | 0, done, s, x, h, hd, hf => by omega
  | fuel + 1, done, s, x, h, hd, hf => by
    unfold Fs.writeL
    by_cases hlt : done < d.length
    · rw [if_pos hlt]
      have hgl : (g ++ d.take done).length = g.length + done := by rw [List.length_append, List.length_take]; omega
      have hcl : (chunkAt (g.length + done) done d).length = min (64 - (g.length + done) % 64) (d.length - done) := by unfold chunkAt; rw [List.length_take, List.length_drop]
      obtain ⟨s', x', e1, e2, e3, e4, e5, e6⟩ := h.into k (chunkAt (g.length + done) done d) (by omega) (by omega) (by omega)
      rw [hgl] at e1
      rw [e1]
      have hcat : (g ++ d.take done) ++ chunkAt (g.length + done) done d = g ++ d.take (done + (chunkAt (g.length + done) done d).length) := by
        rw [hcl, List.append_assoc, List.take_add]
        congr 2
        unfold chunkAt
        by_cases q : 64 - (g.length + done) % 64 ≤ d.length - done
        · rw [Nat.min_eq_left q]
        · rw [Nat.min_eq_right (by omega), List.take_of_length_le (by rw [List.length_drop]; omega), List.take_of_length_le (by rw [List.length_drop]; omega)]
      rw [hcat] at e2
      obtain ⟨s2, x2, f1, f2, f3, f4, f5, f6⟩ := JJ.writeL hle fuel _ s' x' e2 (by omega) (by omega)
      exact ⟨s2, x2, f1, f2, f3.trans e3, f4.trans e4, f5.trans e5, f6.trans e6⟩
    · rw [if_neg hlt]
      obtain rfl : done = d.length := by omega
      rw [List.take_of_length_le (Nat.le_refl _)] at h
      exact ⟨s, x, rfl, h, rfl, rfl, rfl, rfl⟩
/-- the whole file: it is the node k + 1 -/
structure Filed (s : Fs) (k : Nat) (x : Nd) (g : List UInt8) : Prop where
  node : s.nodes[k]? = some (some x)
  size : x.size = g.length
  j : JJ s x g
theorem JJ.congr {s s' : Fs} {x x' : Nd} {g} (h : JJ s x g) (hb : s'.bs = s.bs) (hx : x'.parts = x.parts) : JJ s' x' g := by
  have hp : ∀ p, x'.part p = x.part p := fun p => by unfold Nd.part; rw [hx]
  refine ⟨by rw [hb]; exact h.bl, h.le, fun p => by rw [hp]; exact h.parts p, fun p q => by rw [hp]; exact h.neg p q, fun p q => by rw [hb]; exact h.taken p q, fun p q => by rw [hb]; exact h.free p q, fun j q => ?_⟩
  rw [← h.bytes j q]
  unfold Fs.byteAt Fs.bk
  rw [hp, hb]
theorem Filed.takenB {s k x g} (h : Filed s k x g) : x.taken s := by
  intro p b hx
  by_cases hn : p < 0
  · rw [h.j.neg p hn] at hx; cases hx
  · obtain ⟨n, rfl⟩ : ∃ n : Nat, p = n := ⟨p.toNat, by omega⟩
    rw [h.j.parts n] at hx
    by_cases hm : n < manyB g.length
    · rw [if_pos hm] at hx
      cases hx
      obtain ⟨l, hl, _⟩ := h.j.taken n hm
      rw [h.j.bk hm hl]; rfl
    · rw [if_neg hm] at hx; cases hx
theorem into_nodes {s s' : Fs} {k pos : Nat} {x x' : Nd} {c : List UInt8} (h : s.into k x pos c = some (s', x')) : s'.nodes.length = s.nodes.length := by
  unfold Fs.into at h
  cases hp : x.part (pos / 64 : Nat) with
  | some b => rw [hp] at h; cases h; rfl
  | none =>
    rw [hp] at h
    cases hj : freeAt s.bs with
    | none => rw [hj] at h; cases h
    | some j =>
      rw [hj] at h
      cases h
      show (s.nodes.set _ _).length = _
      simp
theorem writeL_nodes {k at_ : Nat} {d : List UInt8} : ∀ (fuel done : Nat) (s : Fs) (x : Nd), (Fs.writeL k at_ d fuel done s x).2.1.nodes.length = s.nodes.length
  | 0, done, s, x => rfl
  | fuel + 1, done, s, x => by
    unfold Fs.writeL
    by_cases hlt : done < d.length
    · rw [if_pos hlt]
      cases hi : s.into k x (at_ + done) (chunkAt (at_ + done) done d) with
      | none => rfl
      | some r => exact (writeL_nodes fuel _ r.1 r.2).trans (into_nodes (x' := r.2) (by rw [hi]))
    · rw [if_neg hlt]
theorem Filed.write {s k x g} (h : Filed s k x g) (d : List UInt8) (hle : g.length + d.length ≤ 640) : ∃ s' x', s.writeS k x g.length d = (d.length, s') ∧ Filed s' k x' (g ++ d) ∧ x'.kind = x.kind := by
  obtain ⟨s', x', e1, e2, e3, _, _, e4⟩ := JJ.writeL (k := k) hle (d.length + 1) 0 s x (by simpa using h.j) (by omega) (by omega)
  have hlen := writeL_nodes (k := k) (at_ := g.length) (d := d) (d.length + 1) 0 s x
  rw [e1] at hlen
  by_cases h0 : 0 < d.length
  · refine ⟨s'.setNd k { x' with size := max x.size ((g.length + d.length : Nat) : Int) }, { x' with size := max x.size ((g.length + d.length : Nat) : Int) }, ?_, ⟨?_, ?_, e2.congr rfl rfl⟩, e4⟩
    · unfold Fs.writeS
      rw [e1]
      simp only [if_pos h0]
    · rw [Fs.setNd_get, if_pos rfl, if_pos]
      have := (List.getElem?_eq_some_iff.1 h.node).1
      have hlen' : s'.nodes.length = s.nodes.length := hlen
      omega
    · show max x.size ((g.length + d.length : Nat) : Int) = _
      rw [h.size, List.length_append]; omega
  · obtain rfl : d = [] := List.length_eq_zero_iff.1 (by omega)
    refine ⟨s, x, rfl, ?_, rfl⟩
    rw [List.append_nil]; exact h
/-- nothing else of the tree is touched -/
def Same (k : Nat) (s s' : Fs) : Prop := s'.dirs = s.dirs ∧ ∀ j, j ≠ k → s'.nodes[j]? = s.nodes[j]?
theorem into_same {s s' : Fs} {k pos : Nat} {x x' : Nd} {c : List UInt8} (h : s.into k x pos c = some (s', x')) : Same k s s' := by
  unfold Fs.into at h
  cases hp : x.part (pos / 64 : Nat) with
  | some b => rw [hp] at h; cases h; exact ⟨rfl, fun _ _ => rfl⟩
  | none =>
    rw [hp] at h
    cases hj : freeAt s.bs with
    | none => rw [hj] at h; cases h
    | some j =>
      rw [hj] at h
      cases h
      refine ⟨rfl, fun i hi => ?_⟩
      show (s.nodes.set k _)[i]? = _
      rw [List.getElem?_set, if_neg (Ne.symm hi)]
theorem writeL_same {k at_ : Nat} {d : List UInt8} : ∀ (fuel done : Nat) (s : Fs) (x : Nd), Same k s (Fs.writeL k at_ d fuel done s x).2.1
  | 0, done, s, x => ⟨rfl, fun _ _ => rfl⟩
  | fuel + 1, done, s, x => by
    unfold Fs.writeL
    by_cases hlt : done < d.length
    · rw [if_pos hlt]
      cases hi : s.into k x (at_ + done) (chunkAt (at_ + done) done d) with
      | none => exact ⟨rfl, fun _ _ => rfl⟩
      | some r =>
        have h1 := writeL_same (k := k) (at_ := at_) (d := d) fuel (done + (chunkAt (at_ + done) done d).length) r.1 r.2
        have h2 : Same k s r.1 := into_same (x' := r.2) (by rw [hi])
        exact ⟨h1.1.trans h2.1, fun j hj => (h1.2 j hj).trans (h2.2 j hj)⟩
    · rw [if_neg hlt]; exact ⟨rfl, fun _ _ => rfl⟩
theorem writeS_same (s : Fs) (k : Nat) (x : Nd) (at_ : Nat) (d : List UInt8) : Same k s (s.writeS k x at_ d).2 := by
  have h := writeL_same (k := k) (at_ := at_) (d := d) (d.length + 1) 0 s x
  unfold Fs.writeS
  by_cases h0 : 0 < (Fs.writeL k at_ d (d.length + 1) 0 s x).1
  · simp only [if_pos h0]
    refine ⟨h.1, fun j hj => ?_⟩
    show ((Fs.writeL k at_ d (d.length + 1) 0 s x).2.1.nodes.set k _)[j]? = _
    rw [List.getElem?_set, if_neg (Ne.symm hj)]
    exact h.2 j hj
  · simp only [if_neg h0]
    exact h
/-- what is read of it -/
theorem Filed.bytes {s k x g} (h : Filed s k x g) : s.bytes x 0 g.length = g := by
  apply List.ext_getElem?
  intro j
  unfold Fs.bytes
  by_cases q : j < g.length
  · rw [List.getElem?_map, List.getElem?_range q]
    simp only [Option.map_some, Nat.zero_add]
    rw [h.j.bytes j q, List.getD_eq_getElem?_getD, List.getElem?_eq_getElem q]; rfl
  · rw [List.getElem?_eq_none (by simp; omega), List.getElem?_eq_none (by omega)]
end Go.Proofs.YtgooohccndjjdaaGreatDoor
