/- UtA UtB UtC UtD UtE UtF -/
import Derived.Test.YtbecmcjibpamoaaGreatDoorQ13
import Derived.Test.YtbecmcjibpamoaaGreatDoorQ34
import Derived.Test.YtbecmcjibpamoaaGreatDoorQ37
import Derived.Test.YtbecmcjibpamoaaGreatDoorQ20
import Derived.Deep.RegionHeld3
set_option linter.unusedVariables false
set_option linter.unusedSimpArgs false
set_option linter.deprecated false
set_option linter.unnecessarySimpa false
namespace Go.Proofs.YtbecmcjibpamoaaGreatDoor
open Go.RowKit
def manyB (q : Nat) : Nat := (q + 63) / 64
structure JJ (o : Nat) (s : Fs) (x : Nd) (g : List UInt8) : Prop where
  bl : s.bs.length = 200
  le : o + manyB g.length ≤ 200
  parts : ∀ p : Nat, x.part p = if p < manyB g.length then some (((o + p : Nat) : Int) + 1) else none
  neg : ∀ p : Int, p < 0 → x.part p = none
  low : ∀ p : Nat, p < o → ∃ l, s.bs[p]? = some (true, l)
  taken : ∀ p : Nat, p < manyB g.length → ∃ l, s.bs[o + p]? = some (true, l) ∧ l.length = 64
  free : ∀ p : Nat, o + manyB g.length ≤ p → p < 200 → ∃ l, s.bs[p]? = some (false, l)
  bytes : ∀ j, j < g.length → s.byteAt x j = g.getD j 0
theorem bk_at {s : Fs} {p : Nat} {l : List UInt8} (hl : s.bs[p]? = some (true, l)) : s.bk ((p : Int) + 1) = some l := by
  unfold Fs.bk
  rw [if_neg (by omega), slotOf_eq, hl]
theorem JJ.freeAt {o s x g} (h : JJ o s x g) (hlt : o + manyB g.length < 200) : freeAt s.bs = some (o + manyB g.length) := by
  obtain ⟨l, hl⟩ := h.free (o + manyB g.length) (Nat.le_refl _) hlt
  refine freeAt_at _ _ l (fun j b hj hb => ?_) hl
  by_cases hjo : j < o
  · obtain ⟨l', h1⟩ := h.low j hjo
    rw [h1] at hb; cases hb; rfl
  · obtain ⟨l', h1, _⟩ := h.taken (j - o) (by omega)
    rw [show o + (j - o) = j by omega] at h1
    rw [h1] at hb; cases hb; rfl
theorem overlay_get {l d : List UInt8} {o : Nat} (h : o + d.length ≤ l.length) (j : Nat) : (overlay l o d).getD j 0 = if o ≤ j ∧ j < o + d.length then d.getD (j - o) 0 else l.getD j 0 := by
  unfold overlay
  simp only [List.getD_eq_getElem?_getD]
  by_cases h1 : j < o
  · rw [if_neg (by omega), List.append_assoc, List.getElem?_append_left (by simp; omega), List.getElem?_take_of_lt h1]
  · by_cases h2 : j < o + d.length
    · rw [if_pos (by omega), List.append_assoc, List.getElem?_append_right (by simp; omega), List.getElem?_append_left (by simp; omega)]
      congr 2
      simp; omega
    · rw [if_neg (by omega), List.getElem?_append_right (by simp; omega), List.getElem?_drop]
      congr 2
      simp; omega
theorem byteAt_eq {s : Fs} {x : Nd} {j p o : Nat} {b : Int} {l : List UInt8} (hp : p = j / 64) (ho : o = j % 64) (hx : x.part p = some b) (hl : s.bk b = some l) : s.byteAt x j = l.getD o 0 := by
  subst hp ho
  unfold Fs.byteAt
  rw [hx]
  simp only [hl, Option.getD_some]
theorem getD_append {a b : List UInt8} (j : Nat) : (a ++ b).getD j 0 = if j < a.length then a.getD j 0 else b.getD (j - a.length) 0 := by
  simp only [List.getD_eq_getElem?_getD]
  by_cases h : j < a.length
  · rw [if_pos h, List.getElem?_append_left h]
  · rw [if_neg h, List.getElem?_append_right (by omega)]
theorem JJ.into {o : Nat} {s : Fs} {x : Nd} {g : List UInt8} (h : JJ o s x g) (k : Nat) (c : List UInt8) (hc : 0 < c.length) (hc2 : g.length % 64 + c.length ≤ 64) (hle : o + manyB (g.length + c.length) ≤ 200) :
    ∃ s' x', s.into k x g.length c = some (s', x') ∧ JJ o s' x' (g ++ c) ∧ (∀ p, p < o → s'.bs[p]? = s.bs[p]?) ∧ x'.size = x.size ∧ x'.names = x.names ∧ x'.users = x.users ∧ x'.kind = x.kind := by
  obtain ⟨pn, hpn⟩ : ∃ pn : Nat, pn = g.length / 64 := ⟨_, rfl⟩
  obtain ⟨on, hon⟩ : ∃ on : Nat, on = g.length % 64 := ⟨_, rfl⟩
  have hlen : (g ++ c).length = g.length + c.length := List.length_append
  have hm' : manyB (g ++ c).length = pn + 1 := by rw [hlen]; unfold manyB; omega
  rw [← hlen, hm'] at hle
  by_cases h0 : on = 0
  · have hm : manyB g.length = pn := by unfold manyB; omega
    have hp : x.part pn = none := by rw [h.parts pn, if_neg (by omega)]
    have hj := h.freeAt (by omega)
    rw [hm] at hj
    refine ⟨_, _, into_take hpn hon hp hj, ?_, ?_, rfl, rfl, rfl, rfl⟩
    all_goals
      have hbs : ((s.takeS k x pn (o + pn)).setB (o + pn) (true, overlay zeros on c)).bs = (s.bs.set (o + pn) (true, zeros)).set (o + pn) (true, overlay zeros on c) := rfl
      have hz : zeros.length = 64 := by simp [zeros]
      have ho : (overlay zeros on c).length = 64 := by rw [overlay_len (by rw [hz]; omega), hz]
      have hself : ((s.takeS k x pn (o + pn)).setB (o + pn) (true, overlay zeros on c)).bs[o + pn]? = some (true, overlay zeros on c) := by
        rw [hbs, List.getElem?_set, if_pos rfl, if_pos (by rw [List.length_set, h.bl]; omega)]
      have hoth : ∀ p, p ≠ o + pn → ((s.takeS k x pn (o + pn)).setB (o + pn) (true, overlay zeros on c)).bs[p]? = s.bs[p]? := fun p hne => by
        rw [hbs, List.getElem?_set, if_neg (Ne.symm hne), List.getElem?_set, if_neg (Ne.symm hne)]
    · refine ⟨by rw [hbs]; simp [h.bl], by rw [hm']; omega, fun p => ?_, fun p hq => ?_, fun p hq => ?_, fun p hq => ?_, fun p hq hq2 => ?_, fun j hj => ?_⟩
      · rw [part_put, hm']
        by_cases e : p = pn
        · subst e; rw [if_pos rfl, if_pos (by omega)]
        · rw [if_neg (by omega), h.parts p, hm]
          by_cases q : p < pn
          · rw [if_pos q, if_pos (by omega)]
          · rw [if_neg q, if_neg (by omega)]
      · rw [part_put, if_neg (by omega)]; exact h.neg p hq
      · rw [hoth p (by omega)]; exact h.low p hq
      · rw [hm'] at hq
        by_cases e : p = pn
        · subst e; exact ⟨_, hself, ho⟩
        · rw [hoth (o + p) (by omega)]; exact h.taken p (by omega)
      · rw [hm'] at hq
        rw [hoth p (by omega)]; exact h.free p (by omega) hq2
      · rw [hlen] at hj
        rw [getD_append]
        by_cases e : j < g.length
        · rw [if_pos e, ← h.bytes j e]
          obtain ⟨l, hl, _⟩ := h.taken (j / 64) (by unfold manyB; omega)
          rw [byteAt_eq (s := s) (x := x) (l := l) (b := ((o + j / 64 : Nat) : Int) + 1) rfl rfl (by rw [h.parts, if_pos (by unfold manyB; omega)]) (bk_at hl)]
          refine byteAt_eq (b := ((o + j / 64 : Nat) : Int) + 1) rfl rfl ?_ ?_
          · rw [part_put, if_neg (by omega), h.parts, if_pos (by unfold manyB; omega)]
          · exact bk_at (by rw [hoth _ (by omega), hl])
        · rw [if_neg e]
          rw [byteAt_eq (l := overlay zeros on c) (b := ((o + pn : Nat) : Int) + 1) (p := pn) (o := j % 64) (by omega) rfl (by rw [part_put, if_pos rfl]) (bk_at hself)]
          rw [overlay_get (by rw [hz]; omega), if_pos (by omega)]
          congr 1; omega
    · intro p hq
      exact hoth p (by omega)
  · have hm : manyB g.length = pn + 1 := by unfold manyB; omega
    have hp : x.part pn = some (((o + pn : Nat) : Int) + 1) := by rw [h.parts pn, if_pos (by omega)]
    obtain ⟨l, hl, hl64⟩ := h.taken pn (by omega)
    have hbk := bk_at hl
    refine ⟨_, _, into_has hpn hon hp hbk, ?_, ?_, rfl, rfl, rfl, rfl⟩
    all_goals
      rw [slotOf_eq]
      have hbs : (s.setB (o + pn) (true, overlay l on c)).bs = s.bs.set (o + pn) (true, overlay l on c) := rfl
      have ho : (overlay l on c).length = 64 := by rw [overlay_len (by omega), hl64]
      have hself : (s.setB (o + pn) (true, overlay l on c)).bs[o + pn]? = some (true, overlay l on c) := by
        rw [hbs, List.getElem?_set, if_pos rfl, if_pos (by rw [h.bl]; omega)]
      have hoth : ∀ p, p ≠ o + pn → (s.setB (o + pn) (true, overlay l on c)).bs[p]? = s.bs[p]? := fun p hne => by
        rw [hbs, List.getElem?_set, if_neg (Ne.symm hne)]
    · refine ⟨by rw [hbs]; simp [h.bl], by rw [hm']; omega, fun p => by rw [h.parts p, hm, hm'], h.neg, fun p hq => ?_, fun p hq => ?_, fun p hq hq2 => ?_, fun j hj => ?_⟩
      · rw [hoth p (by omega)]; exact h.low p hq
      · rw [hm'] at hq
        by_cases e : p = pn
        · subst e; exact ⟨_, hself, ho⟩
        · rw [hoth (o + p) (by omega)]; exact h.taken p (by omega)
      · rw [hm'] at hq
        rw [hoth p (by omega)]; exact h.free p (by omega) hq2
      · rw [hlen] at hj
        rw [getD_append]
        by_cases q : j / 64 = pn
        · rw [byteAt_eq (l := overlay l on c) (b := ((o + pn : Nat) : Int) + 1) (p := pn) (o := j % 64) q.symm rfl hp (bk_at hself), overlay_get (by omega)]
          by_cases e : j < g.length
          · rw [if_neg (by omega), if_pos e, ← h.bytes j e, byteAt_eq q.symm rfl hp hbk]
          · rw [if_pos (by omega), if_neg e]
            congr 1; omega
        · have e : j < g.length := by omega
          rw [if_pos e, ← h.bytes j e]
          obtain ⟨l', hl', _⟩ := h.taken (j / 64) (by unfold manyB; omega)
          rw [byteAt_eq (s := s) (x := x) (l := l') (b := ((o + j / 64 : Nat) : Int) + 1) rfl rfl (by rw [h.parts, if_pos (by unfold manyB; omega)]) (bk_at hl')]
          refine byteAt_eq (b := ((o + j / 64 : Nat) : Int) + 1) rfl rfl ?_ ?_
          · rw [h.parts, if_pos (by unfold manyB; omega)]
          · exact bk_at (by rw [hoth _ (by omega), hl'])
    · intro p hq
      exact hoth p (by omega)
theorem manyB_mono {a b : Nat} (h : a ≤ b) : manyB a ≤ manyB b := by unfold manyB; omega
theorem JJ.writeL {o k : Nat} {g d : List UInt8} (hle : o + manyB (g.length + d.length) ≤ 200) : ∀ (fuel done : Nat) (s : Fs) (x : Nd), JJ o s x (g ++ d.take done) → done ≤ d.length → d.length - done < fuel →
    ∃ s' x', Fs.writeL k g.length d fuel done s x = (d.length, s', x') ∧ JJ o s' x' (g ++ d) ∧ (∀ p, p < o → s'.bs[p]? = s.bs[p]?) ∧ x'.size = x.size ∧ x'.names = x.names ∧ x'.users = x.users ∧ x'.kind = x.kind
  | 0, done, s, x, h, hd, hf => by omega
  | fuel + 1, done, s, x, h, hd, hf => by
    unfold Fs.writeL
    by_cases hlt : done < d.length
    · rw [if_pos hlt]
      have hgl : (g ++ d.take done).length = g.length + done := by rw [List.length_append, List.length_take]; omega
      have hcl : (chunkAt (g.length + done) done d).length = min (64 - (g.length + done) % 64) (d.length - done) := by unfold chunkAt; rw [List.length_take, List.length_drop]
      have hmo := manyB_mono (show (g ++ d.take done).length + (chunkAt (g.length + done) done d).length ≤ g.length + d.length by omega)
      obtain ⟨s', x', e1, e2, ek, e3, e4, e5, e6⟩ := h.into k (chunkAt (g.length + done) done d) (by omega) (by omega) (by omega)
      rw [hgl] at e1
      rw [e1]
      have hcat : (g ++ d.take done) ++ chunkAt (g.length + done) done d = g ++ d.take (done + (chunkAt (g.length + done) done d).length) := by
        rw [hcl, List.append_assoc, List.take_add]
        congr 2
        unfold chunkAt
        by_cases q : 64 - (g.length + done) % 64 ≤ d.length - done
        · rw [Nat.min_eq_left q]
        · rw [Nat.min_eq_right (by omega), List.take_of_length_le (by rw [List.length_drop]; omega), List.take_of_length_le (by rw [List.length_drop]; omega)]
      rw [hcat] at e2
      obtain ⟨s2, x2, f1, f2, fk, f3, f4, f5, f6⟩ := JJ.writeL hle fuel _ s' x' e2 (by omega) (by omega)
      exact ⟨s2, x2, f1, f2, fun p hp => (fk p hp).trans (ek p hp), f3.trans e3, f4.trans e4, f5.trans e5, f6.trans e6⟩
    · rw [if_neg hlt]
      obtain rfl : done = d.length := by omega
      rw [List.take_of_length_le (Nat.le_refl _)] at h
      exact ⟨s, x, rfl, h, fun _ _ => rfl, rfl, rfl, rfl, rfl⟩
structure Filed (o : Nat) (s : Fs) (k : Nat) (x : Nd) (g : List UInt8) : Prop where
  node : s.nodes[k]? = some (some x)
  size : x.size = g.length
  j : JJ o s x g
theorem JJ.congr {o : Nat} {s s' : Fs} {x x' : Nd} {g} (h : JJ o s x g) (hb : s'.bs = s.bs) (hx : x'.parts = x.parts) : JJ o s' x' g := by
  have hp : ∀ p, x'.part p = x.part p := fun p => by unfold Nd.part; rw [hx]
  refine ⟨by rw [hb]; exact h.bl, h.le, fun p => by rw [hp]; exact h.parts p, fun p q => by rw [hp]; exact h.neg p q, fun p q => by rw [hb]; exact h.low p q, fun p q => by rw [hb]; exact h.taken p q, fun p q => by rw [hb]; exact h.free p q, fun j q => ?_⟩
  rw [← h.bytes j q]
  unfold Fs.byteAt Fs.bk
  rw [hp, hb]
structure Has (s : Fs) (x : Nd) (g : List UInt8) : Prop where
  size : x.size = g.length
  neg : ∀ p : Int, p < 0 → x.part p = none
  in_ : ∀ p b, x.part p = some b → ∃ n l, b = ((n : Nat) : Int) + 1 ∧ s.bs[n]? = some (true, l)
  bytes : ∀ j, j < g.length → s.byteAt x j = g.getD j 0
theorem Filed.has {o s k x g} (h : Filed o s k x g) : Has s x g := by
  refine ⟨h.size, h.j.neg, fun p b hx => ?_, h.j.bytes⟩
  by_cases hn : p < 0
  · rw [h.j.neg p hn] at hx; cases hx
  · obtain ⟨n, rfl⟩ : ∃ n : Nat, p = n := ⟨p.toNat, by omega⟩
    rw [h.j.parts n] at hx
    by_cases hm : n < manyB g.length
    · rw [if_pos hm] at hx
      cases hx
      obtain ⟨l, hl, _⟩ := h.j.taken n hm
      exact ⟨o + n, l, rfl, hl⟩
    · rw [if_neg hm] at hx; cases hx
theorem Has.keep {s s' : Fs} {x x' : Nd} {g} (h : Has s x g) (hs : x'.size = x.size) (hp : x'.parts = x.parts) (hb : ∀ p b (n : Nat), x.part p = some b → b = (n : Int) + 1 → s'.bs[n]? = s.bs[n]?) : Has s' x' g := by
  have hpt : ∀ p, x'.part p = x.part p := fun p => by unfold Nd.part; rw [hp]
  refine ⟨hs.trans h.size, fun p q => by rw [hpt]; exact h.neg p q, fun p b hx => ?_, fun j hj => ?_⟩
  · rw [hpt] at hx
    obtain ⟨n, l, e, hl⟩ := h.in_ p b hx
    exact ⟨n, l, e, by rw [hb p b n hx e]; exact hl⟩
  · rw [← h.bytes j hj]
    unfold Fs.byteAt
    rw [hpt]
    cases hx : x.part (j / 64 : Nat) with
    | none => rfl
    | some b =>
      obtain ⟨n, l, rfl, hl⟩ := h.in_ _ b hx
      dsimp only
      rw [bk_at hl, bk_at (by rw [hb _ _ n hx rfl]; exact hl)]
theorem into_nodes {s s' : Fs} {k pos : Nat} {x x' : Nd} {c : List UInt8} (h : s.into k x pos c = some (s', x')) : s'.nodes.length = s.nodes.length := by
  unfold Fs.into at h
  cases hp : x.part (pos / 64 : Nat) with
  | some b => rw [hp] at h; cases h; rfl
  | none =>
    rw [hp] at h
    cases hj : freeAt s.bs with
    | none => rw [hj] at h; cases h
    | some j =>
      rw [hj] at h
      cases h
      show (s.nodes.set _ _).length = _
      simp
theorem writeL_nodes {k at_ : Nat} {d : List UInt8} : ∀ (fuel done : Nat) (s : Fs) (x : Nd), (Fs.writeL k at_ d fuel done s x).2.1.nodes.length = s.nodes.length
  | 0, done, s, x => rfl
  | fuel + 1, done, s, x => by
    unfold Fs.writeL
    by_cases hlt : done < d.length
    · rw [if_pos hlt]
      cases hi : s.into k x (at_ + done) (chunkAt (at_ + done) done d) with
      | none => rfl
      | some r => exact (writeL_nodes fuel _ r.1 r.2).trans (into_nodes (x' := r.2) (by rw [hi]))
    · rw [if_neg hlt]
theorem Filed.write {o s k x g} (h : Filed o s k x g) (d : List UInt8) (hle : o + manyB (g.length + d.length) ≤ 200) : ∃ s' x', s.writeS k x g.length d = (d.length, s') ∧ Filed o s' k x' (g ++ d) ∧ (∀ p, p < o → s'.bs[p]? = s.bs[p]?) ∧ x'.kind = x.kind ∧ x'.names = x.names ∧ x'.users = x.users := by
  obtain ⟨s', x', e1, e2, ek, e3, en, eu, e4⟩ := JJ.writeL (k := k) hle (d.length + 1) 0 s x (by simpa using h.j) (by omega) (by omega)
  have hlen := writeL_nodes (k := k) (at_ := g.length) (d := d) (d.length + 1) 0 s x
  rw [e1] at hlen
  by_cases h0 : 0 < d.length
  · refine ⟨s'.setNd k { x' with size := max x.size ((g.length + d.length : Nat) : Int) }, { x' with size := max x.size ((g.length + d.length : Nat) : Int) }, ?_, ⟨?_, ?_, e2.congr rfl rfl⟩, ek, e4, en, eu⟩
    · unfold Fs.writeS
      rw [e1]
      simp only [if_pos h0]
    · rw [Fs.setNd_get, if_pos rfl, if_pos]
      have := (List.getElem?_eq_some_iff.1 h.node).1
      have hlen' : s'.nodes.length = s.nodes.length := hlen
      omega
    · show max x.size ((g.length + d.length : Nat) : Int) = _
      rw [h.size, List.length_append]; omega
  · obtain rfl : d = [] := List.length_eq_zero_iff.1 (by omega)
    refine ⟨s, x, rfl, ?_, fun _ _ => rfl, rfl, rfl, rfl⟩
    rw [List.append_nil]; exact h
def Same (k : Nat) (s s' : Fs) : Prop := s'.dirs = s.dirs ∧ ∀ j, j ≠ k → s'.nodes[j]? = s.nodes[j]?
theorem Has.all {s x g} (h : Has s x g) : s.bytes x 0 g.length = g := by
  apply List.ext_getElem?
  intro j
  unfold Fs.bytes
  by_cases q : j < g.length
  · rw [List.getElem?_map, List.getElem?_range q]
    simp only [Option.map_some, Nat.zero_add]
    rw [h.bytes j q, List.getD_eq_getElem?_getD, List.getElem?_eq_getElem q]; rfl
  · rw [List.getElem?_eq_none (by simp; omega), List.getElem?_eq_none (by omega)]
end Go.Proofs.YtbecmcjibpamoaaGreatDoor
namespace Go.Proofs.YtbecmcjibpamoaaGreatDoor
open Go.RowKit IntWalk
structure RootAt (s : Fs) (d : Dr) : Prop where
  k : s.fld Nd.kind 1 = 2
  dr : s.dr 1 = some d
  ln : s.fld Nd.names 1 ≠ 0
section
variable {s s' : Fs} {d : Dr} {t : List UInt8} {n : Int}
theorem RootAt.of (h : RootAt s d) : s.dirOf 1 = some d := by unfold Fs.dirOf; rw [if_pos h.k, h.dr]
def Fs.newS (s : Fs) (k : Nat) (d : Dr) (t : List UInt8) : Fs := (s.setNd k (freshNd 1)).setDr 1 ⟨d.names.put (.str t) (.int .i64 (k + 1)), d.parent⟩
structure But (k : Nat) (s s' : Fs) : Prop where
  nodes : ∀ j, j ≠ k → s'.nodes[j]? = s.nodes[j]?
  len : s'.nodes.length = s.nodes.length
theorem But.refl (k : Nat) (s : Fs) : But k s s := ⟨fun _ _ => rfl, rfl⟩
theorem But.trans {k : Nat} {s s' s'' : Fs} (h : But k s s') (h' : But k s' s'') : But k s s'' := ⟨fun j hj => (h'.nodes j hj).trans (h.nodes j hj), h'.len.trans h.len⟩
theorem But.nd {k : Nat} (h : But k s s') {i : Int} (hi : slotOf i ≠ k) : s'.nd i = s.nd i := by
  unfold Fs.nd
  rw [h.nodes _ hi]
theorem But.fld {k : Nat} (h : But k s s') {i : Int} (hi : slotOf i ≠ k) {α : Type} (f : Nd → Int) : s'.fld f i = s.fld f i := by
  unfold Fs.fld
  rw [h.nd hi]
theorem setNd_but (s : Fs) (k : Nat) (x : Nd) : But k s (s.setNd k x) := ⟨fun j hj => by rw [Fs.setNd_get, if_neg (Ne.symm hj)], by show (s.nodes.set k _).length = _; simp⟩
theorem nd_at {k : Nat} {x : Nd} (h : s.nodes[k]? = some (some x)) : s.nd ((k : Int) + 1) = some x := by
  unfold Fs.nd
  rw [if_neg (by omega), slotOf_eq, h]; rfl
theorem fld_at {k : Nat} {x : Nd} (h : s.nodes[k]? = some (some x)) (f : Nd → Int) : s.fld f ((k : Int) + 1) = f x := by
  unfold Fs.fld
  rw [nd_at h]
end
end Go.Proofs.YtbecmcjibpamoaaGreatDoor
namespace Go.Proofs.YtbecmcjibpamoaaGreatDoor
open Go.RowKit IntWalk
structure Room (o : Nat) (s : Fs) : Prop where
  bl : s.bs.length = 200
  low : ∀ p : Nat, p < o → ∃ l, s.bs[p]? = some (true, l)
  free : ∀ p : Nat, o ≤ p → p < 200 → ∃ l, s.bs[p]? = some (false, l)
theorem Room.same {o : Nat} {s s' : Fs} (h : Room o s) (hb : s'.bs = s.bs) : Room o s' := ⟨by rw [hb]; exact h.bl, fun p hp => by rw [hb]; exact h.low p hp, fun p hp hp2 => by rw [hb]; exact h.free p hp hp2⟩
theorem Filed.room {o : Nat} {s : Fs} {k : Nat} {x : Nd} {g : List UInt8} (h : Filed o s k x g) : Room (o + manyB g.length) s := by
  refine ⟨h.j.bl, fun p hp => ?_, fun p hp hp2 => h.j.free p hp hp2⟩
  by_cases q : p < o
  · exact h.j.low p q
  · obtain ⟨l, hl, _⟩ := h.j.taken (p - o) (by omega)
    rw [show o + (p - o) = p by omega] at hl
    exact ⟨l, hl⟩
structure FileAt (s : Fs) (d : Dr) (t : List UInt8) (k : Nat) (g : List UInt8) : Prop where
  root : RootAt s d
  nm : d.name t = some ((k : Int) + 1)
  node : ∃ x, s.nodes[k]? = some (some x) ∧ x.kind = 1 ∧ x.names = 1 ∧ x.users = 0 ∧ Has s x g
theorem set_back {α : Type} {l : List α} {k : Nat} {x : α} (h : l[k]? = some x) (y : α) : (l.set k y).set k x = l := by
  apply List.ext_getElem?
  intro j
  rw [List.getElem?_set, List.getElem?_set]
  by_cases e : k = j
  · subst e
    have hlt := (List.getElem?_eq_some_iff.1 h).1
    rw [if_pos rfl, if_pos (by rw [List.length_set]; exact hlt), h]
  · rw [if_neg e, if_neg e]
section
variable {s s' : Fs} {d : Dr} {t : List UInt8} {k : Nat}
theorem hold_at {x : Nd} (h : s.nodes[k]? = some (some x)) : s.holdS ((k : Int) + 1) = (0, s.setNd k { x with users := incW x.users }) := by
  unfold Fs.holdS
  rw [nd_at h, slotOf_eq]
theorem set_at (s : Fs) {k : Nat} (hlt : k < s.nodes.length) (x : Nd) : (s.setNd k x).nodes[k]? = some (some x) := by
  rw [Fs.setNd_get, if_pos rfl, if_pos hlt]
theorem loose_at {x : Nd} (h : s.nodes[k]? = some (some x)) (hu : x.users = 1) (hn : x.names = 1) : s.looseS ((k : Int) + 1) = (0, s.setNd k { x with users := 0 }) := by
  unfold Fs.looseS
  rw [nd_at h]
  dsimp only
  rw [if_neg (by rw [hu]; decide)]
  have hd : decW x.users = 0 := by rw [hu]; simp [decW, wrap64]
  unfold Fs.lessS
  have hi : idle { x with users := decW x.users } = false := by unfold idle; dsimp only; rw [hn]; rfl
  rw [hi, if_neg (by simp), slotOf_eq, hd]
theorem hold_loose {x : Nd} (h : s.nodes[k]? = some (some x)) (hu : x.users = 0) (hn : x.names = 1) :
    (s.holdS ((k : Int) + 1)).2.nodes[k]? = some (some { x with users := 1 }) ∧ (s.holdS ((k : Int) + 1)).2.bs = s.bs ∧ ((s.holdS ((k : Int) + 1)).2.looseS ((k : Int) + 1)) = (0, s) := by
  have hlt := (List.getElem?_eq_some_iff.1 h).1
  have hi : incW x.users = 1 := by rw [hu]; simp [incW, wrap64]
  rw [hold_at h, hi]
  have h2 : (s.setNd k { x with users := 1 }).nodes[k]? = some (some { x with users := 1 }) := set_at s hlt _
  refine ⟨h2, rfl, ?_⟩
  rw [loose_at h2 rfl hn]
  have hx : ({ ({ x with users := 1 } : Nd) with users := 0 } : Nd) = x := by cases x; cases hu; rfl
  rw [hx]
  have : (s.setNd k { x with users := 1 }).setNd k x = s := by
    show ({ s with nodes := (s.nodes.set k _).set k (some x) } : Fs) = s
    rw [set_back h]
  rw [this]
theorem flags1 : FlagsOk 1 := ⟨by decide, by decide, by kernel_rfl⟩
theorem has1_16 : hasF 1 16 = false := by kernel_rfl
theorem has1_8 : hasF 1 8 = false := by kernel_rfl
theorem Gen.setAt (h : Gen s) {x y : Nd} (hk : s.nodes[k]? = some (some x)) (hp : y.parts = x.parts) (hs : y.size = x.size) : Gen (s.setNd k y) := by
  have hlt := (List.getElem?_eq_some_iff.1 hk).1
  have hx := h.nds k x hk
  refine h.node (k := k) (o := some y) (set_at s hlt y) (setNd_but s k y).nodes (h.blk.setNd hk (by rw [hp])) rfl rfl (fun z hz => ?_) (fun q => by cases q)
  cases hz
  exact ⟨by unfold PartsUp; rw [hp]; exact hx.up, by rw [hp]; exact hx.ok, by rw [hs]; exact hx.size⟩
theorem FileAt.keep {d' : Dr} {t0 : List UInt8} {k0 k o : Nat} {g : List UInt8} (h : FileAt s d t0 k0 g) (hr : RootAt s' d') (hn : d'.name t0 = some ((k0 : Int) + 1)) (hR : Room o s) (hb : ∀ p, p < o → s'.bs[p]? = s.bs[p]?) (hk : k0 ≠ k) (hbut : But k s s') : FileAt s' d' t0 k0 g := by
  obtain ⟨x, hx, h1, h2, h3, h4⟩ := h.node
  refine ⟨hr, hn, x, by rw [hbut.nodes _ hk]; exact hx, h1, h2, h3, h4.keep rfl rfl (fun p b n hp hbn => ?_)⟩
  obtain ⟨m, l, e, hl⟩ := h4.in_ p b hp
  have hmn : m = n := by omega
  subst hmn
  refine hb m ?_
  rcases Nat.lt_or_ge m o with q | q
  · exact q
  · have hm2 : m < 200 := by have := (List.getElem?_eq_some_iff.1 hl).1; rw [hR.bl] at this; exact this
    obtain ⟨l', hl'⟩ := hR.free m q hm2
    rw [hl] at hl'; cases hl'
end
end Go.Proofs.YtbecmcjibpamoaaGreatDoor
namespace Go.Proofs.YtbecmcjibpamoaaGreatDoor
open Go.RowKit IntWalk
def RowAt (w : World) (g o : Nat) (L : List (List UInt8)) : Prop := ∀ (i : Nat) (y : List UInt8), L[i]? = some y → w.cell? ⟨g, o + i, none⟩ = some (.string ⟨y.toArray⟩)
theorem RowAt.below {w w' : World} {g o : Nat} {L : List (List UInt8)} (h : RowAt w g o L) (hg : g < w.heap.size) (hb : Below w.heap.size w w') : RowAt w' g o L := fun i y hi => (hb.cell (p := ⟨g, o + i, none⟩) hg).trans (h i y hi)
theorem index_str (g o c : Nat) (L : List (List UInt8)) (x : List UInt8) (w : World) (hL : RowAt w g o L) (hl : L.length ≤ 100000) :
    Calls Tryz.prog 113 #[.slice (some ⟨g, o, none⟩) L.length c, .string ⟨x.toArray⟩] w fun e w' => (∃ z : Int, e = .returned (.int .i64 z) ∧ (0 ≤ z ↔ x ∈ L)) ∧ w = w' := by
  have HL := Lib.hid hL
  clear hL
  go_enter Tryz.func113, Tryz.ntmps113
  go_wp2
  go_loopw [8] (fun iv wr => ∃ i : Nat, iv = .int .i64 i ∧ i ≤ L.length ∧ RowKit.Hid ((L.take i).contains x = false) ∧ w = wr) (fun iv _ => L.length - (intOf iv).toNat)
  case atStart => exact ⟨0, rfl, Nat.zero_le _, Lib.hid (by simp), by first | rfl | trivial⟩
  case round =>
    obtain ⟨i, rfl, hi, HN, rfl⟩ := hrel
    by_cases hlt : i < L.length
    · have hil : (i : Int) < (L.length : Int) := by omega
      obtain ⟨y, hy⟩ : ∃ y, L[i]? = some y := ⟨_, List.getElem?_eq_getElem hlt⟩
      have d0 := HL.out i y hy
      have HT := Lib.hid (show L.take (i + 1) = L.take i ++ [y] by rw [List.take_add_one, hy]; rfl)
      have hmem := List.mem_of_getElem? hy
      clear hy
      by_cases hxy : x = y
      · subst hxy
        have HC := Lib.hid hmem
        clear hmem
        go_wp2
        go_ret
        exact ⟨⟨_, rfl, ⟨fun _ => HC.out, fun _ => by omega⟩⟩, by first | rfl | trivial⟩
      · have hb : (x == y) = false := by simpa using hxy
        clear hmem
        go_wp2
        go_roundw
        case rel => exact ⟨i + 1, by go_num, by omega, Lib.hid (by rw [HT.out]; have := HN.out; simp at this ⊢; exact ⟨this, fun q => hxy q⟩), by first | rfl | trivial⟩
        case measure => simp [intOf]; omega
    · obtain rfl : i = L.length := by omega
      have hil : ¬ (L.length : Int) < (L.length : Int) := by omega
      rw [List.take_length] at HN
      go_wp2
      go_ret
      exact ⟨⟨_, rfl, ⟨fun h => by omega, fun h => by have := HN.out; simp at this; exact absurd h this⟩⟩, by first | rfl | trivial⟩
theorem contains_str (g o c : Nat) (L : List (List UInt8)) (x : List UInt8) (w : World) (hL : RowAt w g o L) (hl : L.length ≤ 100000) :
    Calls Tryz.prog 71 #[.slice (some ⟨g, o, none⟩) L.length c, .string ⟨x.toArray⟩] w fun e w' => e = .returned (.bool (L.contains x)) ∧ w = w' := by
  have HI := Lib.hid (index_str g o c L x w hL hl)
  clear hL
  go_enter Tryz.func71, Tryz.ntmps71
  go_wp2_with first
    | (go_at_call 113; (refine HI.out.mono ?_); rintro e w' ⟨⟨z, rfl, hz⟩, rfl⟩; have HZ := Lib.hid hz; clear hz)
  go_ret
  have hd : decide (0 ≤ z) = L.contains x := by
    by_cases hm : x ∈ L
    · rw [decide_eq_true (HZ.out.2 hm)]; simp [hm]
    · rw [decide_eq_false (fun h => hm (HZ.out.1 h))]; simp [hm]
  rw [← hd]
  exact ⟨rfl, by first | rfl | trivial⟩
def bareU : List (List UInt8) := [[99, 97, 116], [109, 107, 100, 105, 114], [114, 109, 100, 105, 114], [116, 111, 117, 99, 104], [109, 118], [99, 112], [108, 115], [101, 99, 104, 111], [112, 114, 105, 110, 116, 102], [116, 114, 117, 101], [102, 97, 108, 115, 101]]
theorem option_none (D g o c : Nat) (all x : List UInt8) (L : List (List UInt8)) (w : World) (hL : RowAt w g o (x :: L)) (hx : x.length ≠ 2) (hx2 : x.length ≤ 9223372036854775807) :
    Calls Tryz.prog 42 #[.pointer (some ⟨D, 0, none⟩), .string ⟨all.toArray⟩, .slice (some ⟨g, o, none⟩) (x :: L).length c] w fun e w' => e = .returned (.int .i64 0) ∧ w = w' := by
  have d0 := hL 0 x rfl
  simp only [Nat.add_zero] at d0
  have hn : ((x.length : Int) != 2) = true := by rw [bne_iff_ne]; omega
  obtain ⟨n, hn1⟩ : ∃ n, (x :: L).length = n + 1 := ⟨_, rfl⟩
  rw [hn1]
  have h0 : (((n + 1 : Nat) : Int) == 0) = false := by rw [beq_eq_false_iff_ne]; omega
  have hp : (0 : Int) < ((n + 1 : Nat) : Int) := by omega
  clear hL hn1
  go_enter Tryz.func42, Tryz.ntmps42
  go_wp2
  go_ret
  exact ⟨rfl, by first | rfl | trivial⟩
end Go.Proofs.YtbecmcjibpamoaaGreatDoor
namespace Go.Proofs.YtbecmcjibpamoaaGreatDoor
open Go.RowKit IntWalk
theorem row_open {W : World} {base n : Nat} {v : Value} {zs : List ByteArray} (h : W.ownsRow base 9 1 v n (zs.map Value.string)) (hn : 0 < n) :
    ∃ g c, v = .slice (some ⟨g, 0, none⟩) n c ∧ n ≤ c ∧ base ≤ g ∧ g < W.heap.size ∧ ∀ (i : Nat) (z : ByteArray), zs[i]? = some z → W.cell? ⟨g, 0 + i, none⟩ = some (.string z) := by
  have h1 := h.1
  rcases h.2 with ⟨rfl, h0⟩ | ⟨g, cap, cur, rfl, hbg, hg, hnc, hcm, hcs, htk⟩
  · omega
  · refine ⟨g, cap, rfl, hnc, hbg, ?_, fun i z hz => ?_⟩
    · rcases Nat.lt_or_ge g W.heap.size with q | q
      · exact q
      · rw [Array.getElem?_eq_none q] at hg; cases hg
    · have hil := (List.getElem?_eq_some_iff.1 hz).1
      have h2 : (cur.toList.take (n * 1))[i]? = some (Value.string z) := by rw [htk, List.getElem?_map, hz]; rfl
      rw [List.getElem?_take_of_lt (by simp at h1; omega), Array.getElem?_toList] at h2
      unfold World.cell?
      dsimp only
      rw [hg]
      simpa using h2
structure PlanAt (w : World) (D : Nat) (x : List UInt8) (v : Value) : Prop where
  c0 : w.cell? ⟨D, 0, none⟩ = some (.string ⟨x.toArray⟩)
  c1 : w.cell? ⟨D, 1, none⟩ = some (.string ⟨#[]⟩)
  c3 : w.cell? ⟨D, 3, none⟩ = some v
theorem RowAt.set {w : World} {g o b k : Nat} {v : Value} {L : List (List UInt8)} (h : RowAt w g o L) (hb : b ≠ g) : RowAt (w.setCell ⟨b, k, none⟩ v) g o L := fun i z hz => by
  have hh : (w.setCell ⟨b, k, none⟩ v).heap[g]? = w.heap[g]? := by simp [World.setCell, Array.getElem?_modify, hb]
  exact (World.cell?_of_block (a := ⟨g, o + i, none⟩) hh).trans (h i z hz)
def planO (x : List UInt8) (v : Value) : Obj := .cells #[.string ⟨x.toArray⟩, .string ⟨#[]⟩, .int .i64 10, v] 55
theorem PlanAt.of {w : World} {D : Nat} {x : List UInt8} {v : Value} (h : w.heap[D]? = some (planO x v)) : PlanAt w D x v := by
  unfold planO at h
  refine ⟨?_, ?_, ?_⟩ <;> (unfold World.cell?; dsimp only; rw [h]; rfl)
theorem plan_four {w : World} {b : Nat} {v0 v1 v2 v3 : Value} {ty : TypeId} (h : w.heap[b]? = some (.cells #[v0, v1, v2, v3] ty (0, 0))) (u0 u1 u2 u3 : Value) :
    ((((w.setCell ⟨b, 0, none⟩ u0).setCell ⟨b, 1, none⟩ u1).setCell ⟨b, 2, none⟩ u2).setCell ⟨b, 3, none⟩ u3).heap[b]? = some (.cells #[u0, u1, u2, u3] ty (0, 0)) := by
  have h0 := set_rowN (k := 0) (v := u0) h
  have h1 := set_rowN (k := 1) (v := u1) h0
  have h2 := set_rowN (k := 2) (v := u2) h1
  exact set_rowN (k := 3) (v := u3) h2
theorem plan_ret (w : World) (g : Nat) (a b c d e : Value) (hg : w.heap[g]? = some (.cells #[a, b, c, d] 55 (0, 0))) {fn : Func} {p u : Tmp} (h : fn.results = #[.cell p 55, .tmp u]) (tmps : Array Value) (hp : tmps.getD p undef = .pointer (some ⟨g, 0, none⟩)) (hu : tmps.getD u undef = e) :
    (results fn tmps).run Tryz.prog w = .ok (.tuple #[.agg #[a, b, c, d], e]) w := by
  have hl : (loadVar 55 ⟨g, 0, none⟩).run Tryz.prog w = .ok (.agg #[a, b, c, d]) w := run_loadVar_row w g _ _ #[a, b, c, d] _ _ hg Tryz.underlying55 rfl (by kernel_rfl)
  rw [Array.getD_eq_getD_getElem?] at hp hu
  simp only [results, h]
  simp [Sem.run_bind, Result.andThen, hp, hu, asAddr, hl]
end Go.Proofs.YtbecmcjibpamoaaGreatDoor
namespace Go.Proofs.YtbecmcjibpamoaaGreatDoor
open Go.RowKit IntWalk
structure FK (ex : Option Nat) (s : Fs) (lay : FId → Nat) (w : World) (s' : Fs) (lay' : FId → Nat) (w' : World) : Prop where
  is : FsIs s' lay' w'
  F : lay' .F = lay .F
  turned : Turned (fun k => Owns (s.obj lay) lay k ∨ ex = some k) w w'
  own : ∀ k, Owns (s'.obj lay') lay' k → Owns (s.obj lay) lay k ∨ w.heap.size ≤ k
section
variable {s s' s'' : Fs} {lay lay' lay'' : FId → Nat} {w w' w'' : World} {ex : Option Nat}
theorem FK.refl (h : FsIs s lay w) : FK ex s lay w s lay w := ⟨h, rfl, Turned.refl _ _, fun _ hk => .inl hk⟩
theorem FK.of (h : Step s lay w s' lay' w') (hF : lay' .F = lay .F) : FK ex s lay w s' lay' w' := ⟨h.is, hF, ⟨h.turned.os, h.turned.tape, h.turned.output, h.turned.size, fun k hk hn => h.turned.block k hk (fun q => hn (.inl q))⟩, h.own⟩
theorem FK.trans (h : FK ex s lay w s' lay' w') (k : FK ex s' lay' w' s'' lay'' w'') : FK ex s lay w s'' lay'' w'' :=
  ⟨k.is, k.F.trans h.F, h.turned.trans k.turned (fun b hb hlt => hb.elim (fun q => (h.own b q).elim .inl (fun q2 => by omega)) .inr), fun b hb => by
    rcases k.own b hb with q | q
    · exact h.own b q
    · exact .inr (Nat.le_trans h.turned.size q)⟩
theorem FK.any (h : FK none s lay w s' lay' w') : FK ex s lay w s' lay' w' := ⟨h.is, h.F, ⟨h.turned.os, h.turned.tape, h.turned.output, h.turned.size, fun k hk hn => h.turned.block k hk (fun q => hn (q.elim .inl (fun q => by cases q)))⟩, h.own⟩
theorem FK.drop {b : Nat} (h : FK (some b) s lay w s' lay' w') (hb : w.heap.size ≤ b) : FK none s lay w s' lay' w' := ⟨h.is, h.F, ⟨h.turned.os, h.turned.tape, h.turned.output, h.turned.size, fun k hk hn => h.turned.block k hk (fun q => q.elim (fun q => hn (.inl q)) (fun q => by cases q; omega))⟩, h.own⟩
theorem FK.heap (h : FK ex s lay w s' lay' w') {D : Nat} (hD : D < w.heap.size) (ho : ¬ Owns (s.obj lay) lay D) (hx : ex ≠ some D) : w'.heap[D]? = w.heap[D]? := h.turned.block D hD (fun q => q.elim ho hx)
theorem FK.out (h : FK ex s lay w s' lay' w') {D : Nat} (hD : D < w.heap.size) (ho : ¬ Owns (s.obj lay) lay D) : ¬ Owns (s'.obj lay') lay' D := fun q => (h.own D q).elim ho (fun q => by omega)
theorem FK.fsIn {W0 : World} (h : FK none s lay w s' lay' w') (hF : FsIn W0 s lay w) (hw : s'.Whole) : FsIn W0 s' lay' w' :=
  ⟨h.is, fun k hk => (h.own k hk).elim (hF.low k) (fun q => Nat.le_trans hF.below.size q), ⟨h.turned.os.trans hF.below.os, h.turned.tape.trans hF.below.tape, h.turned.output.trans hF.below.output, Nat.le_trans hF.below.size h.turned.size, fun k hk => (h.turned.block k (Nat.lt_of_lt_of_le hk hF.below.size) (fun q => q.elim (fun q => by have := hF.low k q; omega) (fun q => by cases q))).trans (hF.below.block k hk)⟩, hw⟩
theorem FK.below (h : FK ex s lay w s' lay' w') (hb : Below w'.heap.size w' w'') : FK ex s lay w s' lay' w'' :=
  ⟨⟨h.is.lies.kept fun i hi => hb.block _ (h.is.lies.owns_lt ⟨i, hi, rfl⟩), h.is.ok⟩, h.F, ⟨hb.os.trans h.turned.os, hb.tape.trans h.turned.tape, hb.output.trans h.turned.output, Nat.le_trans h.turned.size hb.size, fun k hk hn => (hb.block k (Nat.lt_of_lt_of_le hk h.turned.size)).trans (h.turned.block k hk hn)⟩, h.own⟩
theorem FK.set {b : Nat} (h : FK (some b) s lay w s' lay' w') (ho : ¬ Owns (s'.obj lay') lay' b) (k : Nat) (v : Value) : FK (some b) s lay w s' lay' (w'.setCell ⟨b, k, none⟩ v) :=
  ⟨is_setL h.is _ _ ho, h.F, ⟨h.turned.os, h.turned.tape, h.turned.output, by simpa [World.setCell] using h.turned.size, fun j hj hn => by
    rw [Below.heap_setCell _ _ _ _ (by show j ≠ b; rintro rfl; exact hn (.inr rfl))]; exact h.turned.block j hj hn⟩, h.own⟩
end
section
variable {W0 : World} {s : Fs} {lay : FId → Nat} {d : Dr} {t : List UInt8} {k : Nat}
theorem fclose_all {i at_ fl : Int} {s' : Fs} {c : Int} (b : Nat) (w : World) (h : FsIs s lay w) (hout : ¬ Owns (s.obj lay) lay b) (hb : w.heap[b]? = some (.cells (fileV lay i at_ fl false) 177 (0, 0))) (hl : s.looseS i = (c, s')) :
    Calls Tryz.prog 86 #[ptrTo b] w fun e w' => e = .returned (.int .i64 c) ∧ FK (some b) s lay w s' lay w' := by
  refine (fclose_open b i at_ fl w h hout hb).mono ?_
  rw [hl]
  rintro e w' ⟨rfl, hst, _⟩
  have h1 : FK (some b) s lay w s lay (w.setCell ⟨b, 4, none⟩ (.bool true)) := (FK.refl h).set hout 4 _
  exact ⟨rfl, h1.trans (FK.of hst rfl)⟩
end
end Go.Proofs.YtbecmcjibpamoaaGreatDoor
