/- The executor: memory, step by step. -/
import Derived.Test.YtckmcajnhobkpaaGreatDoorExC
set_option linter.unusedVariables false
set_option linter.unusedSimpArgs false
set_option linter.deprecated false
namespace Go.Proofs.YtckmcajnhobkpaaGreatDoor.Zz
open Go Go.RowKit

section
variable {P : Program} {ρ : Nat → Value} {w0 : World} {base : Nat}
/-- what x does, s does -/
def Ok (P : Program) (ρ : Nat → Value) (w0 : World) (base : Nat) {α β : Type} (R : BMap → α → β → Prop) (m : BMap) (x : M α) (s : Sem β) : Prop :=
  ∀ st w a st', x st = some (a, st') → Rel ρ w0 base m st.heap.get w → (∀ A, st.next ≤ A → A < st'.next → m A = none) →
    ∃ b w' m', s.run P w = .ok b w' ∧ Ext m m' ∧ (∀ A, m A = none → m' A ≠ none → st.next ≤ A ∧ A < st'.next) ∧ Rel ρ w0 base m' st'.heap.get w' ∧ R m' a b
theorem Ok.fail {α β : Type} {R : BMap → α → β → Prop} {m : BMap} {s : Sem β} : Ok P ρ w0 base R m fail s := fun st w a st' h => by cases h
theorem Ok.ret {α β : Type} {R : BMap → α → β → Prop} {m : BMap} {a : α} {b : β} {s : Sem β} (hs : ∀ w, s.run P w = .ok b w) (h : R m a b) : Ok P ρ w0 base R m (ret a) s := fun st w a' st' h' hr _ => by
  cases h'
  exact ⟨b, w, m, hs w, Ext.refl m, fun A h1 h2 => absurd h1 h2, hr, h⟩
theorem Ok.mono {α β : Type} {R R' : BMap → α → β → Prop} {m : BMap} {x : M α} {s : Sem β} (h : Ok P ρ w0 base R m x s) (hr : ∀ m' a b, Ext m m' → R m' a b → R' m' a b) : Ok P ρ w0 base R' m x s := fun st w a st' h' hr' hf => by
  obtain ⟨b, w', m', h1, h2, h3, h4, h5⟩ := h st w a st' h' hr' hf
  exact ⟨b, w', m', h1, h2, h3, h4, hr _ _ _ h2 h5⟩
theorem Ok.bnd {α β γ δ : Type} {R : BMap → α → β → Prop} {R' : BMap → γ → δ → Prop} {m : BMap} {x : M α} {f : α → M γ} {s : Sem β} {g : β → Sem δ} (hx : Fr x) (hf : ∀ a, Fr (f a))
    (h : Ok P ρ w0 base R m x s) (hk : ∀ a b m', Ext m m' → R m' a b → Ok P ρ w0 base R' m' (f a) (g b)) : Ok P ρ w0 base R' m (bnd x f) (s >>= g) := fun st w c st' h' hr hfr => by
  unfold Zz.bnd at h'
  cases h1 : x st with
  | none => rw [h1] at h'; cases h'
  | some p =>
    obtain ⟨a, st1⟩ := p
    rw [h1] at h'
    simp only at h'
    obtain ⟨L1, q1⟩ := hx st a st1 h1
    obtain ⟨L2, q2⟩ := hf a st1 c st' h'
    have n1 := q1.next
    have n2 := q2.next
    obtain ⟨b, w1, m1, e1, e2, e3, e4, e5⟩ := h st w a st1 h1 hr (fun A h1 h2 => hfr A h1 (by omega))
    obtain ⟨d, w2, m2, g1, g2, g3, g4, g5⟩ := hk a b m1 e2 e5 st1 w1 c st' h' e4 (fun A h1 h2 => by
      have := hfr A (by omega) h2
      cases hm : m1 A with
      | none => rfl
      | some p => have := e3 A this (by rw [hm]; simp); omega)
    refine ⟨d, w2, m2, ?_, e2.trans g2, fun A h1 h2 => ?_, g4, g5⟩
    · rw [Sem.run_bind, e1]; exact g1
    · cases hm : m1 A with
      | none => have := g3 A hm h2; omega
      | some p => have := e3 A h1 (by rw [hm]; simp); omega
theorem Ok.opt {α γ δ : Type} {R : BMap → γ → δ → Prop} {m : BMap} {o : Option α} {f : α → M γ} {s : Sem δ} (h : ∀ a, o = some a → Ok P ρ w0 base R m (f a) s) : Ok P ρ w0 base R m (Zz.bnd (Zz.opt o) f) s := by
  cases o with
  | none => exact fun st w a st' h => by cases h
  | some a => exact h a rfl
theorem Ok.optr {α β : Type} {R : BMap → α → β → Prop} {m : BMap} {o : Option α} {s : Sem β} (h : ∀ a, o = some a → Ok P ρ w0 base R m (Zz.ret a) s) : Ok P ρ w0 base R m (Zz.opt o) s := by
  cases o with
  | none => exact Ok.fail
  | some a => exact h a rfl
theorem Ok.cond {α β : Type} {R : BMap → α → β → Prop} {m : BMap} {c : Bool} {x y : M α} {s : Sem β} (h1 : c = true → Ok P ρ w0 base R m x s) (h2 : c = false → Ok P ρ w0 base R m y s) : Ok P ρ w0 base R m (bif c then x else y) s := by
  cases c
  · exact h2 rfl
  · exact h1 rfl
theorem Ok.sem {α β δ : Type} {R : BMap → α → δ → Prop} {m : BMap} {x : M α} {s : Sem β} {g : β → Sem δ} {b : β} (hs : ∀ w, s.run P w = .ok b w) (h : Ok P ρ w0 base R m x (g b)) : Ok P ρ w0 base R m x (s >>= g) := fun st w a st' h' hr hf => by
  obtain ⟨d, w', m', e1, e⟩ := h st w a st' h' hr hf
  exact ⟨d, w', m', by rw [Sem.run_bind, hs]; exact e1, e⟩
/-- the Sem's side, as another one that runs alike -/
theorem Ok.congr {α β : Type} {R : BMap → α → β → Prop} {m : BMap} {x : M α} {s s' : Sem β} (hs : ∀ w, s.run P w = s'.run P w) (h : Ok P ρ w0 base R m x s') : Ok P ρ w0 base R m x s := fun st w a st' h' hr hf => by
  obtain ⟨d, w', m', e1, e⟩ := h st w a st' h' hr hf
  exact ⟨d, w', m', by rw [hs]; exact e1, e⟩
theorem Ok.ext {α β : Type} {R : BMap → α → β → Prop} {m : BMap} {x y : M α} {s : Sem β} (hs : x = y) (h : Ok P ρ w0 base R m x s) : Ok P ρ w0 base R m y s := hs ▸ h
abbrev VRr (ρ : Nat → Value) (m : BMap) (a : AV) (v : Value) : Prop := VR ρ m a v
abbrev LRr (ρ : Nat → Value) (m : BMap) (a : List AV) (v : Array Value) : Prop := LR ρ m a v.toList

/-! ### facts about worlds -/
theorem heap_new (w : World) (o : Obj) : (w.alloc o).heap[w.heap.size]? = some o := by
  show (w.heap.push o)[w.heap.size]? = _
  simp
theorem add_mk' (b o k : Nat) : (⟨b, o, none⟩ : Addr).add k = ⟨b, o + k, none⟩ := by unfold Addr.add; split <;> simp_all
theorem set_same {w : World} {b o : Nat} {arr : Array Value} {e : TypeId} {fr : Nat × Nat} {v : Value} (h : w.heap[b]? = some (.cells arr e fr)) : (w.setCell ⟨b, o, none⟩ v).heap[b]? = some (.cells (arr.setIfInBounds o v) e fr) := by
  simp [World.setCell, Array.getElem?_modify, h]
theorem set_other {w : World} {b o k : Nat} {v : Value} (h : k ≠ b) : (w.setCell ⟨b, o, none⟩ v).heap[k]? = w.heap[k]? := by
  simp only [World.setCell, Array.getElem?_modify]
  rw [if_neg (by exact fun e => h e.symm)]
theorem cell_of {w : World} {b o : Nat} {arr : Array Value} {e : TypeId} {fr : Nat × Nat} (h : w.heap[b]? = some (.cells arr e fr)) : w.cell? ⟨b, o, none⟩ = arr[o]? := by
  simp [World.cell?, h]
theorem frozen_of {w : World} {b o : Nat} {arr : Array Value} {e : TypeId} {lo hi : Nat} (h : w.heap[b]? = some (.cells arr e (lo, hi))) : w.frozen? ⟨b, o, none⟩ = (decide (lo ≤ o) && decide (o < hi)) := by
  simp [World.frozen?, h]
theorem run_load {w : World} {a : Addr} {v : Value} (h : w.cell? a = some v) : (Go.load a).run P w = .ok v w := by
  simp [Go.load, Sem.run, h]
theorem run_loadFrom {w : World} {a : Addr} : ∀ (vs : List Value) (i : Nat) (acc : Array Value), (∀ (j : Nat) (v : Value), vs[j]? = some v → w.cell? (a.add (i + j)) = some v) →
    (loadCellsFrom a i vs.length acc).run P w = .ok (acc ++ vs.toArray) w
  | [], i, acc, _ => by simp [loadCellsFrom, Sem.run, pure]
  | v :: vs, i, acc, h => by
    have h0 := h 0 v rfl
    have ih := run_loadFrom vs (i + 1) (acc.push v) (fun j u hj => by have := h (j + 1) u (by simpa using hj); rwa [show i + (j + 1) = i + 1 + j by omega] at this)
    simp only [List.length_cons, loadCellsFrom, Sem.run_bind]
    rw [show i + 0 = i by omega] at h0
    rw [run_load h0, Result.andThen_ok, ih]
    simp
theorem run_loadCells {w : World} {a : Addr} {vs : List Value} {n : Nat} (hn : n = vs.length) (h : ∀ (j : Nat) (v : Value), vs[j]? = some v → w.cell? (a.add j) = some v) : (loadCells a n).run P w = .ok vs.toArray w := by
  subst hn
  unfold loadCells
  rw [run_loadFrom vs 0 #[] (fun j v hj => by rw [show 0 + j = j by omega]; exact h j v hj)]
  simp
theorem run_store {w : World} {b o : Nat} {v u : Value} (h1 : (∀ cs, v ≠ .agg cs) ∧ ∀ cs, v ≠ .tuple cs) (h2 : w.cell? ⟨b, o, none⟩ = some u) (h3 : w.frozen? ⟨b, o, none⟩ = false) : (Go.store ⟨b, o, none⟩ v).run P w = .ok () (w.setCell ⟨b, o, none⟩ v) := by
  unfold Go.store
  cases v <;> first | exact absurd rfl (h1.1 _) | exact absurd rfl (h1.2 _) | simp [Sem.run, h2, h3]
/-- cells are stored, one behind the other -/
theorem run_storeCells (b d : Nat) (e : TypeId) (lo hi : Nat) : ∀ (vs : List Value) (i : Nat) (w : World) (arr : Array Value), w.heap[b]? = some (.cells arr e (lo, hi)) → d + i + vs.length ≤ arr.size →
    (∀ v ∈ vs, (∀ cs, v ≠ .agg cs) ∧ ∀ cs, v ≠ .tuple cs) → (∀ j, d + i ≤ j → j < d + i + vs.length → ¬ (lo ≤ j ∧ j < hi)) →
    ∃ w' arr', (storeCells ⟨b, d, none⟩ vs i).run P w = .ok () w' ∧ w'.heap[b]? = some (.cells arr' e (lo, hi)) ∧ arr'.size = arr.size ∧ (∀ j, arr'[j]? = if d + i ≤ j ∧ j < d + i + vs.length then vs[j - (d + i)]? else arr[j]?) ∧
      (∀ k, k ≠ b → w'.heap[k]? = w.heap[k]?) ∧ w'.heap.size = w.heap.size ∧ w'.os = w.os ∧ w'.tape = w.tape ∧ w'.output = w.output
  | [], i, w, arr, hw, _, _, _ => ⟨w, arr, by simp [storeCells, Sem.run, pure], hw, rfl, fun j => by simp; intro h1 h2; omega, fun _ _ => rfl, rfl, rfl, rfl, rfl⟩
  | v :: vs, i, w, arr, hw, hn, ho, hz => by
    simp only [List.length_cons] at hn hz
    have hd : d + i < arr.size := by omega
    have h2 : w.cell? ⟨b, d + i, none⟩ = some arr[d + i] := by rw [cell_of hw, Array.getElem?_eq_getElem hd]
    have h3 : w.frozen? ⟨b, d + i, none⟩ = false := by
      rw [frozen_of hw]
      have := hz (d + i) (by omega) (by omega)
      simp; omega
    have hr := run_store (P := P) (ho v (by simp)) h2 h3
    have hw1 := set_same (o := d + i) (v := v) hw
    obtain ⟨w', arr', e1, e2, e3, e4, e5, e6, e7, e8, e9⟩ := run_storeCells b d e lo hi vs (i + 1) _ _ hw1 (by simp; omega) (fun u hu => ho u (by simp [hu])) (fun j h1 h2 => hz j (by omega) (by omega))
    refine ⟨w', arr', ?_, e2, by rw [e3]; simp, fun j => ?_, fun k hk => by rw [e5 k hk]; exact set_other hk, by rw [e6]; simp, by rw [e7]; rfl, by rw [e8]; rfl, by rw [e9]; rfl⟩
    · simp only [storeCells, Sem.run_bind]
      rw [add_mk', hr, Result.andThen_ok, e1]
    · rw [e4 j]
      simp only [List.length_cons]
      by_cases h1 : j = d + i
      · subst h1
        rw [if_neg (by omega), if_pos (by omega)]
        simp [hd]
      · by_cases h2 : d + (i + 1) ≤ j ∧ j < d + (i + 1) + vs.length
        · rw [if_pos h2, if_pos (by omega)]
          rw [show j - (d + i) = (j - (d + (i + 1))) + 1 by omega]; simp
        · rw [if_neg h2, if_neg (by omega), Array.getElem?_setIfInBounds, if_neg (by omega)]

/-! ### tables -/
theorem getN_get {c : CT} : ∀ {k i : Nat} {l : List AV}, getN c i k = some l → l.length = k ∧ ∀ (j : Nat) (a : AV), l[j]? = some a → c.get (i + j) = some a
  | 0, i, l, h => by cases h; exact ⟨rfl, fun j a h => by simp at h⟩
  | k + 1, i, l, h => by
    unfold getN at h
    cases h1 : c.get i with
    | none => rw [h1] at h; cases h
    | some v =>
      rw [h1] at h
      simp only at h
      cases h2 : getN c (i + 1) k with
      | none => rw [h2] at h; cases h
      | some r =>
        rw [h2] at h; cases h
        obtain ⟨e1, e2⟩ := getN_get h2
        refine ⟨by simp [e1], fun j a hj => ?_⟩
        cases j with
        | zero => cases hj; exact h1
        | succ j => rw [show i + (j + 1) = i + 1 + j by omega]; exact e2 j a (by simpa using hj)
theorem putL_get : ∀ (l : List AV) (c : CT) (i k : Nat), (putL c i l).get k = if i ≤ k ∧ k < i + l.length then l[k - i]? else c.get k
  | [], c, i, k => by simp [putL]; intro h1 h2; omega
  | v :: l, c, i, k => by
    rw [putL, putL_get l, CT.get_put]
    simp only [List.length_cons]
    by_cases h1 : k = i
    · subst h1
      rw [if_neg (by omega), if_pos rfl, if_pos (by omega)]; simp
    · by_cases h2 : i + 1 ≤ k ∧ k < i + 1 + l.length
      · rw [if_pos h2, if_pos (by omega), show k - i = (k - (i + 1)) + 1 by omega]; simp
      · rw [if_neg h2, if_neg h1, if_neg (by omega)]
theorem allOne_mem : ∀ {l : List AV}, allOne l = true → ∀ a ∈ l, oneA a = true
  | [], _, a, h => by cases h
  | v :: l, h, a, ha => by
    simp only [allOne, Bool.and_eq_true] at h
    rcases List.mem_cons.1 ha with rfl | ha
    · exact h.1
    · exact allOne_mem h.2 a ha
theorem LR.mem {m : BMap} {l : List AV} {r : List Value} (h : LR ρ m l r) {v : Value} (hv : v ∈ r) : ∃ a ∈ l, VR ρ m a v := by
  obtain ⟨i, hi⟩ := List.getElem?_of_mem hv
  have hl := h.length
  have : i < l.length := by rw [hl]; exact (List.getElem?_eq_some_iff.1 hi).1
  obtain ⟨v', h1, h2⟩ := h.get (List.getElem?_eq_getElem this)
  rw [hi] at h1; cases h1
  exact ⟨_, List.getElem_mem _, h2⟩
theorem LR.one {m : BMap} {l : List AV} {r : List Value} (hq : Opq ρ) (h : LR ρ m l r) (h1 : allOne l = true) : ∀ v ∈ r, (∀ cs, v ≠ .agg cs) ∧ ∀ cs, v ≠ .tuple cs := fun v hv => by
  obtain ⟨a, ha, hr⟩ := h.mem hv
  exact hr.one hq (allOne_mem h1 a ha)

/-! ### loads, stores, new blocks -/
theorem rel_cells {m : BMap} {g : Nat → Option ABlk} {w : World} {A b d z : Nat} {c : CT} {n : Nat} {e : TypeId} {frz : Nat} {odd : Bool} (h : Rel ρ w0 base m g w) (hA : g A = some (.cells c n e frz odd)) (hp : m A = some (b, d, z)) :
    BR ρ m w (.cells c n e frz odd) (b, d, z) := by
  obtain ⟨p, e1, e2, e3⟩ := h.blk A _ hA
  rw [hp] at e1; cases e1; exact e3
theorem rd_eq {A : Nat} {st st' : ASt} {b : ABlk} (h : rd A st = some (b, st')) : st.heap.get A = some b ∧ st'.heap = st.heap ∧ st'.next = st.next := by
  unfold rd at h
  cases hb : st.heap.get A with
  | none => rw [hb] at h; cases h
  | some c => rw [hb] at h; cases h; exact ⟨rfl, rfl, rfl⟩
/-- a read: what is behind it, with the block known -/
theorem Ok.rd {α β : Type} {R : BMap → α → β → Prop} {m : BMap} {A : Nat} {f : ABlk → M α} {s : Sem β}
    (h : ∀ b st w a st', f b st = some (a, st') → st.heap.get A = some b → Rel ρ w0 base m st.heap.get w → (∀ A, st.next ≤ A → A < st'.next → m A = none) →
      ∃ b' w' m', s.run P w = .ok b' w' ∧ Ext m m' ∧ (∀ A, m A = none → m' A ≠ none → st.next ≤ A ∧ A < st'.next) ∧ Rel ρ w0 base m' st'.heap.get w' ∧ R m' a b') :
    Ok P ρ w0 base R m (Zz.bnd (Zz.rd A) f) s := fun st w a st' h' hr hf => by
  unfold Zz.bnd at h'
  cases h1 : Zz.rd A st with
  | none => rw [h1] at h'; cases h'
  | some p =>
    obtain ⟨b, st1⟩ := p
    rw [h1] at h'
    obtain ⟨e1, e2, e3⟩ := rd_eq h1
    have := h b st1 w a st' h' (by rw [e2]; exact e1) (by rw [e2]; exact hr) (by rw [e3]; exact hf)
    rwa [e3] at this
theorem load1_ok {m : BMap} {A i b d z : Nat} (hp : m A = some (b, d, z)) : Ok P ρ w0 base (VRr ρ) m (load1 A i) (Go.load ⟨b, d + i, none⟩) := by
  unfold load1
  refine Ok.rd (fun blk st w a st' h hA hr hf => ?_)
  cases blk with
  | cells c n e frz odd =>
    simp only at h
    cases hc : c.get i with
    | none => rw [hc] at h; cases h
    | some x =>
      rw [hc] at h; cases h
      obtain ⟨arr, lo, hi, h1, h2, h3, h4, h5⟩ := rel_cells hr hA hp
      obtain ⟨q1, q2, v, q3, q4⟩ := h4 i a hc
      exact ⟨v, w, m, run_load (by rw [cell_of h1]; exact q3), Ext.refl m, fun A h1 h2 => absurd h1 h2, hr, q4⟩
  | _ => cases h
theorem loadC_eq {A i k : Nat} {st st' : ASt} {l : List AV} (h : loadC A i k st = some (l, st')) : ∃ c n e frz odd, st.heap.get A = some (.cells c n e frz odd) ∧ getN c i k = some l ∧ st'.heap = st.heap ∧ st'.next = st.next := by
  unfold loadC Zz.bnd at h
  cases h2 : Zz.rd A st with
  | none => rw [h2] at h; cases h
  | some q =>
    obtain ⟨bb, s2⟩ := q
    rw [h2] at h
    obtain ⟨e1, e2, e3⟩ := rd_eq h2
    cases bb with
    | cells c n e frz odd =>
      simp only at h
      cases hc : getN c i k with
      | none => rw [hc] at h; cases h
      | some l' => rw [hc] at h; cases h; exact ⟨c, n, e, frz, odd, e1, hc, e2, e3⟩
    | _ => cases h
/-- the values behind cells that are read -/
theorem getN_vals {m : BMap} {c : CT} {arr : Array Value} {d n i k : Nat} {l : List AV} (h4 : ∀ i a, c.get i = some a → i < n ∧ oneA a = true ∧ ∃ v, arr[d + i]? = some v ∧ VR ρ m a v) (hc : getN c i k = some l) :
    ∃ vs : List Value, LR ρ m l vs ∧ l.length = k ∧ ∀ (j : Nat) (v : Value), vs[j]? = some v → arr[d + i + j]? = some v := by
  obtain ⟨g1, g2⟩ := getN_get hc
  have hv : ∀ j, ∃ v, j < l.length → arr[d + i + j]? = some v ∧ ∀ x, l[j]? = some x → VR ρ m x v := fun j => by
    by_cases hj : j < l.length
    · obtain ⟨q1, q2, v, q3, q4⟩ := h4 (i + j) l[j] (g2 j _ (List.getElem?_eq_getElem hj))
      exact ⟨v, fun _ => ⟨by rw [← q3, Nat.add_assoc], fun x hx => by rw [List.getElem?_eq_getElem hj] at hx; cases hx; exact q4⟩⟩
    · exact ⟨undef, fun h => absurd h hj⟩
  obtain ⟨f, hf2⟩ := Classical.axiomOfChoice hv
  have hget : ∀ (j : Nat) (v : Value), ((List.range l.length).map f)[j]? = some v → j < l.length ∧ f j = v := fun j v hj => by
    rw [List.getElem?_map] at hj
    rcases Nat.lt_or_ge j l.length with h' | h'
    · simp [h'] at hj; exact ⟨h', hj⟩
    · rw [List.getElem?_eq_none (by simpa using h')] at hj; simp at hj
  refine ⟨(List.range l.length).map f, LR.of_get (by simp) (fun j x v hj hv => ?_), g1, fun j v hj => ?_⟩
  · obtain ⟨hj', rfl⟩ := hget j v hv
    exact (hf2 j hj').2 x hj
  · obtain ⟨hj', rfl⟩ := hget j v hj
    exact (hf2 j hj').1
theorem loadC_ok {m : BMap} {A i k b d z : Nat} (hp : m A = some (b, d, z)) : Ok P ρ w0 base (LRr ρ) m (loadC A i k) (loadCells ⟨b, d + i, none⟩ k) := fun st w l st' h hr hf => by
  obtain ⟨c, n, e, frz, odd, hA, hc, e2, e3⟩ := loadC_eq h
  obtain ⟨arr, lo, hi, h1, h2, h3, h4, h5⟩ := rel_cells hr hA hp
  obtain ⟨vs, g1, g2, g3⟩ := getN_vals h4 hc
  refine ⟨vs.toArray, w, m, run_loadCells (by rw [← g1.length, g2]) (fun j v hj => ?_), Ext.refl m, fun A h1 h2 => absurd h1 h2, by rw [e2]; exact hr, g1⟩
  rw [add_mk', cell_of h1]; exact g3 j v hj
theorem wr_eq {A : Nat} {st st' : ASt} {b : ABlk} {u : Unit} (h : wr A b st = some (u, st')) : st'.heap = st.heap.put A b ∧ st'.next = st.next := by
  unfold wr at h
  cases hb : st.heap.get A with
  | none => rw [hb] at h; cases h
  | some c => rw [hb] at h; cases h; exact ⟨rfl, rfl⟩
theorem storeC_ok {m : BMap} {A i b d z : Nat} {l : List AV} {vs : List Value} (hq : Opq ρ) (hp : m A = some (b, d, z)) (hl : LR ρ m l vs) : Ok P ρ w0 base (fun _ _ (_ : Unit) => True) m (storeC A i l) (storeCells ⟨b, d + i, none⟩ vs) := by
  unfold storeC
  refine Ok.rd (fun blk st w a st' h hA hr hf => ?_)
  cases blk with
  | cells c n e frz odd =>
    simp only at h
    cases hc : (Nat.ble frz i && Nat.ble (i + l.length) n && allOne l) with
    | false => rw [hc] at h; cases h
    | true =>
      rw [hc, cond_true] at h
      simp only [Bool.and_eq_true, Nat.ble_eq] at hc
      obtain ⟨w1, w2⟩ := wr_eq h
      obtain ⟨arr, lo, hi, h1, h2, h3, h4, h5, h6⟩ := rel_cells hr hA hp
      simp only at h1 h2 h3 h4 h5
      have hlen := hl.length
      obtain ⟨w', arr', e1, e2, e3, e4, e5, e6, e7, e8, e9⟩ := run_storeCells (P := P) b (d + i) e lo hi vs 0 w arr h1 (by omega) (hl.one hq hc.2) (fun j g1 g2 => h5 j (by omega) (by omega))
      refine ⟨(), w', m, e1, Ext.refl m, fun A h1 h2 => absurd h1 h2, ?_, trivial⟩
      rw [w1, get_upd]
      refine hr.write hA hp rfl e5 e6 e7 e8 e9 ⟨arr', lo, hi, e2, by rw [e3, h2], h3, fun j x hj => ?_, h5, h6⟩
      rw [putL_get] at hj
      show j < n ∧ oneA x = true ∧ ∃ v, arr'[d + j]? = some v ∧ VR ρ m x v
      by_cases hin : i ≤ j ∧ j < i + l.length
      · rw [if_pos hin] at hj
        obtain ⟨v, g1, g2⟩ := hl.get hj
        refine ⟨by omega, allOne_mem hc.2 x (List.mem_of_getElem? hj), v, ?_, g2⟩
        rw [e4, if_pos (by omega), show d + j - (d + i + 0) = j - i by omega]; exact g1
      · rw [if_neg hin] at hj
        obtain ⟨q1, q2, v, q3, q4⟩ := h4 j x hj
        refine ⟨q1, q2, v, ?_, q4⟩
        rw [e4, if_neg (by omega)]; exact q3
  | _ => cases h
theorem nw_eq {st st' : ASt} {b : ABlk} {A : Nat} (h : nw b st = some (A, st')) : A = st.next ∧ st'.heap = st.heap.put st.next b ∧ st'.next = st.next + 1 := by
  unfold nw at h; cases h; exact ⟨rfl, rfl, rfl⟩
theorem rel_row {m : BMap} {g : Nat → Option ABlk} {w : World} {A : Nat} {e : TypeId} {l : List AV} {arr : Array Value} {frz : Nat} (hr : Rel ρ w0 base m g w) (hm : m A = none) (hl : LR ρ m l (arr.toList.take l.length)) (h1 : allOne l = true) (hle : l.length ≤ arr.size) :
    Rel ρ w0 base (mset m A (w.heap.size, 0, arr.size)) (upd g A (.cells (putL .lf 0 l) l.length e frz true)) (w.alloc (.cells arr e)) := by
  refine hr.new hm ⟨arr, 0, 0, ?_, rfl, by simpa using hle, fun j x hj => ?_, fun j _ _ => by omega, fun q _ => by cases q⟩
  · exact heap_new w _
  · rw [putL_get] at hj
    by_cases hin : 0 ≤ j ∧ j < 0 + l.length
    · rw [if_pos hin] at hj
      obtain ⟨v, g1, g2⟩ := hl.get (i := j - 0) hj
      refine ⟨by omega, allOne_mem h1 x (List.mem_of_getElem? hj), v, ?_, g2.ext (mset_ext hm)⟩
      simp only [Nat.zero_add]
      rw [List.getElem?_take_of_lt (by omega), Array.getElem?_toList] at g1
      exact g1
    · rw [if_neg hin] at hj; cases hj
/-- a new row of cells; its place in the world -/
theorem newRow_ok {m : BMap} {e : TypeId} {l : List AV} {odd : Bool} {arr : Array Value} {frz : Nat} (hl : LR ρ m l (arr.toList.take l.length)) (h1 : allOne l = true) (hle : l.length = arr.size) :
    Ok P ρ w0 base (fun m' A (ad : Addr) => ∃ b, ad = ⟨b, 0, none⟩ ∧ m' A = some (b, 0, arr.size)) m (nw (.cells (putL .lf 0 l) l.length e frz odd)) (newRow e arr) := fun st w A st' h hr hf => by
  obtain ⟨rfl, e2, e3⟩ := nw_eq h
  have hm : m st.next = none := hf _ (Nat.le_refl _) (by omega)
  refine ⟨⟨w.heap.size, 0, none⟩, w.alloc (.cells arr e), mset m st.next (w.heap.size, 0, arr.size), ?_, mset_ext hm, fun A h1 h2 => ?_, ?_, ⟨_, rfl, mset_same _ _ _⟩⟩
  · simp [newRow, newObj, Sem.run, pure]
  · have := mset_dom h1 h2; omega
  · rw [e2, get_upd]
    refine hr.new hm ⟨arr, 0, 0, ?_, rfl, by simp; omega, fun j x hj => ?_, fun j _ _ => by omega, fun _ _ => ⟨⟨rfl, rfl⟩, rfl, hle.symm⟩⟩
    · exact heap_new w _
    · rw [putL_get] at hj
      by_cases hin : 0 ≤ j ∧ j < 0 + l.length
      · rw [if_pos hin] at hj
        obtain ⟨v, g1, g2⟩ := hl.get (i := j - 0) hj
        refine ⟨by omega, allOne_mem h1 x (List.mem_of_getElem? hj), v, ?_, g2.ext (mset_ext hm)⟩
        simp only [Nat.zero_add]
        rw [List.getElem?_take_of_lt (by omega), Array.getElem?_toList] at g1
        exact g1
      · rw [if_neg hin] at hj; cases hj
theorem newRow_get {m : BMap} {e : TypeId} {c : CT} {n : Nat} {l : List AV} {arr : Array Value} (hc : ∀ i a, c.get i = some a → i < n ∧ l[i]? = some a) (hn : n = arr.size) (hl : LR ρ m l arr.toList) (h1 : ∀ a ∈ l, oneA a = true) :
    Ok P ρ w0 base (fun m' A (ad : Addr) => ∃ b, ad = ⟨b, 0, none⟩ ∧ m' A = some (b, 0, arr.size)) m (nw (.cells c n e 0 false)) (newRow e arr) := fun st w A st' h hr hf => by
  obtain ⟨rfl, e2, e3⟩ := nw_eq h
  have hm : m st.next = none := hf _ (Nat.le_refl _) (by omega)
  refine ⟨⟨w.heap.size, 0, none⟩, w.alloc (.cells arr e), mset m st.next (w.heap.size, 0, arr.size), ?_, mset_ext hm, fun A h1 h2 => ?_, ?_, ⟨_, rfl, mset_same _ _ _⟩⟩
  · simp [newRow, newObj, Sem.run, pure]
  · have := mset_dom h1 h2; omega
  · rw [e2, get_upd]
    refine hr.new hm ⟨arr, 0, 0, ?_, rfl, by simp; omega, fun j x hj => ?_, fun j _ _ => by omega, fun _ _ => ⟨⟨rfl, rfl⟩, rfl, hn.symm⟩⟩
    · exact heap_new w _
    · obtain ⟨q1, q2⟩ := hc j x hj
      obtain ⟨v, g1, g2⟩ := hl.get q2
      refine ⟨q1, h1 x (List.mem_of_getElem? q2), v, ?_, g2.ext (mset_ext hm)⟩
      simp only [Nat.zero_add]
      rw [Array.getElem?_toList] at g1
      exact g1
theorem newC_ok {m : BMap} {e : TypeId} {l : List AV} {arr : Array Value} (hl : LR ρ m l arr.toList) :
    Ok P ρ w0 base (fun m' A (ad : Addr) => ∃ b, ad = ⟨b, 0, none⟩ ∧ m' A = some (b, 0, arr.size)) m (newC e l) (newRow e arr) := by
  have hn : l.length = arr.size := by have := hl.length; simpa using this
  unfold newC
  refine Ok.cond (fun h1 => ?_) (fun _ => Ok.fail)
  refine newRow_ok ?_ h1 (by omega)
  rw [List.take_of_length_le (by simp; omega)]; exact hl
end
end Go.Proofs.YtckmcajnhobkpaaGreatDoor.Zz
