/- Steps of objects that lie by their names; parts beside one another; maps of pointers. No program's text. -/
import Derived.Test.YtbecmcjibpamoaaGreatDoorFsB
namespace Go.Proofs.YtbecmcjibpamoaaGreatDoor
open Go.RowKit
set_option linter.unusedVariables false
set_option linter.unusedSimpArgs false
set_option linter.unnecessarySimpa false

/-- what a step leaves: other objects, and nothing else is touched -/
structure GStep {I I' : Type} (c : I → Option Obj) (lay : I → Nat) (w : World) (c' : I' → Option Obj) (lay' : I' → Nat) (w' : World) : Prop where
  lies : Lies c' lay' w'
  turned : Turned (Owns c lay) w w'
  own : ∀ k, Owns c' lay' k → Owns c lay k ∨ w.heap.size ≤ k
section
variable {I I' I'' : Type} {c : I → Option Obj} {lay : I → Nat} {w w' w'' : World} {c' : I' → Option Obj} {lay' : I' → Nat} {c'' : I'' → Option Obj} {lay'' : I'' → Nat}
theorem GStep.refl (h : Lies c lay w) : GStep c lay w c lay w := ⟨h, Turned.refl _ _, fun _ hk => .inl hk⟩
theorem GStep.trans (h : GStep c lay w c' lay' w') (k : GStep c' lay' w' c'' lay'' w'') : GStep c lay w c'' lay'' w'' :=
  ⟨k.lies, h.turned.trans k.turned (fun b hb hlt => (h.own b hb).resolve_right (by omega)), fun b hb => by
    rcases k.own b hb with q | q
    · exact h.own b q
    · exact .inr (Nat.le_trans h.turned.size q)⟩
theorem GStep.alloc (h : GStep c lay w c' lay' w') (o : Obj) : GStep c lay w c' lay' (w'.alloc o) := ⟨h.lies.alloc o, h.turned.alloc o, h.own⟩
theorem GStep.drewN (h : GStep c lay w c' lay' w') (n : Nat) : GStep c lay w c' lay' (w'.drewN n) := ⟨h.lies.drewN n, h.turned.drewN n, h.own⟩
theorem GStep.drew (h : GStep c lay w c' lay' w') : GStep c lay w c' lay' w'.drew := ⟨h.lies.drew, h.turned.drew, h.own⟩
theorem GStep.below (h : GStep c lay w c' lay' w') (hb : Below w'.heap.size w' w'') : GStep c lay w c' lay' w'' :=
  ⟨h.lies.kept fun i hi => hb.block _ (h.lies.owns_lt ⟨i, hi, rfl⟩),
   h.turned.trans (Turned.of_below hb : Turned (fun _ => False) w' w'') (fun _ q => q.elim), h.own⟩
/-- a store to a block that is new and no object's -/
theorem GStep.setnew (h : GStep c lay w c' lay' w') (a : Addr) (v : Value) (hn : w.heap.size ≤ a.block) (ho : ¬ Owns c' lay' a.block) : GStep c lay w c' lay' (w'.setCell a v) :=
  ⟨h.lies.kept fun i hi => Below.heap_setCell _ _ _ _ (fun e => ho ⟨i, hi, e⟩), h.turned.set a v (fun q => by omega), h.own⟩
theorem GStep.set [DecidableEq I'] {c3 : I' → Option Obj} (h : GStep c lay w c' lay' w') {i : I'} {cs : Array Value} {ty : TypeId} {fz : Nat × Nat} (hc : c' i = some (.cells cs ty fz)) (k : Nat) (v : Value) (hc' : ∀ j, c3 j = if j = i then some (.cells (cs.setIfInBounds k v) ty fz) else c' j) :
    GStep c lay w c3 lay' (w'.setCell ⟨lay' i, k, none⟩ v) := by
  have hown : Owns c' lay' (lay' i) := ⟨i, by rw [hc]; simp, rfl⟩
  refine ⟨h.lies.set hc k v hc', h.turned.set _ _ (fun hlt => (h.own _ hown).resolve_right (by simpa using hlt)), fun b hb => ?_⟩
  obtain ⟨j, hj, rfl⟩ := hb
  refine h.own _ ⟨j, fun e => hj ?_, rfl⟩
  rw [hc']
  by_cases q : j = i
  · rw [q, hc] at e; cases e
  · rw [if_neg q, e]
theorem GStep.put [DecidableEq I'] {c3 : I' → Option Obj} (h : GStep c lay w c' lay' w') {i : I'} {o o' : Obj} (hc : c' i = some o) (hc' : ∀ j, c3 j = if j = i then some o' else c' j) :
    GStep c lay w c3 lay' { w' with heap := w'.heap.setIfInBounds (lay' i) o' } := by
  have hown : Owns c' lay' (lay' i) := ⟨i, by rw [hc]; simp, rfl⟩
  refine ⟨h.lies.put hc hc', h.turned.put _ _ (fun hlt => (h.own _ hown).resolve_right (by omega)), fun b hb => ?_⟩
  obtain ⟨j, hj, rfl⟩ := hb
  refine h.own _ ⟨j, fun e => hj ?_, rfl⟩
  rw [hc']
  by_cases q : j = i
  · rw [q, hc] at e; cases e
  · rw [if_neg q, e]
theorem GStep.new [DecidableEq I'] {c3 : I' → Option Obj} {lay3 : I' → Nat} (h : GStep c lay w c' lay' w') (i : I') (o : Obj) (hc' : ∀ j, c3 j = if j = i then some o else c' j) (hl : ∀ j, lay3 j = if j = i then w'.heap.size else lay' j) :
    GStep c lay w c3 lay3 (w'.alloc o) := by
  refine ⟨h.lies.new i o hc' hl, h.turned.alloc o, fun b hb => ?_⟩
  obtain ⟨j, hj, rfl⟩ := hb
  by_cases q : j = i
  · right; rw [hl, if_pos q]; exact h.turned.size
  · rw [hl, if_neg q]
    exact h.own _ ⟨j, fun e => hj (by rw [hc', if_neg q]; exact e), rfl⟩
/-- objects are forgotten, and told in other words -/
theorem GStep.less {c3 : I' → Option Obj} (h : GStep c lay w c' lay' w') (hc' : ∀ j o, c3 j = some o → c' j = some o) : GStep c lay w c3 lay' w' :=
  ⟨h.lies.less hc', h.turned, fun b ⟨j, hj, e⟩ => h.own b ⟨j, (by
    intro q
    cases h3 : c3 j with
    | none => exact hj h3
    | some o => have := hc' j o h3; rw [q] at this; cases this), e⟩⟩
theorem GStep.congr {c3 : I' → Option Obj} (h : GStep c lay w c' lay' w') (hc' : ∀ j, c3 j = c' j) : GStep c lay w c3 lay' w' := by
  obtain rfl : c3 = c' := funext hc'
  exact h
/-- the places of what is not there do not matter -/
theorem Lies.relay {lay2 : I → Nat} (h : Lies c lay w) (hl : ∀ i, c i ≠ none → lay2 i = lay i) : Lies c lay2 w :=
  ⟨fun i o ho => by rw [hl i (by rw [ho]; simp)]; exact h.at_ i o ho, fun i j hi hj e => h.inj i j hi hj (by rw [← hl i hi, ← hl j hj]; exact e)⟩
theorem GStep.relay {lay2 : I' → Nat} (h : GStep c lay w c' lay' w') (hl : ∀ i, c' i ≠ none → lay2 i = lay' i) : GStep c lay w c' lay2 w' :=
  ⟨h.lies.relay hl, h.turned, fun b ⟨j, hj, e⟩ => h.own b ⟨j, hj, by rw [← hl j hj]; exact e⟩⟩
theorem GStep.below_all {n : Nat} {w0 : World} (h : GStep c lay w c' lay' w') (hb : Below n w0 w) (hl : ∀ k, Owns c lay k → n ≤ k) (hn : n ≤ w0.heap.size) : Below n w0 w' :=
  ⟨h.turned.os.trans hb.os, h.turned.tape.trans hb.tape, h.turned.output.trans hb.output, Nat.le_trans hb.size h.turned.size, fun k hk =>
    (h.turned.block k (Nat.lt_of_lt_of_le hk (Nat.le_trans hn hb.size)) (fun q => by have := hl k q; omega)).trans (hb.block k hk)⟩
end
section
variable {I J I' : Type} {c : I → Option Obj} {d : J → Option Obj} {lay : I → Nat} {lay2 : J → Nat} {w w' : World} {c' : I' → Option Obj} {lay' : I' → Nat}
theorem Lies.inl (h : Lies (Sum.elim c d) (Sum.elim lay lay2) w) : Lies c lay w :=
  ⟨fun i o ho => h.at_ (.inl i) o ho, fun i j hi hj e => by have := h.inj (.inl i) (.inl j) hi hj e; cases this; rfl⟩
theorem Lies.inr (h : Lies (Sum.elim c d) (Sum.elim lay lay2) w) : Lies d lay2 w :=
  ⟨fun i o ho => h.at_ (.inr i) o ho, fun i j hi hj e => by have := h.inj (.inr i) (.inr j) hi hj e; cases this; rfl⟩
theorem Lies.apart (h : Lies (Sum.elim c d) (Sum.elim lay lay2) w) : ∀ k, Owns c lay k → ¬ Owns d lay2 k := by
  rintro k ⟨i, hi, rfl⟩ ⟨j, hj, e⟩
  have := h.inj (.inr j) (.inl i) hj hi e
  cases this
theorem Lies.both (h : Lies c lay w) (k : Lies d lay2 w) (ha : ∀ b, Owns c lay b → ¬ Owns d lay2 b) : Lies (Sum.elim c d) (Sum.elim lay lay2) w := by
  refine ⟨fun i o ho => ?_, fun i j hi hj e => ?_⟩
  · cases i with
    | inl i => exact h.at_ i o ho
    | inr i => exact k.at_ i o ho
  · cases i with
    | inl i => cases j with
      | inl j => rw [h.inj i j hi hj e]
      | inr j => exact absurd ⟨j, hj, e.symm⟩ (ha _ ⟨i, hi, rfl⟩)
    | inr i => cases j with
      | inl j => exact absurd ⟨i, hi, e⟩ (ha _ ⟨j, hj, rfl⟩)
      | inr j => rw [k.inj i j hi hj e]
theorem owns_sum {k : Nat} : Owns (Sum.elim c d) (Sum.elim lay lay2) k ↔ Owns c lay k ∨ Owns d lay2 k := by
  constructor
  · rintro ⟨i | i, hi, e⟩
    · exact .inl ⟨i, hi, e⟩
    · exact .inr ⟨i, hi, e⟩
  · rintro (⟨i, hi, e⟩ | ⟨i, hi, e⟩)
    · exact ⟨.inl i, hi, e⟩
    · exact ⟨.inr i, hi, e⟩
/-- a step of the one part leaves the other one -/
theorem GStep.left (hl : Lies (Sum.elim c d) (Sum.elim lay lay2) w) (h : GStep c lay w c' lay' w') : GStep (Sum.elim c d) (Sum.elim lay lay2) w (Sum.elim c' d) (Sum.elim lay' lay2) w' := by
  have hd : Lies d lay2 w' := hl.inr.turned h.turned (fun k hk q => hl.apart k q hk)
  refine ⟨h.lies.both hd (fun b hb q => ?_), h.turned.mono (fun b hb _ => owns_sum.2 (.inl hb)), fun k hk => ?_⟩
  · rcases h.own b hb with r | r
    · exact hl.apart b r q
    · have := hl.inr.owns_lt q; omega
  · rcases owns_sum.1 hk with q | q
    · rcases h.own k q with r | r
      · exact .inl (owns_sum.2 (.inl r))
      · exact .inr r
    · exact .inl (owns_sum.2 (.inr q))
theorem GStep.right (hl : Lies (Sum.elim d c) (Sum.elim lay2 lay) w) (h : GStep c lay w c' lay' w') : GStep (Sum.elim d c) (Sum.elim lay2 lay) w (Sum.elim d c') (Sum.elim lay2 lay') w' := by
  have hd : Lies d lay2 w' := hl.inl.turned h.turned (fun k hk q => hl.apart k hk q)
  refine ⟨hd.both h.lies (fun b hb q => ?_), h.turned.mono (fun b hb _ => owns_sum.2 (.inr hb)), fun k hk => ?_⟩
  · rcases h.own b q with r | r
    · exact hl.apart b hb r
    · have := hl.inl.owns_lt hb; omega
  · rcases owns_sum.1 hk with q | q
    · exact .inl (owns_sum.2 (.inl q))
    · rcases h.own k q with r | r
      · exact .inl (owns_sum.2 (.inr r))
      · exact .inr r
end
/-- a map of numbers to pointers: the keys, and when they came -/
structure PMap where
  es : List (Int × Nat)
  clk : Nat
def PMap.keys (m : PMap) : List Int := m.es.map (·.1)
structure PMap.Ok (m : PMap) : Prop where
  keys : m.keys.Nodup
  births : (m.es.map (·.2)).Nodup
  below : ∀ e ∈ m.es, e.2 < m.clk
def ptrOf (b : Nat) : Value := .pointer (some ⟨b, 0, none⟩)
def PMap.gm (m : PMap) (lay : Int → Nat) : GMap := ⟨m.es.map fun e => (.int e.1, ptrOf (lay e.1), e.2), m.clk⟩
def PMap.add (m : PMap) (i : Int) : PMap := ⟨m.es ++ [(i, m.clk)], m.clk + 1⟩
def PMap.del (m : PMap) (i : Int) : PMap := ⟨m.es.filter fun e => decide (e.1 ≠ i), m.clk⟩
section
variable {m : PMap} {lay : Int → Nat}
theorem PMap.of_gm (m : PMap) (lay : Int → Nat) : (m.gm lay).Of (.int .i64) := fun e he => by
  simp only [PMap.gm, List.mem_map] at he
  obtain ⟨x, _, rfl⟩ := he
  rfl
theorem PMap.good_gm (h : m.Ok) (lay : Int → Nat) : (m.gm lay).Good := by
  refine ⟨?_, ?_, ?_⟩
  · have : (kb (m.gm lay).es).map (·.1) = m.keys.map Key.int := by simp [kb, PMap.gm, PMap.keys, List.map_map, Function.comp_def]
    rw [this]
    exact List.Pairwise.map Key.int (fun a b hab e => hab (by cases e; rfl)) h.keys
  · have : (kb (m.gm lay).es).map (·.2) = m.es.map (·.2) := by simp [kb, PMap.gm, List.map_map, Function.comp_def]
    rw [this]; exact h.births
  · intro e he
    simp only [kb, PMap.gm, List.map_map, List.mem_map, Function.comp_apply] at he
    obtain ⟨x, hx, rfl⟩ := he
    exact h.below x hx
theorem getE_map (lay : Int → Nat) (i : Int) : ∀ l : List (Int × Nat), getE (.int i) (l.map fun e => (Key.int e.1, ptrOf (lay e.1), e.2)) = if i ∈ l.map (·.1) then some (ptrOf (lay i)) else none
  | [] => by simp [getE]
  | e :: l => by
    rw [List.map_cons, getE, getE_map lay i l]
    by_cases h : e.1 = i
    · simp [h]
    · rw [if_neg (by intro q; cases q; exact h rfl)]
      have hm : (i ∈ List.map (fun x => x.1) (e :: l)) ↔ i ∈ List.map (fun x => x.1) l := by
        rw [List.map_cons, List.mem_cons]
        exact ⟨fun q => q.resolve_left (fun z => h z.symm), .inr⟩
      by_cases q : i ∈ List.map (fun x => x.1) l
      · rw [if_pos q, if_pos (hm.2 q)]
      · rw [if_neg q, if_neg (fun z => q (hm.1 z))]
theorem PMap.get_gm (m : PMap) (lay : Int → Nat) (i : Int) : (m.gm lay).get (.int i) = if i ∈ m.keys then some (ptrOf (lay i)) else none := getE_map lay i m.es
theorem PMap.get_some {i : Int} (h : i ∈ m.keys) : (m.gm lay).get (.int i) = some (ptrOf (lay i)) := by rw [PMap.get_gm, if_pos h]
theorem PMap.get_none {i : Int} (h : i ∉ m.keys) : (m.gm lay).get (.int i) = none := by rw [PMap.get_gm, if_neg h]
theorem setE_map {lay lay' : Int → Nat} {i : Int} {b c : Nat} : ∀ {l : List (Int × Nat)}, i ∉ l.map (·.1) → (∀ j ∈ l.map (·.1), lay' j = lay j) → lay' i = b →
    setE (.int i) (ptrOf b) c (l.map fun e => (Key.int e.1, ptrOf (lay e.1), e.2)) = (l ++ [(i, c)]).map fun e => (Key.int e.1, ptrOf (lay' e.1), e.2)
  | [], _, _, hb => by simp [setE, hb]
  | e :: l, h, hl, hb => by
    simp only [List.map_cons, List.mem_cons, not_or] at h
    rw [List.map_cons, setE, if_neg (by simpa using Ne.symm h.1), setE_map (lay' := lay') (by simpa using h.2) (fun j hj => hl j (by simp at hj ⊢; exact .inr hj)) hb]
    simp [hl e.1 (by simp)]
theorem PMap.put_gm {lay' : Int → Nat} {i : Int} {b : Nat} (h : i ∉ m.keys) (hl : ∀ j ∈ m.keys, lay' j = lay j) (hb : lay' i = b) : (m.gm lay).put (.int i) (ptrOf b) = (m.add i).gm lay' := by
  unfold GMap.put
  rw [PMap.get_none h]
  simp only [Option.isSome_none, Bool.false_eq_true, if_false]
  unfold PMap.gm
  rw [setE_map h hl hb]
  rfl
theorem PMap.del_gm (h : m.Ok) (i : Int) : (m.gm lay).del (.int i) = (m.del i).gm lay := by
  have hk : ((m.gm lay).es.map (·.1)).Nodup := by have := (PMap.good_gm h lay).keys; simpa [kb, List.map_map, Function.comp_def] using this
  unfold GMap.del
  rw [delE_filter hk]
  unfold PMap.gm PMap.del
  simp only [List.filter_map, GMap.mk.injEq, and_true]
  congr 1
  apply List.filter_congr
  intro x _
  simp
theorem PMap.keys_add (m : PMap) (i : Int) : (m.add i).keys = m.keys ++ [i] := by simp [PMap.keys, PMap.add]
theorem PMap.mem_add {i j : Int} : j ∈ (m.add i).keys ↔ j ∈ m.keys ∨ j = i := by rw [PMap.keys_add]; simp
theorem PMap.mem_del {i j : Int} : j ∈ (m.del i).keys ↔ j ∈ m.keys ∧ j ≠ i := by
  simp only [PMap.keys, PMap.del, List.mem_map, List.mem_filter, decide_eq_true_eq]
  constructor
  · rintro ⟨x, ⟨h1, h2⟩, rfl⟩; exact ⟨⟨x, h1, rfl⟩, h2⟩
  · rintro ⟨⟨x, h1, rfl⟩, h2⟩; exact ⟨x, ⟨h1, h2⟩, rfl⟩
theorem PMap.Ok.add (h : m.Ok) {i : Int} (hi : i ∉ m.keys) : (m.add i).Ok := by
  refine ⟨?_, ?_, ?_⟩
  · rw [PMap.keys_add, List.nodup_append]
    refine ⟨h.keys, by simp, fun a ha b hb e => ?_⟩
    simp only [List.mem_singleton] at hb
    exact hi (by rw [← hb, ← e]; exact ha)
  · show ((m.es ++ [(i, m.clk)]).map (·.2)).Nodup
    rw [List.map_append, List.nodup_append]
    refine ⟨h.births, by simp, fun a ha b hb e => ?_⟩
    simp only [List.map_cons, List.map_nil, List.mem_singleton] at hb
    obtain ⟨x, hx, rfl⟩ := List.mem_map.1 ha
    have := h.below x hx
    omega
  · intro e he
    have he : e ∈ m.es ++ [(i, m.clk)] := he
    rcases List.mem_append.1 he with q | q
    · have := h.below e q; show e.2 < m.clk + 1; omega
    · simp only [List.mem_singleton] at q; subst q; show m.clk < m.clk + 1; omega
theorem PMap.Ok.del (h : m.Ok) (i : Int) : (m.del i).Ok :=
  ⟨h.keys.sublist (List.filter_sublist.map _), h.births.sublist (List.filter_sublist.map _), fun e he => h.below e (List.mem_filter.1 he |>.1)⟩
theorem PMap.mem_gm {x : Key × Value × Nat} (hx : x ∈ (m.gm lay).es) : ∃ i, i ∈ m.keys ∧ x.1 = .int i ∧ x.2.1 = ptrOf (lay i) ∧ (i, x.2.2) ∈ m.es := by
  simp only [PMap.gm, List.mem_map] at hx
  obtain ⟨e, he, rfl⟩ := hx
  exact ⟨e.1, List.mem_map_of_mem he, rfl, rfl, he⟩
theorem PMap.gm_relay {lay' : Int → Nat} (h : ∀ i ∈ m.keys, lay' i = lay i) : m.gm lay' = m.gm lay := by
  unfold PMap.gm
  congr 1
  apply List.map_congr_left
  intro e he
  rw [h e.1 (List.mem_map_of_mem he)]
end
end Go.Proofs.YtbecmcjibpamoaaGreatDoor
