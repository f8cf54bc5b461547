/- Texts of one proof, packed: WgA, WgB, WgC, WgD, WgE -/
import Derived.Test.YtomjjedgmnkciaaGreatDoorFsB
import Derived.IntWalk
set_option linter.unusedVariables false
set_option linter.unusedSimpArgs false
set_option linter.deprecated false
set_option linter.unnecessarySimpa false
/- Steps of objects that lie by their names; parts beside one another; maps of pointers. No program's text. -/
namespace Go.Proofs.YtomjjedgmnkciaaGreatDoor
open Go.RowKit
set_option linter.unusedVariables false
set_option linter.unusedSimpArgs false
set_option linter.unnecessarySimpa false

/-- what a step leaves: other objects, and nothing else is touched -/
structure GStep {I I' : Type} (c : I → Option Obj) (lay : I → Nat) (w : World) (c' : I' → Option Obj) (lay' : I' → Nat) (w' : World) : Prop where
  lies : Lies c' lay' w'
  turned : Turned (Owns c lay) w w'
  own : ∀ k, Owns c' lay' k → Owns c lay k ∨ w.heap.size ≤ k
section
variable {I I' I'' : Type} {c : I → Option Obj} {lay : I → Nat} {w w' w'' : World} {c' : I' → Option Obj} {lay' : I' → Nat} {c'' : I'' → Option Obj} {lay'' : I'' → Nat}
theorem GStep.refl (h : Lies c lay w) : GStep c lay w c lay w := ⟨h, Turned.refl _ _, fun _ hk => .inl hk⟩
theorem GStep.trans (h : GStep c lay w c' lay' w') (k : GStep c' lay' w' c'' lay'' w'') : GStep c lay w c'' lay'' w'' :=
  ⟨k.lies, h.turned.trans k.turned (fun b hb hlt => (h.own b hb).resolve_right (by omega)), fun b hb => by
    rcases k.own b hb with q | q
    · exact h.own b q
    · exact .inr (Nat.le_trans h.turned.size q)⟩
theorem GStep.alloc (h : GStep c lay w c' lay' w') (o : Obj) : GStep c lay w c' lay' (w'.alloc o) := ⟨h.lies.alloc o, h.turned.alloc o, h.own⟩
theorem GStep.drewN (h : GStep c lay w c' lay' w') (n : Nat) : GStep c lay w c' lay' (w'.drewN n) := ⟨h.lies.drewN n, h.turned.drewN n, h.own⟩
theorem GStep.drew (h : GStep c lay w c' lay' w') : GStep c lay w c' lay' w'.drew := ⟨h.lies.drew, h.turned.drew, h.own⟩
theorem GStep.below (h : GStep c lay w c' lay' w') (hb : Below w'.heap.size w' w'') : GStep c lay w c' lay' w'' :=
  ⟨h.lies.kept fun i hi => hb.block _ (h.lies.owns_lt ⟨i, hi, rfl⟩),
   h.turned.trans (Turned.of_below hb : Turned (fun _ => False) w' w'') (fun _ q => q.elim), h.own⟩
/-- a store to a block that is new and no object's -/
theorem GStep.setnew (h : GStep c lay w c' lay' w') (a : Addr) (v : Value) (hn : w.heap.size ≤ a.block) (ho : ¬ Owns c' lay' a.block) : GStep c lay w c' lay' (w'.setCell a v) :=
  ⟨h.lies.kept fun i hi => Below.heap_setCell _ _ _ _ (fun e => ho ⟨i, hi, e⟩), h.turned.set a v (fun q => by omega), h.own⟩
theorem GStep.set [DecidableEq I'] {c3 : I' → Option Obj} (h : GStep c lay w c' lay' w') {i : I'} {cs : Array Value} {ty : TypeId} {fz : Nat × Nat} (hc : c' i = some (.cells cs ty fz)) (k : Nat) (v : Value) (hc' : ∀ j, c3 j = if j = i then some (.cells (cs.setIfInBounds k v) ty fz) else c' j) :
    GStep c lay w c3 lay' (w'.setCell ⟨lay' i, k, none⟩ v) := by
  have hown : Owns c' lay' (lay' i) := ⟨i, by rw [hc]; simp, rfl⟩
  refine ⟨h.lies.set hc k v hc', h.turned.set _ _ (fun hlt => (h.own _ hown).resolve_right (by simpa using hlt)), fun b hb => ?_⟩
  obtain ⟨j, hj, rfl⟩ := hb
  refine h.own _ ⟨j, fun e => hj ?_, rfl⟩
  rw [hc']
  by_cases q : j = i
  · rw [q, hc] at e; cases e
  · rw [if_neg q, e]
theorem GStep.put [DecidableEq I'] {c3 : I' → Option Obj} (h : GStep c lay w c' lay' w') {i : I'} {o o' : Obj} (hc : c' i = some o) (hc' : ∀ j, c3 j = if j = i then some o' else c' j) :
    GStep c lay w c3 lay' { w' with heap := w'.heap.setIfInBounds (lay' i) o' } := by
  have hown : Owns c' lay' (lay' i) := ⟨i, by rw [hc]; simp, rfl⟩
  refine ⟨h.lies.put hc hc', h.turned.put _ _ (fun hlt => (h.own _ hown).resolve_right (by omega)), fun b hb => ?_⟩
  obtain ⟨j, hj, rfl⟩ := hb
  refine h.own _ ⟨j, fun e => hj ?_, rfl⟩
  rw [hc']
  by_cases q : j = i
  · rw [q, hc] at e; cases e
  · rw [if_neg q, e]
theorem GStep.new [DecidableEq I'] {c3 : I' → Option Obj} {lay3 : I' → Nat} (h : GStep c lay w c' lay' w') (i : I') (o : Obj) (hc' : ∀ j, c3 j = if j = i then some o else c' j) (hl : ∀ j, lay3 j = if j = i then w'.heap.size else lay' j) :
    GStep c lay w c3 lay3 (w'.alloc o) := by
  refine ⟨h.lies.new i o hc' hl, h.turned.alloc o, fun b hb => ?_⟩
  obtain ⟨j, hj, rfl⟩ := hb
  by_cases q : j = i
  · right; rw [hl, if_pos q]; exact h.turned.size
  · rw [hl, if_neg q]
    exact h.own _ ⟨j, fun e => hj (by rw [hc', if_neg q]; exact e), rfl⟩
/-- objects are forgotten, and told in other words -/
theorem GStep.less {c3 : I' → Option Obj} (h : GStep c lay w c' lay' w') (hc' : ∀ j o, c3 j = some o → c' j = some o) : GStep c lay w c3 lay' w' :=
  ⟨h.lies.less hc', h.turned, fun b ⟨j, hj, e⟩ => h.own b ⟨j, (by
    intro q
    cases h3 : c3 j with
    | none => exact hj h3
    | some o => have := hc' j o h3; rw [q] at this; cases this), e⟩⟩
theorem GStep.congr {c3 : I' → Option Obj} (h : GStep c lay w c' lay' w') (hc' : ∀ j, c3 j = c' j) : GStep c lay w c3 lay' w' := by
  obtain rfl : c3 = c' := funext hc'
  exact h
/-- the places of what is not there do not matter -/
theorem Lies.relay {lay2 : I → Nat} (h : Lies c lay w) (hl : ∀ i, c i ≠ none → lay2 i = lay i) : Lies c lay2 w :=
  ⟨fun i o ho => by rw [hl i (by rw [ho]; simp)]; exact h.at_ i o ho, fun i j hi hj e => h.inj i j hi hj (by rw [← hl i hi, ← hl j hj]; exact e)⟩
theorem GStep.relay {lay2 : I' → Nat} (h : GStep c lay w c' lay' w') (hl : ∀ i, c' i ≠ none → lay2 i = lay' i) : GStep c lay w c' lay2 w' :=
  ⟨h.lies.relay hl, h.turned, fun b ⟨j, hj, e⟩ => h.own b ⟨j, hj, by rw [← hl j hj]; exact e⟩⟩
theorem GStep.below_all {n : Nat} {w0 : World} (h : GStep c lay w c' lay' w') (hb : Below n w0 w) (hl : ∀ k, Owns c lay k → n ≤ k) (hn : n ≤ w0.heap.size) : Below n w0 w' :=
  ⟨h.turned.os.trans hb.os, h.turned.tape.trans hb.tape, h.turned.output.trans hb.output, Nat.le_trans hb.size h.turned.size, fun k hk =>
    (h.turned.block k (Nat.lt_of_lt_of_le hk (Nat.le_trans hn hb.size)) (fun q => by have := hl k q; omega)).trans (hb.block k hk)⟩
end
section
variable {I J I' : Type} {c : I → Option Obj} {d : J → Option Obj} {lay : I → Nat} {lay2 : J → Nat} {w w' : World} {c' : I' → Option Obj} {lay' : I' → Nat}
theorem Lies.inl (h : Lies (Sum.elim c d) (Sum.elim lay lay2) w) : Lies c lay w :=
  ⟨fun i o ho => h.at_ (.inl i) o ho, fun i j hi hj e => by have := h.inj (.inl i) (.inl j) hi hj e; cases this; rfl⟩
theorem Lies.inr (h : Lies (Sum.elim c d) (Sum.elim lay lay2) w) : Lies d lay2 w :=
  ⟨fun i o ho => h.at_ (.inr i) o ho, fun i j hi hj e => by have := h.inj (.inr i) (.inr j) hi hj e; cases this; rfl⟩
theorem Lies.apart (h : Lies (Sum.elim c d) (Sum.elim lay lay2) w) : ∀ k, Owns c lay k → ¬ Owns d lay2 k := by
  rintro k ⟨i, hi, rfl⟩ ⟨j, hj, e⟩
  have := h.inj (.inr j) (.inl i) hj hi e
  cases this
theorem Lies.both (h : Lies c lay w) (k : Lies d lay2 w) (ha : ∀ b, Owns c lay b → ¬ Owns d lay2 b) : Lies (Sum.elim c d) (Sum.elim lay lay2) w := by
  refine ⟨fun i o ho => ?_, fun i j hi hj e => ?_⟩
  · cases i with
    | inl i => exact h.at_ i o ho
    | inr i => exact k.at_ i o ho
  · cases i with
    | inl i => cases j with
      | inl j => rw [h.inj i j hi hj e]
      | inr j => exact absurd ⟨j, hj, e.symm⟩ (ha _ ⟨i, hi, rfl⟩)
    | inr i => cases j with
      | inl j => exact absurd ⟨i, hi, e⟩ (ha _ ⟨j, hj, rfl⟩)
      | inr j => rw [k.inj i j hi hj e]
theorem owns_sum {k : Nat} : Owns (Sum.elim c d) (Sum.elim lay lay2) k ↔ Owns c lay k ∨ Owns d lay2 k := by
  constructor
  · rintro ⟨i | i, hi, e⟩
    · exact .inl ⟨i, hi, e⟩
    · exact .inr ⟨i, hi, e⟩
  · rintro (⟨i, hi, e⟩ | ⟨i, hi, e⟩)
    · exact ⟨.inl i, hi, e⟩
    · exact ⟨.inr i, hi, e⟩
/-- a step of the one part leaves the other one -/
theorem GStep.left (hl : Lies (Sum.elim c d) (Sum.elim lay lay2) w) (h : GStep c lay w c' lay' w') : GStep (Sum.elim c d) (Sum.elim lay lay2) w (Sum.elim c' d) (Sum.elim lay' lay2) w' := by
  have hd : Lies d lay2 w' := hl.inr.turned h.turned (fun k hk q => hl.apart k q hk)
  refine ⟨h.lies.both hd (fun b hb q => ?_), h.turned.mono (fun b hb _ => owns_sum.2 (.inl hb)), fun k hk => ?_⟩
  · rcases h.own b hb with r | r
    · exact hl.apart b r q
    · have := hl.inr.owns_lt q; omega
  · rcases owns_sum.1 hk with q | q
    · rcases h.own k q with r | r
      · exact .inl (owns_sum.2 (.inl r))
      · exact .inr r
    · exact .inl (owns_sum.2 (.inr q))
theorem GStep.right (hl : Lies (Sum.elim d c) (Sum.elim lay2 lay) w) (h : GStep c lay w c' lay' w') : GStep (Sum.elim d c) (Sum.elim lay2 lay) w (Sum.elim d c') (Sum.elim lay2 lay') w' := by
  have hd : Lies d lay2 w' := hl.inl.turned h.turned (fun k hk q => hl.apart k hk q)
  refine ⟨hd.both h.lies (fun b hb q => ?_), h.turned.mono (fun b hb _ => owns_sum.2 (.inr hb)), fun k hk => ?_⟩
  · rcases h.own b q with r | r
    · exact hl.apart b hb r
    · have := hl.inl.owns_lt hb; omega
  · rcases owns_sum.1 hk with q | q
    · exact .inl (owns_sum.2 (.inl q))
    · rcases h.own k q with r | r
      · exact .inl (owns_sum.2 (.inr r))
      · exact .inr r
end
/-- a map of numbers to pointers: the keys, and when they came -/
structure PMap where
  es : List (Int × Nat)
  clk : Nat
def PMap.keys (m : PMap) : List Int := m.es.map (·.1)
structure PMap.Ok (m : PMap) : Prop where
  keys : m.keys.Nodup
  births : (m.es.map (·.2)).Nodup
  below : ∀ e ∈ m.es, e.2 < m.clk
def ptrOf (b : Nat) : Value := .pointer (some ⟨b, 0, none⟩)
def PMap.gm (m : PMap) (lay : Int → Nat) : GMap := ⟨m.es.map fun e => (.int e.1, ptrOf (lay e.1), e.2), m.clk⟩
def PMap.add (m : PMap) (i : Int) : PMap := ⟨m.es ++ [(i, m.clk)], m.clk + 1⟩
def PMap.del (m : PMap) (i : Int) : PMap := ⟨m.es.filter fun e => decide (e.1 ≠ i), m.clk⟩
section
variable {m : PMap} {lay : Int → Nat}
theorem PMap.of_gm (m : PMap) (lay : Int → Nat) : (m.gm lay).Of (.int .i64) := fun e he => by
  simp only [PMap.gm, List.mem_map] at he
  obtain ⟨x, _, rfl⟩ := he
  rfl
theorem PMap.good_gm (h : m.Ok) (lay : Int → Nat) : (m.gm lay).Good := by
  refine ⟨?_, ?_, ?_⟩
  · have : (kb (m.gm lay).es).map (·.1) = m.keys.map Key.int := by simp [kb, PMap.gm, PMap.keys, List.map_map, Function.comp_def]
    rw [this]
    exact List.Pairwise.map Key.int (fun a b hab e => hab (by cases e; rfl)) h.keys
  · have : (kb (m.gm lay).es).map (·.2) = m.es.map (·.2) := by simp [kb, PMap.gm, List.map_map, Function.comp_def]
    rw [this]; exact h.births
  · intro e he
    simp only [kb, PMap.gm, List.map_map, List.mem_map, Function.comp_apply] at he
    obtain ⟨x, hx, rfl⟩ := he
    exact h.below x hx
theorem getE_map (lay : Int → Nat) (i : Int) : ∀ l : List (Int × Nat), getE (.int i) (l.map fun e => (Key.int e.1, ptrOf (lay e.1), e.2)) = if i ∈ l.map (·.1) then some (ptrOf (lay i)) else none
  | [] => by simp [getE]
  | e :: l => by
    rw [List.map_cons, getE, getE_map lay i l]
    by_cases h : e.1 = i
    · simp [h]
    · rw [if_neg (by intro q; cases q; exact h rfl)]
      have hm : (i ∈ List.map (fun x => x.1) (e :: l)) ↔ i ∈ List.map (fun x => x.1) l := by
        rw [List.map_cons, List.mem_cons]
        exact ⟨fun q => q.resolve_left (fun z => h z.symm), .inr⟩
      by_cases q : i ∈ List.map (fun x => x.1) l
      · rw [if_pos q, if_pos (hm.2 q)]
      · rw [if_neg q, if_neg (fun z => q (hm.1 z))]
theorem PMap.get_gm (m : PMap) (lay : Int → Nat) (i : Int) : (m.gm lay).get (.int i) = if i ∈ m.keys then some (ptrOf (lay i)) else none := getE_map lay i m.es
theorem PMap.get_some {i : Int} (h : i ∈ m.keys) : (m.gm lay).get (.int i) = some (ptrOf (lay i)) := by rw [PMap.get_gm, if_pos h]
theorem PMap.get_none {i : Int} (h : i ∉ m.keys) : (m.gm lay).get (.int i) = none := by rw [PMap.get_gm, if_neg h]
theorem setE_map {lay lay' : Int → Nat} {i : Int} {b c : Nat} : ∀ {l : List (Int × Nat)}, i ∉ l.map (·.1) → (∀ j ∈ l.map (·.1), lay' j = lay j) → lay' i = b →
    setE (.int i) (ptrOf b) c (l.map fun e => (Key.int e.1, ptrOf (lay e.1), e.2)) = (l ++ [(i, c)]).map fun e => (Key.int e.1, ptrOf (lay' e.1), e.2)
  | [], _, _, hb => by simp [setE, hb]
  | e :: l, h, hl, hb => by
    simp only [List.map_cons, List.mem_cons, not_or] at h
    rw [List.map_cons, setE, if_neg (by simpa using Ne.symm h.1), setE_map (lay' := lay') (by simpa using h.2) (fun j hj => hl j (by simp at hj ⊢; exact .inr hj)) hb]
    simp [hl e.1 (by simp)]
theorem PMap.put_gm {lay' : Int → Nat} {i : Int} {b : Nat} (h : i ∉ m.keys) (hl : ∀ j ∈ m.keys, lay' j = lay j) (hb : lay' i = b) : (m.gm lay).put (.int i) (ptrOf b) = (m.add i).gm lay' := by
  unfold GMap.put
  rw [PMap.get_none h]
  simp only [Option.isSome_none, Bool.false_eq_true, if_false]
  unfold PMap.gm
  rw [setE_map h hl hb]
  rfl
theorem PMap.del_gm (h : m.Ok) (i : Int) : (m.gm lay).del (.int i) = (m.del i).gm lay := by
  have hk : ((m.gm lay).es.map (·.1)).Nodup := by have := (PMap.good_gm h lay).keys; simpa [kb, List.map_map, Function.comp_def] using this
  unfold GMap.del
  rw [delE_filter hk]
  unfold PMap.gm PMap.del
  simp only [List.filter_map, GMap.mk.injEq, and_true]
  congr 1
  apply List.filter_congr
  intro x _
  simp
theorem PMap.keys_add (m : PMap) (i : Int) : (m.add i).keys = m.keys ++ [i] := by simp [PMap.keys, PMap.add]
theorem PMap.mem_add {i j : Int} : j ∈ (m.add i).keys ↔ j ∈ m.keys ∨ j = i := by rw [PMap.keys_add]; simp
theorem PMap.mem_del {i j : Int} : j ∈ (m.del i).keys ↔ j ∈ m.keys ∧ j ≠ i := by
  simp only [PMap.keys, PMap.del, List.mem_map, List.mem_filter, decide_eq_true_eq]
  constructor
  · rintro ⟨x, ⟨h1, h2⟩, rfl⟩; exact ⟨⟨x, h1, rfl⟩, h2⟩
  · rintro ⟨⟨x, h1, rfl⟩, h2⟩; exact ⟨x, ⟨h1, h2⟩, rfl⟩
theorem PMap.Ok.add (h : m.Ok) {i : Int} (hi : i ∉ m.keys) : (m.add i).Ok := by
  refine ⟨?_, ?_, ?_⟩
  · rw [PMap.keys_add, List.nodup_append]
    refine ⟨h.keys, by simp, fun a ha b hb e => ?_⟩
    simp only [List.mem_singleton] at hb
    exact hi (by rw [← hb, ← e]; exact ha)
  · show ((m.es ++ [(i, m.clk)]).map (·.2)).Nodup
    rw [List.map_append, List.nodup_append]
    refine ⟨h.births, by simp, fun a ha b hb e => ?_⟩
    simp only [List.map_cons, List.map_nil, List.mem_singleton] at hb
    obtain ⟨x, hx, rfl⟩ := List.mem_map.1 ha
    have := h.below x hx
    omega
  · intro e he
    have he : e ∈ m.es ++ [(i, m.clk)] := he
    rcases List.mem_append.1 he with q | q
    · have := h.below e q; show e.2 < m.clk + 1; omega
    · simp only [List.mem_singleton] at q; subst q; show m.clk < m.clk + 1; omega
theorem PMap.Ok.del (h : m.Ok) (i : Int) : (m.del i).Ok :=
  ⟨h.keys.sublist (List.filter_sublist.map _), h.births.sublist (List.filter_sublist.map _), fun e he => h.below e (List.mem_filter.1 he |>.1)⟩
theorem PMap.mem_gm {x : Key × Value × Nat} (hx : x ∈ (m.gm lay).es) : ∃ i, i ∈ m.keys ∧ x.1 = .int i ∧ x.2.1 = ptrOf (lay i) ∧ (i, x.2.2) ∈ m.es := by
  simp only [PMap.gm, List.mem_map] at hx
  obtain ⟨e, he, rfl⟩ := hx
  exact ⟨e.1, List.mem_map_of_mem he, rfl, rfl, he⟩
theorem PMap.gm_relay {lay' : Int → Nat} (h : ∀ i ∈ m.keys, lay' i = lay i) : m.gm lay' = m.gm lay := by
  unfold PMap.gm
  congr 1
  apply List.map_congr_left
  intro e he
  rw [h e.1 (List.mem_map_of_mem he)]
end
end Go.Proofs.YtomjjedgmnkciaaGreatDoor
/- In this seat there is no process table: what the next texts import. -/
/- fds.Set and what is open: numbers by slots; share, Fork, Close, End. -/
namespace Go.Proofs.YtomjjedgmnkciaaGreatDoor
open Go.RowKit IntWalk
set_option linter.unusedVariables false
set_option linter.unusedSimpArgs false
set_option linter.unnecessarySimpa false

inductive XId where
  | X
  | O (k : Nat)
  | Z (i : Int)
  deriving DecidableEq
/-- files: the tree, how many are open, the sinks; what is open, and how many numbers it has; sets, by their slots -/
structure Fx where
  fs : Nat
  many : Int
  sv : Value
  op : Nat → Option (Value × Int)
  zs : Int → Option (List (Option Nat))
def slotV (lay : XId → Nat) : Option Nat → Value
  | none => .pointer none
  | some k => ptrOf (lay (.O k))
def setV (lay : XId → Nat) (l : List (Option Nat)) : List Value := ptrOf (lay .X) :: l.map (slotV lay)
def Fx.obj (s : Fx) (lay : XId → Nat) : XId → Option Obj
  | .X => some (.cells #[ptrOf s.fs, .int .i64 s.many, s.sv] 72 (0, 0))
  | .O k => match s.op k with
    | some (v, n) => some (.cells #[v, .int .i64 n] 106 (0, 0))
    | none => none
  | .Z i => match s.zs i with
    | some l => some (.cells (setV lay l).toArray 64 (0, 0))
    | none => none
/-- sets have sixteen slots, and what stands in them is open -/
structure Fx.Ok (s : Fx) : Prop where
  len : ∀ i l, s.zs i = some l → l.length = 16
  live : ∀ i l k, s.zs i = some l → some k ∈ l → ∃ v n, s.op k = some (v, n)
structure FxIs (s : Fx) (lay : XId → Nat) (w : World) : Prop where
  lies : Lies (s.obj lay) lay w
  ok : s.Ok
structure XStep (s : Fx) (lay : XId → Nat) (w : World) (s' : Fx) (lay' : XId → Nat) (w' : World) : Prop where
  g : GStep (s.obj lay) lay w (s'.obj lay') lay' w'
  ok : s'.Ok
  top : lay' .X = lay .X
theorem XStep.is {s lay w s' lay' w'} (h : XStep s lay w s' lay' w') : FxIs s' lay' w' := ⟨h.g.lies, h.ok⟩
theorem XStep.refl {s lay w} (h : FxIs s lay w) : XStep s lay w s lay w := ⟨GStep.refl h.lies, h.ok, rfl⟩
theorem XStep.trans {s lay w s' lay' w' s'' lay'' w''} (h : XStep s lay w s' lay' w') (k : XStep s' lay' w' s'' lay'' w'') : XStep s lay w s'' lay'' w'' := ⟨h.g.trans k.g, k.ok, k.top.trans h.top⟩
theorem FxIs.below {s lay w w'} (h : FxIs s lay w) (hb : Below w.heap.size w w') : FxIs s lay w' := ⟨((GStep.refl h.lies).below hb).lies, h.ok⟩
theorem XStep.below {s lay w s' lay' w' w''} (h : XStep s lay w s' lay' w') (hb : Below w'.heap.size w' w'') : XStep s lay w s' lay' w'' := ⟨h.g.below hb, h.ok, h.top⟩
theorem XStep.drewN {s lay w s' lay' w'} (h : XStep s lay w s' lay' w') (n : Nat) : XStep s lay w s' lay' (w'.drewN n) := ⟨h.g.drewN n, h.ok, h.top⟩
section
variable {s : Fx} {lay : XId → Nat} {w : World}
theorem FxIs.x0 (h : FxIs s lay w) : w.cell? ⟨lay .X, 0, none⟩ = some (ptrOf s.fs) := h.lies.cell (i := .X) rfl rfl
theorem FxIs.x1 (h : FxIs s lay w) : w.cell? ⟨lay .X, 1, none⟩ = some (.int .i64 s.many) := h.lies.cell (i := .X) rfl rfl
theorem FxIs.x2 (h : FxIs s lay w) : w.cell? ⟨lay .X, 2, none⟩ = some s.sv := h.lies.cell (i := .X) rfl rfl
theorem FxIs.xf (h : FxIs s lay w) (k : Nat) : w.frozen? ⟨lay .X, k, none⟩ = false := h.lies.fz (i := .X) rfl k
theorem Fx.obj_o {k : Nat} {v : Value} {n : Int} (hk : s.op k = some (v, n)) : s.obj lay (.O k) = some (.cells #[v, .int .i64 n] 106 (0, 0)) := by simp [Fx.obj, hk]
theorem Fx.obj_z {i : Int} {l : List (Option Nat)} (hi : s.zs i = some l) : s.obj lay (.Z i) = some (.cells (setV lay l).toArray 64 (0, 0)) := by simp [Fx.obj, hi]
theorem FxIs.o0 (h : FxIs s lay w) {k : Nat} {v : Value} {n : Int} (hk : s.op k = some (v, n)) : w.cell? ⟨lay (.O k), 0, none⟩ = some v := h.lies.cell (Fx.obj_o hk) rfl
theorem FxIs.o1 (h : FxIs s lay w) {k : Nat} {v : Value} {n : Int} (hk : s.op k = some (v, n)) : w.cell? ⟨lay (.O k), 1, none⟩ = some (.int .i64 n) := h.lies.cell (Fx.obj_o hk) rfl
theorem FxIs.of (h : FxIs s lay w) {k : Nat} {v : Value} {n : Int} (hk : s.op k = some (v, n)) (j : Nat) : w.frozen? ⟨lay (.O k), j, none⟩ = false := h.lies.fz (Fx.obj_o hk) j
theorem FxIs.z0 (h : FxIs s lay w) {i : Int} {l : List (Option Nat)} (hi : s.zs i = some l) : w.cell? ⟨lay (.Z i), 0, none⟩ = some (ptrOf (lay .X)) := h.lies.cell (Fx.obj_z hi) rfl
theorem FxIs.zf (h : FxIs s lay w) {i : Int} {l : List (Option Nat)} (hi : s.zs i = some l) (j : Nat) : w.frozen? ⟨lay (.Z i), j, none⟩ = false := h.lies.fz (Fx.obj_z hi) j
theorem FxIs.slot (h : FxIs s lay w) {i : Int} {l : List (Option Nat)} (hi : s.zs i = some l) {n : Nat} {o : Option Nat} (hn : l[n]? = some o) : w.cell? ⟨lay (.Z i), 1 + n, none⟩ = some (slotV lay o) :=
  h.lies.cell (Fx.obj_z hi) (by rw [List.getElem?_toArray, setV, Nat.add_comm 1 n, List.getElem?_cons_succ, List.getElem?_map, hn]; rfl)
/-- a number of sets more, what is open turned -/
def Fx.setMany (s : Fx) (n : Int) : Fx := { s with many := n }
def Fx.setOp (s : Fx) (k : Nat) (v : Value) (n : Int) : Fx := { s with op := fun j => if j = k then some (v, n) else s.op j }
def Fx.setZ (s : Fx) (i : Int) (l : List (Option Nat)) : Fx := { s with zs := fun j => if j = i then some l else s.zs j }
theorem Fx.setMany_obj (s : Fx) (lay : XId → Nat) (n : Int) (j : XId) : (s.setMany n).obj lay j = if j = .X then some (.cells #[ptrOf s.fs, .int .i64 n, s.sv] 72 (0, 0)) else s.obj lay j := by
  cases j <;> simp [Fx.obj, Fx.setMany]
theorem Fx.setOp_obj (s : Fx) (lay : XId → Nat) (k : Nat) (v : Value) (n : Int) (j : XId) : (s.setOp k v n).obj lay j = if j = .O k then some (.cells #[v, .int .i64 n] 106 (0, 0)) else s.obj lay j := by
  cases j with
  | O i => by_cases e : i = k <;> simp [Fx.obj, Fx.setOp, e]
  | _ => simp [Fx.obj, Fx.setOp]
theorem Fx.setZ_obj (s : Fx) (lay : XId → Nat) (i : Int) (l : List (Option Nat)) (j : XId) : (s.setZ i l).obj lay j = if j = .Z i then some (.cells (setV lay l).toArray 64 (0, 0)) else s.obj lay j := by
  cases j with
  | Z k => by_cases e : k = i <;> simp [Fx.obj, Fx.setZ, e]
  | _ => simp [Fx.obj, Fx.setZ]
section
variable {s0 : Fx} {lay0 : XId → Nat} {w0 : World}
theorem XStep.setMany (h : XStep s0 lay0 w0 s lay w) (n : Int) : XStep s0 lay0 w0 (s.setMany n) lay (w.setCell ⟨lay .X, 1, none⟩ (.int .i64 n)) :=
  ⟨h.g.set (i := .X) rfl 1 _ (fun j => by rw [Fx.setMany_obj]; rfl), ⟨h.ok.len, h.ok.live⟩, h.top⟩
theorem XStep.setOp (h : XStep s0 lay0 w0 s lay w) {k : Nat} {v : Value} {m : Int} (hk : s.op k = some (v, m)) (n : Int) : XStep s0 lay0 w0 (s.setOp k v n) lay (w.setCell ⟨lay (.O k), 1, none⟩ (.int .i64 n)) :=
  ⟨h.g.set (Fx.obj_o hk) 1 _ (fun j => by rw [Fx.setOp_obj]; rfl), ⟨h.ok.len, fun i l j hi hj => by
    obtain ⟨v', n', h'⟩ := h.ok.live i l j hi hj
    by_cases e : j = k
    · exact ⟨v, n, by simp [Fx.setOp, e]⟩
    · exact ⟨v', n', by simp [Fx.setOp, e, h']⟩⟩, h.top⟩
theorem XStep.setZ (h : XStep s0 lay0 w0 s lay w) {i : Int} {l : List (Option Nat)} (hi : s.zs i = some l) (n : Nat) (o : Option Nat) (hn : n < 16) (ho : ∀ k, o = some k → ∃ v m, s.op k = some (v, m)) : XStep s0 lay0 w0 (s.setZ i (l.set n o)) lay (w.setCell ⟨lay (.Z i), 1 + n, none⟩ (slotV lay o)) :=
  ⟨h.g.set (Fx.obj_z hi) (1 + n) _ (fun j => by
    rw [Fx.setZ_obj]
    have : (setV lay (l.set n o)).toArray = (setV lay l).toArray.setIfInBounds (1 + n) (slotV lay o) := by
      apply Array.ext'
      simp [setV, Nat.add_comm 1 n, List.map_set]
    rw [this]), ⟨fun j l' hj => by
      by_cases e : j = i
      · simp [Fx.setZ, e] at hj; rw [← hj, List.length_set]; exact h.ok.len i l hi
      · simp [Fx.setZ, e] at hj; exact h.ok.len j l' hj, fun j l' k hj hk => by
      by_cases e : j = i
      · simp [Fx.setZ, e] at hj
        rw [← hj] at hk
        rcases List.mem_or_eq_of_mem_set hk with q | q
        · exact h.ok.live i l k hi q
        · exact ho k q.symm
      · simp [Fx.setZ, e] at hj; exact h.ok.live j l' k hj hk⟩, h.top⟩
end
end

/-! ### calls of a set -/
theorem at_open {s lay} (i : Int) (l : List (Option Nat)) (n k : Nat) (w : World) (h : FxIs s lay w) (hi : s.zs i = some l) (hn : l[n]? = some (some k)) : Calls Tryz.prog 40 #[ptrOf (lay (.Z i)), .int .i64 n] w fun e w' => e = .returned (.tuple #[ptrOf (lay (.O k)), .int .i64 0]) ∧ w = w' := by
  have c1 := h.slot hi hn
  have hl := h.ok.len i l hi
  have hlt := (List.getElem?_eq_some_iff.1 hn).1
  have hn1 : (n : Int) < 16 := by omega
  simp only [slotV] at c1
  unfold ptrOf at *
  clear h hi hn hl
  go_enter Tryz.func40, Tryz.ntmps40
  go_wp2
  go_ret2
  exact ⟨rfl, rfl⟩
theorem at_shut {s lay} (i : Int) (l : List (Option Nat)) (n : Nat) (w : World) (h : FxIs s lay w) (hi : s.zs i = some l) (hn : l[n]? = some none) : Calls Tryz.prog 40 #[ptrOf (lay (.Z i)), .int .i64 n] w fun e w' => e = .returned (.tuple #[.pointer none, .int .i64 28]) ∧ w = w' := by
  have c1 := h.slot hi hn
  have hl := h.ok.len i l hi
  have hlt := (List.getElem?_eq_some_iff.1 hn).1
  have hn1 : (n : Int) < 16 := by omega
  simp only [slotV] at c1
  unfold ptrOf at *
  clear h hi hn hl
  go_enter Tryz.func40, Tryz.ntmps40
  go_wp2
  go_ret2
  exact ⟨rfl, rfl⟩
/-- a slot is taken by what is open already -/
theorem share_more {s lay} (i : Int) (l : List (Option Nat)) (n k : Nat) (v : Value) (c : Int) (w : World) (h : FxIs s lay w) (hi : s.zs i = some l) (hn : n < 16) (hk : s.op k = some (v, c)) (hc : 0 < c) (hc2 : c < 1000000) :
    Calls Tryz.prog 21 #[ptrOf (lay (.Z i)), .int .i64 n, ptrOf (lay (.O k))] w fun e w' => e = .returned (.tuple #[]) ∧ XStep s lay w ((s.setOp k v (c + 1)).setZ i (l.set n (some k))) lay w' := by
  have c1 := h.o1 hk
  have f1 := h.of hk 1
  have hn1 : (n : Int) < 16 := by omega
  have hz : (c == 0) = false := by simpa using (show c ≠ 0 by omega)
  have hst := ((XStep.refl h).setOp hk (c + 1)).setZ (i := i) (l := l) (by simpa [Fx.setOp] using hi) n (some k) hn (fun k' hk' => by cases hk'; exact ⟨v, c + 1, by simp [Fx.setOp]⟩)
  have f2 := h.zf hi (1 + n)
  obtain ⟨o3, ho3⟩ : ∃ o, l[n]? = some o := ⟨_, List.getElem?_eq_getElem (by rw [h.ok.len i l hi]; exact hn)⟩
  have c3 := h.slot hi ho3
  generalize slotV lay o3 = old at c3
  clear ho3
  have hne : lay (.O k) ≠ lay (.Z i) := h.lies.ne (Fx.obj_o hk) (Fx.obj_z hi) (by simp)
  simp only [slotV] at hst
  unfold ptrOf at *
  have HS := Lib.hid hst
  clear hst h hi hk
  go_enter Tryz.func21, Tryz.ntmps21
  go_wp2
  go_end0
  exact ⟨rfl, HS.out⟩
theorem XStep.newZ {s0 lay0 w0 s lay w} (h : XStep s0 lay0 w0 s lay w) {i : Int} (hi : s.zs i = none) (o : Obj) (lay' : XId → Nat) (hl : ∀ j, lay' j = if j = .Z i then w.heap.size else lay j) (ho : o = .cells (setV lay (List.replicate 16 none)).toArray 64 (0, 0)) : XStep s0 lay0 w0 (s.setZ i (List.replicate 16 none)) lay' (w.alloc o) := by
  have hx : ∀ k, lay' (.O k) = lay (.O k) := fun k => by rw [hl, if_neg (by simp)]
  have hX : lay' .X = lay .X := by rw [hl, if_neg (by simp)]
  have hsl : ∀ l, setV lay' l = setV lay l := fun l => by
    unfold setV
    rw [hX]
    congr 1
    apply List.map_congr_left
    intro a _
    cases a with
    | none => rfl
    | some k => simp only [slotV, hx]
  refine ⟨h.g.new (.Z i) o (fun j => ?_) hl, ⟨fun j l hj => ?_, fun j l k hj hk => ?_⟩, hX.trans h.top⟩
  · rw [Fx.setZ_obj]
    by_cases e : j = .Z i
    · rw [if_pos e, if_pos e, ho, hsl]
    · rw [if_neg e, if_neg e]
      cases j with
      | X => rfl
      | O k => rfl
      | Z k => simp only [Fx.obj, hsl]
  · by_cases e : j = i
    · simp [Fx.setZ, e] at hj; rw [← hj]; simp
    · simp [Fx.setZ, e] at hj; exact h.ok.len j l hj
  · by_cases e : j = i
    · simp [Fx.setZ, e] at hj; rw [← hj] at hk; simp at hk
    · simp [Fx.setZ, e] at hj; exact h.ok.live j l k hj hk
theorem newset_any {s lay} (i : Int) (lay' : XId → Nat) (w : World) (h : FxIs s lay w) (hi : s.zs i = none) (hl : ∀ j, lay' j = if j = .Z i then w.heap.size else lay j) : Calls Tryz.prog 16 #[ptrOf (lay .X)] w fun e w' =>
    e = .returned (ptrOf w.heap.size) ∧ XStep s lay w (s.setZ i (List.replicate 16 none)) lay' w' := by
  have hst := (XStep.refl h).newZ hi _ lay' hl rfl
  unfold ptrOf
  simp only [setV, List.map_replicate, slotV] at hst
  unfold ptrOf at hst
  go_enter Tryz.func16, Tryz.ntmps16
  go_wp2
  go_ret
  exact ⟨rfl, hst⟩
/-- a set forked, as far as the slot n -/
def Fx.forkS (s : Fx) (j : Int) (l : List (Option Nat)) (n : Nat) : Fx :=
  { s with op := fun k => (s.op k).map fun p => (p.1, p.2 + ((l.take n).count (some k) : Nat)), zs := fun x => if x = j then some (l.take n ++ List.replicate (16 - n) none) else s.zs x }
theorem forkS_zero (s : Fx) (j : Int) (l : List (Option Nat)) : s.forkS j l 0 = s.setZ j (List.replicate 16 none) := by
  simp [Fx.forkS, Fx.setZ]
theorem take_snoc2 {l : List (Option Nat)} {n : Nat} {o : Option Nat} (h : l[n]? = some o) : l.take (n + 1) = l.take n ++ [o] := by
  rw [List.take_add_one, h]; rfl
theorem forkS_none (s : Fx) (j : Int) {l : List (Option Nat)} {n : Nat} (hn : n < 16) (h : l[n]? = some none) : s.forkS j l (n + 1) = s.forkS j l n := by
  have e : 16 - n = (16 - (n + 1)) + 1 := by omega
  unfold Fx.forkS
  rw [take_snoc2 h, e, List.replicate_succ]
  simp
theorem forkS_some (s : Fx) (j : Int) {l : List (Option Nat)} {n k : Nat} {v : Value} {c : Int} (hn : n < 16) (h : l[n]? = some (some k)) (hk : s.op k = some (v, c)) :
    s.forkS j l (n + 1) = ((s.forkS j l n).setOp k v (c + ((l.take n).count (some k) : Nat) + 1)).setZ j ((l.take n ++ List.replicate (16 - n) none).set n (some k)) := by
  have e : 16 - n = (16 - (n + 1)) + 1 := by omega
  have hlt := (List.getElem?_eq_some_iff.1 h).1
  have hln : (l.take n).length = n := by rw [List.length_take]; omega
  unfold Fx.forkS Fx.setOp Fx.setZ
  rw [take_snoc2 h]
  simp only [Fx.mk.injEq, true_and]
  refine ⟨funext fun x => ?_, funext fun x => ?_⟩
  · by_cases q : x = k
    · subst q
      rw [if_pos rfl, hk]
      simp [List.count_append]
      omega
    · rw [if_neg q]
      have : ([some k] : List (Option Nat)).count (some x) = 0 := by
        rw [List.count_eq_zero]; simp [q]
      rw [List.count_append, this]; rfl
  · by_cases q : x = j
    · rw [if_pos q, if_pos q]
      congr 1
      rw [e, List.replicate_succ, List.set_append_right _ _ (by omega), hln, Nat.sub_self]
      simp
    · rw [if_neg q, if_neg q, if_neg q]
/-- a load, by what it reads -/
theorem wpList_load_atW {P : Program} {ops : Array Oper} {rest : List Oper} {o : Oper} {a : Act} {w : World} {Q : Exit → Act → World → Prop} (hgd : o.guard = none) (ty : TypeId) (x : Operand) (ho : o.op = .load ty x) (ad : Addr) (hx : a.eval x = .pointer (some ad)) (v : Value)
    (hl : (loadVar ty ad).run P w = .ok v w) (h : wpList P ops Q rest (a.put o.dst v) w) : wpList P ops Q (o :: rest) a w := by
  refine wpList_plain hgd fun K hK => ?_
  unfold Oper.wp
  simp only [execOp, ho, hx, Instr.loadAt, Instr.sureAddr, Sem.run_bind, Sem.run_pure, Result.andThen_ok, hl]
  exact hK _ _ h
theorem run_index_arr {P : Program} {w : World} {t e : TypeId} {n i : Nat} {cs : Array Value} {v : Value} (ht : P.underlying t = some (.array n e)) (hi : i < n) (hs : (sizeOf e).run P w = .ok 1 w) (ha : (isAgg e).run P w = .ok false w) (hc : cs[i]? = some v) :
    (Instr.index t (.agg cs) (.int .i64 i)).run P w = .ok v w := by
  have h1 : (0 : Int) ≤ i ∧ (i : Int) < n := by omega
  have ha2 : (asIntOf (Value.int IntKind.i64 ↑i)).run P w = .ok (IntKind.i64, (i : Int)) w := rfl
  simp [Instr.index, run_underlying ht, h1, hs, part, ha, hc, hi, ha2]
theorem load_slots {s lay} (i : Int) (l : List (Option Nat)) (w : World) (h : FxIs s lay w) (hi : s.zs i = some l) : (loadVar 62 ⟨lay (.Z i), 1, none⟩).run Tryz.prog w = .ok (.agg (l.map (slotV lay)).toArray) w := by
  have hl := h.ok.len i l hi
  have hml : (l.map (slotV lay)).length = 16 := by rw [List.length_map, hl]
  have hrun := run_loadCells (P := Tryz.prog) w ⟨lay (.Z i), 1, none⟩ 16 (fun j => (l.map (slotV lay)).getD j undef) (fun j hj => by
    obtain ⟨o, ho⟩ : ∃ o, l[j]? = some o := ⟨_, List.getElem?_eq_getElem (by omega)⟩
    have hget : (l.map (slotV lay)).getD j undef = slotV lay o := by
      rw [List.getD_eq_getElem?_getD, List.getElem?_map, ho]; rfl
    have hadd : Addr.add ⟨lay (.Z i), 1, none⟩ j = ⟨lay (.Z i), 1 + j, none⟩ := by cases j <;> simp [Addr.add]
    rw [hadd, hget]; exact h.slot hi ho)
  have hlist : (List.range 16).map (fun j => (l.map (slotV lay)).getD j undef) = l.map (slotV lay) := by
    apply List.ext_getElem?
    intro j
    rw [List.getElem?_map]
    by_cases e : j < 16
    · rw [List.getElem?_range e, List.getElem?_eq_getElem (show j < (l.map (slotV lay)).length by omega)]
      simp [List.getD_eq_getElem?_getD, List.getElem?_eq_getElem (show j < l.length by omega)]
    · rw [List.getElem?_eq_none (by simpa using e), List.getElem?_eq_none (by omega)]; rfl
  rw [hlist] at hrun
  have hagg : (isAgg 62).run Tryz.prog w = .ok true w := by kernel_rfl
  have hsz : (sizeOf 62).run Tryz.prog w = .ok 16 w := by kernel_rfl
  simp only [loadVar, Sem.run_bind, hagg, Result.andThen_ok, if_true, hsz, hrun, Sem.run_pure]
end Go.Proofs.YtomjjedgmnkciaaGreatDoor
/- fds.Set: Fork, Close, End. -/

namespace Go.Proofs.YtomjjedgmnkciaaGreatDoor
open Go.RowKit IntWalk
set_option linter.unusedVariables false
set_option linter.unusedSimpArgs false
set_option linter.unnecessarySimpa false

/-- what is open in slots has some numbers, not too many -/
def Fx.Counted (s : Fx) (l : List (Option Nat)) : Prop := ∀ k, some k ∈ l → ∃ v c, s.op k = some (v, c) ∧ 0 < c ∧ c < 900000
theorem forkS_op {s : Fx} {j : Int} {l : List (Option Nat)} {n k : Nat} {v : Value} {c : Int} (hk : s.op k = some (v, c)) : (s.forkS j l n).op k = some (v, c + ((l.take n).count (some k) : Nat)) := by
  simp [Fx.forkS, hk]
theorem forkS_z (s : Fx) (j : Int) (l : List (Option Nat)) (n : Nat) : (s.forkS j l n).zs j = some (l.take n ++ List.replicate (16 - n) none) := by simp [Fx.forkS]
def FkRel (s : Fx) (lay : XId → Nat) (w : World) (j : Int) (l : List (Option Nat)) (lay' : XId → Nat) (n : Nat) (W : World) : Prop := XStep s lay w (s.forkS j l n) lay' W
set_option maxRecDepth 100000 in
theorem setfork_any {s lay} (i j : Int) (l : List (Option Nat)) (lay' : XId → Nat) (w : World) (h : FxIs s lay w) (hi : s.zs i = some l) (hj : s.zs j = none) (hc : s.Counted l) (hlay : ∀ x, lay' x = if x = .Z j then w.heap.size else lay x) :
    Calls Tryz.prog 7 #[ptrOf (lay (.Z i))] w fun e w' => e = .returned (ptrOf (lay' (.Z j))) ∧ XStep s lay w (s.forkS j l 16) lay' w' := by
  have hl := h.ok.len i l hi
  have c0 := h.z0 hi
  have hij : i ≠ j := by rintro rfl; rw [hi] at hj; cases hj
  have hnew := newset_any j lay' w h hj hlay
  have hlz : lay (.Z i) = lay' (.Z i) := by rw [hlay, if_neg (by simp [hij])]
  have hlj : w.heap.size = lay' (.Z j) := by rw [hlay, if_pos rfl]
  rw [hlj] at hnew
  rw [hlz] at c0 ⊢
  have hop : ∀ k, some k ∈ l → ∃ v c, s.op k = some (v, c) ∧ 0 < c ∧ c < 900000 := hc
  unfold ptrOf at *
  go_enter Tryz.func7, Tryz.ntmps7
  have HN := Lib.hid hnew
  have HI := Lib.hid hi
  have HOP := Lib.hid hop
  clear hnew hlz hlj hlay hop hc
  go_wp2_with fail
  refine HN.out.mono ?_
  rintro e w1 ⟨rfl, hst⟩
  have hi1 : (s.setZ j (List.replicate 16 none)).zs i = some l := by simp [Fx.setZ, hij, hi]
  have hload := load_slots i l w1 hst.is hi1
  have c1 := hst.is.z0 hi1
  rw [← forkS_zero s j l] at hst
  have HS := Lib.hid hst
  have HL := Lib.hid hload
  clear hst hload
  go_wp2_with (refine wpList_load_atW rfl 62 _ rfl ⟨lay' (.Z i), 1, none⟩ rfl _ HL.out ?_)
  go_loopw [17] (fun i W => ∃ n : Nat, i = .int .i64 n ∧ n ≤ 16 ∧ FkRel s lay w j l lay' n W) (fun i _ => 16 - (intOf i).toNat)
  case atStart => exact ⟨0, rfl, by omega, HS.out⟩
  case round =>
    obtain ⟨n, rfl, hn, hR⟩ := hrel
    by_cases hlt : n < 16
    · obtain ⟨o, ho⟩ : ∃ o, l[n]? = some o := ⟨_, List.getElem?_eq_getElem (by omega)⟩
      have hlt1 : (n : Int) < 16 := by omega
      have hg1 : (l.map (slotV lay')).toArray[n]? = some (slotV lay' o) := by rw [List.getElem?_toArray, List.getElem?_map, ho]; rfl
      have hix := run_index_arr (P := Tryz.prog) (w := wr) Tryz.underlying62 hlt (by kernel_rfl) (by kernel_rfl) hg1
      cases o with
      | none =>
        simp only [slotV] at hix
        have HO := Lib.hid ho
        clear ho hg1
        go_wp2_with fail
        go_roundw
        case rel => exact ⟨n + 1, by go_num, hlt, by unfold FkRel; rw [forkS_none s j hlt HO.out]; exact hR⟩
        case measure => simp [intOf]; omega
      | some k =>
        simp only [slotV] at hix
        obtain ⟨v, c, hk, hc1, hc2⟩ := HOP.out k (List.mem_of_getElem? ho)
        have hcn : (l.take n).count (some k) ≤ 16 := Nat.le_trans List.count_le_length (by rw [List.length_take]; omega)
        have HC := Lib.hid (share_more (lay := lay') j _ n k v _ wr hR.is (forkS_z s j l n) hlt (forkS_op hk) (by omega) (by omega))
        have HO := Lib.hid ho
        have HK := Lib.hid hk
        clear ho hg1 hk
        unfold ptrOf at *
        go_wp2_with (go_at_call 21; refine HC.out.mono ?_; rintro e w2 ⟨rfl, hst⟩; have HST := Lib.hid hst; clear hst)
        go_roundw
        case rel => exact ⟨n + 1, by go_num, hlt, by unfold FkRel; rw [forkS_some s j hlt HO.out HK.out]; exact hR.trans HST.out⟩
        case measure => simp [intOf]; omega
    · have hn16 : n = 16 := by omega
      subst hn16
      go_wp2_with fail
      go_ret
      exact ⟨rfl, hR⟩
/-- the set's slot n is shut, others have what it had -/
theorem shut_more {s lay} (i : Int) (l : List (Option Nat)) (n k : Nat) (v : Value) (c : Int) (w : World) (h : FxIs s lay w) (hi : s.zs i = some l) (hn : l[n]? = some (some k)) (hk : s.op k = some (v, c)) (hc : 1 < c) (hc2 : c < 1000000) :
    Calls Tryz.prog 26 #[ptrOf (lay (.Z i)), .int .i64 n] w fun e w' => e = .returned (.int .i64 0) ∧ XStep s lay w ((s.setZ i (l.set n none)).setOp k v (c - 1)) lay w' := by
  have hl := h.ok.len i l hi
  have hlt := (List.getElem?_eq_some_iff.1 hn).1
  have hn1 : (n : Int) < 16 := by omega
  have c1 := h.o1 hk
  have f1 := h.of hk 1
  have c3 := h.slot hi hn
  have f2 := h.zf hi (1 + n)
  have hne : lay (.Z i) ≠ lay (.O k) := h.lies.ne (Fx.obj_z hi) (Fx.obj_o hk) (by simp)
  have hz : (c - 1 == 0) = false := by simpa using (show c - 1 ≠ 0 by omega)
  have hst := ((XStep.refl h).setZ hi n none (by omega) (fun k hk => by cases hk)).setOp (k := k) (v := v) (m := c) (by simpa [Fx.setZ] using hk) (c - 1)
  have HA := Lib.hid (at_open i l n k w h hi hn)
  simp only [slotV] at hst c3
  unfold ptrOf at *
  have HS := Lib.hid hst
  clear hst h hi hn hk
  go_enter Tryz.func26, Tryz.ntmps26
  go_wp2_with (go_at_call 40; refine HA.out.mono ?_; rintro e w' ⟨rfl, rfl⟩)
  go_ret
  exact ⟨rfl, HS.out⟩
theorem shut_none {s lay} (i : Int) (l : List (Option Nat)) (n : Nat) (w : World) (h : FxIs s lay w) (hi : s.zs i = some l) (hn : l[n]? = some none) :
    Calls Tryz.prog 26 #[ptrOf (lay (.Z i)), .int .i64 n] w fun e w' => e = .returned (.int .i64 28) ∧ w = w' := by
  have HA := Lib.hid (at_shut i l n w h hi hn)
  unfold ptrOf at *
  clear h hi hn
  go_enter Tryz.func26, Tryz.ntmps26
  go_wp2_with (go_at_call 40; refine HA.out.mono ?_; rintro e w' ⟨rfl, rfl⟩)
  go_ret
  exact ⟨rfl, rfl⟩
end Go.Proofs.YtomjjedgmnkciaaGreatDoor
/- fds.Set: the last number of a tape, or of a sink; End. -/
namespace Go.Proofs.YtomjjedgmnkciaaGreatDoor
open Go.RowKit IntWalk
set_option linter.unusedVariables false
set_option linter.unusedSimpArgs false
set_option linter.unnecessarySimpa false

theorem tapeclose_any (b : Value) (w : World) : Calls Tryz.prog 160 #[b] w fun e w' => e = .returned (.int .i64 0) ∧ w = w' := by
  go_enter Tryz.func160, Tryz.ntmps160
  go_wp2
  go_ret
  exact ⟨rfl, rfl⟩
set_option maxRecDepth 100000 in
theorem shut_tape {s lay} (i : Int) (l : List (Option Nat)) (n k b : Nat) (w : World) (h : FxIs s lay w) (hi : s.zs i = some l) (hn : l[n]? = some (some k)) (hk : s.op k = some (.iface 108 (ptrOf b), 1)) (hm : 0 < s.many) (hm2 : s.many < 1000000) :
    Calls Tryz.prog 26 #[ptrOf (lay (.Z i)), .int .i64 n] w fun e w' => e = .returned (.int .i64 0) ∧ XStep s lay w (((s.setZ i (l.set n none)).setOp k (.iface 108 (ptrOf b)) 0).setMany (s.many - 1)) lay w' := by
  have hl := h.ok.len i l hi
  have hlt := (List.getElem?_eq_some_iff.1 hn).1
  have hn1 : (n : Int) < 16 := by omega
  have c0 := h.o0 hk
  have c1 := h.o1 hk
  have f1 := h.of hk 1
  have c3 := h.slot hi hn
  have c4 := h.z0 hi
  have c5 := h.x1
  have f5 := h.xf 1
  have f2 := h.zf hi (1 + n)
  have hne : lay (.Z i) ≠ lay (.O k) := h.lies.ne (Fx.obj_z hi) (Fx.obj_o hk) (by simp)
  have hne2 : lay .X ≠ lay (.O k) := h.lies.ne (i := .X) rfl (Fx.obj_o hk) (by simp)
  have hne3 : lay .X ≠ lay (.Z i) := h.lies.ne (i := .X) rfl (Fx.obj_z hi) (by simp)
  have hst := (((XStep.refl h).setZ hi n none (by omega) (fun k hk => by cases hk)).setOp (k := k) (v := .iface 108 (ptrOf b)) (m := 1) (by simpa [Fx.setZ] using hk) 0).setMany (s.many - 1)
  have HA := Lib.hid (at_open i l n k w h hi hn)
  simp only [slotV] at hst c3
  unfold ptrOf at *
  have HS := Lib.hid hst
  clear hst h hi hn hk
  have hmt : ∀ W : World, (method 332 108 (.pointer (some ⟨b, 0, none⟩)) "Close").run Tryz.prog W = .ok (160, .pointer (some ⟨b, 0, none⟩)) W := fun _ => by kernel_rfl
  go_enter Tryz.func26, Tryz.ntmps26
  go_wp2_with first
    | (go_at_call 40; refine HA.out.mono ?_; rintro e w' ⟨rfl, rfl⟩)
    | (go_at_call 160; refine (tapeclose_any _ _).mono ?_; rintro e w' ⟨rfl, rfl⟩)
  go_ret
  exact ⟨rfl, HS.out⟩
theorem sinkclose_any (b : Value) (w : World) : Calls Tryz.prog 163 #[b] w fun e w' => e = .returned (.int .i64 0) ∧ w = w' := by
  go_enter Tryz.func163, Tryz.ntmps163
  go_wp2
  go_ret
  exact ⟨rfl, rfl⟩
set_option maxRecDepth 100000 in
theorem shut_sink {s lay} (i : Int) (l : List (Option Nat)) (n k b : Nat) (w : World) (h : FxIs s lay w) (hi : s.zs i = some l) (hn : l[n]? = some (some k)) (hk : s.op k = some (.iface 111 (ptrOf b), 1)) (hm : 0 < s.many) (hm2 : s.many < 1000000) :
    Calls Tryz.prog 26 #[ptrOf (lay (.Z i)), .int .i64 n] w fun e w' => e = .returned (.int .i64 0) ∧ XStep s lay w (((s.setZ i (l.set n none)).setOp k (.iface 111 (ptrOf b)) 0).setMany (s.many - 1)) lay w' := by
  have hl := h.ok.len i l hi
  have hlt := (List.getElem?_eq_some_iff.1 hn).1
  have hn1 : (n : Int) < 16 := by omega
  have c0 := h.o0 hk
  have c1 := h.o1 hk
  have f1 := h.of hk 1
  have c3 := h.slot hi hn
  have c4 := h.z0 hi
  have c5 := h.x1
  have f5 := h.xf 1
  have f2 := h.zf hi (1 + n)
  have hne : lay (.Z i) ≠ lay (.O k) := h.lies.ne (Fx.obj_z hi) (Fx.obj_o hk) (by simp)
  have hne2 : lay .X ≠ lay (.O k) := h.lies.ne (i := .X) rfl (Fx.obj_o hk) (by simp)
  have hne3 : lay .X ≠ lay (.Z i) := h.lies.ne (i := .X) rfl (Fx.obj_z hi) (by simp)
  have hst := (((XStep.refl h).setZ hi n none (by omega) (fun k hk => by cases hk)).setOp (k := k) (v := .iface 111 (ptrOf b)) (m := 1) (by simpa [Fx.setZ] using hk) 0).setMany (s.many - 1)
  have HA := Lib.hid (at_open i l n k w h hi hn)
  simp only [slotV] at hst c3
  unfold ptrOf at *
  have HS := Lib.hid hst
  clear hst h hi hn hk
  have hmt : ∀ W : World, (method 332 111 (.pointer (some ⟨b, 0, none⟩)) "Close").run Tryz.prog W = .ok (163, .pointer (some ⟨b, 0, none⟩)) W := fun _ => by kernel_rfl
  go_enter Tryz.func26, Tryz.ntmps26
  go_wp2_with first
    | (go_at_call 40; refine HA.out.mono ?_; rintro e w' ⟨rfl, rfl⟩)
    | (go_at_call 163; refine (sinkclose_any _ _).mono ?_; rintro e w' ⟨rfl, rfl⟩)
  go_ret
  exact ⟨rfl, HS.out⟩
/-- End, by what holds as each number has been shut -/
theorem setend_any (b : Nat) (Inv : Nat → World → Prop) (w : World) (h0 : Inv 0 w) (hr : ∀ n W, n < 16 → Inv n W → Calls Tryz.prog 26 #[ptrOf b, .int .i64 n] W fun e w' => (∃ r, e = .returned (.int .i64 r)) ∧ Inv (n + 1) w') :
    Calls Tryz.prog 10 #[ptrOf b] w fun e w' => e = .returned (.tuple #[]) ∧ Inv 16 w' := by
  have HR := Lib.hid hr
  clear hr
  unfold ptrOf at *
  go_enter Tryz.func10, Tryz.ntmps10
  go_wp2_with fail
  go_loopw [3] (fun i W => ∃ n : Nat, i = .int .i64 n ∧ n ≤ 16 ∧ Inv n W) (fun i _ => 16 - (intOf i).toNat)
  case atStart => exact ⟨0, rfl, by omega, h0⟩
  case round =>
    obtain ⟨n, rfl, hn, hI⟩ := hrel
    by_cases hlt : n < 16
    · have hlt1 : (n : Int) < 16 := by omega
      go_wp2_with (go_at_call 26; refine (HR.out n _ hlt hI).mono ?_; rintro e w2 ⟨⟨r, rfl⟩, hI2⟩)
      go_roundw
      case rel => exact ⟨n + 1, by go_num, hlt, hI2⟩
      case measure => simp [intOf]; omega
    · have hn16 : n = 16 := by omega
      subst hn16
      go_wp2_with fail
      go_end0
      exact ⟨rfl, hI⟩
/-- a set ends, others share all that it has -/
def Fx.endS (s : Fx) (i : Int) (l : List (Option Nat)) (n : Nat) : Fx :=
  { s with op := fun k => (s.op k).map fun p => (p.1, p.2 - ((l.take n).count (some k) : Nat)), zs := fun x => if x = i then some (List.replicate n none ++ l.drop n) else s.zs x }
theorem endS_zero {s : Fx} {i : Int} {l : List (Option Nat)} (hi : s.zs i = some l) : s.endS i l 0 = s := by
  cases s
  simp only [Fx.endS, Fx.mk.injEq, true_and]
  refine ⟨funext fun k => ?_, funext fun x => ?_⟩
  · rename_i op zs
    cases h : op k with
    | none => rfl
    | some p => simp [h]
  · by_cases q : x = i
    · rw [if_pos q, q]; simpa using hi.symm
    · rw [if_neg q]
theorem endS_z (s : Fx) (i : Int) (l : List (Option Nat)) (n : Nat) : (s.endS i l n).zs i = some (List.replicate n none ++ l.drop n) := by simp [Fx.endS]
theorem endS_op {s : Fx} {i : Int} {l : List (Option Nat)} {n k : Nat} {v : Value} {c : Int} (hk : s.op k = some (v, c)) : (s.endS i l n).op k = some (v, c - ((l.take n).count (some k) : Nat)) := by
  simp [Fx.endS, hk]
theorem end_slots {l : List (Option Nat)} {n : Nat} {o : Option Nat} (h : l[n]? = some o) : (List.replicate n none ++ l.drop n)[n]? = some o ∧ (List.replicate n none ++ l.drop n).set n none = List.replicate (n + 1) none ++ l.drop (n + 1) := by
  have hlt := (List.getElem?_eq_some_iff.1 h).1
  refine ⟨?_, ?_⟩
  · rw [List.getElem?_append_right (by simp)]
    simp [h]
  · rw [List.set_append_right _ _ (by simp), List.length_replicate, Nat.sub_self, List.drop_eq_getElem_cons hlt, List.set_cons_zero, List.replicate_succ']
    simp
theorem endS_none {s : Fx} {i : Int} {l : List (Option Nat)} {n : Nat} (h : l[n]? = some none) : s.endS i l (n + 1) = s.endS i l n := by
  have hlt := (List.getElem?_eq_some_iff.1 h).1
  have hv : l[n] = none := (List.getElem?_eq_some_iff.1 h).2
  unfold Fx.endS
  rw [take_snoc2 h, List.replicate_succ', List.drop_eq_getElem_cons (i := n) hlt, hv]
  simp
theorem endS_some {s : Fx} {i : Int} {l : List (Option Nat)} {n k : Nat} {v : Value} {c : Int} (h : l[n]? = some (some k)) (hk : s.op k = some (v, c)) :
    s.endS i l (n + 1) = ((s.endS i l n).setZ i ((List.replicate n none ++ l.drop n).set n none)).setOp k v (c - ((l.take n).count (some k) : Nat) - 1) := by
  rw [(end_slots h).2]
  unfold Fx.endS Fx.setOp Fx.setZ
  rw [take_snoc2 h]
  simp only [Fx.mk.injEq, true_and]
  refine ⟨funext fun x => ?_, funext fun x => ?_⟩
  · by_cases q : x = k
    · subst q
      rw [if_pos rfl, hk]
      simp [List.count_append]
      omega
    · rw [if_neg q]
      have : ([some k] : List (Option Nat)).count (some x) = 0 := by
        rw [List.count_eq_zero]; simp [q]
      rw [List.count_append, this]; rfl
  · by_cases q : x = i
    · rw [if_pos q, if_pos q]
    · rw [if_neg q, if_neg q, if_neg q]
theorem setend_more {s lay} (i : Int) (l : List (Option Nat)) (w : World) (h : FxIs s lay w) (hi : s.zs i = some l) (hc : ∀ k, some k ∈ l → ∃ v c, s.op k = some (v, c) ∧ (l.count (some k) : Int) < c ∧ c < 1000000) :
    Calls Tryz.prog 10 #[ptrOf (lay (.Z i))] w fun e w' => e = .returned (.tuple #[]) ∧ XStep s lay w (s.endS i l 16) lay w' := by
  have hl := h.ok.len i l hi
  refine setend_any (lay (.Z i)) (fun n W => XStep s lay w (s.endS i l n) lay W) w (by rw [endS_zero hi]; exact XStep.refl h) fun n W hn hI => ?_
  obtain ⟨o, ho⟩ : ∃ o, l[n]? = some o := ⟨_, List.getElem?_eq_getElem (by omega)⟩
  cases o with
  | none =>
    refine (shut_none i _ n W hI.is (endS_z s i l n) (end_slots ho).1).mono ?_
    rintro e w' ⟨rfl, rfl⟩
    exact ⟨⟨_, rfl⟩, by rw [endS_none ho]; exact hI⟩
  | some k =>
    obtain ⟨v, c, hk, h1, h2⟩ := hc k (List.mem_of_getElem? ho)
    have hcn : (l.take (n + 1)).count (some k) ≤ l.count (some k) := (List.take_sublist _ _).count_le _
    have hcs : (l.take (n + 1)).count (some k) = (l.take n).count (some k) + 1 := by rw [take_snoc2 ho]; simp [List.count_append]
    refine (shut_more i _ n k v _ W hI.is (endS_z s i l n) (end_slots ho).1 (endS_op hk) (by omega) (by omega)).mono ?_
    rintro e w' ⟨rfl, hst⟩
    exact ⟨⟨_, rfl⟩, by rw [endS_some ho hk]; exact hI.trans hst⟩
/-- the last set ends: a tape and two sinks -/
def stdSlots : List (Option Nat) := some 0 :: some 1 :: some 2 :: List.replicate 13 none
def Fx.lastS (s : Fx) (i : Int) (n : Nat) : Fx :=
  { s with many := s.many - (min n 3 : Nat), op := fun k => if k < min n 3 then (s.op k).map (fun p => (p.1, 0)) else s.op k, zs := fun x => if x = i then some (List.replicate n none ++ stdSlots.drop n) else s.zs x }
theorem setend_last {s lay} (i : Int) (b0 b1 b2 : Nat) (w : World) (h : FxIs s lay w) (hi : s.zs i = some stdSlots) (h0 : s.op 0 = some (.iface 108 (ptrOf b0), 1)) (h1 : s.op 1 = some (.iface 111 (ptrOf b1), 1)) (h2 : s.op 2 = some (.iface 111 (ptrOf b2), 1)) (hm : s.many = 3) :
    Calls Tryz.prog 10 #[ptrOf (lay (.Z i))] w fun e w' => e = .returned (.tuple #[]) ∧ XStep s lay w (s.lastS i 16) lay w' := by
  have hstep : ∀ n k v, n < 3 → k = n → s.op n = some (v, 1) → s.lastS i (n + 1) = (((s.lastS i n).setZ i ((List.replicate n none ++ stdSlots.drop n).set n none)).setOp k v 0).setMany ((s.lastS i n).many - 1) := by
    rintro n k v hn rfl hv
    have hs : stdSlots[k]? = some (some k) := by
      match k, hn with
      | 0, _ => rfl
      | 1, _ => rfl
      | 2, _ => rfl
    rw [(end_slots hs).2]
    unfold Fx.lastS Fx.setOp Fx.setZ Fx.setMany
    simp only [Fx.mk.injEq, true_and]
    refine ⟨by omega, funext fun x => ?_, funext fun x => ?_⟩
    · by_cases q : x = k
      · subst q; rw [if_pos (by omega), if_pos rfl, hv]; rfl
      · rw [if_neg q]
        by_cases q2 : x < k
        · rw [if_pos (by omega), if_pos (by omega)]
        · rw [if_neg (by omega), if_neg (by omega)]
    · by_cases q : x = i
      · rw [if_pos q, if_pos q]
      · rw [if_neg q, if_neg q, if_neg q]
  refine setend_any (lay (.Z i)) (fun n W => XStep s lay w (s.lastS i n) lay W) w ?_ fun n W hn hI => ?_
  · have : s.lastS i 0 = s := by
      cases s
      simp only [Fx.lastS, Fx.mk.injEq, true_and]
      refine ⟨by omega, funext fun k => by simp, funext fun x => ?_⟩
      by_cases q : x = i
      · rw [if_pos q, q]; simpa using hi.symm
      · rw [if_neg q]
    rw [this]; exact XStep.refl h
  · have hz : (s.lastS i n).zs i = some (List.replicate n none ++ stdSlots.drop n) := by simp [Fx.lastS]
    have hop : ∀ k v, n ≤ k → s.op k = some (v, 1) → (s.lastS i n).op k = some (v, 1) := fun k v hk hv => by
      simp only [Fx.lastS]
      rw [if_neg (by omega), hv]
    have hmn : (s.lastS i n).many = 3 - (min n 3 : Nat) := by simp [Fx.lastS, hm]
    by_cases hn3 : n < 3
    · match n, hn3 with
      | 0, _ =>
        refine (shut_tape i _ 0 0 b0 W hI.is hz (end_slots (o := some 0) rfl).1 (hop 0 _ (by omega) h0) (by rw [hmn]; decide) (by rw [hmn]; decide)).mono ?_
        rintro e w' ⟨rfl, hst⟩
        exact ⟨⟨_, rfl⟩, by rw [hstep 0 0 _ (by omega) rfl h0]; exact hI.trans hst⟩
      | 1, _ =>
        refine (shut_sink i _ 1 1 b1 W hI.is hz (end_slots (o := some 1) rfl).1 (hop 1 _ (by omega) h1) (by rw [hmn]; decide) (by rw [hmn]; decide)).mono ?_
        rintro e w' ⟨rfl, hst⟩
        exact ⟨⟨_, rfl⟩, by rw [hstep 1 1 _ (by omega) rfl h1]; exact hI.trans hst⟩
      | 2, _ =>
        refine (shut_sink i _ 2 2 b2 W hI.is hz (end_slots (o := some 2) rfl).1 (hop 2 _ (by omega) h2) (by rw [hmn]; decide) (by rw [hmn]; decide)).mono ?_
        rintro e w' ⟨rfl, hst⟩
        exact ⟨⟨_, rfl⟩, by rw [hstep 2 2 _ (by omega) rfl h2]; exact hI.trans hst⟩
    · have hs : stdSlots[n]? = some none := by
        obtain ⟨m, rfl⟩ : ∃ m, n = m + 3 := ⟨n - 3, by omega⟩
        show (List.replicate 13 none)[m]? = _
        rw [List.getElem?_replicate, if_pos (by omega)]
      refine (shut_none i _ n W hI.is hz (end_slots hs).1).mono ?_
      rintro e w' ⟨rfl, rfl⟩
      refine ⟨⟨_, rfl⟩, ?_⟩
      have : s.lastS i (n + 1) = s.lastS i n := by
        have hlt := (List.getElem?_eq_some_iff.1 hs).1
        have hv : stdSlots[n] = none := (List.getElem?_eq_some_iff.1 hs).2
        unfold Fx.lastS
        rw [List.replicate_succ', List.drop_eq_getElem_cons (i := n) hlt, hv, show min (n + 1) 3 = min n 3 by omega]
        simp
      rw [this]; exact hI
end Go.Proofs.YtomjjedgmnkciaaGreatDoor
