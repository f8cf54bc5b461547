/- FsB -/
import Derived.Test.YtbecmcjibpamoaaGreatDoorQ02
import Derived.Carry
import Derived.MapKept
import Derived.Maps.RangeRun
set_option linter.unusedVariables false
set_option linter.unusedSimpArgs false
set_option linter.deprecated false
set_option linter.unnecessarySimpa false
namespace Go.Proofs.YtbecmcjibpamoaaGreatDoor
open Go.RowKit
inductive Key where
  | int (n : Int)
  | str (s : List UInt8)
  deriving DecidableEq
def Key.val : Key → Value
  | .int n => .int .i64 n
  | .str s => .string ⟨s.toArray⟩
def Key.sort : Key → TypeDesc
  | .int _ => .int .i64
  | .str _ => .string
structure GMap where
  es : List (Key × Value × Nat)
  clk : Nat
def entryOf (e : Key × Value × Nat) : MapEntry := { key := e.1.val, val := e.2.1, born := e.2.2 }
def GMap.obj (m : GMap) : Obj := .map (m.es.map entryOf).toArray m.clk
def GMap.Of (m : GMap) (d : TypeDesc) : Prop := ∀ e ∈ m.es, e.1.sort = d
def getE (k : Key) : List (Key × Value × Nat) → Option Value
  | [] => none
  | e :: l => if e.1 = k then some e.2.1 else getE k l
def setE (k : Key) (v : Value) (b : Nat) : List (Key × Value × Nat) → List (Key × Value × Nat)
  | [] => [(k, v, b)]
  | e :: l => if e.1 = k then (k, v, e.2.2) :: l else e :: setE k v b l
def delE (k : Key) : List (Key × Value × Nat) → List (Key × Value × Nat)
  | [] => []
  | e :: l => if e.1 = k then l else e :: delE k l
def GMap.get (m : GMap) (k : Key) : Option Value := getE k m.es
def GMap.put (m : GMap) (k : Key) (v : Value) : GMap := ⟨setE k v m.clk m.es, if (m.get k).isSome then m.clk else m.clk + 1⟩
def GMap.del (m : GMap) (k : Key) : GMap := ⟨delE k m.es, m.clk⟩
def GMap.empty : GMap := ⟨[], 0⟩
section
variable {P : Program} {w : World}
theorem str_beq2 (a b : List UInt8) : ((⟨a.toArray⟩ : ByteArray) == ⟨b.toArray⟩) = (a == b) := by
  rw [beq_toListBytes, ByteArray.toList_eq, ByteArray.toList_eq]
theorem same_key {k k' : Key} (h : k'.sort = k.sort) : Instr.sameNow k.sort k.val k'.val = some (decide (k' = k)) := by
  cases k <;> cases k' <;> simp [Key.sort] at h
  · rename_i a b
    simp only [Key.sort, Key.val, Instr.sameNow, if_pos, Key.int.injEq]
    by_cases e : b = a
    · simp [e]
    · simp [e, Ne.symm e]
  · rename_i a b
    simp only [Key.sort, Key.val, Instr.sameNow, Key.str.injEq]
    rw [str_beq2]
    by_cases e : b = a
    · simp [e]
    · simp [e, Ne.symm e]
theorem find_at {k : Key} : ∀ (l : List (Key × Value × Nat)) (i : Nat), (∀ e ∈ l, e.1.sort = k.sort) → ∃ r, Instr.findNow k.sort k.val (l.map entryOf) i = some r ∧ r.map (·.2) = getE k l ∧
    (∀ j v, r = some (j, v) → i ≤ j ∧ ∃ e, l[j - i]? = some e ∧ e.1 = k ∧ e.2.1 = v ∧ (∀ v' b, setE k v' b l = l.set (j - i) (k, v', e.2.2)) ∧ delE k l = l.eraseIdx (j - i)) ∧ (r = none → (∀ v' b, setE k v' b l = l ++ [(k, v', b)]) ∧ delE k l = l)
  | [], i, _ => ⟨none, rfl, rfl, (fun j v h => by cases h), (fun _ => ⟨fun _ _ => rfl, rfl⟩)⟩
  | e :: l, i, h => by
    have hs := same_key (h e (by simp))
    have hcons : Instr.findNow k.sort k.val ((e :: l).map entryOf) i = match Instr.sameNow k.sort k.val e.1.val with
      | some true => some (some (i, e.2.1))
      | some false => Instr.findNow k.sort k.val (l.map entryOf) (i + 1)
      | none => none := rfl
    rw [hcons, hs]
    by_cases hk : e.1 = k
    · refine ⟨some (i, e.2.1), by simp [hk], by simp [getE, hk], fun j v hj => ?_, fun q => by cases q⟩
      cases hj
      refine ⟨Nat.le_refl _, e, by simp, hk, rfl, fun v' b => ?_, ?_⟩
      · simp [setE, hk]
      · simp [delE, hk]
    · obtain ⟨r, h1, h2, h3, h4⟩ := find_at l (i + 1) (fun x hx => h x (by simp [hx]))
      refine ⟨r, by simp [hk, h1], by simp [getE, hk, h2], fun j v hj => ?_, fun q => ?_⟩
      · obtain ⟨q1, e', q2, q3, q4, q5, q6⟩ := h3 j v hj
        have hji : j - i = (j - (i + 1)) + 1 := by omega
        refine ⟨by omega, e', by rw [hji]; simpa using q2, q3, q4, fun v' b => ?_, ?_⟩
        · rw [hji]; simp [setE, hk, q5]
        · rw [hji]; simp [delE, hk, q6]
      · obtain ⟨q1, q2⟩ := h4 q
        exact ⟨fun v' b => by simp [setE, hk, q1], by simp [delE, hk, q2]⟩
theorem key_checked {kt : TypeId} {k : Key} (hk : P.underlying kt = some k.sort) (b : Bool) : (Instr.checkKey b 10000 kt k.val).run P w = .ok () w := by
  cases k <;> exact (fun (n : Nat) => (by simp [Instr.checkKey, run_underlying hk, Key.sort, Key.val] : (Instr.checkKey b (n + 1) kt _).run P w = .ok () w)) 9999
theorem find_run {kt : TypeId} {d : TypeDesc} {u : Value} {es : List MapEntry} {r : Option (Nat × Value)} (hu : P.underlying kt = some d) (h : Instr.findNow d u es 0 = some r) : (Instr.findKey kt u es).run P w = .ok r w := by
  simp [Instr.findKey, run_underlying hu, h]
theorem map_got {r : Nat} {es : Array MapEntry} {c : Nat} (h : w.heap[r]? = some (.map es c)) : (Go.getObj r).run P w = .ok (.map es c) w := by
  simp [Go.getObj, Sem.run, h]
theorem map_laid {r : Nat} {es es' : Array MapEntry} {c c' : Nat} (h : w.heap[r]? = some (.map es c)) : (Go.setObj r (.map es' c')).run P w = .ok () { w with heap := w.heap.setIfInBounds r (.map es' c') } := by
  simp [Go.setObj, Sem.run, h]
theorem GMap.look {t kt et : TypeId} {k : Key} {m : GMap} {b : Nat} {z : Value} (ht : P.underlying t = some (.map kt et)) (hk : P.underlying kt = some k.sort) (hm : m.Of k.sort) (hb : w.heap[b]? = some m.obj) (hz : (zeroValue et).run P w = .ok z w) :
    (Instr.lookup t (.map (some b)) k.val false).run P w = .ok ((m.get k).getD z) w ∧ (Instr.lookup t (.map (some b)) k.val true).run P w = .ok (.tuple #[(m.get k).getD z, .bool (m.get k).isSome]) w := by
  obtain ⟨r, h1, h2, _⟩ := find_at m.es 0 (fun e he => hm e he)
  have hf := find_run (P := P) (w := w) hk h1
  have hg : (m.get k) = r.map (·.2) := h2.symm
  rw [hg]
  cases r with
  | none => exact ⟨by simp [Instr.lookup, run_underlying ht, map_got (P := P) hb, key_checked hk, hf, hz], by simp [Instr.lookup, run_underlying ht, map_got (P := P) hb, key_checked hk, hf, hz]⟩
  | some p => exact ⟨by simp [Instr.lookup, run_underlying ht, map_got (P := P) hb, key_checked hk, hf], by simp [Instr.lookup, run_underlying ht, map_got (P := P) hb, key_checked hk, hf]⟩
theorem eraseIdx_map2 {α β : Type} (f : α → β) : ∀ (l : List α) (i : Nat), (l.eraseIdx i).map f = (l.map f).eraseIdx i
  | [], _ => rfl
  | _ :: _, 0 => rfl
  | x :: l, i + 1 => by simp [eraseIdx_map2 f l i]
theorem keyStays2 (k : Key) : (Instr.keyThatStays k.val k.val).run P w = .ok k.val w := by
  have hb : ∀ n, Instr.sameBits n k.val k.val = true := fun n => by
    cases k <;> simp [Instr.sameBits, Key.val, str_beq2]
  simp [Instr.keyThatStays, hb]
theorem GMap.store {t kt et : TypeId} {k : Key} {m : GMap} {b : Nat} {v : Value} (ht : P.underlying t = some (.map kt et)) (hk : P.underlying kt = some k.sort) (hm : m.Of k.sort) (hb : w.heap[b]? = some m.obj) :
    (Instr.mapUpdate t (.map (some b)) k.val v).run P w = .ok () { w with heap := w.heap.setIfInBounds b (m.put k v).obj } := by
  obtain ⟨r, h1, h2, h3, h4⟩ := find_at m.es 0 (fun e he => hm e he)
  have hf := find_run (P := P) (w := w) hk h1
  have hg : m.get k = r.map (·.2) := h2.symm
  cases r with
  | none =>
    have hput : (m.put k v).obj = .map ((m.es.map entryOf).toArray.push { key := k.val, val := v, born := m.clk }) (m.clk + 1) := by
      unfold GMap.put GMap.obj
      rw [(h4 rfl).1, hg]
      simp [entryOf]
    rw [hput]
    simp [Instr.mapUpdate, run_underlying ht, map_got (P := P) hb, key_checked hk, hf, map_laid (P := P) hb]
  | some p =>
    obtain ⟨i, x⟩ := p
    obtain ⟨_, e, q1, q2, q3, q4, _⟩ := h3 i x rfl
    rw [Nat.sub_zero] at q1 q4
    have hput : (m.put k v).obj = .map ((m.es.map entryOf).toArray.modify i fun e => { e with key := k.val, val := v }) m.clk := by
      unfold GMap.put GMap.obj
      rw [q4, hg]
      simp only [Option.map_some, Option.isSome_some, if_true]
      congr 1
      apply Array.ext'
      simp only [Array.toList_modify, List.map_set]
      apply List.ext_getElem?
      intro j
      rw [List.getElem?_set, List.getElem?_modify]
      by_cases hij : i = j
      · subst hij
        have hlt : i < m.es.length := (List.getElem?_eq_some_iff.1 q1).1
        have hge : m.es[i] = e := (List.getElem?_eq_some_iff.1 q1).2
        simp [entryOf, hlt, hge]
      · simp [hij]
    rw [hput]
    have hkey : (((m.es.map entryOf).toArray[i]?).map (·.key)).getD k.val = k.val := by
      simp [q1, entryOf, q2]
    simp [Instr.mapUpdate, run_underlying ht, map_got (P := P) hb, key_checked hk, hf, map_laid (P := P) hb]
    simp only [List.getElem?_toArray, List.getElem?_map, Option.map_map] at hkey
    rw [hkey, keyStays2]
    simp [map_laid (P := P) hb]
theorem GMap.drop {t kt et ty : TypeId} {k : Key} {m : GMap} {b : Nat} {ts : Array TypeId} (hts : ts[0]? = some t) (ht : P.underlying t = some (.map kt et)) (hk : P.underlying kt = some k.sort) (hm : m.Of k.sort) (hb : w.heap[b]? = some m.obj) :
    (Builtin.delete_ ts ty #[.map (some b), k.val]).run P w = .ok (.tuple #[]) { w with heap := w.heap.setIfInBounds b (m.del k).obj } := by
  obtain ⟨r, h1, h2, h3, h4⟩ := find_at m.es 0 (fun e he => hm e he)
  have hf := find_run (P := P) (w := w) hk h1
  cases r with
  | none =>
    have hd : (m.del k).obj = .map (m.es.map entryOf).toArray m.clk := by
      unfold GMap.del GMap.obj
      rw [(h4 rfl).2]
    rw [hd]
    simp [Builtin.delete_, hts, run_underlying ht, map_got (P := P) hb, key_checked hk, hf, map_laid (P := P) hb]
  | some p =>
    obtain ⟨i, x⟩ := p
    obtain ⟨_, e, q1, q2, q3, _, q5⟩ := h3 i x rfl
    rw [Nat.sub_zero] at q1 q5
    have hd : (m.del k).obj = .map ((m.es.map entryOf).toArray.eraseIdxIfInBounds i) m.clk := by
      unfold GMap.del GMap.obj
      rw [q5]
      congr 1
      apply Array.ext'
      simp [eraseIdx_map2]
    rw [hd]
    simp [Builtin.delete_, hts, run_underlying ht, map_got (P := P) hb, key_checked hk, hf, map_laid (P := P) hb]
theorem setE_of {k : Key} {v : Value} {b : Nat} {d : TypeDesc} (hk : k.sort = d) : ∀ {l : List (Key × Value × Nat)}, (∀ e ∈ l, e.1.sort = d) → ∀ e ∈ setE k v b l, e.1.sort = d
  | [], _, e, he => by simp [setE] at he; rw [he]; exact hk
  | x :: l, h, e, he => by
    unfold setE at he
    split at he
    · rcases List.mem_cons.1 he with rfl | he
      · exact hk
      · exact h e (by simp [he])
    · rcases List.mem_cons.1 he with rfl | he
      · exact h _ (by simp)
      · exact setE_of hk (fun y hy => h y (by simp [hy])) e he
theorem delE_sub {k : Key} : ∀ {l : List (Key × Value × Nat)}, ∀ e ∈ delE k l, e ∈ l
  | [], e, he => he
  | x :: l, e, he => by
    unfold delE at he
    split at he
    · exact List.mem_cons_of_mem _ he
    · rcases List.mem_cons.1 he with rfl | he
      · simp
      · exact List.mem_cons_of_mem _ (delE_sub e he)
theorem GMap.Of.put {m : GMap} {d : TypeDesc} (h : m.Of d) {k : Key} (hk : k.sort = d) (v : Value) : (m.put k v).Of d := setE_of hk h
theorem GMap.Of.del {m : GMap} {d : TypeDesc} (h : m.Of d) (k : Key) : (m.del k).Of d := fun e he => h e (delE_sub e he)
theorem GMap.Of.empty (d : TypeDesc) : GMap.empty.Of d := fun e he => by cases he
end
structure GoodE (l : List (Key × Nat)) (c : Nat) : Prop where
  keys : (l.map (·.1)).Nodup
  births : (l.map (·.2)).Nodup
  below : ∀ e ∈ l, e.2 < c
def kb (l : List (Key × Value × Nat)) : List (Key × Nat) := l.map fun e => (e.1, e.2.2)
def GMap.Good (m : GMap) : Prop := GoodE (kb m.es) m.clk
theorem GMap.Good.empty : GMap.empty.Good := ⟨List.nodup_nil, List.nodup_nil, fun e he => by cases he⟩
theorem kb_setE (k : Key) (v : Value) (b : Nat) : ∀ l : List (Key × Value × Nat), kb (setE k v b l) = if (getE k l).isSome then kb l else kb l ++ [(k, b)]
  | [] => rfl
  | e :: l => by
    unfold setE getE
    by_cases h : e.1 = k
    · rw [if_pos h, if_pos h]; simp [kb, h]
    · rw [if_neg h, if_neg h]
      show (e.1, e.2.2) :: kb (setE k v b l) = _
      rw [kb_setE k v b l]
      split <;> rfl
theorem kb_delE (k : Key) : ∀ l : List (Key × Value × Nat), (kb (delE k l)).Sublist (kb l)
  | [] => List.Sublist.refl _
  | e :: l => by
    unfold delE
    by_cases h : e.1 = k
    · rw [if_pos h]; exact List.sublist_cons_self _ _
    · rw [if_neg h]; exact (kb_delE k l).cons_cons _
theorem getE_none {k : Key} : ∀ {l : List (Key × Value × Nat)}, getE k l = none ↔ ∀ e ∈ l, e.1 ≠ k
  | [] => by simp [getE]
  | e :: l => by
    unfold getE
    by_cases h : e.1 = k
    · simp [h]
    · simp [h, getE_none (l := l)]
theorem GoodE.sub {l l' : List (Key × Nat)} {c : Nat} (h : GoodE l c) (hs : l'.Sublist l) : GoodE l' c :=
  ⟨h.keys.sublist (hs.map _), h.births.sublist (hs.map _), fun e he => h.below e (hs.subset he)⟩
theorem GMap.Good.del {m : GMap} (h : m.Good) (k : Key) : (m.del k).Good := GoodE.sub h (kb_delE k m.es)
theorem GMap.Good.put {m : GMap} (h : m.Good) (k : Key) (v : Value) : (m.put k v).Good := by
  unfold GMap.Good GMap.put
  show GoodE (kb (setE k v m.clk m.es)) _
  rw [kb_setE]
  cases hg : getE k m.es with
  | some x =>
    have : (m.get k).isSome = true := by unfold GMap.get; rw [hg]; rfl
    rw [this]; exact h
  | none =>
    have : (m.get k).isSome = false := by unfold GMap.get; rw [hg]; rfl
    rw [this]
    have hn := getE_none.1 hg
    refine ⟨?_, ?_, ?_⟩
    · simp only [Option.isSome_none, Bool.false_eq_true, if_false, List.map_append, List.map_cons, List.map_nil]
      rw [List.nodup_append]
      refine ⟨h.keys, by simp, ?_⟩
      intro a ha b hb e
      simp only [List.mem_singleton] at hb
      simp only [kb, List.map_map, List.mem_map] at ha
      obtain ⟨x, hx, rfl⟩ := ha
      exact hn x hx (by rw [← hb, ← e]; rfl)
    · simp only [Option.isSome_none, Bool.false_eq_true, if_false, List.map_append, List.map_cons, List.map_nil]
      rw [List.nodup_append]
      refine ⟨h.births, by simp, ?_⟩
      intro a ha b hb e
      simp only [List.mem_singleton] at hb
      obtain ⟨x, hx, rfl⟩ := List.mem_map.1 ha
      have := h.below x hx
      omega
    · intro e he
      simp only [Option.isSome_none, Bool.false_eq_true, if_false, List.mem_append, List.mem_singleton] at he ⊢
      rcases he with he | rfl
      · have := h.below e he; omega
      · show m.clk < m.clk + 1; omega
theorem delE_filter {k : Key} : ∀ {l : List (Key × Value × Nat)}, (l.map (·.1)).Nodup → delE k l = l.filter (fun e => decide (e.1 ≠ k))
  | [], _ => rfl
  | e :: l, h => by
    unfold delE
    rw [List.map_cons, List.nodup_cons] at h
    by_cases hk : e.1 = k
    · subst hk
      rw [if_pos rfl, List.filter_cons_of_neg (by simp)]
      rw [List.filter_eq_self.2]
      intro x hx
      have : x.1 ≠ e.1 := fun q => h.1 (by rw [← q]; exact List.mem_map_of_mem hx)
      simpa using this
    · rw [if_neg hk, List.filter_cons_of_pos (by simpa using hk), delE_filter h.2]
theorem setE_mem {k : Key} {v : Value} {b : Nat} : ∀ {l : List (Key × Value × Nat)} {e : Key × Value × Nat}, e ∈ setE k v b l → e ∈ l ∨ (e.1 = k ∧ e.2.1 = v)
  | [], e, he => by simp [setE] at he; right; rw [he]; exact ⟨rfl, rfl⟩
  | x :: l, e, he => by
    unfold setE at he
    split at he
    · rcases List.mem_cons.1 he with rfl | he
      · exact .inr ⟨rfl, rfl⟩
      · exact .inl (by simp [he])
    · rcases List.mem_cons.1 he with rfl | he
      · exact .inl (by simp)
      · rcases setE_mem he with q | q
        · exact .inl (by simp [q])
        · exact .inr q
theorem wpList_next_g {P : Program} {w : World} {ops : Array Oper} {rest : List Oper} {o : Oper} {a : Act} {Q : Exit → Act → World → Prop} (hg : o.guard = none) (it : Operand) (hop : o.op = Op.next it false) (r b since c0 : Nat) (seen : Array Nat) (m : GMap)
    (hit : a.eval it = .pointer (some ⟨r, 0, none⟩)) (hr : w.heap[r]? = some (.mapIter (some b) since seen c0)) (hb : w.heap[b]? = some m.obj) (hold : ∀ x ∈ m.es, x.2.2 < since) (hsc : since ≤ c0)
    (hDone : (∀ x ∈ m.es, x.2.2 ∈ seen) → wpList P ops Q rest (a.put o.dst (.tuple #[.bool false])) w)
    (hMore : ∀ x ∈ m.es, x.2.2 ∉ seen → ∀ n, wpList P ops Q rest (a.put o.dst (.tuple #[.bool true, x.1.val, x.2.1])) { (w.drewN n) with heap := (w.drewN n).heap.setIfInBounds r (.mapIter (some b) since (seen.push x.2.2) m.clk) }) :
    wpList P ops Q (o :: rest) a w := by
  refine wpList_plain hg fun K' hK' => ?_
  unfold Oper.wp
  have hleft : ∀ e, e ∈ (leftOf (m.es.map entryOf).toArray seen).toList ↔ ∃ x ∈ m.es, x.2.2 ∉ seen ∧ entryOf x = e := by
    intro e
    simp only [leftOf, Array.toList_filter, List.mem_filter, List.mem_map, Bool.not_eq_true', Array.contains_eq_mem, decide_eq_false_iff_not]
    constructor
    · rintro ⟨⟨x, hx, rfl⟩, h2⟩; exact ⟨x, hx, h2, rfl⟩
    · rintro ⟨x, hx, h2, rfl⟩; exact ⟨⟨x, hx, rfl⟩, h2⟩
  rcases run_next_at (P := P) w o.type r b since c0 seen _ _ hr hb (by
    intro x hx
    simp only [List.mem_map] at hx
    obtain ⟨y, hy, rfl⟩ := hx
    exact hold y hy) hsc with ⟨h0, hrun⟩ | ⟨e, he, w1, hw1, hrun⟩
  · simp [execOp, hop, hit, hrun, Result.andThen]
    refine hK' _ _ (hDone fun x hx => ?_)
    refine Classical.byContradiction fun hn => ?_
    have := (hleft (entryOf x)).2 ⟨x, hx, hn, rfl⟩
    rw [Array.eq_empty_of_size_eq_zero h0] at this
    cases this
  · obtain ⟨x, hx, hns, rfl⟩ := (hleft e).1 he
    simp [execOp, hop, hit, hrun, Result.andThen]
    rcases hw1 with rfl | rfl
    · exact hK' _ _ (hMore x hx hns 0)
    · exact hK' _ _ (hMore x hx hns 1)
theorem run_entry_g {P : Program} {w : World} {r b since : Nat} {seen : Array Nat} {m : GMap} {x : Key × Value × Nat} (hr : w.heap[r]? = some (.mapIter (some b) since (seen.push x.2.2) m.clk)) (hb : w.heap[b]? = some m.obj) (hx : x ∈ m.es) (hg : m.Good) :
    (Instr.entry (.pointer (some ⟨r, 0, none⟩))).run P w = .ok (.tuple #[x.1.val, x.2.1]) w := by
  have := run_entry_at (P := P) w r b since seen _ _ (entryOf x) hr hb (by simpa using List.mem_map_of_mem (f := entryOf) hx) (by
    have := hg.births
    simpa [kb, List.map_map, Function.comp_def, entryOf] using this)
  exact this
end Go.Proofs.YtbecmcjibpamoaaGreatDoor
