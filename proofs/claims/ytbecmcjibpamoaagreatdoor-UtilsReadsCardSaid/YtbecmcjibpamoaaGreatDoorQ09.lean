/- FsH -/
import Derived.Test.YtbecmcjibpamoaaGreatDoorQ08
set_option linter.unusedVariables false
set_option linter.unusedSimpArgs false
set_option linter.deprecated false
set_option linter.unnecessarySimpa false
namespace Go.Proofs.YtbecmcjibpamoaaGreatDoor
open Go.RowKit
theorem filter_less {α : Type} {p q : α → Bool} : ∀ {l : List α}, (∀ x ∈ l, p x = true → q x = true) → ∀ e ∈ l, q e = true → p e = false → (l.filter p).length < (l.filter q).length
  | [], _, e, he, _, _ => by cases he
  | x :: l, h, e, he, hq, hp => by
    have hle : (l.filter p).length ≤ (l.filter q).length := by
      rw [← List.countP_eq_length_filter, ← List.countP_eq_length_filter]
      exact List.countP_mono_left (fun y hy => h y (by simp [hy]))
    rcases List.mem_cons.1 he with rfl | he
    · rw [List.filter_cons_of_neg (by simp [hp]), List.filter_cons_of_pos hq, List.length_cons]; omega
    · have := filter_less (fun y hy => h y (by simp [hy])) e he hq hp
      by_cases h1 : p x = true
      · rw [List.filter_cons_of_pos h1, List.filter_cons_of_pos (h x (by simp) h1), List.length_cons, List.length_cons]; omega
      · rw [List.filter_cons_of_neg h1]
        by_cases h2 : q x = true
        · rw [List.filter_cons_of_pos h2, List.length_cons]; omega
        · rw [List.filter_cons_of_neg h2]; exact this
def leftN (es : List (Key × Value × Nat)) (w : World) (r : Nat) : Nat := match w.heap[r]? with
  | some (.mapIter _ _ seen _) => (es.filter fun e => decide (e.2.2 ∉ seen)).length
  | _ => 0
theorem leftN_at {es : List (Key × Value × Nat)} {w : World} {r : Nat} {b : Option Nat} {since c : Nat} {seen : Array Nat} (h : w.heap[r]? = some (.mapIter b since seen c)) : leftN es w r = (es.filter fun e => decide (e.2.2 ∉ seen)).length := by
  unfold leftN; rw [h]
def iterO (b : Nat) (c : Nat) (seen : Array Nat) : Obj := .mapIter (some b) c seen c
def putO (w : World) (r : Nat) (o : Obj) : World := { w with heap := w.heap.setIfInBounds r o }
theorem putO_at {w : World} {r : Nat} (o : Obj) (h : r < w.heap.size) : (putO w r o).heap[r]? = some o := by
  show (w.heap.setIfInBounds r o)[r]? = _
  rw [Array.getElem?_setIfInBounds, if_pos rfl, if_pos h]
theorem putO_ne {w : World} {r b : Nat} (o : Obj) (h : r ≠ b) : (putO w r o).heap[b]? = w.heap[b]? := by
  show (w.heap.setIfInBounds r o)[b]? = _
  rw [Array.getElem?_setIfInBounds, if_neg h]
theorem putO_twice (w : World) (r : Nat) (o o' : Obj) : putO (putO w r o) r o' = putO w r o' := by
  simp [putO]
theorem run_range_g {P : Program} {w : World} {t kt et : TypeId} {m : GMap} {b : Nat} (ht : P.underlying t = some (.map kt et)) (hb : w.heap[b]? = some m.obj) : (Instr.range t (.map (some b))).run P w = .ok (.pointer (some ⟨w.heap.size, 0, none⟩)) (w.alloc (iterO b m.clk #[])) := by
  simp [Instr.range, run_underlying ht, map_got (P := P) hb]
  rfl
theorem wpList_next_o {P : Program} {w : World} {ops : Array Oper} {rest : List Oper} {o : Oper} {a : Act} {Q : Exit → Act → World → Prop} (hg : o.guard = none) (it : Operand) (hop : o.op = Op.next it false) (r b : Nat) (seen : Array Nat) (m : GMap)
    (hit : a.eval it = .pointer (some ⟨r, 0, none⟩)) (hr : w.heap[r]? = some (iterO b m.clk seen)) (hb : w.heap[b]? = some m.obj) (hgd : m.Good)
    (hDone : (∀ x ∈ m.es, x.2.2 ∈ seen) → wpList P ops Q rest (a.put o.dst (.tuple #[.bool false])) w)
    (hMore : ∀ x, x ∈ m.es → x.2.2 ∉ seen → ∀ n, wpList P ops Q rest (a.put o.dst (.tuple #[.bool true, x.1.val, x.2.1])) (putO (w.drewN n) r (iterO b m.clk (seen.push x.2.2)))) :
    wpList P ops Q (o :: rest) a w :=
  wpList_next_g hg it hop r b m.clk m.clk seen m hit hr hb (fun x hx => hgd.below (x.1, x.2.2) (List.mem_map_of_mem (f := fun e : Key × Value × Nat => (e.1, e.2.2)) hx)) (Nat.le_refl _) hDone (fun x hx hn n => hMore x hx hn n)
theorem part_same {l : List (Key × Value × Nat)} (hn : (kb l).map (·.2) |>.Nodup) {a b : Key × Value × Nat} (ha : a ∈ l) (hb : b ∈ l) (h : a.2.2 = b.2.2) : a = b := by
  obtain ⟨A, C, rfl, hA, hC⟩ := split_at ha (by simpa [kb, List.map_map, Function.comp_def] using hn)
  rcases List.mem_append.1 hb with q | q
  · exact absurd h.symm (hA b q)
  · rcases List.mem_cons.1 q with q | q
    · exact q.symm
    · exact absurd h.symm (hC b q)
structure Rnd (s : Fs) (lay : FId → Nat) (w1 : World) (r k : Nat) (x : Nd) (frm : Int) (seen : Array Nat) (W : World) : Prop where
  step : Step s lay (putO w1 r (iterO (lay (.P k)) x.parts.clk seen)) (s.dropped k x (fun b => decide (b ∈ seen)) frm) lay W
theorem Rnd.iter {s lay w1 r k x frm seen W} (h : Rnd s lay w1 r k x frm seen W) (hr : r < w1.heap.size) (hn : ¬ Owns (s.obj lay) lay r) : W.heap[r]? = some (iterO (lay (.P k)) x.parts.clk seen) := by
  rw [h.step.turned.block r (by simpa [putO] using hr) hn, putO_at _ hr]
theorem dropped_node {s : Fs} {k : Nat} {x : Nd} {q : Nat → Bool} {frm : Int} (hk : s.nodes[k]? = some (some x)) : (s.dropped k x q frm).nodes[k]? = some (some { x with parts := ⟨x.parts.es.filter (fun e => !goes q frm e), x.parts.clk⟩ }) := by
  have hlt := (List.getElem?_eq_some_iff.1 hk).1
  unfold Fs.dropped
  rw [Fs.setNd_get, if_pos rfl, (givesS_nodes _ s).1, if_pos hlt]
set_option maxRecDepth 100000 in
theorem drop_any {s lay} (k : Nat) (x : Nd) (frm : Int) (w : World) (h : FsIs s lay w) (hk : s.nodes[k]? = some (some x)) : Calls Tryz.prog 110 #[ptrTo (lay .T), ptrTo (lay (.N k)), .int .i64 frm] w fun e w' => e = .returned (.tuple #[]) ∧ Step s lay w (s.dropS k x frm) lay w' := by
  have c4 := h.n4 hk
  have hP := h.lies.at_ (.P k) _ (Fs.obj_n hk).2
  have hpo := h.ok.parts x (List.mem_of_getElem? hk)
  have hrun := run_range_g (P := Tryz.prog) Tryz.underlying94 hP
  have hr0 : ∀ i, s.obj lay i ≠ none → lay i ≠ w.heap.size := fun i hi e => by have := h.lies.owns_lt ⟨i, hi, rfl⟩; omega
  have hn : ¬ Owns (s.obj lay) lay w.heap.size := fun ⟨i, hi, e⟩ => hr0 i hi e
  have h1 : FsIs s lay (w.alloc (iterO (lay (.P k)) x.parts.clk #[])) := h.alloc _
  have hr1 : w.heap.size < (w.alloc (iterO (lay (.P k)) x.parts.clk #[])).heap.size := by simp
  have hB1 : Turned (Owns (s.obj lay) lay) w (w.alloc (iterO (lay (.P k)) x.parts.clk #[])) := (Turned.refl _ _).alloc _
  have hi1 : (w.alloc (iterO (lay (.P k)) x.parts.clk #[])).heap[w.heap.size]? = some (iterO (lay (.P k)) x.parts.clk #[]) := by
    show (w.heap.push _)[w.heap.size]? = _
    exact Array.getElem?_push_size
  go_enter Tryz.func110, Tryz.ntmps110
  unfold ptrTo
  go_wp2_with fail
  have hz : putO (w.alloc (iterO (lay (.P k)) x.parts.clk #[])) w.heap.size (iterO (lay (.P k)) x.parts.clk #[]) = w.alloc (iterO (lay (.P k)) x.parts.clk #[]) := by
    unfold putO World.alloc
    congr 1
    apply Array.ext_getElem?
    intro j
    rw [Array.getElem?_setIfInBounds]
    by_cases e : w.heap.size = j
    · subst e; rw [if_pos rfl, if_pos (by simp)]; exact Array.getElem?_push_size.symm
    · rw [if_neg e]
  have hst0 : Rnd s lay (w.alloc (iterO (lay (.P k)) x.parts.clk #[])) w.heap.size k x frm #[] (w.alloc (iterO (lay (.P k)) x.parts.clk #[])) := ⟨by
    rw [hz]
    have : s.dropped k x (fun b => decide (b ∈ (#[] : Array Nat))) frm = s := by
      have := dropped_none (frm := frm) hk
      simpa using this
    rw [this]
    exact Step.refl h1⟩
  have hB2 : ∀ seen, Turned (Owns (s.obj lay) lay) w (putO (w.alloc (iterO (lay (.P k)) x.parts.clk #[])) w.heap.size (iterO (lay (.P k)) x.parts.clk seen)) := fun seen => hB1.put _ _ (fun q => absurd q (Nat.lt_irrefl _))
  have hsz1 : (w.alloc (iterO (lay (.P k)) x.parts.clk #[])).heap.size = w.heap.size + 1 := by simp
  clear hz hrun hi1 c4
  generalize w.alloc (iterO (lay (.P k)) x.parts.clk #[]) = w1 at *
  generalize hrr : w.heap.size = r at *
  go_loopw [6] (fun _ W => ∃ seen, Rnd s lay w1 r k x frm seen W) (fun _ W => leftN x.parts.es W r)
  case atStart => exact ⟨#[], hst0⟩
  case round =>
    obtain ⟨seen, hR⟩ := hrel
    have hit := hR.iter hr1 hn
    have hnd := dropped_node (q := fun b => decide (b ∈ seen)) (frm := frm) hk
    have hM := hR.step.is.lies.at_ (.P k) _ (Fs.obj_n hnd).2
    have hfil : ∀ e ∈ x.parts.es.filter (fun e => !goes (fun b => decide (b ∈ seen)) frm e), e ∈ x.parts.es := fun e he => (List.mem_filter.1 he).1
    have hgd : GMap.Good ⟨x.parts.es.filter (fun e => !goes (fun b => decide (b ∈ seen)) frm e), x.parts.clk⟩ := GoodE.sub hpo.good (List.filter_sublist.map _)
    have hof : GMap.Of ⟨x.parts.es.filter (fun e => !goes (fun b => decide (b ∈ seen)) frm e), x.parts.clk⟩ (.int .i64) := fun e he => hpo.of e (hfil e he)
    go_wp2_with (refine wpList_next_o rfl _ rfl r (lay (.P k)) seen (GMap.mk (x.parts.es.filter (fun e => !goes (fun b => decide (b ∈ seen)) frm e)) x.parts.clk) rfl hit hM hgd ?_ ?_)
    · intro hall
      have hend : s.dropS k x frm = s.dropped k x (fun b => decide (b ∈ seen)) frm := dropped_same fun e he hf => by
        refine Eq.symm (decide_eq_true ?_)
        refine Classical.byContradiction fun hno => hno (hall e.1 e.2.1 e.2.2 he (by simp [goes, hno]))
      go_wp2_with fail
      go_end0
      rw [hend]
      exact ⟨rfl, ⟨hR.step.is, (hB2 seen).trans hR.step.turned (fun b hb _ => hb), fun b hb => (hR.step.own b hb).imp id (fun q => by simp [putO] at q; omega)⟩⟩
    · intro ek ev eb he hgo hns n
      have hst1 : FsIs s lay (putO w1 r (iterO (lay (.P k)) x.parts.clk seen)) := ⟨h1.lies.kept fun i hi => putO_ne _ (Ne.symm (hr0 i hi)), h1.ok⟩
      have hnext := (hR.step.drewN n).beside hst1 r (iterO (lay (.P k)) x.parts.clk (seen.push eb)) hr0 (by simpa [putO] using hr1)
      have hpw : ({ putO w1 r (iterO (lay (.P k)) x.parts.clk seen) with heap := (putO w1 r (iterO (lay (.P k)) x.parts.clk seen)).heap.setIfInBounds r (iterO (lay (.P k)) x.parts.clk (seen.push eb)) } : World) = putO w1 r (iterO (lay (.P k)) x.parts.clk (seen.push eb)) := putO_twice _ _ _ _
      rw [hpw] at hnext
      have hrW : r < (wr.drewN n).heap.size := (Array.getElem?_eq_some_iff.1 hit).1
      have hit1 := putO_at (iterO (lay (.P k)) x.parts.clk (seen.push eb)) hrW
      obtain ⟨p, b, hp, hb⟩ := hpo.ints _ he
      simp only at hp hb
      subst hp hb
      change Step s lay _ _ lay (putO (wr.drewN n) r _) at hnext
      generalize putO (wr.drewN n) r (iterO (lay (.P k)) x.parts.clk (seen.push eb)) = w2 at hnext hit1
      have hM2 := hnext.is.lies.at_ (.P k) _ (Fs.obj_n hnd).2
      have hent := run_entry_g (P := Tryz.prog) (x := (.int p, .int .i64 b, eb)) (m := GMap.mk (x.parts.es.filter (fun e => !goes (fun b => decide (b ∈ seen)) frm e)) x.parts.clk) hit1 hM2 (List.mem_filter.2 ⟨he, by rw [hgo]; rfl⟩) hgd
      have t1 := hnext.is.t1
      have hmore : ∀ q : Bool, (frm ≤ p → q = true) → s.dropped k x (fun c => decide (c ∈ seen) || (q && c == eb)) frm = s.dropped k x (fun c => decide (c ∈ seen.push eb)) frm := fun q hq => dropped_same fun e he' hf => by
        by_cases e1 : e.2.2 = eb
        · have : e = (.int p, .int .i64 b, eb) := part_same hpo.good.births he' he e1
          subst this
          simp [hq hf]
        · simp [e1]
      have hleft : ∀ {W : World}, W.heap[r]? = some (iterO (lay (.P k)) x.parts.clk (seen.push eb)) → leftN x.parts.es W r < leftN x.parts.es wr r := fun hW => by
        rw [leftN_at hW, leftN_at hit]
        refine filter_less (fun y _ hy => ?_) _ he (by simp [hns]) (by simp)
        simp only [Array.mem_push, decide_eq_true_eq, not_or] at hy ⊢
        exact hy.1
      simp only [Key.val] at hent ⊢
      by_cases hf : frm ≤ p
      · have hmid := dropped_more (s := s) (k := k) (x := x) (q := fun c => decide (c ∈ seen)) (frm := frm) he hpo.good (by simp [hns]) hf
        have hq := hmore true (fun _ => rfl)
        simp only [Bool.true_and] at hq
        go_wp2_with (go_at_call 154; refine (give_any b w2 hnext.is).mono ?_; rintro e w3 ⟨⟨m, rfl⟩, hg⟩; have hst3 := hnext.trans hg; have hnd3 := hnd; rw [← (giveS_nodes _ b).1] at hnd3; have hM3 := hst3.is.lies.at_ (.P k) _ (Fs.obj_n hnd3).2; have hdel := fun ty => GMap.drop (P := Tryz.prog) (ts := #[94, 3]) (ty := ty) (k := .int p) rfl Tryz.underlying94 Tryz.underlying3 hof hM3; have c3 := hst3.is.n4 hnd3; simp only [Key.val] at hdel)
        go_roundw
        case rel =>
          refine ⟨seen.push eb, ⟨?_⟩⟩
          rw [← hq, hmid]
          exact hst3.setP hnd3 rfl ⟨hgd.del (.int p), fun e he => hpo.ints e (hfil e (delE_sub e he))⟩
        case measure =>
          have h3r : w3.heap[r]? = some (iterO (lay (.P k)) x.parts.clk (seen.push eb)) := by rw [hst3.turned.block r (by simpa [putO] using hr1) hn, putO_at _ hr1]
          exact hleft ((putO_ne _ (hr0 (.P k) (by rw [(Fs.obj_n hk).2]; simp))).trans h3r)
      · go_wp2_with fail
        go_roundw
        case rel =>
          have hq := hmore false (fun q => absurd q hf)
          simp only [Bool.false_and, Bool.or_false] at hq
          exact ⟨seen.push eb, ⟨by rw [← hq]; exact hnext⟩⟩
        case measure => exact hleft hit1
def Fs.noNd (s : Fs) (k : Nat) : Fs := { s with nodes := s.nodes.set k none }
def idle (x : Nd) : Bool := decide (x.names = 0) && decide (x.users = 0)
theorem idle_any (a b : Int) (w : World) : Calls Tryz.prog 109 #[.agg #[.int .i64 a, .int .i64 b]] w fun e w' => e = .returned (.bool (decide (a = 0) && decide (b = 0))) ∧ Below w.heap.size w w' := by
  go_enter Tryz.func109, Tryz.ntmps109
  go_wp2
  all_goals go_ret
  all_goals exact ⟨by simp_all, (Below.refl _ _).alloc (Nat.le_refl _) _⟩
section
variable {s s' : Fs} {lay lay' : FId → Nat} {w w' : World}
theorem noNd_obj (k : Nat) (j : FId) (o : Obj) (h : (s.noNd k).obj lay j = some o) : (if j = .G then some (Obj.cells ((s.nodes.mapIdx fun i o => match o with | some _ => ptrTo (lay (.N i)) | none => .pointer none).toArray.setIfInBounds k (.pointer none)) 83 (0, 0)) else s.obj lay j) = some o := by
  cases j with
  | T => simpa [Fs.obj, Fs.noNd] using h
  | G =>
    rw [if_pos rfl, ← h]
    simp only [Fs.obj, Fs.noNd, Option.some.injEq, Obj.cells.injEq, and_true]
    apply Array.ext'
    simp only [Array.toList_setIfInBounds]
    apply List.ext_getElem?
    intro j
    rw [List.getElem?_set, List.getElem?_mapIdx, List.getElem?_mapIdx, List.getElem?_set, List.length_mapIdx]
    by_cases e : k = j
    · subst e
      by_cases hlt : k < s.nodes.length
      · simp [hlt]
      · simp [hlt]
    · simp [e]; rfl
  | N i =>
    simp only [Fs.obj, Fs.noNd, List.getElem?_set] at h
    rw [if_neg (by simp)]
    by_cases e : k = i
    · subst e
      by_cases hlt : k < s.nodes.length
      · simp [hlt] at h
      · simp [hlt] at h
    · rw [if_neg e] at h; exact h
  | P i =>
    simp only [Fs.obj, Fs.noNd, List.getElem?_set] at h
    rw [if_neg (by simp)]
    by_cases e : k = i
    · subst e
      by_cases hlt : k < s.nodes.length
      · simp [hlt] at h
      · simp [hlt] at h
    · rw [if_neg e] at h; exact h
  | _ => simpa [Fs.obj, Fs.noNd, Fs.dmap, Fs.dr] using h
theorem Step.noNd (h : Step s lay w s' lay' w') (k : Nat) : Step s lay w (s'.noNd k) lay' (w'.setCell ⟨lay' .G, k, none⟩ (.pointer none)) := by
  have hown : Owns (s'.obj lay') lay' (lay' .G) := ⟨.G, by simp [Fs.obj], rfl⟩
  refine ⟨⟨(h.is.lies.set (i := .G) (c' := fun j => if j = .G then some (Obj.cells ((s'.nodes.mapIdx fun i o => match o with | some _ => ptrTo (lay' (.N i)) | none => .pointer none).toArray.setIfInBounds k (.pointer none)) 83 (0, 0)) else s'.obj lay' j) rfl k _ (fun j => rfl)).less (fun j o hj => noNd_obj k j o hj), ⟨by simpa [Fs.noNd] using h.is.ok.nodes, h.is.ok.blocks, h.is.ok.bytes, fun z hz => ?_, h.is.ok.names, h.is.ok.dirs⟩⟩, h.turned.set _ _ (fun hlt => (h.own _ hown).resolve_right (by simpa using hlt)), fun b hb => ?_⟩
  · rcases List.mem_or_eq_of_mem_set hz with q | q
    · exact h.is.ok.parts z q
    · cases q
  · obtain ⟨j, hj, rfl⟩ := hb
    refine h.own _ ⟨j, fun e => hj ?_, rfl⟩
    cases hq : (s'.noNd k).obj lay' j with
    | none => rfl
    | some o =>
      have := noNd_obj k j o hq
      by_cases q : j = .G
      · rw [q] at e; simp [Fs.obj] at e
      · rw [if_neg q, e] at this; cases this
end
def Fs.lessS (s : Fs) (i : Int) (x : Nd) : Fs := if idle x then ((s.setNd (slotOf i) x).dropS (slotOf i) x 0).noNd (slotOf i) else s.setNd (slotOf i) x
end Go.Proofs.YtbecmcjibpamoaaGreatDoor
