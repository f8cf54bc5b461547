/- FsG -/
import Derived.Test.YtbecmcjibpamoaaGreatDoorQ07
set_option linter.unusedVariables false
set_option linter.unusedSimpArgs false
set_option linter.deprecated false
set_option linter.unnecessarySimpa false
namespace Go.Proofs.YtbecmcjibpamoaaGreatDoor
open Go.RowKit
section
variable {s s' : Fs} {lay lay' : FId → Nat} {w w' : World}
theorem setNdP_obj {k : Nat} {x y : Nd} (hk : s.nodes[k]? = some (some y)) (hv : ndV lay k x = ndV lay k y) (j : FId) : (s.setNd k x).obj lay j = if j = .P k then some x.parts.obj else s.obj lay j := by
  have hlt := (List.getElem?_eq_some_iff.1 hk).1
  cases j with
  | T => simp [Fs.obj, Fs.setNd]
  | G =>
    simp only [Fs.obj, Fs.setNd, reduceCtorEq, if_false]
    rw [mapIdx_set _ _ k (some x) (some y) hk rfl]
  | N i =>
    simp only [Fs.obj, Fs.setNd_get, reduceCtorEq, if_false]
    by_cases e : i = k
    · subst e; rw [if_pos rfl, if_pos hlt, hk]; simp [hv]
    · rw [if_neg (Ne.symm e)]
  | P i =>
    simp only [Fs.obj, Fs.setNd_get, FId.P.injEq]
    by_cases e : i = k
    · subst e; simp [hlt]
    · rw [if_neg (Ne.symm e), if_neg e]
  | _ => simp [Fs.obj, Fs.setNd, Fs.dmap, Fs.dr]
theorem Step.setP {k : Nat} {x y : Nd} (h : Step s lay w s' lay' w') (hk : s'.nodes[k]? = some (some y)) (hv : ndV lay' k x = ndV lay' k y) (hp : PartsOk x.parts) :
    Step s lay w (s'.setNd k x) lay' { w' with heap := w'.heap.setIfInBounds (lay' (.P k)) x.parts.obj } := by
  have hn := (Fs.obj_n (lay := lay') hk).2
  have hown : Owns (s'.obj lay') lay' (lay' (.P k)) := ⟨.P k, by rw [hn]; simp, rfl⟩
  refine ⟨⟨h.is.lies.put hn (fun j => setNdP_obj hk hv j), h.is.ok.setNd hk hp⟩, h.turned.put _ _ (fun hlt => (h.own _ hown).resolve_right (by simpa using hlt)), fun b hb => ?_⟩
  obtain ⟨j, hj, rfl⟩ := hb
  refine h.own _ ⟨j, fun e => hj ?_, rfl⟩
  rw [setNdP_obj hk hv]
  by_cases q : j = .P k
  · rw [q, hn] at e; cases e
  · rw [if_neg q, e]
theorem Step.beside (h : Step s lay w s' lay' w') (hw : FsIs s lay w) (r : Nat) (o : Obj) (hr : ∀ i, s.obj lay i ≠ none → lay i ≠ r) (hlt : r < w.heap.size) :
    Step s lay { w with heap := w.heap.setIfInBounds r o } s' lay' { w' with heap := w'.heap.setIfInBounds r o } := by
  have hr' : ∀ i, s'.obj lay' i ≠ none → lay' i ≠ r := fun i hi e => by
    rcases h.own _ ⟨i, hi, rfl⟩ with ⟨j, hj, hq⟩ | q
    · exact hr j hj (hq.trans e)
    · omega
  have hget : ∀ (v : World) (b : Nat), ({ v with heap := v.heap.setIfInBounds r o } : World).heap[b]? = if r = b then (if r < v.heap.size then some o else none) else v.heap[b]? := fun v b => by
    show (v.heap.setIfInBounds r o)[b]? = _
    rw [Array.getElem?_setIfInBounds]
  refine ⟨⟨h.is.lies.kept fun i hi => ?_, h.is.ok⟩, ⟨h.turned.os, h.turned.tape, h.turned.output, by simpa using h.turned.size, fun b hb hn => ?_⟩, fun b hb => ?_⟩
  · rw [hget, if_neg (Ne.symm (hr' i hi))]
  · have hs := h.turned.size
    have hb' : b < w.heap.size := by simpa using hb
    rw [hget, hget]
    by_cases e : r = b
    · rw [if_pos e, if_pos e, if_pos (by omega), if_pos (by omega)]
    · rw [if_neg e, if_neg e]; exact h.turned.block b hb' hn
  · have := h.own b hb
    simpa using this
end
def Fs.giveS (s : Fs) (b : Int) : Fs := match s.bk b with
  | some l => (s.setB (slotOf b) (false, l)).setFree (incW s.free)
  | none => s
theorem giveS_bk (s : Fs) (a b : Int) : (s.giveS b).bk a = if a = b then none else s.bk a := by
  unfold Fs.giveS
  cases hb : s.bk b with
  | none =>
    show s.bk a = _
    by_cases e : a = b
    · rw [if_pos e, e, hb]
    · rw [if_neg e]
  | some l =>
    obtain ⟨h1, h2, h3⟩ := Fs.bk_slot hb
    have hlt : slotOf b < s.bs.length := by unfold slotOf; omega
    show (if a < 1 then none else match (s.bs.set (slotOf b) (false, l))[slotOf a]? with
      | some (true, l) => some l
      | _ => none) = _
    by_cases ha : a < 1
    · rw [if_pos ha, if_neg (by omega)]; unfold Fs.bk; rw [if_pos ha]
    · rw [if_neg ha, List.getElem?_set]
      by_cases e : a = b
      · subst e; rw [if_pos rfl, if_pos hlt, if_pos rfl]
      · rw [if_neg (by unfold slotOf; omega), if_neg e]
        conv => rhs; unfold Fs.bk; rw [if_neg ha]
        rfl
theorem giveS_comm (s : Fs) (a b : Int) : (s.giveS a).giveS b = (s.giveS b).giveS a := by
  by_cases e : a = b
  · rw [e]
  · have h1 : (s.giveS a).bk b = s.bk b := by rw [giveS_bk, if_neg (Ne.symm e)]
    have h2 : (s.giveS b).bk a = s.bk a := by rw [giveS_bk, if_neg e]
    rw [show (s.giveS a).giveS b = (match (s.giveS a).bk b with | some l => ((s.giveS a).setB (slotOf b) (false, l)).setFree (incW (s.giveS a).free) | none => s.giveS a) from rfl,
      show (s.giveS b).giveS a = (match (s.giveS b).bk a with | some l => ((s.giveS b).setB (slotOf a) (false, l)).setFree (incW (s.giveS b).free) | none => s.giveS b) from rfl, h1, h2]
    cases ha : s.bk a with
    | none =>
      have : s.giveS a = s := by unfold Fs.giveS; rw [ha]
      rw [this]
      cases hb : s.bk b <;> simp [Fs.giveS, hb]
    | some l =>
      cases hb : s.bk b with
      | none => simp [Fs.giveS, hb, ha]
      | some l' =>
        obtain ⟨a1, a2, a3⟩ := Fs.bk_slot ha
        obtain ⟨b1, b2, b3⟩ := Fs.bk_slot hb
        simp only [Fs.giveS, ha, hb, Fs.setB, Fs.setFree]
        rw [List.set_comm _ _ (by unfold slotOf; omega)]
theorem giveS_nodes (s : Fs) (b : Int) : (s.giveS b).nodes = s.nodes ∧ (s.giveS b).dirs = s.dirs ∧ (s.giveS b).clk = s.clk ∧ (s.giveS b).bs.length = s.bs.length := by
  unfold Fs.giveS
  cases s.bk b <;> simp [Fs.setB, Fs.setFree]
theorem setNd_giveS (s : Fs) (k : Nat) (x : Nd) (b : Int) : (s.setNd k x).giveS b = (s.giveS b).setNd k x := by
  have h : (s.setNd k x).bk b = s.bk b := rfl
  unfold Fs.giveS
  rw [h]
  cases s.bk b <;> rfl
theorem setNd_setNd (s : Fs) (k : Nat) (x y : Nd) : (s.setNd k x).setNd k y = s.setNd k y := by
  simp [Fs.setNd, List.set_set]
theorem give_any {s lay} (i : Int) (w : World) (h : FsIs s lay w) : Calls Tryz.prog 154 #[ptrTo (lay .S), .int .i64 i] w fun e w' => (∃ n, e = .returned (.int .i64 n)) ∧ Step s lay w (s.giveS i) lay w' := by
  cases hb : s.bk i with
  | some l =>
    have hg : s.giveS i = (s.setB (slotOf i) (false, l)).setFree (incW s.free) := by unfold Fs.giveS; rw [hb]
    rw [hg]
    exact (give_some i l w h hb).mono fun e w' q => ⟨⟨0, q.1⟩, q.2⟩
  | none =>
    have hg : s.giveS i = s := by unfold Fs.giveS; rw [hb]
    rw [hg]
    exact (give_none i w h hb).mono fun e w' q => ⟨⟨23, q.1⟩, q.2 ▸ Step.refl h⟩
def partOf (e : Key × Value × Nat) : Int := match e.1 with
  | .int p => p
  | _ => 0
def blockOf (e : Key × Value × Nat) : Int := match e.2.1 with
  | .int _ b => b
  | _ => 0
def givesS (s : Fs) (l : List (Key × Value × Nat)) : Fs := l.foldl (fun s e => s.giveS (blockOf e)) s
theorem givesS_one : ∀ (l : List (Key × Value × Nat)) (s : Fs) (e : Key × Value × Nat), givesS (s.giveS (blockOf e)) l = (givesS s l).giveS (blockOf e)
  | [], s, e => rfl
  | x :: l, s, e => by
    show givesS ((s.giveS (blockOf e)).giveS (blockOf x)) l = (givesS (s.giveS (blockOf x)) l).giveS (blockOf e)
    rw [giveS_comm, givesS_one l]
theorem givesS_mid (A C : List (Key × Value × Nat)) (s : Fs) (e : Key × Value × Nat) : givesS s (A ++ e :: C) = (givesS s (A ++ C)).giveS (blockOf e) := by
  unfold givesS
  rw [List.foldl_append, List.foldl_append, List.foldl_cons]
  exact givesS_one C _ e
theorem givesS_nodes : ∀ (l : List (Key × Value × Nat)) (s : Fs), (givesS s l).nodes = s.nodes ∧ (givesS s l).dirs = s.dirs ∧ (givesS s l).clk = s.clk ∧ (givesS s l).bs.length = s.bs.length
  | [], s => ⟨rfl, rfl, rfl, rfl⟩
  | x :: l, s => by
    obtain ⟨h1, h2, h3, h4⟩ := givesS_nodes l (s.giveS (blockOf x))
    obtain ⟨k1, k2, k3, k4⟩ := giveS_nodes s (blockOf x)
    exact ⟨h1.trans k1, h2.trans k2, h3.trans k3, h4.trans k4⟩
def goes (q : Nat → Bool) (frm : Int) (e : Key × Value × Nat) : Bool := q e.2.2 && decide (frm ≤ partOf e)
def Fs.dropped (s : Fs) (k : Nat) (x : Nd) (q : Nat → Bool) (frm : Int) : Fs := (givesS s (x.parts.es.filter (goes q frm))).setNd k { x with parts := ⟨x.parts.es.filter (fun e => !goes q frm e), x.parts.clk⟩ }
def Fs.dropS (s : Fs) (k : Nat) (x : Nd) (frm : Int) : Fs := s.dropped k x (fun _ => true) frm
theorem split_at {l : List (Key × Value × Nat)} {e : Key × Value × Nat} (he : e ∈ l) (hn : (l.map (·.2.2)).Nodup) : ∃ A C, l = A ++ e :: C ∧ (∀ x ∈ A, x.2.2 ≠ e.2.2) ∧ (∀ x ∈ C, x.2.2 ≠ e.2.2) := by
  obtain ⟨A, C, rfl⟩ := List.append_of_mem he
  refine ⟨A, C, rfl, fun x hx q => ?_, fun x hx q => ?_⟩ <;> rw [List.map_append, List.map_cons, List.nodup_append] at hn
  · exact hn.2.2 _ (List.mem_map_of_mem (f := fun e : Key × Value × Nat => e.2.2) hx) _ (by simp) q
  · exact (List.nodup_cons.1 hn.2.1).1 (by rw [← q]; exact List.mem_map_of_mem (f := fun e : Key × Value × Nat => e.2.2) hx)
theorem filter_congr2 {α : Type} {p q : α → Bool} {l : List α} (h : ∀ x ∈ l, p x = q x) : l.filter p = l.filter q := List.filter_congr h
theorem dropped_more {s : Fs} {k : Nat} {x : Nd} {q : Nat → Bool} {frm : Int} {e : Key × Value × Nat} (he : e ∈ x.parts.es) (hg : x.parts.Good) (hq : q e.2.2 = false) (hp : frm ≤ partOf e) :
    s.dropped k x (fun b => q b || b == e.2.2) frm = ((s.dropped k x q frm).giveS (blockOf e)).setNd k { x with parts := (GMap.mk (x.parts.es.filter (fun e => !goes q frm e)) x.parts.clk).del e.1 } := by
  have hn : (x.parts.es.map (·.2.2)).Nodup := by have := hg.births; simpa [kb, List.map_map, Function.comp_def] using this
  have hk : (x.parts.es.map (·.1)).Nodup := by have := hg.keys; simpa [kb, List.map_map, Function.comp_def] using this
  obtain ⟨A, C, hl, hA, hC⟩ := split_at he hn
  have g1 : goes q frm e = false := by simp [goes, hq]
  have g2 : goes (fun b => q b || b == e.2.2) frm e = true := by simp [goes, hp]
  have eA : A.filter (goes (fun b => q b || b == e.2.2) frm) = A.filter (goes q frm) := filter_congr2 fun y hy => by
    have hb : (y.2.2 == e.2.2) = false := beq_eq_false_iff_ne.2 (hA y hy)
    simp [goes, hb]
  have eC : C.filter (goes (fun b => q b || b == e.2.2) frm) = C.filter (goes q frm) := filter_congr2 fun y hy => by
    have hb : (y.2.2 == e.2.2) = false := beq_eq_false_iff_ne.2 (hC y hy)
    simp [goes, hb]
  have e1 : x.parts.es.filter (goes (fun b => q b || b == e.2.2) frm) = A.filter (goes q frm) ++ e :: C.filter (goes q frm) := by
    rw [hl, List.filter_append, List.filter_cons_of_pos g2, eA, eC]
  have e2 : x.parts.es.filter (goes q frm) = A.filter (goes q frm) ++ C.filter (goes q frm) := by
    rw [hl, List.filter_append, List.filter_cons_of_neg (by simp [g1])]
  have e3 : x.parts.es.filter (fun e' => !goes (fun b => q b || b == e.2.2) frm e') = delE e.1 (x.parts.es.filter (fun e => !goes q frm e)) := by
    rw [delE_filter (hk.sublist (List.filter_sublist.map _)), List.filter_filter]
    refine filter_congr2 fun y hy => ?_
    by_cases hy1 : y.2.2 = e.2.2
    · have : y = e := by
        rw [hl] at hy
        rcases List.mem_append.1 hy with hy | hy
        · exact absurd hy1 (hA y hy)
        · rcases List.mem_cons.1 hy with hy | hy
          · exact hy
          · exact absurd hy1 (hC y hy)
      subst this
      simp [g2]
    · have hne : y.1 ≠ e.1 := fun hke => hy1 (by
        have h1 : ∀ {l : List (Key × Value × Nat)}, (l.map (·.1)).Nodup → ∀ a ∈ l, ∀ b ∈ l, a.1 = b.1 → a = b := by
          intro l hl a ha b hb hab
          induction l with
          | nil => cases ha
          | cons z l ih =>
            rw [List.map_cons, List.nodup_cons] at hl
            rcases List.mem_cons.1 ha with ha' | ha' <;> rcases List.mem_cons.1 hb with hb' | hb'
            · rw [ha', hb']
            · exact absurd (List.mem_map_of_mem (f := (·.1)) hb') (by rw [← hab, ha']; exact hl.1)
            · exact absurd (List.mem_map_of_mem (f := (·.1)) ha') (by rw [hab, hb']; exact hl.1)
            · exact ih hl.2 ha' hb'
        rw [h1 hk y hy e he hke])
      have hb : (y.2.2 == e.2.2) = false := beq_eq_false_iff_ne.2 hy1
      simp [goes, hb, hne]
  unfold Fs.dropped
  rw [e1, givesS_mid, ← e2, setNd_giveS, setNd_setNd, e3]
  rfl
theorem dropped_same {s : Fs} {k : Nat} {x : Nd} {q q' : Nat → Bool} {frm : Int} (h : ∀ e ∈ x.parts.es, frm ≤ partOf e → q' e.2.2 = q e.2.2) : s.dropped k x q' frm = s.dropped k x q frm := by
  have hg : ∀ e ∈ x.parts.es, goes q' frm e = goes q frm e := fun e he => by
    unfold goes
    by_cases hf : frm ≤ partOf e
    · rw [h e he hf]
    · simp [hf]
  unfold Fs.dropped
  rw [filter_congr2 hg, filter_congr2 (p := fun e => !goes q' frm e) (q := fun e => !goes q frm e) (fun e he => by rw [hg e he])]
theorem dropped_none {s : Fs} {k : Nat} {x : Nd} {frm : Int} (hk : s.nodes[k]? = some (some x)) : s.dropped k x (fun _ => false) frm = s := by
  have h1 : x.parts.es.filter (goes (fun _ => false) frm) = [] := by simp [goes]
  have h2 : x.parts.es.filter (fun e => !goes (fun _ => false) frm e) = x.parts.es := by simp [goes]
  unfold Fs.dropped
  rw [h1, h2]
  show Fs.setNd s k x = s
  unfold Fs.setNd
  have hlt := (List.getElem?_eq_some_iff.1 hk)
  obtain ⟨h3, h4⟩ := hlt
  rw [← h4, List.set_getElem_self]
end Go.Proofs.YtbecmcjibpamoaaGreatDoor
