/- Texts of one proof, packed: WyQ, WyR, WyO, WyT, WyS -/
import Derived.Test.YtelohloaoocoaaaGreatDoorM12
import Derived.Deep.AppendLies
import Derived.Deep.RegionHeld3
set_option linter.unusedVariables false
set_option linter.unusedSimpArgs false
set_option linter.deprecated false
set_option linter.unnecessarySimpa false
/- Rows of what processes did. -/
namespace Go.Proofs.YtelohloaoocoaaaGreatDoor
open Go.RowKit IntWalk
set_option linter.unusedVariables false
set_option linter.unusedSimpArgs false

theorem info_done : (Tryz.prog.info? 39).map (fun i => (i.zero, i.size, i.bytes)) = some (some (.agg #[.int .i64 0, .int .i64 0, .int .i64 0, .int .i64 0, .string ⟨#[]⟩, .string ⟨#[]⟩, .int .i64 0, .int .i64 0, .int .i64 0, .string ⟨#[]⟩, .slice none 0 0, .int .i64 0, .int .i64 0, .int .i64 0]), 14, 152) := by kernel_rfl
/-- v is a row of what was done, in a block of the call's own (from base on) -/
def OwnD (w : World) (base : Nat) (v : Value) (L : List (Array Value)) : Prop := w.ownsRow base 39 14 v L.length (L.flatMap Array.toList)
theorem OwnD.nil (w : World) (base : Nat) : OwnD w base (.slice none 0 0) [] := World.ownsRow_nil w base _ _
theorem OwnD.len {w : World} {base : Nat} {v : Value} {L : List (Array Value)} (h : OwnD w base v L) : ∃ a cap, v = .slice a L.length cap := by
  obtain ⟨hxs, hr⟩ := h
  rcases hr with ⟨rfl, hn⟩ | ⟨g, cap, cur, rfl, _⟩
  · exact ⟨none, 0, by rw [hn]⟩
  · exact ⟨_, cap, rfl⟩
theorem OwnD.lt {w : World} {base : Nat} {v : Value} {L : List (Array Value)} (h : OwnD w base v L) : ∀ k, v.ownBlock = some k → base ≤ k ∧ k < w.heap.size := World.ownsRow.lt h
theorem OwnD.mono {w : World} {base base' : Nat} {v : Value} {L : List (Array Value)} (h : OwnD w base v L) (hb : base' ≤ base) : OwnD w base' v L := by
  obtain ⟨hxs, hr⟩ := h
  refine ⟨hxs, ?_⟩
  rcases hr with ⟨rfl, hn⟩ | ⟨g, cap, cur, rfl, hbg, hg, hr⟩
  · exact .inl ⟨rfl, hn⟩
  · exact .inr ⟨g, cap, cur, rfl, by omega, hg, hr⟩
theorem OwnD.kept {w w' : World} {base : Nat} {v : Value} {L : List (Array Value)} (h : OwnD w base v L) (hb : ∀ k, v.ownBlock = some k → w'.heap[k]? = w.heap[k]?) : OwnD w' base v L := by
  obtain ⟨hxs, hr⟩ := h
  refine ⟨hxs, ?_⟩
  rcases hr with ⟨rfl, hn⟩ | ⟨g, cap, cur, rfl, hbg, hg, hr⟩
  · exact .inl ⟨rfl, hn⟩
  · exact .inr ⟨g, cap, cur, rfl, hbg, (hb g rfl).trans hg, hr⟩
/-- the cells of one of a row -/
theorem flat_at : ∀ (L : List (Array Value)) (h : ∀ x ∈ L, x.size = 14) (k : Nat) (d : Array Value) (j : Nat), L[k]? = some d → j < 14 → (L.flatMap Array.toList)[k * 14 + j]? = d[j]?
  | [], _, k, d, j, hk, _ => by simp at hk
  | x :: L, h, 0, d, j, hk, hj => by
    simp at hk
    subst hk
    have := h x (by simp)
    rw [List.flatMap_cons, List.getElem?_append_left (by simp; omega)]
    simp
  | x :: L, h, k + 1, d, j, hk, hj => by
    have hx := h x (by simp)
    rw [List.flatMap_cons, List.getElem?_append_right (by simp; omega)]
    have e : (k + 1) * 14 + j - x.toList.length = k * 14 + j := by simp [hx]; omega
    rw [e]
    exact flat_at L (fun y hy => h y (by simp [hy])) k d j (by simpa using hk) hj
theorem OwnD.cell {w : World} {base : Nat} {v : Value} {L : List (Array Value)} (h : OwnD w base v L) (hs : ∀ x ∈ L, x.size = 14) {g off : Nat} {a : Option Nat} {n cap : Nat} (hv : v = .slice (some ⟨g, off, a⟩) n cap) : off = 0 ∧ a = none ∧ ∀ (k : Nat) (d : Array Value) (j : Nat) (u : Value), L[k]? = some d → j < 14 → d[j]? = some u → w.cell? ⟨g, k * 14 + j, none⟩ = some u := by
  obtain ⟨hxs, hr⟩ := h
  rcases hr with ⟨rfl, hn⟩ | ⟨g', cap', cur, rfl, hbg, hg, hnc, hcm, hcs, htk⟩
  · cases hv
  · cases hv
    refine ⟨rfl, rfl, fun k d j u hk hj hu => ?_⟩
    have h1 := flat_at L hs k d j hk hj
    rw [hu, ← htk] at h1
    have hlt : k * 14 + j < L.length * 14 := by
      have := (List.getElem?_eq_some_iff.1 hk).1
      omega
    rw [List.getElem?_take_of_lt hlt, Array.getElem?_toList] at h1
    simp [World.cell?, hg, h1]
/-- append of one that was done, as one step of a region that draws -/
theorem step_app_d {ops : Array Oper} {o : Oper} {a : Act} {w : World} {K : Act → World → Prop} {Q : Exit → Act → World → Prop} {E : Prop}
    (hg : o.guard = none) (s x : Operand) (hop : o.op = Op.call { callee := Callee.builtin Builtin.append, args := #[s, x], argTypes := #[27, 27] })
    (base : Nat) (v : Value) (L : List (Array Value)) (hs : a.eval s = v) (hown : OwnD w base v L) (d : Array Value) (h14 : d.size = 14) (h1 : ∀ u ∈ d.toList, u.oneCell' = true) (H : Nat) (hx : a.eval x = .slice (some ⟨H, 0, none⟩) 1 1) (hc : w.heap[H]? = some (.cells d 39 (0, 0)))
    (hlen : L.length + 1 ≤ 10000) (hbase : base ≤ w.heap.size)
    (hK : ∀ g cap w', OwnD w' base (.slice (some ⟨g, 0, none⟩) (L.length + 1) cap) (L ++ [d]) → w.grownBy w' v.ownBlock → (v.ownBlock = some g ∨ g = w.heap.size) → g < w'.heap.size → K (a.put o.dst (.slice (some ⟨g, 0, none⟩) (L.length + 1) cap)) w') :
    if Region.wanted o (yielded ops a.tmps) = true then Oper.wp Tryz.prog o a w K Q else E := by
  obtain ⟨i0, hi, hz0, hz1, hz2⟩ := info_parts info_done
  refine step_append_lies w hg s x 27 hop base 39 i0 _ 14 152 (by kernel_rfl) hi hz0 hz1 hz2 rfl (by omega) v L.length _ hs hown ⟨H, 0, none⟩ 1 1 d.toList hx (by simp [h14]) (fun j u hj => ?_) h1 (by omega) (by simp only [maxLen]; omega) (by omega) hbase _ rfl (fun g cap w' h2 h3 h4 h5 => hK g cap w' ?_ h3 h4 h5)
  · have e : (⟨H, 0, none⟩ : Addr).add j = ⟨H, j, none⟩ := by unfold Addr.add; split <;> simp_all
    rw [e]
    rw [Array.getElem?_toList] at hj
    simp [World.cell?, hc, hj]
  · unfold OwnD
    rw [List.length_append, List.flatMap_append]
    simpa using h2
end Go.Proofs.YtelohloaoocoaaaGreatDoor
/- conchlaw23.way: what is kept from round to round. -/
namespace Go.Proofs.YtelohloaoocoaaaGreatDoor
open Go.RowKit IntWalk
set_option linter.unusedVariables false
set_option linter.unusedSimpArgs false

/-- twelve rows, in the block g0 -/
def rows12 (outs : Nat → Value) : Array Value := ((List.range 12).map outs).toArray
theorem rows12_at (outs : Nat → Value) {a : Nat} (h : a < 12) : (rows12 outs)[a]? = some (outs a) := by simp [rows12, h]
def putO12 (outs : Nat → Value) (a : Nat) (v : Value) : Nat → Value := fun b => if b = a then v else outs b
theorem rows12_put (outs : Nat → Value) {a : Nat} (h : a < 12) (v : Value) : (rows12 outs).setIfInBounds a v = rows12 (putO12 outs a v) := by
  apply Array.ext'
  apply List.ext_getElem?
  intro j
  rw [Array.toList_setIfInBounds, List.getElem?_set]
  unfold rows12
  simp only [List.getElem?_map, List.length_map, List.length_range]
  by_cases q : a = j
  · subst q; simp [h, putO12]
  · rw [if_neg q]
    by_cases r : j < 12
    · simp [r, putO12, Ne.symm q]
    · simp [r]
structure OutsI (c : Nat → Prop) (base g0 : Nat) (V : World) (outs : Nat → Value) (tr : Nat → List (Array Value)) (k : Nat) : Prop where
  at_ : V.heap[g0]? = some (.cells (rows12 outs) 28 (0, 0))
  ng : ¬ c g0
  own : ∀ a, a < 12 → OwnD V base (outs a) (tr a)
  sz : ∀ a, a < 12 → (∀ x ∈ tr a, x.size = 14) ∧ (tr a).length ≤ k
  free : ∀ a, a < 12 → ∀ b, (outs a).ownBlock = some b → ¬ c b ∧ b ≠ g0
  apart : ∀ a a', a < 12 → a' < 12 → a ≠ a' → ∀ b, (outs a).ownBlock = some b → (outs a').ownBlock ≠ some b
def addT (tr : Nat → List (Array Value)) (a : Nat) (d : Array Value) : Nat → List (Array Value) := fun b => if b = a then tr b ++ [d] else tr b
section
variable {c c' : Nat → Prop} {base g0 k : Nat} {V V' : World} {outs : Nat → Value} {tr : Nat → List (Array Value)}
/-- what none of it is touched by -/
theorem OutsI.kept (h : OutsI c base g0 V outs tr k) (hk : ∀ b, b < V.heap.size → ¬ c b → V'.heap[b]? = V.heap[b]?) (hc : ∀ b, b < V.heap.size → c' b → c b) : OutsI c' base g0 V' outs tr k := by
  have hg := heap_lt h.at_
  refine ⟨(hk g0 hg h.ng).trans h.at_, fun q => h.ng (hc _ hg q), fun a ha => (h.own a ha).kept fun b hb => hk b ((h.own a ha).lt b hb).2 (h.free a ha b hb).1, h.sz, fun a ha b hb => ⟨fun q => (h.free a ha b hb).1 (hc _ ((h.own a ha).lt b hb).2 q), (h.free a ha b hb).2⟩, h.apart⟩
theorem OutsI.more (h : OutsI c base g0 V outs tr k) {k' : Nat} (hk : k ≤ k') : OutsI c base g0 V outs tr k' :=
  ⟨h.at_, h.ng, h.own, fun a ha => ⟨(h.sz a ha).1, Nat.le_trans (h.sz a ha).2 hk⟩, h.free, h.apart⟩
/-- one more row's end -/
theorem OutsI.put (h : OutsI c base g0 V outs tr k) {a : Nat} (ha : a < 12) {d : Array Value} (hd : d.size = 14) {g cap : Nat} (hown : OwnD V' base (.slice (some ⟨g, 0, none⟩) ((tr a).length + 1) cap) (tr a ++ [d])) (hgr : V.grownBy V' (outs a).ownBlock)
    (hg : (outs a).ownBlock = some g ∨ g = V.heap.size) (hcl : ∀ b, c b → b < V.heap.size) :
    OutsI c base g0 (V'.setCell ⟨g0, a, none⟩ (.slice (some ⟨g, 0, none⟩) ((tr a).length + 1) cap)) (putO12 outs a (.slice (some ⟨g, 0, none⟩) ((tr a).length + 1) cap)) (addT tr a d) (k + 1) := by
  have hg0 := heap_lt h.at_
  have hgn : g ≠ g0 ∧ ¬ c g := by
    rcases hg with q | q
    · exact ⟨(h.free a ha g q).2, (h.free a ha g q).1⟩
    · exact ⟨by omega, fun e => by have := hcl _ e; omega⟩
  have hat0 : V'.heap[g0]? = some (.cells (rows12 outs) 28 (0, 0)) := by
    rw [hgr.block g0 hg0 (fun e => (h.free a ha g0 e.symm).2 rfl)]; exact h.at_
  have hset : ∀ b, b ≠ g0 → (V'.setCell ⟨g0, a, none⟩ (.slice (some ⟨g, 0, none⟩) ((tr a).length + 1) cap)).heap[b]? = V'.heap[b]? := fun b hb => Below.heap_setCell _ _ _ _ hb
  refine ⟨?_, h.ng, fun b hb => ?_, fun b hb => ?_, fun b hb x hx => ?_, fun b b' hb hb' hne x hx => ?_⟩
  · rw [inks_row hat0, rows12_put outs ha]
  · by_cases q : b = a
    · subst q
      simp only [putO12, addT, if_pos]
      exact hown.kept fun x hx => by cases hx; exact hset _ hgn.1
    · simp only [putO12, addT, if_neg q]
      exact (h.own b hb).kept fun x hx => by
        rw [hset _ (h.free b hb x hx).2]
        exact hgr.block x ((h.own b hb).lt x hx).2 (fun e => h.apart b a hb ha q x hx e.symm)
  · have hs := h.sz b hb
    unfold addT
    by_cases q : b = a
    · rw [if_pos q]
      exact ⟨fun x hx => by
        rcases List.mem_append.1 hx with r | r
        · exact hs.1 x r
        · simp at r; rw [r]; exact hd, by simp; omega⟩
    · rw [if_neg q]; exact ⟨hs.1, by omega⟩
  · by_cases q : b = a
    · subst q
      simp only [putO12, if_pos] at hx
      cases hx
      exact ⟨hgn.2, hgn.1⟩
    · simp only [putO12, if_neg q] at hx
      exact h.free b hb x hx
  · have old : ∀ e, e < 12 → e ≠ a → (outs e).ownBlock = some g → False := fun e he hea hx => by
      rcases hg with r | r
      · exact h.apart e a he ha hea g hx r
      · have := ((h.own e he).lt g hx).2; omega
    by_cases q : b = a
    · subst q
      have q' : b' ≠ b := Ne.symm hne
      simp only [putO12, if_pos, if_neg q'] at hx ⊢
      cases hx
      exact fun e => old b' hb' q' e
    · simp only [putO12, if_neg q] at hx
      by_cases q2 : b' = a
      · subst q2
        simp only [putO12, if_pos]
        intro e
        cases e
        exact old b hb q hx
      · simp only [putO12, if_neg q2]
        exact h.apart b b' hb hb' hne x hx
end
theorem Seen.kept {W w w' : World} {p : Par} {f : Fam} {s : Ks} {l : Ly} {x : Wx} {lw : WId → Nat} (hS : Seen W p f s l x lw w) (hk : ∀ b, (Owns (allC s l x lw) (allL l lw) b ∨ b = p.b2) → w'.heap[b]? = w.heap[b]?) (hB : Below W.heap.size W w') : Seen W p f s l x lw w' :=
  ⟨⟨hS.al.lies.kept fun i hi => hk _ (.inl ⟨i, hi, rfl⟩), hS.al.ok, hS.al.xok, hS.al.kb⟩, hS.iv, hS.own, hB, (hk _ (.inr rfl)).trans hS.sink2, hS.out2, hS.row⟩
/-- what has been done, and what is yet to do -/
structure TrI (p : Par) (f0 f : Fam) (tr : Nat → List (Array Value)) : Prop where
  kid : ∀ c, c < p.n → tr (c + 2) ++ f.fut p c = f0.fut p c
  none : ∀ a, 2 ≤ a → p.n ≤ a - 2 → tr a = []
theorem TrI.step {p : Par} {f0 f f' : Fam} {tr : Nat → List (Array Value)} (h : TrI p f0 f tr) {a : Nat} {i : Int} {d : Array Value} (hi : i = (a : Int)) (ha : a = 1 ∨ ∃ c, a = c + 2 ∧ c < p.n) (hf : ∀ c, c < p.n → f.fut p c = (if i = pidC c then [d] else []) ++ f'.fut p c) : TrI p f0 f' (addT tr a d) := by
  refine ⟨fun c hc => ?_, fun b hb1 hb2 => ?_⟩
  · rw [← h.kid c hc, hf c hc]
    unfold addT
    by_cases q : c + 2 = a
    · rw [if_pos q, if_pos (by unfold pidC; omega), List.append_assoc]
    · rw [if_neg q, if_neg (by unfold pidC; omega)]; rfl
  · unfold addT
    rw [if_neg (by rcases ha with q | ⟨c, q, hc⟩ <;> omega)]
    exact h.none b hb1 hb2
/-- who is picked -/
theorem Seen.who {W w : World} {p : Par} {f : Fam} {s : Ks} {l : Ly} {x : Wx} {lw : WId → Nat} (hS : Seen W p f s l x lw w) (hp : p.Ok) {i : Int} (hi : i ∈ s.t.ready) : ∃ a : Nat, i = (a : Int) ∧ a < 12 ∧ (a = 1 ∨ ∃ c, a = c + 2 ∧ c < p.n) := by
  have hn := hp.n8
  rcases (hS.iv.F.ready_iff i).1 hi with ⟨rfl, _⟩ | ⟨c, rfl, hc⟩
  · exact ⟨1, rfl, by omega, .inl rfl⟩
  · have hcn := hS.iv.cn (c := c) (by rw [hc]; simp)
    exact ⟨c + 2, by unfold pidC; omega, by omega, .inr ⟨c, rfl, hcn⟩⟩
end Go.Proofs.YtelohloaoocoaaaGreatDoor
/- conchlaw23.way: what each process did. -/
namespace Go.Proofs.YtelohloaoocoaaaGreatDoor
open Go.RowKit IntWalk
set_option linter.unusedVariables false
set_option linter.unusedSimpArgs false

/-- what way leaves -/
def Wayed (W : World) (p : Par) (f : Fam) (s : Ks) (l : Ly) (x : Wx) (lw : WId → Nat) (w : World) (e : Ending) (w' : World) : Prop :=
  ∃ (outs : Nat → Value) (tr : Nat → List (Array Value)), e = .returned (.agg (rows12 outs)) ∧ Below W.heap.size W w' ∧ Turned (Owns (allC s l x lw) (allL l lw)) w w' ∧
    (∀ a, a < 12 → OwnD w' w.heap.size (outs a) (tr a) ∧ (∀ x ∈ tr a, x.size = 14) ∧ (tr a).length ≤ 900) ∧ (∀ c, c < p.n → tr (c + 2) = f.fut p c) ∧ (∀ a, 2 ≤ a → p.n ≤ a - 2 → tr a = [])
theorem Fam.fut_end {W w : World} {p : Par} {f : Fam} {s : Ks} {l : Ly} {x : Wx} {lw : WId → Nat} (hS : Seen W p f s l x lw w) (hr : s.t.ready = []) (c : Nat) (hc : c < p.n) : f.fut p c = [] := by
  obtain ⟨hg, hk⟩ := hS.iv.rest hr
  have hall := sumN_full (n := p.n) (cs := f.cs) (by rw [hS.iv.kn] at hk; unfold takenN at hk; omega)
  unfold Fam.fut
  rw [hall c hc]
theorem store12 (outs : Nat → Value) (g0 : Nat) (w : World) (cur : Array Value) (h : w.heap[g0]? = some (.cells cur 28 (0, 0))) (hc : cur.size = 12) (h1 : ∀ a, a < 12 → (outs a).oneCell' = true) : (storeCells ⟨g0, 0, none⟩ (rows12 outs).toList).run Tryz.prog w = .ok () (w.setRow g0 (rows12 outs)) := by
  have := run_storeCells_from (P := Tryz.prog) g0 28 (rows12 outs).toList 0 cur w h (by simp [rows12, hc]) (fun v hv => by
    simp [rows12] at hv
    obtain ⟨a, ha, rfl⟩ := hv
    exact h1 a ha)
  simpa using this
theorem load12 (outs : Nat → Value) (g0 : Nat) (w : World) (h : w.heap[g0]? = some (.cells (rows12 outs) 28 (0, 0))) : (loadVar 28 ⟨g0, 0, none⟩).run Tryz.prog w = .ok (.agg (rows12 outs)) w := by
  have hrun := run_loadCells (P := Tryz.prog) w ⟨g0, 0, none⟩ 12 outs (fun j hj => by
    have hadd : Addr.add ⟨g0, 0, none⟩ j = ⟨g0, j, none⟩ := by cases j <;> simp [Addr.add]
    rw [hadd]
    simp [World.cell?, h, rows12_at outs hj])
  have hagg : (isAgg 28).run Tryz.prog w = .ok true w := by kernel_rfl
  have hsz : (sizeOf 28).run Tryz.prog w = .ok 12 w := by kernel_rfl
  simp only [loadVar, Sem.run_bind, hagg, Result.andThen_ok, if_true, hsz, hrun, Sem.run_pure]
  rfl
set_option maxHeartbeats 1000000 in
set_option maxRecDepth 100000 in
theorem way_any {W w : World} {p : Par} {f : Fam} {s : Ks} {l : Ly} {x : Wx} {lw : WId → Nat} (hp : p.Ok) (hS : Seen W p f s l x lw w) (v : Value) (n : Nat) (zs : Nat → Int) (hn : 0 < n) (hn2 : n ≤ 200) (hP : PicksAt (Owns (allC s l x lw) (allL l lw)) w v n zs) :
    Calls Tryz.prog 8 #[ptrOf (lw .W), v] w (Wayed W p f s l x lw w) := by
  have hmu := hS.iv.mu_le hp
  obtain ⟨b, off, cap, rfl, hbl0, hP⟩ := hP
  have HS := Lib.hid hS
  have HP := Lib.hid hP
  have hnb : ((n : Int) == 0) = false := by simp; omega
  clear hS hP
  go_enter Tryz.func8, Tryz.ntmps8
  unfold ptrOf
  go_wp2_with fail
  obtain ⟨o12, ho12⟩ : ∃ o, o = Obj.cells #[Value.slice none 0 0, .slice none 0 0, .slice none 0 0, .slice none 0 0, .slice none 0 0, .slice none 0 0, .slice none 0 0, .slice none 0 0, .slice none 0 0, .slice none 0 0, .slice none 0 0, .slice none 0 0] 28 := ⟨_, rfl⟩
  rw [← ho12]
  have hB1 := below_alloc w o12
  have hB2 := hB1.trans ((below_alloc (w.alloc o12) o12).mono hB1.size)
  have hat : ((w.alloc o12).alloc o12).heap[w.heap.size + 1]? = some o12 := by
    have := heap_alloc_new (w.alloc o12) o12
    simpa using this
  have HS1 := Lib.hid (HS.out.below hB2)
  have HA1 := Lib.hid ((AStep.refl HS.out.al).below hB2)
  have hat0 : ((w.alloc o12).alloc o12).heap[w.heap.size]? = some o12 := by
    rw [Below.heap_alloc _ _ _ (by simp)]; exact heap_alloc_new w o12
  have hfr0 : ¬ Owns (allC s l x lw) (allL l lw) w.heap.size := HS.out.al.fresh (Nat.le_refl _)
  have hfr : ¬ Owns (allC s l x lw) (allL l lw) (w.heap.size + 1) := HS.out.al.fresh (by omega)
  have hO1 : OutsI (Owns (allC s l x lw) (allL l lw)) (w.heap.size + 2) (w.heap.size + 1) ((w.alloc o12).alloc o12) (fun _ => .slice none 0 0) (fun _ => []) 0 :=
    ⟨by rw [hat, ho12]; rfl, hfr, fun a _ => OwnD.nil _ _, fun a _ => ⟨by simp, by simp⟩, fun a _ b h => by (cases h), fun a a' _ _ _ b h => by (cases h)⟩
  have HO1 := Lib.hid hO1
  have HT1 := Lib.hid (show Turned (Owns (allC s l x lw) (allL l lw)) w ((w.alloc o12).alloc o12) from Turned.of_below hB2)
  have HR1 := Lib.hid (And.intro (hat0.trans (congrArg some ho12)) hfr0)
  clear hO1 hat hat0 hfr0 hB1 hB2 hfr
  generalize (w.alloc o12).alloc o12 = w1 at *
  clear ho12 o12
  generalize hbase : w.heap.size = base at *
  have HBASE := Lib.hid hbase
  obtain ⟨g0, hg0⟩ : ∃ g0, base + 1 = g0 := ⟨_, rfl⟩
  have hb2 : base + 2 = g0 + 1 := by omega
  rw [hb2, hg0] at HO1
  rw [hg0]
  clear hbase
  go_loopw [6] (fun iv V => ∃ (k : Nat) (f' : Fam) (s' : Ks) (l' : Ly) (x' : Wx) (lw' : WId → Nat) (outs : Nat → Value) (tr : Nat → List (Array Value)), iv = .int .i64 k ∧ k + f'.mu p.n ≤ f.mu p.n ∧ Seen W p f' s' l' x' lw' V ∧ lw' .W = lw .W ∧
      OutsI (Owns (allC s' l' x' lw') (allL l' lw')) (g0 + 1) g0 V outs tr k ∧ (V.heap[base]? = some (.cells #[Value.slice none 0 0, .slice none 0 0, .slice none 0 0, .slice none 0 0, .slice none 0 0, .slice none 0 0, .slice none 0 0, .slice none 0 0, .slice none 0 0, .slice none 0 0, .slice none 0 0, .slice none 0 0] 28) ∧ ¬ Owns (allC s' l' x' lw') (allL l' lw') base) ∧ TrI p f f' tr ∧ Turned (Owns (allC s l x lw) (allL l lw)) w V ∧ (∀ b, Owns (allC s' l' x' lw') (allL l' lw') b → Owns (allC s l x lw) (allL l lw) b ∨ base ≤ b)) (fun iv _ => 5000 - (intOf iv).toNat)
  case atStart => exact ⟨0, f, s, l, x, lw, _, _, rfl, by omega, HS1.out, rfl, HO1.out, HR1.out, ⟨fun _ _ => rfl, fun _ _ _ => rfl⟩, HT1.out, fun _ h => .inl h⟩
  case round =>
    obtain ⟨k, f1, s1, l1, x1, lw1, outs, tr, rfl, hk, hS1, htop, hO, hRes, hT, hTu, hOw⟩ := hrel
    have HRES := Lib.hid hRes
    have hk5 : k ≤ 900 := by omega
    obtain ⟨j, hj, hjn⟩ := mod_of k n hn
    obtain ⟨hz1, hz2, hz3⟩ := HP.out.2 j hjn
    have hz4 : wr.cell? ⟨b, off + j, none⟩ = some (.int .i64 (zs j)) := by rw [World.cell?_of_block (hTu.block b (by have := HBASE.out; omega) HP.out.1)]; exact hz1
    generalize zs j = z at hz1 hz2 hz3 hz4
    have HS2 := Lib.hid hS1
    have HO := Lib.hid hO
    have HT := Lib.hid hT
    have HTu := Lib.hid hTu
    have HOw := Lib.hid hOw
    by_cases hr : s1.t.ready = []
    · have HN := Lib.hid (seen_none hp hS1 z hr)
      rw [htop] at HN
      have HR := Lib.hid hr
      unfold ptrOf at HN
      clear hr hS1 hO hRes hT hTu hOw hz1
      go_wp2_with first | (refine wpList_load_at rfl 28 _ rfl ⟨g0, 0, none⟩ rfl _ HL.out ?_) | (go_at_call 11; refine HN.out.mono ?_; rintro e w2 ⟨rfl, hS2, hA2⟩; have HS3 := Lib.hid hS2; have HA2 := Lib.hid hA2; have HO2 := Lib.hid (HO.out.kept (c' := Owns (allC s1 l1 x1 lw1) (allL l1 lw1)) (fun b hb ho => hA2.g.turned.block b hb ho) (fun b _ h => h)); have HL := Lib.hid (load12 outs g0 (w2.alloc (.cells #[.int .i64 0, .int .i64 0, .int .i64 0, .int .i64 0, .string ⟨#[]⟩, .string ⟨#[]⟩, .int .i64 0, .int .i64 0, .int .i64 0, .string ⟨#[]⟩, .slice none 0 0, .int .i64 0, .int .i64 0, .int .i64 0] 39)) (by rw [Below.heap_alloc _ _ _ (heap_lt HO2.out.at_)]; exact HO2.out.at_)); have HST := Lib.hid (store12 outs base (w2.alloc (.cells #[.int .i64 0, .int .i64 0, .int .i64 0, .int .i64 0, .string ⟨#[]⟩, .string ⟨#[]⟩, .int .i64 0, .int .i64 0, .int .i64 0, .string ⟨#[]⟩, .slice none 0 0, .int .i64 0, .int .i64 0, .int .i64 0] 39)) _ (by rw [Below.heap_alloc _ _ _ (Nat.lt_of_lt_of_le (heap_lt HRES.out.1) hA2.g.turned.size), (hA2.kept HRES.out.1 HRES.out.2).1]) rfl (fun a ha => by obtain ⟨q, c, e⟩ := (HO.out.own a ha).len; rw [e]; rfl)); clear hS2 hA2; unfold Z14)
      have hld : base < (w2.alloc (.cells #[.int .i64 0, .int .i64 0, .int .i64 0, .int .i64 0, .string ⟨#[]⟩, .string ⟨#[]⟩, .int .i64 0, .int .i64 0, .int .i64 0, .string ⟨#[]⟩, .slice none 0 0, .int .i64 0, .int .i64 0, .int .i64 0] 39)).heap.size := by
        have := Nat.lt_of_lt_of_le (heap_lt HRES.out.1) HA2.out.g.turned.size
        simp; omega
      have HRR := Lib.hid (show (w2.alloc (.cells #[.int .i64 0, .int .i64 0, .int .i64 0, .int .i64 0, .string ⟨#[]⟩, .string ⟨#[]⟩, .int .i64 0, .int .i64 0, .int .i64 0, .string ⟨#[]⟩, .slice none 0 0, .int .i64 0, .int .i64 0, .int .i64 0] 39)).heap[base]? = _ from by rw [Below.heap_alloc _ _ _ (Nat.lt_of_lt_of_le (heap_lt HRES.out.1) HA2.out.g.turned.size), (HA2.out.kept HRES.out.1 HRES.out.2).1])
      have HOE := Lib.hid (HO2.out.kept (V' := w2.alloc (.cells #[.int .i64 0, .int .i64 0, .int .i64 0, .int .i64 0, .string ⟨#[]⟩, .string ⟨#[]⟩, .int .i64 0, .int .i64 0, .int .i64 0, .string ⟨#[]⟩, .slice none 0 0, .int .i64 0, .int .i64 0, .int .i64 0] 39)) (c' := Owns (allC s1 l1 x1 lw1) (allL l1 lw1)) (fun b hb _ => Below.heap_alloc _ _ _ hb) (fun b _ h => h))
      have HTT := Lib.hid ((HTu.out.trans HA2.out.g.turned (fun b hb hlt => by
        rcases HOw.out b hb with q | q
        · exact q
        · have := HBASE.out; omega)).alloc (.cells #[.int .i64 0, .int .i64 0, .int .i64 0, .int .i64 0, .string ⟨#[]⟩, .string ⟨#[]⟩, .int .i64 0, .int .i64 0, .int .i64 0, .string ⟨#[]⟩, .slice none 0 0, .int .i64 0, .int .i64 0, .int .i64 0] 39))
      have HBE := Lib.hid (HS3.out.old.alloc HS3.out.old.size (.cells #[.int .i64 0, .int .i64 0, .int .i64 0, .int .i64 0, .string ⟨#[]⟩, .string ⟨#[]⟩, .int .i64 0, .int .i64 0, .int .i64 0, .string ⟨#[]⟩, .slice none 0 0, .int .i64 0, .int .i64 0, .int .i64 0] 39))
      rw [HST.out]
      clear HL HST hld
      generalize w2.alloc (.cells #[.int .i64 0, .int .i64 0, .int .i64 0, .int .i64 0, .string ⟨#[]⟩, .string ⟨#[]⟩, .int .i64 0, .int .i64 0, .int .i64 0, .string ⟨#[]⟩, .slice none 0 0, .int .i64 0, .int .i64 0, .int .i64 0] 39) = w5 at *
      have HL2 := Lib.hid (fun j (hj : j < 12) => show (w5.setRow base (rows12 outs)).cell? ⟨base, j, none⟩ = some (outs j) by simp [World.cell?, setRow_heap _ _ _ _ _ _ HRR.out, rows12_at outs hj])
      go_wp2_with fail
      refine bodyPost_ret (v := .agg (rows12 outs)) ?_ rfl ⟨outs, tr, rfl, ?_, ?_, fun a ha => ⟨?_, (HO.out.sz a ha).1, Nat.le_trans (HO.out.sz a ha).2 hk5⟩, fun c hc => ?_, HT.out.none⟩
      · have x0 := HL2.out 0 (by omega)
        have x1' := HL2.out 1 (by omega)
        have x2' := HL2.out 2 (by omega)
        have x3' := HL2.out 3 (by omega)
        have x4' := HL2.out 4 (by omega)
        have x5' := HL2.out 5 (by omega)
        have x6' := HL2.out 6 (by omega)
        have x7' := HL2.out 7 (by omega)
        have x8' := HL2.out 8 (by omega)
        have x9' := HL2.out 9 (by omega)
        have x10' := HL2.out 10 (by omega)
        have x11' := HL2.out 11 (by omega)
        clear HL2 HTT HOE HRR HBE
        simp [results, Tryz.results8, go_sem, x0, x1', x2', x3', x4', x5', x6', x7', x8', x9', x10', x11']
        try rfl
      · have hWb : W.heap.size ≤ base := by have := HS.out.old.size; have := HBASE.out; omega
        exact ⟨HBE.out.os, HBE.out.tape, HBE.out.output, by simpa [World.setRow] using HBE.out.size, fun k hk => by rw [setRow_other _ _ _ _ (by omega)]; exact HBE.out.block k hk⟩
      · exact ⟨HTT.out.os, HTT.out.tape, HTT.out.output, by simpa [World.setRow] using HTT.out.size, fun k hk hn => by rw [setRow_other _ _ _ _ (by have := HBASE.out; omega)]; exact HTT.out.block k hk hn⟩
      · rw [HBASE.out]
        exact ((HOE.out.own a ha).kept fun b hb => setRow_other _ _ _ _ (by have := ((HOE.out.own a ha).lt b hb).1; omega)).mono (by omega)
      · have := HT.out.kid c hc
        rw [Fam.fut_end HS2.out HR.out c hc, List.append_nil] at this
        exact this
    · obtain ⟨j2, r0, i, hpk, hji⟩ := ready_pick hS1 z hr
      obtain ⟨a, rfl, ha12, hwho⟩ := hS1.who hp (List.mem_of_getElem? hji)
      have HN := Lib.hid (seen_some hp hS1 z hpk hji)
      rw [htop] at HN
      have HW := Lib.hid hwho
      unfold ptrOf at HN
      clear hr hS1 hO hRes hT hTu hOw hpk hji hwho hz1
      go_wp2_with (go_at_call 11; refine HN.out.mono ?_; rintro e w2 ⟨kk, fd, d, er, nn, mm, rfl, f2, s2, l2, x2, lw2, hS2, hA2, hm2, _, hfut⟩; have HS3 := Lib.hid hS2; have HA2 := Lib.hid hA2; have HF := Lib.hid hfut; clear hS2 hA2 hfut; unfold dnV)
      have hsz2 : w2.heap.size < (w2.alloc (.cells (dnV (a : Int) kk fd d er nn mm) 39)).heap.size := by simp
      have hd5 : (w2.alloc (.cells (dnV (a : Int) kk fd d er nn mm) 39)).heap[w2.heap.size]? = some (.cells (dnV (a : Int) kk fd d er nn mm) 39 (0, 0)) := heap_alloc_new _ _
      have hO2 := HO.out.kept (c' := Owns (allC s2 l2 x2 lw2) (allL l2 lw2)) (V' := w2.alloc (.cells (dnV (a : Int) kk fd d er nn mm) 39)) (fun b hb ho => by rw [Below.heap_alloc _ _ _ (Nat.lt_of_lt_of_le hb HA2.out.g.turned.size)]; exact HA2.out.g.turned.block b hb ho) (fun b hb q => by
        rcases HA2.out.g.own b q with q | q
        · exact q
        · omega)
      have HS4 := Lib.hid (HS3.out.below (below_alloc w2 (.cells (dnV (a : Int) kk fd d er nn mm) 39)))
      have hres2 : (w2.alloc (.cells (dnV (a : Int) kk fd d er nn mm) 39)).heap[base]? = _ ∧ ¬ Owns (allC s2 l2 x2 lw2) (allL l2 lw2) base := ⟨by rw [Below.heap_alloc _ _ _ (Nat.lt_of_lt_of_le (heap_lt HRES.out.1) HA2.out.g.turned.size), (HA2.out.kept HRES.out.1 HRES.out.2).1], (HA2.out.kept HRES.out.1 HRES.out.2).2⟩
      have HRES2 := Lib.hid hres2
      have hT2 := (HTu.out.trans HA2.out.g.turned (fun b hb hlt => by
        rcases HOw.out b hb with q | q
        · exact q
        · have := HBASE.out; omega)).alloc (.cells (dnV (a : Int) kk fd d er nn mm) 39)
      have HT2 := Lib.hid hT2
      have hat := hO2.at_
      obtain ⟨q, cp, hsl⟩ := (hO2.own a ha12).len
      have hoc : (w2.alloc (.cells (dnV (a : Int) kk fd d er nn mm) 39)).cell? ⟨g0, a, none⟩ = some (.slice q (tr a).length cp) := by
        rw [← hsl]; simp [World.cell?, hat, rows12_at outs ha12]
      have hof : (w2.alloc (.cells (dnV (a : Int) kk fd d er nn mm) 39)).frozen? ⟨g0, a, none⟩ = false := by simp [World.frozen?, hat]
      have HSL := Lib.hid hsl
      have HO2 := Lib.hid hO2
      have hG0 := heap_lt hat
      have hlen := ((hO2.sz a ha12).2)
      unfold dnV at HS4 HT2 hd5 hoc hof hres2 HRES2 HO2 hsz2 hG0
      clear hO2 hat hT2 hres2 hsl
      generalize w2.alloc (.cells #[.int .i64 a, .int .i64 kk, .int .i64 fd, .int .i64 0, .string ByteArray.empty, .string ⟨d.toArray⟩, .int .i64 er, .int .i64 nn, .int .i64 mm, .string ByteArray.empty, .slice none 0 0, .int .i64 0, .int .i64 0, .int .i64 0] 39) = w5 at *
      obtain ⟨c0, c1, c2, c3, c4, c5, c6, c7, c8, c9, c10, c11, c12, c13, _⟩ := cells14 hd5
      have KEEP := Lib.hid (fun (V : World) (h : V.heap[w2.heap.size]? = w5.heap[w2.heap.size]? ∧ V.heap[g0]? = w5.heap[g0]?) =>
        And.intro ((World.cell?_of_block h.1).trans c0) (And.intro ((World.cell?_of_block h.1).trans c1) (And.intro ((World.cell?_of_block h.1).trans c2) (And.intro ((World.cell?_of_block h.1).trans c3) (And.intro ((World.cell?_of_block h.1).trans c4) (And.intro ((World.cell?_of_block h.1).trans c5) (And.intro ((World.cell?_of_block h.1).trans c6) (And.intro ((World.cell?_of_block h.1).trans c7) (And.intro ((World.cell?_of_block h.1).trans c8) (And.intro ((World.cell?_of_block h.1).trans c9) (And.intro ((World.cell?_of_block h.1).trans c10) (And.intro ((World.cell?_of_block h.1).trans c11) (And.intro ((World.cell?_of_block h.1).trans c12) (And.intro ((World.cell?_of_block h.1).trans c13) ((World.cell?_of_block h.2).trans hoc)))))))))))))))
      have HOWN := Lib.hid (fun (V : World) (h : ∀ k, k < w5.heap.size → V.heap[k]? = w5.heap[k]?) => (show OwnD V (g0 + 1) (.slice q (tr a).length cp) (tr a) from HSL.out ▸ (HO2.out.own a ha12).kept (fun b hb => h b ((HO2.out.own a ha12).lt b hb).2)))
      have HFAR := Lib.hid (show ∀ b, (Value.slice q (tr a).length cp).ownBlock = some b → b ≠ w2.heap.size ∧ b ≠ g0 from fun b hb => by
        rw [← HSL.out] at hb
        exact ⟨fun e => by have := ((HO.out.own a ha12).lt b hb).2; have := HA2.out.g.turned.size; omega, (HO2.out.free a ha12 b hb).2⟩)
      have hlen2 : (tr a).length + 1 ≤ 10000 := by omega
      have hg5 : g0 + 1 ≤ w5.heap.size := hG0
      have FINAL := Lib.hid (fun (V : World) (hV : Below w5.heap.size w5 V) (g7 cp7 : Nat) (w7 : World) (hown : OwnD w7 (g0 + 1) (.slice (some ⟨g7, 0, none⟩) ((tr a).length + 1) cp7) (tr a ++ [#[.int .i64 a, .int .i64 kk, .int .i64 fd, .int .i64 0, .string ByteArray.empty, .string ⟨d.toArray⟩, .int .i64 er, .int .i64 nn, .int .i64 mm, .string ByteArray.empty, .slice none 0 0, .int .i64 0, .int .i64 0, .int .i64 0]]))
          (hgr : V.grownBy w7 (Value.slice q (tr a).length cp).ownBlock) (hat : (Value.slice q (tr a).length cp).ownBlock = some g7 ∨ g7 = V.heap.size) =>
        show Seen W p f2 s2 l2 x2 lw2 (w7.setCell ⟨g0, a, none⟩ (.slice (some ⟨g7, 0, none⟩) ((tr a).length + 1) cp7)) ∧ lw2 .W = lw .W ∧
          OutsI (Owns (allC s2 l2 x2 lw2) (allL l2 lw2)) (g0 + 1) g0 (w7.setCell ⟨g0, a, none⟩ (.slice (some ⟨g7, 0, none⟩) ((tr a).length + 1) cp7)) (putO12 outs a (.slice (some ⟨g7, 0, none⟩) ((tr a).length + 1) cp7)) (addT tr a #[.int .i64 a, .int .i64 kk, .int .i64 fd, .int .i64 0, .string ByteArray.empty, .string ⟨d.toArray⟩, .int .i64 er, .int .i64 nn, .int .i64 mm, .string ByteArray.empty, .slice none 0 0, .int .i64 0, .int .i64 0, .int .i64 0]) (k + 1) ∧
          ((w7.setCell ⟨g0, a, none⟩ (.slice (some ⟨g7, 0, none⟩) ((tr a).length + 1) cp7)).heap[base]? = some (.cells #[Value.slice none 0 0, .slice none 0 0, .slice none 0 0, .slice none 0 0, .slice none 0 0, .slice none 0 0, .slice none 0 0, .slice none 0 0, .slice none 0 0, .slice none 0 0, .slice none 0 0, .slice none 0 0] 28) ∧ ¬ Owns (allC s2 l2 x2 lw2) (allL l2 lw2) base) ∧
          TrI p f f2 (addT tr a #[.int .i64 a, .int .i64 kk, .int .i64 fd, .int .i64 0, .string ByteArray.empty, .string ⟨d.toArray⟩, .int .i64 er, .int .i64 nn, .int .i64 mm, .string ByteArray.empty, .slice none 0 0, .int .i64 0, .int .i64 0, .int .i64 0]) ∧ Turned (Owns (allC s l x lw) (allL l lw)) w (w7.setCell ⟨g0, a, none⟩ (.slice (some ⟨g7, 0, none⟩) ((tr a).length + 1) cp7)) ∧ (∀ b, Owns (allC s2 l2 x2 lw2) (allL l2 lw2) b → Owns (allC s l x lw) (allL l lw) b ∨ base ≤ b) from by
        have hOV := HO2.out.kept (c' := Owns (allC s2 l2 x2 lw2) (allL l2 lw2)) (fun b hb _ => hV.block b hb) (fun b _ h => h)
        have hcl : ∀ b, Owns (allC s2 l2 x2 lw2) (allL l2 lw2) b → b < w5.heap.size := fun b hb => HS4.out.al.lies.owns_lt hb
        have hE : ∀ b, b < w5.heap.size → b ≠ g0 → (Value.slice q (tr a).length cp).ownBlock ≠ some b → (w7.setCell ⟨g0, a, none⟩ (.slice (some ⟨g7, 0, none⟩) ((tr a).length + 1) cp7)).heap[b]? = w5.heap[b]? := fun b hb h1 h2 => by
          rw [Below.heap_setCell _ _ _ _ h1, hgr.block b (Nat.lt_of_lt_of_le hb hV.size) (fun e => h2 e.symm)]; exact hV.block b hb
        have hbs := HBASE.out
        have hown0 : ∀ b, (Value.slice q (tr a).length cp).ownBlock = some b → g0 + 1 ≤ b := fun b hb => by
          rw [← HSL.out] at hb
          exact ((HO2.out.own a ha12).lt b hb).1
        have hW0 := HS.out.old.size
        have hb2w := heap_lt HS.out.sink2
        have hw5w := HT2.out.size
        have hszw : w5.heap.size ≤ (w7.setCell ⟨g0, a, none⟩ (.slice (some ⟨g7, 0, none⟩) ((tr a).length + 1) cp7)).heap.size := by
          have := hgr.size
          have := hV.size
          simp [World.setCell]; omega
        refine ⟨HS4.out.kept (fun b hb => ?_) ⟨?_, ?_, ?_, ?_, fun b hb => ?_⟩, HA2.out.topW.trans htop, ?_, ⟨?_, HRES2.out.2⟩, HT.out.step rfl HW.out HF.out, ⟨?_, ?_, ?_, ?_, fun b hb hn => ?_⟩, fun b hb => ?_⟩
        · rcases hb with hb | hb
          · exact hE b (hcl b hb) (fun e => HO2.out.ng (e ▸ hb)) (fun e => (HO2.out.free a ha12 b (HSL.out ▸ e)).1 hb)
          · exact hE b (by omega) (by omega) (fun e => by have := hown0 b e; omega)
        · exact hgr.os.trans (hV.os.trans HS4.out.old.os)
        · exact hgr.tape.trans (hV.tape.trans HS4.out.old.tape)
        · exact hgr.output.trans (hV.output.trans HS4.out.old.output)
        · have := HS4.out.old.size; omega
        · rw [hE b (by omega) (by omega) (fun e => by have := hown0 b e; omega)]; exact HS4.out.old.block b hb
        · exact hOV.put ha12 rfl hown (by rw [HSL.out]; exact hgr) (by rw [HSL.out]; exact hat) (fun b hb => Nat.lt_of_lt_of_le (hcl b hb) hV.size)
        · rw [hE base (by omega) (by omega) (fun e => by have := hown0 base e; omega)]; exact HRES2.out.1
        · exact hgr.os.trans (hV.os.trans HT2.out.os)
        · exact hgr.tape.trans (hV.tape.trans HT2.out.tape)
        · exact hgr.output.trans (hV.output.trans HT2.out.output)
        · omega
        · rw [hE b (by omega) (by omega) (fun e => by have := hown0 b e; omega)]; exact HT2.out.block b hb hn
        · rcases HA2.out.g.own b hb with r | r
          · exact HOw.out b r
          · have := HTu.out.size; right; omega)
      have c0a : ∀ o, (w5.drew.alloc o).cell? ⟨w2.heap.size, 0, none⟩ = some (.int .i64 a) := fun o => (KEEP.out _ ⟨Below.heap_alloc _ _ _ hsz2, Below.heap_alloc _ _ _ hG0⟩).1
      have oca : ∀ o, (w5.drew.alloc o).cell? ⟨g0, a, none⟩ = some (.slice q (tr a).length cp) := fun o => (World.cell?_of_block (w := w5) (Below.heap_alloc w5.drew _ _ hG0)).trans hoc
      go_region_law (refine step_app_d rfl _ _ rfl (g0 + 1) _ (tr a) rfl (HOWN.out _ (fun k hk => Below.heap_alloc _ _ _ hk)) #[.int .i64 a, .int .i64 kk, .int .i64 fd, .int .i64 0, .string ByteArray.empty, .string ⟨d.toArray⟩, .int .i64 er, .int .i64 nn, .int .i64 mm, .string ByteArray.empty, .slice none 0 0, .int .i64 0, .int .i64 0, .int .i64 0] rfl (by simp [Value.oneCell']) _ rfl (heap_alloc_new _ _) hlen2 (by simp; omega) ?_; intro g7 cp7 w7 hown7 hgr7 hat7 hlt7; have hS7 : w7.heap[w2.heap.size]? = w5.heap[w2.heap.size]? ∧ w7.heap[g0]? = w5.heap[g0]? := ⟨(hgr7.block _ (by simp; omega) (fun e => (HFAR.out _ e.symm).1 rfl)).trans (Below.heap_alloc _ _ _ hsz2), (hgr7.block _ (by simp; omega) (fun e => (HFAR.out _ e.symm).2 rfl)).trans (Below.heap_alloc _ _ _ hG0)⟩; have hof7 : w7.frozen? ⟨g0, a, none⟩ = false := (World.frozen?_of_block hS7.2).trans hof; have hoc7 : w7.cell? ⟨g0, a, none⟩ = some (.slice q (tr a).length cp) := (World.cell?_of_block hS7.2).trans hoc; have hc07 := (KEEP.out _ hS7).1; have HFIN := Lib.hid (FINAL.out _ ((Below.refl _ _).drew.alloc (Nat.le_refl _) _) g7 cp7 w7 hown7 hgr7 hat7); clear hown7 hgr7 hat7 hlt7)
      all_goals clear FINAL KEEP HOWN HFAR c0 c1 c2 c3 c4 c5 c6 c7 c8 c9 c10 c11 c12 c13 c0a oca hoc hof hoc7 hof7 hc07 hS7
      all_goals
        go_wp2_with fail
        go_roundw
        case rel =>
          obtain ⟨F1, F2, F3, F4, F5, F6, F7⟩ := HFIN.out
          exact ⟨k + 1, f2, s2, l2, x2, lw2, _, _, by go_num, by omega, F1, F2, F3, F4, F5, F6, F7⟩
        case measure => simp [intOf]; omega
end Go.Proofs.YtelohloaoocoaaaGreatDoor
/- conchlaw23.begun: a world of a family, and where its second sink lies. -/
namespace Go.Proofs.YtelohloaoocoaaaGreatDoor
open Go.RowKit IntWalk
set_option linter.unusedVariables false
set_option linter.unusedSimpArgs false

theorem Seen.start2 {W w : World} {s : Ks} {l : Ly} {b0 b1 b2 : Nat} {zs : Nat → Int} {n : Nat} {pc : Int} {v : Value} {wb mb qb fb : Nat} (hn : Small8 n zs) (hp0 : 1 ≤ pc) (hp1 : pc ≤ 100)
    (hK : WyBegun W w s l b0 b1 b2) (hO : OwnS w W.heap.size v (lets zs n)) (hno : ∀ b, v.ownBlock = some b → ¬ Owns (s.obj l) l.all b ∧ b ≠ b2)
    (hw : w.heap[wb]? = some (.cells #[ptrOf (l.k .K), .map (some mb)] 74 (0, 0)))
    (hm : w.heap[mb]? = some ((⟨[(1, 0)], 1⟩ : PMap).gm fun _ => qb).obj)
    (hq : w.heap[qb]? = some (.cells (qsV fb (zeroQ ⟨lets zs n, none, pc, 0, false, 0, 0⟩)) 82 (0, 0)))
    (hf : w.heap[fb]? = some (.cells (fpV v ⟨lets zs n, none, pc, 0, false, 0, 0⟩) 66 (0, 0)))
    (hd : [wb, mb, qb, fb].Nodup) (hb : ∀ b ∈ [wb, mb, qb, fb], W.heap.size ≤ b ∧ ¬ Owns (s.obj l) l.all b ∧ b ≠ b2 ∧ v.ownBlock ≠ some b) :
    ∃ p s l x lw, Seen W p (Fam.start p.tl) s l x lw w ∧ p.Ok ∧ p.tl = lets zs n ∧ p.pieces = pc ∧ lw .W = wb ∧ p.b2 = b2 := by
  have hlen : (lets zs n).length = n := by simp [lets]
  obtain ⟨xc, xb, hov, hrow, hxc⟩ : ∃ (xc : Option (Nat × Array Value)) (xb : Nat), rowV xb (lets zs n).length xc = v ∧ RowOk (lets zs n) xc ∧ ∀ cap cs, xc = some (cap, cs) → w.heap[xb]? = some (.cells cs 9 (0, 0)) ∧ W.heap.size ≤ xb ∧ v.ownBlock = some xb := by
    obtain ⟨h1, h2⟩ := hO
    rcases h2 with ⟨rfl, hn⟩ | ⟨g, cap, cur, rfl, hbg, hg, hnc, hcm, hcs, htk⟩
    · refine ⟨none, 0, rfl, List.eq_nil_of_length_eq_zero hn, fun _ _ e => by cases e⟩
    · refine ⟨some (cap, cur), g, rfl, ⟨hnc, hcm, by simpa using hcs, by simp only [Nat.mul_one] at htk; exact htk⟩, fun cap' cs' e => ?_⟩
      cases e
      exact ⟨hg, hbg, rfl⟩
  let p : Par := ⟨lets zs n, pc, 1, b0, b1, b2, s.h.gs⟩
  let x := wx0 (l.k .K) (lets zs n) xc pc
  let lw := lw0 wb mb qb fb xb
  have hkey : ∀ i, i ∈ x.m.keys ↔ i = 1 := by intro i; simp [x, wx0, PMap.keys]
  have htv : x.tv lw 1 = v := hov
  have hob : ∀ i, x.obj lw i ≠ none → i = .W ∨ i = .M ∨ i = .Q 1 ∨ i = .F 1 ∨ (i = .X ∧ ∃ cap cs, xc = some (cap, cs)) := by
    intro i hi
    cases i with
    | W => exact .inl rfl
    | M => exact .inr (.inl rfl)
    | X =>
      refine .inr (.inr (.inr (.inr ⟨rfl, ?_⟩)))
      cases hx : xc with
      | none => exact absurd (by simp [Wx.obj, x, wx0, hx]) hi
      | some q => exact ⟨q.1, q.2, rfl⟩
    | Q k =>
      by_cases e : k = 1
      · subst e; exact .inr (.inr (.inl rfl))
      · exact absurd (by simp only [Wx.obj, hkey, if_neg e]) hi
    | F k =>
      by_cases e : k = 1
      · subst e; exact .inr (.inr (.inr (.inl rfl)))
      · exact absurd (by simp only [Wx.obj, hkey, if_neg e]) hi
    | A k => exact absurd (by simp [Wx.obj, x, wx0, zeroQ]) hi
  have hown : ∀ b, Owns (x.obj lw) lw b → b ∈ [wb, mb, qb, fb] ∨ (v.ownBlock = some b ∧ W.heap.size ≤ b) := by
    rintro b ⟨i, hi, rfl⟩
    rcases hob i hi with rfl | rfl | rfl | rfl | ⟨rfl, cap, cs, hx⟩
    · left; simp [lw, lw0]
    · left; simp [lw, lw0]
    · left; simp [lw, lw0]
    · left; simp [lw, lw0]
    · right; exact ⟨(hxc cap cs hx).2.2, (hxc cap cs hx).2.1⟩
  have hlies : Lies (x.obj lw) lw w := by
    refine ⟨fun i o ho => ?_, fun i j hi hj e => ?_⟩
    · rcases hob i (by rw [ho]; simp) with rfl | rfl | rfl | rfl | ⟨rfl, cap, cs, hx⟩
      · exact hw.trans ho
      · exact hm.trans ho
      · rw [Wx.obj_q ((hkey 1).2 rfl)] at ho; exact hq.trans ho
      · rw [Wx.obj_f ((hkey 1).2 rfl), htv] at ho; exact hf.trans ho
      · have : x.obj lw .X = some (.cells cs 9 (0, 0)) := by simp only [Wx.obj, x, wx0, hx]
        rw [this] at ho
        exact (hxc cap cs hx).1.trans ho
    · simp only [List.nodup_cons, List.mem_cons, List.not_mem_nil, or_false, not_or] at hd
      have hX : ∀ cap cs, xc = some (cap, cs) → xb ≠ wb ∧ xb ≠ mb ∧ xb ≠ qb ∧ xb ≠ fb := fun cap cs hx => by
        have := (hxc cap cs hx).2.2
        exact ⟨fun e => (hb wb (by simp)).2.2.2 (by rw [← e]; exact this), fun e => (hb mb (by simp)).2.2.2 (by rw [← e]; exact this), fun e => (hb qb (by simp)).2.2.2 (by rw [← e]; exact this), fun e => (hb fb (by simp)).2.2.2 (by rw [← e]; exact this)⟩
      rcases hob i hi with rfl | rfl | rfl | rfl | ⟨rfl, cap, cs, hx⟩ <;> rcases hob j hj with rfl | rfl | rfl | rfl | ⟨rfl, cap', cs', hx'⟩ <;> first
        | rfl
        | (exfalso
           simp only [lw, lw0] at e
           first
             | (have := hX _ _ hx; omega)
             | (have := hX _ _ hx'; omega)
             | omega)
  have hb2 := heap_lt hK.sink2
  refine ⟨p, s, l, x, lw, ⟨⟨hK.is.lies.both hlies fun b hb1 hb2 => ?_, hK.is.ok, ?_, rfl⟩, ?_, fun b hb => ?_, hK.old, hK.sink2, fun hb => ?_, hK.row⟩, ?_, rfl, rfl, rfl, rfl⟩
  · rcases hown b hb2 with q | q
    · exact (hb b q).2.1 hb1
    · exact (hno b q.1).1 hb1
  · refine ⟨one_ok, hrow, fun i hi => ⟨rfl, fun _ => rfl, fun q => absurd rfl q⟩⟩
  · have hT : takenN p.n (fun _ => Kid.unborn) = 0 := by
      unfold takenN
      rw [sumN_congr (g := fun _ => 0) (fun _ _ => by simp)]
      have := sumN_le (n := p.n) (K := 0) (g := fun _ => 0) (fun _ _ => Nat.le_refl _)
      omega
    have hTS : takenS p.n (fun _ => Kid.unborn) = 0 := by
      unfold takenS
      rw [sumN_congr (g := fun _ => 0) (fun _ _ => by simp)]
      have := sumN_le (n := p.n) (K := 0) (g := fun _ => 0) (fun _ _ => Nat.le_refl _)
      omega
    have hp : p.n = n := hlen
    have h8 := hn.1
    exact {
      F := hK.F p.n
      tn := Nat.zero_le _
      born := fun c => ⟨fun _ => Nat.zero_le _, fun _ => rfl⟩
      kn := hT.symm
      late := fun h => by
        rcases h with h | h | h
        · exact absurd rfl h
        · cases h
        · cases h
      stand := fun h => by cases h
      awake := fun _ => rfl
      done := fun h => by cases h
      xk := fun i => by
        rw [hkey]
        unfold alivePid
        constructor
        · exact fun h => .inl ⟨h, rfl⟩
        · rintro (⟨h, _⟩ | ⟨c, _, h⟩)
          · exact h
          · cases h
      ol := rfl
      par := fun _ => { re := rfl, rm0 := Int.le_refl _, rn := fun _ h => absurd h (by show ¬ 1 ≤ 0; omega), child := rfl, own := rfl, tl := rfl, pieces := rfl, step := rfl, s0 := Int.le_refl _,
                        sum := fun _ => by show (0 : Int) + 0 = ((takenS p.n (fun _ => Kid.unborn) : Nat) : Int); rw [hTS]; rfl, sumS := fun h => (by cases h), st := rfl, call := fun h => (by cases h) }
      kid := fun c h => by cases h
      unb := fun c _ hc => by
        show p.tl[c]? = some (p.tl.getD c [])
        rw [List.getD_eq_getElem?_getD]
        cases hx : p.tl[c]? with
        | none => rw [List.getElem?_eq_none_iff] at hx; exact absurd hc (Nat.not_lt.2 hx)
        | some t => rfl
      dead := fun c h => by rcases h with h | h <;> cases h
      out := fun b => by
        show s.h.out.count b + _ = _
        rw [hK.h0]; simp; rfl
      outl := by
        show s.h.out.length + _ ≤ 800
        rw [hK.h0]
        have := sumN_lets zs n hn
        rw [hp]
        simpa [Fam.start] using this
      gs := rfl }
  · rcases hb with ⟨i, hi, rfl⟩
    cases i with
    | inl i => exact hK.own _ ⟨i, hi, rfl⟩
    | inr i =>
      rcases hown _ ⟨i, hi, rfl⟩ with q | q
      · exact (hb _ q).1
      · exact q.2
  · rcases hb with ⟨i, hi, e⟩
    cases i with
    | inl i => exact hK.out2 ⟨i, hi, e⟩
    | inr i =>
      rcases hown _ ⟨i, hi, e⟩ with q | q
      · exact (hb _ q).2.2.1 rfl
      · exact (hno _ q.1).2 rfl
  · exact ⟨by show (lets zs n).length ≤ 8; rw [hlen]; exact hn.1, fun c t ht => by
      have hc : c < n := by rw [← hlen]; exact (List.getElem?_eq_some_iff.1 ht).1
      have := hn.2 c hc
      simp [p, lets, hc, letT] at ht
      rw [← ht]; simp; omega, hp0, hp1, (by show (1 : Int) ≤ 1; decide), (by show (1 : Int) ≤ 1000; decide)⟩
set_option maxHeartbeats 1000000 in
set_option maxRecDepth 100000 in
theorem begun_any2 (W : World) (v : Value) (n : Nat) (zs : Nat → Int) (hN : Nums W v n zs) (pc : Int) (hpc0 : -9223372036854775808 ≤ pc) (hpc1 : pc ≤ 9223372036854775807) :
    Calls Tryz.prog 6 #[v, .int .i64 pc] W fun e w' => Below W.heap.size W w' ∧
      ((¬ (Small8 n zs ∧ 1 ≤ pc ∧ pc ≤ 100) ∧ e = .returned (.tuple #[.pointer none, .bool false])) ∨
       ((Small8 n zs ∧ 1 ≤ pc ∧ pc ≤ 100) ∧ ∃ p s l x lw, Seen W p (Fam.start p.tl) s l x lw w' ∧ p.Ok ∧ p.tl = lets zs n ∧ p.pieces = pc ∧ W.heap.size ≤ p.b2 ∧ e = .returned (.tuple #[ptrOf (lw .W), .bool true]))) := by
  have HL := Lib.hid (letters_any W v n zs hN)
  have hWW := Lib.hid (Below.refl W.heap.size W)
  clear hN
  by_cases hs : Small8 n zs
  · by_cases hp : 1 ≤ pc ∧ pc ≤ 100
    · obtain ⟨hp0, hp1⟩ := hp
      have HSM := Lib.hid hs
      go_enter Tryz.func6, Tryz.ntmps6
      go_wp2_with (go_at_call 17; refine HL.out.mono ?_; rintro e w1 ⟨hB1, ⟨hno, rfl⟩ | ⟨_, v1, rfl, hO1⟩⟩; · exact absurd hs hno)
      clear HL
      have HB1 := Lib.hid hB1
      obtain ⟨ad, cap, hv1⟩ := hO1.len
      subst hv1
      have HO1 := Lib.hid hO1
      clear hB1 hO1 hs
      go_wp2_with (go_at_call 18; refine (newfs_c w1).mono ?_; rintro e w2 ⟨m, rfl, hS1, hm1⟩; have HS1 := Lib.hid hS1; have HM1 := Lib.hid hm1; clear hS1 hm1; unfold ptrOf)
      go_wp2_with (go_at_call 19; refine (newsys_c HS1.out HM1.out).mono ?_; rintro e w3 ⟨m', rfl, hS2⟩; have HS2 := Lib.hid hS2; clear hS2; unfold ptrOf)
      obtain ⟨s, l, b0, b1, b2, hbeg, hK⟩ := wy_begun HS2.out
      rw [← hK]
      have HBEG := Lib.hid (hbeg.lift HB1.out (below_alloc w3 (.cells #[.slice ad (lets zs n).length cap, .int .i64 pc, .int .i64 0, .bool false, .int .i64 0, .int .i64 0] 66)))
      have HOWN := Lib.hid hbeg.own
      have HN2 := Lib.hid hbeg.new2
      have HNW := Lib.hid (worldnew_any _ HBEG.out.is (by rw [Tab.stateOf, if_pos ((hbeg.F n).tk 1 |>.2 (.inl (.inl ⟨rfl, rfl⟩))), ((hbeg.F n).one rfl).2]; rfl) w3.heap.size)
      have HOLD := Lib.hid hbeg.old
      have HFB := Lib.hid (show ¬ Owns (s.obj l) l.all w3.heap.size ∧ w3.heap.size ≠ b2 from ⟨fun ho => by have := hbeg.is.lies.owns_lt ho; omega, fun e => by have := heap_lt hbeg.sink2; omega⟩)
      clear hbeg hK
      unfold ptrOf at HNW
      go_wp2_with (go_at_call 20; refine HNW.out.mono ?_; rintro e w5 ⟨wb, mb, qb, rfl, hB5, h1, h2, h3, h4, h5, h6, g1, g2, g3⟩; have HB5 := Lib.hid hB5; have HG1 := Lib.hid g1; have HG2 := Lib.hid g2; have HG3 := Lib.hid g3; clear hB5 g1 g2 g3)
      go_ret2
      have hsz0 := HB1.out.size
      have hsz1 := HOLD.out.size
      have hsz3 : (w3.alloc (.cells #[.slice ad (lets zs n).length cap, .int .i64 pc, .int .i64 0, .bool false, .int .i64 0, .int .i64 0] 66)).heap.size = w3.heap.size + 1 := by simp
      have hF3 : (w3.alloc (.cells #[.slice ad (lets zs n).length cap, .int .i64 pc, .int .i64 0, .bool false, .int .i64 0, .int .i64 0] 66)).heap[w3.heap.size]? = some (.cells #[.slice ad (lets zs n).length cap, .int .i64 pc, .int .i64 0, .bool false, .int .i64 0, .int .i64 0] 66) := heap_alloc_new _ _
      have hO3 : OwnS (w3.alloc (.cells #[.slice ad (lets zs n).length cap, .int .i64 pc, .int .i64 0, .bool false, .int .i64 0, .int .i64 0] 66)) W.heap.size (.slice ad (lets zs n).length cap) (lets zs n) := (HO1.out.below HOLD.out).alloc _
      generalize w3.alloc (.cells #[.slice ad (lets zs n).length cap, .int .i64 pc, .int .i64 0, .bool false, .int .i64 0, .int .i64 0] 66) = w4 at *
      have hbeg := HBEG.out.lift (Below.refl _ _) HB5.out
      have hO5 := hO3.below HB5.out
      have hF5 := (HB5.out.block _ (by omega)).trans hF3
      have hlt := fun b hb => OwnS.lt HO1.out b hb
      have hks : ∀ k, Owns (s.obj l) l.all k → k < w3.heap.size + 1 := fun k hk => by have := HBEG.out.is.lies.owns_lt hk; omega
      have hb2 := heap_lt HBEG.out.sink2
      have hfb : ¬ Owns (s.obj l) l.all w3.heap.size ∧ w3.heap.size ≠ b2 := ⟨HFB.out.1, HFB.out.2⟩
      obtain ⟨p, s', l', x, lw, hS, hok, e1, e2, e3, e4⟩ := Seen.start2 (pc := pc) HSM.out hp0 hp1 hbeg hO5 (fun b hb => ⟨fun ho => by have := HOWN.out b ho; have := (hlt b hb).2; omega, fun e => by have := HN2.out; have := (hlt b hb).2; omega⟩) HG1.out HG2.out HG3.out hF5 (by simp; omega)
        (fun b hb => by
          simp only [List.mem_cons, List.not_mem_nil, or_false] at hb
          rcases hb with rfl | rfl | rfl | rfl
          · exact ⟨by omega, fun ho => by have := hks _ ho; omega, by omega, fun e => by have := (hlt _ e).2; omega⟩
          · exact ⟨by omega, fun ho => by have := hks _ ho; omega, by omega, fun e => by have := (hlt _ e).2; omega⟩
          · exact ⟨by omega, fun ho => by have := hks _ ho; omega, by omega, fun e => by have := (hlt _ e).2; omega⟩
          · exact ⟨by omega, hfb.1, hfb.2, fun e => by have := (hlt _ e).2; omega⟩)
      refine ⟨hbeg.old, Or.inr ⟨⟨HSM.out, hp0, hp1⟩, p, s', l', x, lw, hS, hok, e1, e2, (by rw [e4]; exact hbeg.new2), ?_⟩⟩
      rw [e3]
      rfl
    · have hp2 : (decide (pc < 1) || decide (100 < pc)) = true := by
        simp; omega
      go_enter Tryz.func6, Tryz.ntmps6
      go_wp2_with (go_at_call 17; refine HL.out.mono ?_; rintro e w1 ⟨hB1, ⟨hno, rfl⟩ | ⟨_, v1, rfl, hO1⟩⟩; · exact absurd hs hno)
      all_goals go_ret2
      all_goals first
        | exact ⟨hB1, rfl⟩
        | exact ⟨hB1, .inl ⟨fun h => hp h.2, rfl⟩⟩
  · go_enter Tryz.func6, Tryz.ntmps6
    go_wp2_with (go_at_call 17; refine HL.out.mono ?_; rintro e w1 ⟨hB1, ⟨_, rfl⟩ | ⟨hno, v1, rfl, hO1⟩⟩; rotate_left; · exact absurd hno hs)
    all_goals go_ret2
    all_goals exact ⟨hB1, .inl ⟨fun h => hs h.1, rfl⟩⟩
end Go.Proofs.YtelohloaoocoaaaGreatDoor
/- conchlaw23.WorldOwn: it returns true at every three rows of numbers, in every world that holds them, and changes nothing that was there. No other condition. -/
namespace Go.Proofs.YtelohloaoocoaaaGreatDoor
open Go.RowKit IntWalk
set_option linter.unusedVariables false
set_option linter.unusedSimpArgs false

theorem Seen.since {W W1 w : World} {p : Par} {f : Fam} {s : Ks} {l : Ly} {x : Wx} {lw : WId → Nat} (h : Seen W1 p f s l x lw w) (hB : Below W.heap.size W W1) : Seen W p f s l x lw w :=
  ⟨h.al, h.iv, fun k hk => Nat.le_trans hB.size (h.own k hk), hB.trans (h.old.mono hB.size), h.sink2, h.out2, h.row⟩
/-- what a family does in the end is the same in any world -/
theorem fut_same {p p' : Par} (tl : List (List UInt8)) (h : p.pieces = p'.pieces) (c : Nat) : (Fam.start tl).fut p c = (Fam.start tl).fut p' c := by
  unfold Fam.fut Fam.start
  rw [h]
theorem evs_shape (pc c : Nat) : ∀ (k : Nat) (r : List UInt8), ∀ x ∈ evs pc c k r, ∃ (i k f : Int) (dd : List UInt8) (m : Int), x = dnV i k f dd 0 m 0
  | 0, r, x, hx => by
    simp [evs] at hx
    exact ⟨_, _, _, _, _, hx⟩
  | k + 1, r, x, hx => by
    rw [evs] at hx
    split at hx
    · simp at hx; exact ⟨_, _, _, _, _, hx⟩
    · rcases List.mem_cons.1 hx with q | q
      · exact ⟨_, _, _, _, _, q⟩
      · exact evs_shape pc c k _ x q
theorem fut_shape (p : Par) (f : Fam) (c : Nat) : ∀ x ∈ f.fut p c, ∃ (i k f : Int) (dd : List UInt8) (m : Int), x = dnV i k f dd 0 m 0 := by
  intro x hx
  unfold Fam.fut at hx
  split at hx
  · exact evs_shape _ _ _ _ x hx
  · exact evs_shape _ _ _ _ x hx
  · cases hx
theorem OwnD.form {w : World} {base : Nat} {q : Option Addr} {n cap : Nat} {L : List (Array Value)} (h : OwnD w base (.slice q n cap) L) (hn : 0 < L.length) : ∃ g, q = some ⟨g, 0, none⟩ := by
  obtain ⟨hxs, hr⟩ := h
  rcases hr with ⟨_, h0⟩ | ⟨g, cap, cur, e, _⟩
  · omega
  · cases e; exact ⟨g, rfl⟩
/-- a row of those that were done, behind a call that leaves it -/
theorem OwnD.below {w w' : World} {base : Nat} {v : Value} {L : List (Array Value)} (h : OwnD w base v L) (hb : ∀ k, base ≤ k → k < w.heap.size → w'.heap[k]? = w.heap[k]?) : OwnD w' base v L :=
  h.kept fun k hk => hb k (h.lt k hk).1 (h.lt k hk).2
set_option maxHeartbeats 1000000 in
set_option maxRecDepth 100000 in
theorem own_any (W : World) (v1 : Value) (n : Nat) (zs : Nat → Int) (hN : Nums W v1 n zs) (v2 : Value) (n2 : Nat) (zs2 : Nat → Int) (hN2 : Nums W v2 n2 zs2) (v3 : Value) (n3 : Nat) (zs3 : Nat → Int) (hN3 : Nums W v3 n3 zs3) :
    Calls Tryz.prog 3 #[v1, v2, v3] W fun e w' => e = .returned (.bool true) ∧ Below W.heap.size W w' := by
  have HBG := Lib.hid (begun_any2 W v1 n zs hN 7 (by decide) (by decide))
  have HN := Lib.hid hN
  have HN2 := Lib.hid hN2
  have HN3 := Lib.hid hN3
  obtain ⟨q3, c3, rfl⟩ := hN3.len
  obtain ⟨q2, c2, rfl⟩ := hN2.len
  obtain ⟨q1, c1, rfl⟩ := hN.len
  clear hN hN2 hN3
  by_cases hsm : Small8 n zs
  · have hsm7 : Small8 n zs ∧ (1 : Int) ≤ 7 ∧ (7 : Int) ≤ 100 := ⟨hsm, by decide, by decide⟩
    by_cases hgo : (0 < n2 ∧ n2 ≤ 200) ∧ (0 < n3 ∧ n3 ≤ 200)
    · obtain ⟨⟨h20, h22⟩, ⟨h30, h32⟩⟩ := hgo
      have hb2 : ((n2 : Int) == 0) = false := by simp; omega
      have hb3 : ((n3 : Int) == 0) = false := by simp; omega
      have hd2 : decide ((n2 : Int) > 200) = false := by simp; omega
      have hd3 : decide ((n3 : Int) > 200) = false := by simp; omega
      go_enter Tryz.func3, Tryz.ntmps3
      go_wp2_with first
        | (go_at_call 6; (with_reducible refine HBG.out.mono ?_); rintro e w1 ⟨hB1, hor⟩; obtain ⟨p, s, l, x, lw, hS, hok, htl, hpp, _, rfl⟩ := (hor.resolve_left (fun q => absurd hsm7 q.1)).2; have HB1 := Lib.hid hB1; have HS := Lib.hid hS; have HBG2 := Lib.hid (begun_any2 w1 _ n zs (HN.out.below hB1) 7 (by decide) (by decide)); clear hS hor hB1 HBG)
        | (go_at_call 6; (with_reducible refine HBG2.out.mono ?_); rintro e w2 ⟨hB2, hor⟩; obtain ⟨p2, s2, l2, x2, lw2, hS2, hok2, htl2, hpp2, hnew, rfl⟩ := (hor.resolve_left (fun q => absurd hsm7 q.1)).2; have HB2 := Lib.hid hB2; have HSv := Lib.hid (HS.out.below hB2); have HSw := Lib.hid hS2; have HNEW := Lib.hid hnew; have HW1 := Lib.hid (way_any hok HSv.out _ n2 zs2 h20 h22 (PicksAt.of_nums HN2.out h20 HSv.out)); clear hS2 hor hB2 hnew)
      unfold ptrOf at *
      go_wp2_with first
        | (go_at_call 8; (with_reducible refine HW1.out.mono ?_); rintro e w3 ⟨outs1, tr1, rfl, hBW3, hT3, ho1, hk1, hn1⟩; have HBW3 := Lib.hid hBW3; have HT3 := Lib.hid hT3; have HO1 := Lib.hid ho1; have HK1 := Lib.hid hk1; have HN1 := Lib.hid hn1; clear hBW3 hT3 ho1 hk1 hn1)
      have hone1 : ∀ a, a < 12 → (outs1 a).oneCell' = true := fun a ha => by obtain ⟨q, c, e⟩ := ((HO1.out a ha).1).len; rw [e]; rfl
      rw [store12 outs1 w3.heap.size (w3.alloc (.cells #[Value.slice none 0 0, .slice none 0 0, .slice none 0 0, .slice none 0 0, .slice none 0 0, .slice none 0 0, .slice none 0 0, .slice none 0 0, .slice none 0 0, .slice none 0 0, .slice none 0 0, .slice none 0 0] 28)) _ (heap_alloc_new _ _) rfl hone1]
      have hx4 := setRow_heap (w3.alloc (.cells #[Value.slice none 0 0, .slice none 0 0, .slice none 0 0, .slice none 0 0, .slice none 0 0, .slice none 0 0, .slice none 0 0, .slice none 0 0, .slice none 0 0, .slice none 0 0, .slice none 0 0, .slice none 0 0] 28)) w3.heap.size _ (rows12 outs1) _ _ (heap_alloc_new w3 (.cells #[Value.slice none 0 0, .slice none 0 0, .slice none 0 0, .slice none 0 0, .slice none 0 0, .slice none 0 0, .slice none 0 0, .slice none 0 0, .slice none 0 0, .slice none 0 0, .slice none 0 0, .slice none 0 0] 28))
      have hk4 : ∀ b, b < w3.heap.size → ((w3.alloc (.cells #[Value.slice none 0 0, .slice none 0 0, .slice none 0 0, .slice none 0 0, .slice none 0 0, .slice none 0 0, .slice none 0 0, .slice none 0 0, .slice none 0 0, .slice none 0 0, .slice none 0 0, .slice none 0 0] 28)).setRow w3.heap.size (rows12 outs1)).heap[b]? = w3.heap[b]? := fun b hb => by
        rw [setRow_other _ _ _ _ (by omega), Below.heap_alloc _ _ _ hb]
      have hs4 : ((w3.alloc (.cells #[Value.slice none 0 0, .slice none 0 0, .slice none 0 0, .slice none 0 0, .slice none 0 0, .slice none 0 0, .slice none 0 0, .slice none 0 0, .slice none 0 0, .slice none 0 0, .slice none 0 0, .slice none 0 0] 28)).setRow w3.heap.size (rows12 outs1)).heap.size = w3.heap.size + 1 := by simp [World.setRow]
      have hB4 : Below w3.heap.size w3 ((w3.alloc (.cells #[Value.slice none 0 0, .slice none 0 0, .slice none 0 0, .slice none 0 0, .slice none 0 0, .slice none 0 0, .slice none 0 0, .slice none 0 0, .slice none 0 0, .slice none 0 0, .slice none 0 0, .slice none 0 0] 28)).setRow w3.heap.size (rows12 outs1)) := ⟨rfl, rfl, rfl, by omega, hk4⟩
      generalize (w3.alloc (.cells #[Value.slice none 0 0, .slice none 0 0, .slice none 0 0, .slice none 0 0, .slice none 0 0, .slice none 0 0, .slice none 0 0, .slice none 0 0, .slice none 0 0, .slice none 0 0, .slice none 0 0, .slice none 0 0] 28)).setRow w3.heap.size (rows12 outs1) = w4 at *
      have hds : ∀ b, (Owns (allC s2 l2 x2 lw2) (allL l2 lw2) b ∨ b = p2.b2) → b < w2.heap.size ∧ ¬ Owns (allC s l x lw) (allL l lw) b := fun b hb => by
        have h1 : w1.heap.size ≤ b ∧ b < w2.heap.size := by
          rcases hb with hb | rfl
          · exact ⟨HSw.out.own b hb, HSw.out.al.lies.owns_lt hb⟩
          · exact ⟨HNEW.out, heap_lt HSw.out.sink2⟩
        exact ⟨h1.2, fun ho => by have := HS.out.al.lies.owns_lt ho; omega⟩
      have hsz3 := HT3.out.size
      have HSw4 := Lib.hid ((HSw.out.since HB1.out).kept (w' := w4) (fun b hb => (hk4 b (Nat.lt_of_lt_of_le (hds b hb).1 hsz3)).trans (HT3.out.block b (hds b hb).1 (hds b hb).2)) (HBW3.out.trans (hB4.mono (by have := HBW3.out.size; omega))))
      have HO4 := Lib.hid (fun a (ha : a < 12) => And.intro ((HO1.out a ha).1.below (w' := w4) (fun k _ hk => hk4 k hk)) (HO1.out a ha).2)
      have HX4 := Lib.hid hx4
      have HW2 := Lib.hid (way_any hok2 HSw4.out _ n3 zs3 h30 h32 (PicksAt.of_nums HN3.out h30 HSw4.out))
      have HLT4 := Lib.hid (fun b (hb : Owns (allC s2 l2 x2 lw2) (allL l2 lw2) b) => (hds b (.inl hb)).1)
      have HSZ := Lib.hid (And.intro hsz3 hs4)
      unfold ptrOf at HW2
      clear hx4 hk4 hB4 hds hone1
      generalize hgx : w3.heap.size = gx at *
      go_wp2_with first
        | (go_at_call 8; (with_reducible refine HW2.out.mono ?_); rintro e w5 ⟨outs2, tr2, rfl, hBW5, hT5, ho2, hk2, hn2⟩; have HBW5 := Lib.hid hBW5; have HT5 := Lib.hid hT5; have HO2 := Lib.hid ho2; have HK2 := Lib.hid hk2; have HN22 := Lib.hid hn2; clear hBW5 hT5 ho2 hk2 hn2)
      have hone2 : ∀ a, a < 12 → (outs2 a).oneCell' = true := fun a ha => by obtain ⟨q, c, e⟩ := ((HO2.out a ha).1).len; rw [e]; rfl
      rw [store12 outs2 w5.heap.size (w5.alloc (.cells #[Value.slice none 0 0, .slice none 0 0, .slice none 0 0, .slice none 0 0, .slice none 0 0, .slice none 0 0, .slice none 0 0, .slice none 0 0, .slice none 0 0, .slice none 0 0, .slice none 0 0, .slice none 0 0] 28)) _ (heap_alloc_new _ _) rfl hone2]
      have hy6 := setRow_heap (w5.alloc (.cells #[Value.slice none 0 0, .slice none 0 0, .slice none 0 0, .slice none 0 0, .slice none 0 0, .slice none 0 0, .slice none 0 0, .slice none 0 0, .slice none 0 0, .slice none 0 0, .slice none 0 0, .slice none 0 0] 28)) w5.heap.size _ (rows12 outs2) _ _ (heap_alloc_new w5 (.cells #[Value.slice none 0 0, .slice none 0 0, .slice none 0 0, .slice none 0 0, .slice none 0 0, .slice none 0 0, .slice none 0 0, .slice none 0 0, .slice none 0 0, .slice none 0 0, .slice none 0 0, .slice none 0 0] 28))
      have hk6 : ∀ b, b < w5.heap.size → ((w5.alloc (.cells #[Value.slice none 0 0, .slice none 0 0, .slice none 0 0, .slice none 0 0, .slice none 0 0, .slice none 0 0, .slice none 0 0, .slice none 0 0, .slice none 0 0, .slice none 0 0, .slice none 0 0, .slice none 0 0] 28)).setRow w5.heap.size (rows12 outs2)).heap[b]? = w5.heap[b]? := fun b hb => by
        rw [setRow_other _ _ _ _ (by omega), Below.heap_alloc _ _ _ hb]
      have hs6 : ((w5.alloc (.cells #[Value.slice none 0 0, .slice none 0 0, .slice none 0 0, .slice none 0 0, .slice none 0 0, .slice none 0 0, .slice none 0 0, .slice none 0 0, .slice none 0 0, .slice none 0 0, .slice none 0 0, .slice none 0 0] 28)).setRow w5.heap.size (rows12 outs2)).heap.size = w5.heap.size + 1 := by simp [World.setRow]
      have hB6 : Below w5.heap.size w5 ((w5.alloc (.cells #[Value.slice none 0 0, .slice none 0 0, .slice none 0 0, .slice none 0 0, .slice none 0 0, .slice none 0 0, .slice none 0 0, .slice none 0 0, .slice none 0 0, .slice none 0 0, .slice none 0 0, .slice none 0 0] 28)).setRow w5.heap.size (rows12 outs2)) := ⟨rfl, rfl, rfl, by omega, hk6⟩
      generalize (w5.alloc (.cells #[Value.slice none 0 0, .slice none 0 0, .slice none 0 0, .slice none 0 0, .slice none 0 0, .slice none 0 0, .slice none 0 0, .slice none 0 0, .slice none 0 0, .slice none 0 0, .slice none 0 0, .slice none 0 0] 28)).setRow w5.heap.size (rows12 outs2) = w6 at *
      have hsz5 := HT5.out.size
      have hx6 : w6.heap[gx]? = some (.cells (rows12 outs1) 28 (0, 0)) := by
        have h1 := HSZ.out
        rw [hk6 gx (by omega), HT5.out.block gx (by omega) (fun ho => by have := HLT4.out gx ho; omega)]; exact HX4.out
      have HOX := Lib.hid (fun a (ha : a < 12) => And.intro ((HO4.out a ha).1.below (w' := w6) (fun k h1 h2 => by
        rw [hk6 k (by omega), HT5.out.block k h2 (fun ho => by have := HLT4.out k ho; omega)])) (HO4.out a ha).2)
      have HOY := Lib.hid (fun a (ha : a < 12) => And.intro ((HO2.out a ha).1.below (w' := w6) (fun k _ h2 => hk6 k h2)) (HO2.out a ha).2)
      have HBE := Lib.hid (HBW5.out.trans (hB6.mono (by have := HBW5.out.size; omega)))
      have HSAME := Lib.hid (show ∀ a, 2 ≤ a → tr1 a = tr2 a from fun a ha => by
        have e1 : p.n = n := by rw [Par.n, htl]; simp [lets]
        have e2 : p2.n = n := by rw [Par.n, htl2]; simp [lets]
        by_cases q : a - 2 < n
        · obtain ⟨c, rfl⟩ : ∃ c, a = c + 2 := ⟨a - 2, by omega⟩
          rw [HK1.out c (by omega), HK2.out c (by omega), htl, htl2]
          exact fut_same _ (by rw [hpp, hpp2]) c
        · rw [HN1.out a ha (by omega), HN22.out a ha (by omega)])
      clear hk6 hB6 hone2 hsz5 hs6 hsz3 hs4
      have HSH := Lib.hid (show ∀ a, 2 ≤ a → ∀ x ∈ tr1 a, ∃ (i k f : Int) (dd : List UInt8) (m : Int), x = dnV i k f dd 0 m 0 from fun a ha x hx => by
        have e1 : p.n = n := by rw [Par.n, htl]; simp [lets]
        by_cases q : a - 2 < n
        · obtain ⟨c, rfl⟩ : ∃ c, a = c + 2 := ⟨a - 2, by omega⟩
          rw [HK1.out c (by omega)] at hx
          exact fut_shape _ _ _ x hx
        · rw [HN1.out a ha (by omega)] at hx; cases hx)
      generalize w5.heap.size = gy at *
      have HX6 := Lib.hid (fun a (ha : a < 12) => show w6.cell? ⟨gx, a, none⟩ = some (outs1 a) by simp [World.cell?, hx6, rows12_at outs1 ha])
      have HY6 := Lib.hid (fun a (ha : a < 12) => show w6.cell? ⟨gy, a, none⟩ = some (outs2 a) by simp [World.cell?, hy6, rows12_at outs2 ha])
      clear hx6 hy6
      go_wp2_with fail
      go_loopw [13] (fun iv V => ∃ i : Nat, iv = .int .i64 i ∧ 2 ≤ i ∧ i ≤ 12 ∧ ∃ nd, V = w6.drewN nd) (fun iv _ => 12 - (intOf iv).toNat)
      case atStart => exact ⟨2, rfl, by omega, by omega, 0, rfl⟩
      case round =>
        obtain ⟨i, rfl, hi2, hi12, nd, hV⟩ := hrel
        have HV := Lib.hid hV
        clear hV
        by_cases hlt : i < 12
        · have hlt2 : (i : Int) < 12 := by omega
          have hcx : wr.cell? ⟨gx, i, none⟩ = some (outs1 i) := by rw [HV.out]; exact HX6.out i hlt
          have hcy : wr.cell? ⟨gy, i, none⟩ = some (outs2 i) := by rw [HV.out]; exact HY6.out i hlt
          obtain ⟨hox, hsz1, hln1⟩ := HOX.out i hlt
          obtain ⟨hoy, hsz2, hln2⟩ := HOY.out i hlt
          rw [← HSAME.out i hi2] at hoy hsz2 hln2
          have hsh := HSH.out i hi2
          obtain ⟨qx, cx, hvx⟩ := hox.len
          obtain ⟨qy, cy, hvy⟩ := hoy.len
          rw [hvx] at hcx hox
          rw [hvy] at hcy hoy
          have HVX := Lib.hid hvx
          have HVY := Lib.hid hvy
          generalize tr1 i = L at *
          generalize hL : L.length = m at *
          have HOX1 := Lib.hid hox
          have HOY1 := Lib.hid hoy
          have HSH1 := Lib.hid hsh
          have HSZ1 := Lib.hid hsz1
          have HLL := Lib.hid hL
          clear hox hoy hsh hsz1 hsz2 hvx hvy hL
          have HCX := Lib.hid (HX6.out i hlt)
          have HCY := Lib.hid (HY6.out i hlt)
          go_wp2_with fail
          go_quiet (fail)
          go_wp2_with fail
          go_loopw [14] (fun kv V => ∃ k : Nat, kv = .int .i64 k ∧ k ≤ m ∧ ∃ nd, V = w6.drewN nd) (fun kv _ => m - (intOf kv).toNat)
          case atStart => exact ⟨0, rfl, Nat.zero_le _, nd + nq, by rw [HV.out, World.drewN_drewN]⟩
          case round =>
            obtain ⟨k, rfl, hkm, nd2, hV2⟩ := hrel
            have HV2 := Lib.hid hV2
            clear hV2
            have hcx2 : wr.cell? ⟨gx, i, none⟩ = some (.slice qx m cx) := by rw [HV2.out]; exact HCX.out.trans (congrArg some HVX.out)
            have hcy2 : wr.cell? ⟨gy, i, none⟩ = some (.slice qy m cy) := by rw [HV2.out]; exact HCY.out.trans (congrArg some HVY.out)
            by_cases hlk : k < m
            · have hlk2 : (k : Int) < m := by omega
              have hll := HLL.out
              obtain ⟨xk, hxk⟩ : ∃ xk, L[k]? = some xk := ⟨_, List.getElem?_eq_getElem (by omega)⟩
              obtain ⟨i0, k0, f0, dd, m0, rfl⟩ := HSH1.out xk (List.mem_of_getElem? hxk)
              obtain ⟨g1, rfl⟩ := HOX1.out.form (by omega)
              obtain ⟨g2, rfl⟩ := HOY1.out.form (by omega)
              obtain ⟨_, _, hC1⟩ := HOX1.out.cell HSZ1.out rfl
              obtain ⟨_, _, hC2⟩ := HOY1.out.cell HSZ1.out rfl
              have HC1 := Lib.hid (fun (j : Nat) (u : Value) (hj : j < 14) (hu : (dnV i0 k0 f0 dd 0 m0 0)[j]? = some u) => show wr.cell? ⟨g1, k * 14 + j, none⟩ = some u by rw [HV2.out]; exact hC1 k _ j u hxk hj hu)
              have HC2 := Lib.hid (fun (j : Nat) (u : Value) (hj : j < 14) (hu : (dnV i0 k0 f0 dd 0 m0 0)[j]? = some u) => show wr.cell? ⟨g2, k * 14 + j, none⟩ = some u by rw [HV2.out]; exact hC2 k _ j u hxk hj hu)
              clear hC1 hC2 hxk hll
              go_wp2_with fail
              have x1 : wr.cell? ⟨g1, k * 14 + 1, none⟩ = some (.int .i64 k0) := HC1.out 1 _ (by omega) rfl
              have x2 : wr.cell? ⟨g1, k * 14 + 2, none⟩ = some (.int .i64 f0) := HC1.out 2 _ (by omega) rfl
              have x3 : wr.cell? ⟨g1, k * 14 + 3, none⟩ = some (.int .i64 0) := HC1.out 3 _ (by omega) rfl
              have x4 : wr.cell? ⟨g1, k * 14 + 4, none⟩ = some (.string ByteArray.empty) := HC1.out 4 _ (by omega) rfl
              have x5 : wr.cell? ⟨g1, k * 14 + 5, none⟩ = some (.string ⟨dd.toArray⟩) := HC1.out 5 _ (by omega) rfl
              have x6 : wr.cell? ⟨g1, k * 14 + 6, none⟩ = some (.int .i64 0) := HC1.out 6 _ (by omega) rfl
              have x7 : wr.cell? ⟨g1, k * 14 + 7, none⟩ = some (.int .i64 m0) := HC1.out 7 _ (by omega) rfl
              have y1 : wr.cell? ⟨g2, k * 14 + 1, none⟩ = some (.int .i64 k0) := HC2.out 1 _ (by omega) rfl
              have y2 : wr.cell? ⟨g2, k * 14 + 2, none⟩ = some (.int .i64 f0) := HC2.out 2 _ (by omega) rfl
              have y3 : wr.cell? ⟨g2, k * 14 + 3, none⟩ = some (.int .i64 0) := HC2.out 3 _ (by omega) rfl
              have y4 : wr.cell? ⟨g2, k * 14 + 4, none⟩ = some (.string ByteArray.empty) := HC2.out 4 _ (by omega) rfl
              have y5 : wr.cell? ⟨g2, k * 14 + 5, none⟩ = some (.string ⟨dd.toArray⟩) := HC2.out 5 _ (by omega) rfl
              have y6 : wr.cell? ⟨g2, k * 14 + 6, none⟩ = some (.int .i64 0) := HC2.out 6 _ (by omega) rfl
              have y7 : wr.cell? ⟨g2, k * 14 + 7, none⟩ = some (.int .i64 m0) := HC2.out 7 _ (by omega) rfl
              have hkm3 : k * 14 ≤ 100000 := by omega
              go_quiet (fail)
              go_wp2_with fail
              exact ⟨⟨k + 1, by go_num, by omega, nd2 + nq, by rw [HV2.out, World.drewN_drewN]⟩, by simp [intOf]; omega⟩
            · have hlk2 : (m : Int) ≤ k := by omega
              go_wp2_with fail
              exact ⟨⟨i + 1, by go_num, by omega, by omega, nd2, HV2.out⟩, by simp [intOf]; omega⟩
        · have hlt2 : (12 : Int) ≤ i := by omega
          go_wp2_with (go_at_call 7; refine (awake_c _).mono ?_; rintro e w10 ⟨rfl, hB10⟩)
          go_ret
          have hBE : Below W.heap.size W wr := by rw [HV.out]; exact ⟨HBE.out.os, HBE.out.tape, HBE.out.output, HBE.out.size, HBE.out.block⟩
          exact ⟨rfl, hBE.trans (hB10.mono hBE.size)⟩
    · go_enter Tryz.func3, Tryz.ntmps3
      go_wp2_with (go_at_call 6; (with_reducible refine HBG.out.mono ?_); rintro e w1 ⟨hB1, hor⟩; obtain ⟨p, s, l, x, lw, hS, hok, htl, hpp, _, rfl⟩ := (hor.resolve_left (fun q => absurd hsm7 q.1)).2; have HB1 := Lib.hid hB1; have HBG2 := Lib.hid (begun_any2 w1 _ n zs (HN.out.below hB1) 7 (by decide) (by decide)); clear hS hor hB1 HBG)
      go_wp2_with first
        | (go_at_call 6; (with_reducible refine HBG2.out.mono ?_); rintro e w2 ⟨hB2, hor⟩; obtain ⟨p2, s2, l2, x2, lw2, hS2, hok2, htl2, hpp2, hnew, rfl⟩ := (hor.resolve_left (fun q => absurd hsm7 q.1)).2; have HB2 := Lib.hid hB2; clear hS2 hor hB2 hnew; unfold ptrOf at *)
        | (go_at_call 7; refine (awake_c _).mono ?_; rintro e w10 ⟨rfl, hB10⟩)
      all_goals first
        | (exfalso; refine hgo ⟨⟨?_, ?_⟩, ⟨?_, ?_⟩⟩ <;> omega; done)
        | (go_ret; exact ⟨rfl, (HB1.out.trans (HB2.out.mono HB1.out.size)).trans (hB10.mono (Nat.le_trans HB1.out.size HB2.out.size))⟩)
  · go_enter Tryz.func3, Tryz.ntmps3
    go_wp2_with (go_at_call 6; (with_reducible refine HBG.out.mono ?_); rintro e w1 ⟨hB1, hor⟩; obtain ⟨_, rfl⟩ := hor.resolve_right (fun q => hsm q.1.1); have HB1 := Lib.hid hB1; have HBG2 := Lib.hid (begun_any2 w1 _ n zs (HN.out.below hB1) 7 (by decide) (by decide)); clear hor hB1 HBG)
    go_wp2_with first
      | (go_at_call 6; (with_reducible refine HBG2.out.mono ?_); rintro e w2 ⟨hB2, hor⟩; obtain ⟨_, rfl⟩ := hor.resolve_right (fun q => hsm q.1.1); have HB2 := Lib.hid hB2; clear hor hB2)
      | (go_at_call 7; refine (awake_c _).mono ?_; rintro e w10 ⟨rfl, hB10⟩)
    go_ret; exact ⟨rfl, (HB1.out.trans (HB2.out.mono HB1.out.size)).trans (hB10.mono (Nat.le_trans HB1.out.size HB2.out.size))⟩
end Go.Proofs.YtelohloaoocoaaaGreatDoor
