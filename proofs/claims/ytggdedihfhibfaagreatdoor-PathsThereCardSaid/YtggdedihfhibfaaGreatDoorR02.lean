/- Texts of one proof, packed: RfA, RfB -/
import Derived.Test.YtggdedihfhibfaaGreatDoorR01
import Derived.Laws.ResultCell
import Derived.Laws.Rows
import Derived.Laws.Tables
import Derived.Laws.CopyOwn
set_option linter.unusedVariables false
set_option linter.unusedSimpArgs false
set_option linter.deprecated false
set_option linter.unnecessarySimpa false
/- The document's tree in a world: what is known of its blocks; no more than that it is one. -/
namespace Go.Proofs.YtggdedihfhibfaaGreatDoor
open Go.RowKit
set_option linter.unusedVariables false
set_option linter.unusedSimpArgs false

/-- the blocks: the tree, its table, its nodes, its parents -/
structure RB where
  F : Nat
  T : Nat
  L : Nat
  P : Nat
/-- none, or 64 truth values in a block of the tree's own -/
def HasAt (O : Nat → Prop) (w : World) (v : Value) : Prop :=
  v = .slice none 0 0 ∨ ∃ h cs, v = .slice (some ⟨h, 0, none⟩) 64 64 ∧ O h ∧ w.heap[h]? = some (.cells cs 4 (0, 0)) ∧ cs.size = 64 ∧ ∀ j, j < 64 → ∃ b, cs[j]? = some (.bool b)
/-- the node i of a row of cells -/
def NdAt (O : Nat → Prop) (w : World) (cs : Array Value) (i : Nat) : Prop :=
  ∃ (k n u : Int) (s : List UInt8) (v : Value), cs[i * 5]? = some (.int .i64 k) ∧ cs[i * 5 + 1]? = some (.int .i64 n) ∧ cs[i * 5 + 2]? = some (.int .i64 u) ∧ cs[i * 5 + 3]? = some (.string ⟨s.toArray⟩) ∧ cs[i * 5 + 4]? = some v ∧ HasAt O w v ∧ (k = 0 ∨ v ≠ .slice none 0 0) ∧ s.length ≤ 5000
/-- up to M names -/
def RowAt (O : Nat → Prop) (M : Nat) (w : World) (v : Value) : Prop :=
  v = .slice none 0 0 ∨ ∃ g n c cs, v = .slice (some ⟨g, 0, none⟩) n c ∧ n ≤ M ∧ O g ∧ w.heap[g]? = some (.cells cs 170 (0, 0)) ∧ ∀ i, i < n → ∃ (d e : Int) (s : List UInt8), cs[i * 3]? = some (.int .i64 d) ∧ cs[i * 3 + 1]? = some (.string ⟨s.toArray⟩) ∧ cs[i * 3 + 2]? = some (.int .i64 e) ∧ s.length ≤ 5000
structure RIs (N M : Nat) (b : RB) (O : Nat → Prop) (w : World) : Prop where
  f : ∃ v, w.heap[b.F]? = some (.cells #[ptrTo b.T, v, .slice (some ⟨b.P, 0, none⟩) (N + 1) (N + 1)] 158 (0, 0)) ∧ RowAt O M w v
  t : ∃ m, w.heap[b.T]? = some (.cells #[.slice (some ⟨b.L, 0, none⟩) (N + 1) (N + 1), .int .i64 m] 215 (0, 0))
  l : ∃ cs, w.heap[b.L]? = some (.cells cs 164 (0, 0)) ∧ cs.size = (N + 1) * 5 ∧ ∀ i, i ≤ N → NdAt O w cs i
  p : ∃ cs, w.heap[b.P]? = some (.cells cs 3 (0, 0)) ∧ cs.size = N + 1 ∧ ∀ i, i ≤ N → ∃ n, cs[i]? = some (.int .i64 n)
  oF : O b.F
  oT : O b.T
  oL : O b.L
  oP : O b.P
  small : N ≤ 1000
  own_lt : ∀ k, O k → k < w.heap.size
structure RStep (N M : Nat) (b : RB) (O : Nat → Prop) (w : World) (M' : Nat) (O' : Nat → Prop) (w' : World) : Prop where
  is : RIs N M' b O' w'
  turned : Turned O w w'
  own : ∀ k, O' k → O k ∨ w.heap.size ≤ k
theorem blk_lt {w : World} {k : Nat} {o : Obj} (h : w.heap[k]? = some o) : k < w.heap.size := (Array.getElem?_eq_some_iff.1 h).1
theorem ty_ne {w : World} {a b : Nat} {cs ds : Array Value} {A B : TypeId} {x y : Nat × Nat} (h1 : w.heap[a]? = some (.cells cs A x)) (h2 : w.heap[b]? = some (.cells ds B y)) (h : A ≠ B) : a ≠ b := by
  rintro rfl
  rw [h1] at h2
  injection h2 with h3
  injection h3 with _ h4
  exact h h4
section
variable {N M M' : Nat} {b : RB} {O O' : Nat → Prop} {w w' : World}
theorem HasAt.kept {v : Value} (h : HasAt O w v) (hk : ∀ k cs, O k → w.heap[k]? = some (.cells cs 4 (0, 0)) → w'.heap[k]? = w.heap[k]?) : HasAt O w' v := by
  rcases h with rfl | ⟨h, cs, rfl, ho, hh, hs, hb⟩
  · exact .inl rfl
  · exact .inr ⟨h, cs, rfl, ho, (hk h cs ho hh).trans hh, hs, hb⟩
theorem HasAt.mono {v : Value} (h : HasAt O w v) (hO : ∀ k, O k → O' k) : HasAt O' w v := by
  rcases h with rfl | ⟨h, cs, rfl, ho, hh, hs, hb⟩
  · exact .inl rfl
  · exact .inr ⟨h, cs, rfl, hO _ ho, hh, hs, hb⟩
theorem NdAt.kept {cs : Array Value} {i : Nat} (h : NdAt O w cs i) (hk : ∀ k cs, O k → w.heap[k]? = some (.cells cs 4 (0, 0)) → w'.heap[k]? = w.heap[k]?) : NdAt O w' cs i := by
  obtain ⟨k, n, u, s, v, h1, h2, h3, h4, h5, h6, h7⟩ := h
  exact ⟨k, n, u, s, v, h1, h2, h3, h4, h5, h6.kept hk, h7⟩
theorem NdAt.mono {cs : Array Value} {i : Nat} (h : NdAt O w cs i) (hO : ∀ k, O k → O' k) : NdAt O' w cs i := by
  obtain ⟨k, n, u, s, v, h1, h2, h3, h4, h5, h6, h7⟩ := h
  exact ⟨k, n, u, s, v, h1, h2, h3, h4, h5, h6.mono hO, h7⟩
theorem RowAt.kept {v : Value} (h : RowAt O M w v) (hk : ∀ k cs, O k → w.heap[k]? = some (.cells cs 170 (0, 0)) → w'.heap[k]? = w.heap[k]?) : RowAt O M w' v := by
  rcases h with rfl | ⟨g, n, c, cs, rfl, hn, ho, hh, hb⟩
  · exact .inl rfl
  · exact .inr ⟨g, n, c, cs, rfl, hn, ho, (hk g cs ho hh).trans hh, hb⟩
theorem RowAt.mono {v : Value} (h : RowAt O M w v) (hO : ∀ k, O k → O' k) (hM : M ≤ M') : RowAt O' M' w v := by
  rcases h with rfl | ⟨g, n, c, cs, rfl, hn, ho, hh, hb⟩
  · exact .inl rfl
  · exact .inr ⟨g, n, c, cs, rfl, Nat.le_trans hn hM, hO _ ho, hh, hb⟩
theorem lt_kept {w w' : World} {k : Nat} (h : k < w.heap.size) (hk : w'.heap[k]? = w.heap[k]?) : k < w'.heap.size := by
  rw [Array.getElem?_eq_getElem h] at hk
  exact (Array.getElem?_eq_some_iff.1 hk).1
theorem lt_but {w w' : World} {x k : Nat} {o : Obj} (h : k < w.heap.size) (hk : ∀ k, k ≠ x → w'.heap[k]? = w.heap[k]?) (hx : w'.heap[x]? = some o) : k < w'.heap.size := by
  by_cases e : k = x
  · subst e; exact blk_lt hx
  · exact lt_kept h (hk k e)
theorem RIs.mono (h : RIs N M b O w) (hO : ∀ k, O k → O' k) (hlt' : ∀ k, O' k → k < w.heap.size) (hM : M ≤ M') : RIs N M' b O' w := by
  obtain ⟨⟨v, f1, f2⟩, ht, ⟨cs, l1, l2, l3⟩, hp, oF, oT, oL, oP, hs, hlt⟩ := h
  exact ⟨⟨v, f1, f2.mono hO hM⟩, ht, ⟨cs, l1, l2, fun i hi => (l3 i hi).mono hO⟩, hp, hO _ oF, hO _ oT, hO _ oL, hO _ oP, hs, hlt'⟩
theorem RIs.kept (h : RIs N M b O w) (hk : ∀ k, O k → k < w.heap.size → w'.heap[k]? = w.heap[k]?) : RIs N M b O w' := by
  obtain ⟨⟨v, f1, f2⟩, ⟨m, t1⟩, ⟨cs, l1, l2, l3⟩, ⟨ps, p1, p2, p3⟩, oF, oT, oL, oP, hs, hlt⟩ := h
  exact ⟨⟨v, (hk _ oF (blk_lt f1)).trans f1, f2.kept fun k _ ho hh => hk k ho (blk_lt hh)⟩, ⟨m, (hk _ oT (blk_lt t1)).trans t1⟩, ⟨cs, (hk _ oL (blk_lt l1)).trans l1, l2, fun i hi => (l3 i hi).kept fun k _ ho hh => hk k ho (blk_lt hh)⟩, ⟨ps, (hk _ oP (blk_lt p1)).trans p1, p2, p3⟩, oF, oT, oL, oP, hs, fun k ho => lt_kept (hlt k ho) (hk k ho (hlt k ho))⟩
theorem RIs.alloc (h : RIs N M b O w) (o : Obj) : RIs N M b O (w.alloc o) := h.kept fun k _ hk => Below.heap_alloc _ _ _ hk
theorem RIs.drewN (h : RIs N M b O w) (n : Nat) : RIs N M b O (w.drewN n) := h.kept fun k _ _ => rfl
/-- the nodes' block is another -/
theorem RIs.putL (h : RIs N M b O w) (hk : ∀ k, k ≠ b.L → w'.heap[k]? = w.heap[k]?) {cs : Array Value} (hL : w'.heap[b.L]? = some (.cells cs 164 (0, 0))) (hsz : cs.size = (N + 1) * 5) (hn : ∀ i, i ≤ N → NdAt O w cs i) : RIs N M b O w' := by
  obtain ⟨⟨v, f1, f2⟩, ⟨m, t1⟩, ⟨cs0, l1, l2, l3⟩, ⟨ps, p1, p2, p3⟩, oF, oT, oL, oP, hs, hlt⟩ := h
  exact ⟨⟨v, (hk _ (ty_ne f1 l1 (by decide))).trans f1, f2.kept fun k _ _ hh => hk k (ty_ne hh l1 (by decide))⟩, ⟨m, (hk _ (ty_ne t1 l1 (by decide))).trans t1⟩, ⟨cs, hL, hsz, fun i hi => (hn i hi).kept fun k _ _ hh => hk k (ty_ne hh l1 (by decide))⟩, ⟨ps, (hk _ (ty_ne p1 l1 (by decide))).trans p1, p2, p3⟩, oF, oT, oL, oP, hs, fun k ho => lt_but (hlt k ho) hk hL⟩
/-- the parents' block is another -/
theorem RIs.putP (h : RIs N M b O w) (hk : ∀ k, k ≠ b.P → w'.heap[k]? = w.heap[k]?) {cs : Array Value} (hP : w'.heap[b.P]? = some (.cells cs 3 (0, 0))) (hsz : cs.size = N + 1) (hn : ∀ i, i ≤ N → ∃ n, cs[i]? = some (.int .i64 n)) : RIs N M b O w' := by
  obtain ⟨⟨v, f1, f2⟩, ⟨m, t1⟩, ⟨cs0, l1, l2, l3⟩, ⟨ps, p1, p2, p3⟩, oF, oT, oL, oP, hs, hlt⟩ := h
  exact ⟨⟨v, (hk _ (ty_ne f1 p1 (by decide))).trans f1, f2.kept fun k _ _ hh => hk k (ty_ne hh p1 (by decide))⟩, ⟨m, (hk _ (ty_ne t1 p1 (by decide))).trans t1⟩, ⟨cs0, (hk _ (ty_ne l1 p1 (by decide))).trans l1, l2, fun i hi => (l3 i hi).kept fun k _ _ hh => hk k (ty_ne hh p1 (by decide))⟩, ⟨cs, hP, hsz, hn⟩, oF, oT, oL, oP, hs, fun k ho => lt_but (hlt k ho) hk hP⟩
/-- the tree's own block has another row of names -/
theorem RIs.putF (h : RIs N M b O w) (hk : ∀ k, k ≠ b.F → w'.heap[k]? = w.heap[k]?) {v : Value} (hF : w'.heap[b.F]? = some (.cells #[ptrTo b.T, v, .slice (some ⟨b.P, 0, none⟩) (N + 1) (N + 1)] 158 (0, 0))) (hv : RowAt O M' w v) : RIs N M' b O w' := by
  obtain ⟨⟨v0, f1, f2⟩, ⟨m, t1⟩, ⟨cs0, l1, l2, l3⟩, ⟨ps, p1, p2, p3⟩, oF, oT, oL, oP, hs, hlt⟩ := h
  exact ⟨⟨v, hF, hv.kept fun k _ _ hh => hk k (ty_ne hh f1 (by decide))⟩, ⟨m, (hk _ (ty_ne t1 f1 (by decide))).trans t1⟩, ⟨cs0, (hk _ (ty_ne l1 f1 (by decide))).trans l1, l2, fun i hi => (l3 i hi).kept fun k _ _ hh => hk k (ty_ne hh f1 (by decide))⟩, ⟨ps, (hk _ (ty_ne p1 f1 (by decide))).trans p1, p2, p3⟩, oF, oT, oL, oP, hs, fun k ho => lt_but (hlt k ho) hk hF⟩
/-- a truth value of a node's is another -/
theorem RIs.putH (h : RIs N M b O w) {x : Nat} {c0 : Array Value} (hx : w.heap[x]? = some (.cells c0 4 (0, 0))) (hk : ∀ k, k ≠ x → w'.heap[k]? = w.heap[k]?) {cs : Array Value} (hX : w'.heap[x]? = some (.cells cs 4 (0, 0))) (hsz : cs.size = 64) (hn : ∀ j, j < 64 → ∃ t, cs[j]? = some (.bool t)) : RIs N M b O w' := by
  obtain ⟨⟨v0, f1, f2⟩, ⟨m, t1⟩, ⟨cs0, l1, l2, l3⟩, ⟨ps, p1, p2, p3⟩, oF, oT, oL, oP, hs, hlt⟩ := h
  refine ⟨⟨v0, (hk _ (ty_ne f1 hx (by decide))).trans f1, f2.kept fun k _ _ hh => hk k (ty_ne hh hx (by decide))⟩, ⟨m, (hk _ (ty_ne t1 hx (by decide))).trans t1⟩, ⟨cs0, (hk _ (ty_ne l1 hx (by decide))).trans l1, l2, fun i hi => ?_⟩, ⟨ps, (hk _ (ty_ne p1 hx (by decide))).trans p1, p2, p3⟩, oF, oT, oL, oP, hs, fun k ho => lt_but (hlt k ho) hk hX⟩
  obtain ⟨k, n, u, s, v, h1, h2, h3, h4, h5, h6, h7⟩ := l3 i hi
  refine ⟨k, n, u, s, v, h1, h2, h3, h4, h5, ?_, h7⟩
  rcases h6 with q | ⟨y, cy, q, ho, hh, hsy, hb⟩
  · exact .inl q
  · by_cases e : y = x
    · subst e; exact .inr ⟨y, cs, q, ho, hX, hsz, hn⟩
    · exact .inr ⟨y, cy, q, ho, (hk y e).trans hh, hsy, hb⟩
theorem RStep.refl (h : RIs N M b O w) : RStep N M b O w M O w := ⟨h, Turned.refl _ _, fun _ q => .inl q⟩
theorem RStep.trans {w2 : World} {O2 : Nat → Prop} {M2 : Nat} (h : RStep N M b O w M' O' w') (k : RStep N M' b O' w' M2 O2 w2) : RStep N M b O w M2 O2 w2 :=
  ⟨k.is, h.turned.trans k.turned fun x hx hl => (h.own x hx).resolve_right (by omega), fun x hx => by
    rcases k.own x hx with q | q
    · exact h.own x q
    · exact .inr (Nat.le_trans h.turned.size q)⟩
theorem RStep.alloc (h : RStep N M b O w M' O' w') (o : Obj) : RStep N M b O w M' O' (w'.alloc o) := ⟨h.is.alloc o, h.turned.alloc o, h.own⟩
theorem RStep.drewN (h : RStep N M b O w M' O' w') (n : Nat) : RStep N M b O w M' O' (w'.drewN n) := ⟨h.is.drewN n, h.turned.drewN n, h.own⟩
end
end Go.Proofs.YtggdedihfhibfaaGreatDoor
/- The document's table: Is, Get. -/
namespace Go.Proofs.YtggdedihfhibfaaGreatDoor
open Go.RowKit IntWalk
set_option linter.unusedVariables false
set_option linter.unusedSimpArgs false

/-- the cells of the node i -/
structure NdIs (b : RB) (w : World) (i : Nat) (k n u : Int) (s : List UInt8) (v : Value) : Prop where
  c0 : w.cell? ⟨b.L, i * 5, none⟩ = some (.int .i64 k)
  c1 : w.cell? ⟨b.L, i * 5 + 1, none⟩ = some (.int .i64 n)
  c2 : w.cell? ⟨b.L, i * 5 + 2, none⟩ = some (.int .i64 u)
  c3 : w.cell? ⟨b.L, i * 5 + 3, none⟩ = some (.string ⟨s.toArray⟩)
  c4 : w.cell? ⟨b.L, i * 5 + 4, none⟩ = some v
  fz : ∀ j, w.frozen? ⟨b.L, j, none⟩ = false
section
variable {N M M' : Nat} {b : RB} {O O' : Nat → Prop} {w w' : World}
theorem RIs.t0 (h : RIs N M b O w) : w.cell? ⟨b.T, 0, none⟩ = some (.slice (some ⟨b.L, 0, none⟩) (N + 1) (N + 1)) := by
  obtain ⟨m, t⟩ := h.t
  simp [World.cell?, t]
theorem RIs.f0 (h : RIs N M b O w) : w.cell? ⟨b.F, 0, none⟩ = some (ptrTo b.T) := by
  obtain ⟨m, t, _⟩ := h.f
  simp [World.cell?, t]
theorem RIs.f2 (h : RIs N M b O w) : w.cell? ⟨b.F, 2, none⟩ = some (.slice (some ⟨b.P, 0, none⟩) (N + 1) (N + 1)) := by
  obtain ⟨m, t, _⟩ := h.f
  simp [World.cell?, t]
theorem RIs.node (h : RIs N M b O w) {i : Nat} (hi : i ≤ N) : ∃ k n u s v, NdIs b w i k n u s v ∧ HasAt O w v ∧ (k = 0 ∨ v ≠ .slice none 0 0) ∧ s.length ≤ 5000 := by
  obtain ⟨cs, l1, l2, l3⟩ := h.l
  obtain ⟨k, n, u, s, v, h1, h2, h3, h4, h5, h6⟩ := l3 i hi
  refine ⟨k, n, u, s, v, ⟨?_, ?_, ?_, ?_, ?_, fun j => ?_⟩, h6⟩ <;> simp [World.cell?, World.frozen?, l1, h1, h2, h3, h4, h5]
theorem RIs.parent (h : RIs N M b O w) {i : Nat} (hi : i ≤ N) : ∃ n : Int, w.cell? ⟨b.P, i, none⟩ = some (.int .i64 n) := by
  obtain ⟨cs, l1, l2, l3⟩ := h.p
  obtain ⟨n, hn⟩ := l3 i hi
  exact ⟨n, by simp [World.cell?, l1, hn]⟩
theorem is_yes (h : RIs N M b O w) (i : Nat) (h1 : 1 ≤ i) (hi : i ≤ N) {k n u s v} (hn : NdIs b w i k n u s v) : Calls Tryz.prog 129 #[ptrTo b.T, .int .i64 i] w fun e w' => e = .returned (.bool (decide (0 < k))) ∧ w = w' := by
  have c1 := h.t0
  have c2 := hn.c0
  have hN := h.small
  clear h hn
  by_cases hk : 0 < k
  · have hd : decide (0 < k) = true := by simpa using hk
    rw [hd]
    unfold ptrTo
    go_enter Tryz.func129, Tryz.ntmps129
    go_wp2
    go_ret
    exact ⟨rfl, rfl⟩
  · have hd : decide (0 < k) = false := by simpa using hk
    rw [hd]
    unfold ptrTo
    go_enter Tryz.func129, Tryz.ntmps129
    go_wp2
    go_ret
    exact ⟨rfl, rfl⟩
theorem is_no (h : RIs N M b O w) (i : Int) (hi : ¬ (1 ≤ i ∧ i ≤ N)) : Calls Tryz.prog 129 #[ptrTo b.T, .int .i64 i] w fun e w' => e = .returned (.bool false) ∧ w = w' := by
  have c1 := h.t0
  have hN := h.small
  clear h
  by_cases h1 : 1 ≤ i
  · have h2 : (N : Int) + 1 ≤ i := by omega
    unfold ptrTo
    go_enter Tryz.func129, Tryz.ntmps129
    go_wp2
    go_ret
    exact ⟨rfl, rfl⟩
  · have h2 : i < 1 := by omega
    unfold ptrTo
    go_enter Tryz.func129, Tryz.ntmps129
    go_wp2
    go_ret
    exact ⟨rfl, rfl⟩
/-- a node as it is handed back -/
def ndVal (k n u : Int) (s : List UInt8) (v : Value) : Value := .agg #[.int .i64 k, .int .i64 n, .int .i64 u, .string ⟨s.toArray⟩, v]
theorem r_alloc_at (w : World) (o : Obj) : (w.alloc o).heap[w.heap.size]? = some o := by show (w.heap.push o)[w.heap.size]? = some o; simp
theorem node_ret (w : World) (g : Nat) (k n u : Int) (s : List UInt8) (v : Value) (hg : w.heap[g]? = some (.cells #[.int .i64 k, .int .i64 n, .int .i64 u, .string ⟨s.toArray⟩, v] 164 (0, 0))) {fn : Func} {p : Tmp} (h : fn.results = #[.cell p 164]) (tmps : Array Value) (hp : tmps.getD p undef = .pointer (some ⟨g, 0, none⟩)) :
    (results fn tmps).run Tryz.prog w = .ok (ndVal k n u s v) w := by
  exact results_cell_row h tmps w g _ _ _ _ hp hg Tryz.underlying164 rfl (by kernel_rfl)
theorem HasAt.one {v : Value} (h : HasAt O w v) : v.oneCell' = true := by
  rcases h with rfl | ⟨h, cs, rfl, _⟩ <;> rfl
theorem get_any (h : RIs N M b O w) (i : Int) : Calls Tryz.prog 96 #[ptrTo b.T, .int .i64 i] w fun e w' => (∃ k n u s v, e = .returned (ndVal k n u s v) ∧ s.length ≤ 5000 ∧ (k ≠ 0 → 1 ≤ i ∧ i ≤ N)) ∧ Below w.heap.size w w' := by
  have hnew := r_alloc_at w (.cells #[.int .i64 0, .int .i64 0, .int .i64 0, .string ⟨#[]⟩, .slice none 0 0] 164)
  have hB := (Below.refl w.heap.size w).alloc (Nat.le_refl _) (.cells #[.int .i64 0, .int .i64 0, .int .i64 0, .string ⟨#[]⟩, .slice none 0 0] 164)
  have h2 := h.alloc (.cells #[.int .i64 0, .int .i64 0, .int .i64 0, .string ⟨#[]⟩, .slice none 0 0] 164)
  generalize hw1 : (w.alloc (.cells #[.int .i64 0, .int .i64 0, .int .i64 0, .string ⟨#[]⟩, .slice none 0 0] 164)) = w1 at *
  have HW := Lib.hid hw1
  clear hw1
  have hN := h.small
  have c0 := h2.t0
  by_cases hi : 1 ≤ i ∧ i ≤ N
  · obtain ⟨j, rfl⟩ : ∃ j : Nat, i = j := ⟨i.toNat, by omega⟩
    obtain ⟨k, n, u, s, v, hn, hv, hk, hs⟩ := h2.node (i := j) (by omega)
    have HI := Lib.hid (is_yes h2 j (by omega) (by omega) hn)
    have hv1 := hv.one
    have n0 := hn.c0
    have n1 := hn.c1
    have n2 := hn.c2
    have n3 := hn.c3
    have n4 := hn.c4
    clear hn hv hk h h2
    by_cases hkk : 0 < k
    · have hd : decide (0 < k) = true := by simpa using hkk
      rw [hd] at HI
      unfold ptrTo at *
      go_enter Tryz.func96, Tryz.ntmps96
      go_wp2_with first
        | (go_at_call 129; rw [HW.out]; (with_reducible refine HI.out.mono ?_); rintro e w' ⟨rfl, rfl⟩)
        | (refine wpList_store_row rfl 164 _ _ rfl w.heap.size _ rfl rfl _ _ hnew (by kernel_rfl) rfl (by first | rfl | exact hv1 | (simp [Value.oneCell'] <;> exact hv1)) ?_)
      (try simp only [Exit.inBlock, Exit.then]); refine bodyPost_ret (node_ret _ _ _ _ _ _ _ (setRow_heap _ _ _ _ _ _ hnew) rfl _ rfl) rfl ?_
      exact ⟨⟨_, _, _, _, _, rfl, hs, fun _ => hi⟩, below_setRow hB (Nat.le_refl _) _⟩
    · have hd : decide (0 < k) = false := by simpa using hkk
      rw [hd] at HI
      unfold ptrTo at *
      go_enter Tryz.func96, Tryz.ntmps96
      go_wp2_with first
        | (go_at_call 129; rw [HW.out]; (with_reducible refine HI.out.mono ?_); rintro e w' ⟨rfl, rfl⟩)
        | (refine wpList_store_row rfl 164 _ _ rfl w.heap.size _ rfl rfl _ _ hnew (by kernel_rfl) rfl (by first | rfl | exact hv1 | (simp [Value.oneCell'] <;> exact hv1)) ?_)
      (try simp only [Exit.inBlock, Exit.then]); refine bodyPost_ret (node_ret _ _ 0 0 0 [] (.slice none 0 0) (setRow_heap _ _ _ _ _ _ hnew) rfl _ rfl) rfl ?_
      exact ⟨⟨_, _, _, _, _, rfl, by simp, fun q => absurd rfl q⟩, below_setRow hB (Nat.le_refl _) _⟩
  · have HI := Lib.hid (is_no h2 i hi)
    clear h h2
    unfold ptrTo at *
    go_enter Tryz.func96, Tryz.ntmps96
    go_wp2_with first
      | (go_at_call 129; rw [HW.out]; (with_reducible refine HI.out.mono ?_); rintro e w' ⟨rfl, rfl⟩)
      | (refine wpList_store_row rfl 164 _ _ rfl w.heap.size _ rfl rfl _ _ hnew (by kernel_rfl) rfl (by simp [Value.oneCell']) ?_)
    (try simp only [Exit.inBlock, Exit.then]); refine bodyPost_ret (node_ret _ _ 0 0 0 [] (.slice none 0 0) (setRow_heap _ _ _ _ _ _ hnew) rfl _ rfl) rfl ?_
    exact ⟨⟨_, _, _, _, _, rfl, by simp, fun q => absurd rfl q⟩, below_setRow hB (Nat.le_refl _) _⟩
end
end Go.Proofs.YtggdedihfhibfaaGreatDoor
