/- Texts of one proof, packed: WhA, WhB, WhC, WhD, WwA, WwB -/
import Derived.Test.YtelohloaoocoaaaGreatDoorM02
set_option linter.unusedVariables false
set_option linter.unusedSimpArgs false
set_option linter.deprecated false
set_option linter.unnecessarySimpa false
/- sys.Kernel: call, kind by kind. -/
namespace Go.Proofs.YtelohloaoocoaaaGreatDoor
open Go.RowKit IntWalk
set_option linter.unusedVariables false
set_option linter.unusedSimpArgs false
set_option linter.unnecessarySimpa false

/-- a call of a process, and what it is answered -/
def clV (kind fd : Int) (d : List UInt8) : Array Value := #[.int .i64 kind, .int .i64 fd, .int .i64 0, .string ByteArray.empty, .string ⟨d.toArray⟩]
def rpV (e n m : Int) : Array Value := #[.int .i64 e, .int .i64 n, .int .i64 m, .string ByteArray.empty, .slice none 0 0, .int .i64 0, .int .i64 0, .int .i64 0]
/-- what a write leaves -/
def KsW (s : Ks) (l : Ly) (d : List UInt8) (w w' : World) : Prop := ∃ (h' : Hx) (lh : HId → Nat), KStep s l w { s with h := h' } { l with h := lh } w' ∧ h'.out = s.h.out ++ d ∧ h'.gs = s.h.gs
/-- blocks that are no object's stay -/
theorem KStep.cell {s s' : Ks} {l l' : Ly} {w w' : World} (K : KStep s l w s' l' w') {b i : Nat} {v : Value} (h : w.cell? ⟨b, i, none⟩ = some v) (hb : ¬ Owns (s.obj l) l.all b) : w'.cell? ⟨b, i, none⟩ = some v := by
  rw [World.cell?_of_block (w := w) (K.g.turned.block b (World.block_lt_of_cell? w ⟨b, i, none⟩ h) hb)]; exact h
theorem KStep.frozen {s s' : Ks} {l l' : Ly} {w w' : World} (K : KStep s l w s' l' w') {b i : Nat} (h : w.frozen? ⟨b, i, none⟩ = false) (hb : b < w.heap.size) (hn : ¬ Owns (s.obj l) l.all b) : w'.frozen? ⟨b, i, none⟩ = false := by
  rw [World.frozen?_of_block (w := w) (K.g.turned.block b hb hn)]; exact h
theorem KsIs.fresh {s : Ks} {l : Ly} {w : World} (h : KsIs s l w) {b : Nat} (hb : w.heap.size ≤ b) : ¬ Owns (s.obj l) l.all b := fun ho => by have := h.lies.owns_lt ho; omega
/-- a store to a block that is no object's -/
theorem KStep.setnew {s s' : Ks} {l l' : Ly} {w w' : World} (K : KStep s l w s' l' w') (a : Addr) (v : Value) (hn : w.heap.size ≤ a.block) (ho : ¬ Owns (s'.obj l') l'.all a.block) : KStep s l w s' l' (w'.setCell a v) := ⟨K.g.setnew a v hn ho, K.ok, K.top⟩
theorem KStep.fresh {s s' : Ks} {l l' : Ly} {w w' : World} (K : KStep s l w s' l' w') {b : Nat} (h : ¬ Owns (s.obj l) l.all b) (hb : b < w.heap.size) : ¬ Owns (s'.obj l') l'.all b := fun ho => by
  rcases K.g.own b ho with q | q
  · exact h q
  · omega
theorem KStep.heap {s s' : Ks} {l l' : Ly} {w w' : World} (K : KStep s l w s' l' w') {b : Nat} {o : Obj} (h : w.heap[b]? = some o) (hn : ¬ Owns (s.obj l) l.all b) : w'.heap[b]? = some o := by
  rw [K.g.turned.block b (Array.getElem?_eq_some_iff.1 h).1 hn]; exact h
/-- a block's cells -/
theorem cells5 {w : World} {b : Nat} {v0 v1 v2 v3 v4 : Value} {ty : TypeId} (h : w.heap[b]? = some (.cells #[v0, v1, v2, v3, v4] ty (0, 0))) :
    w.cell? ⟨b, 0, none⟩ = some v0 ∧ w.cell? ⟨b, 1, none⟩ = some v1 ∧ w.cell? ⟨b, 2, none⟩ = some v2 ∧ w.cell? ⟨b, 3, none⟩ = some v3 ∧ w.cell? ⟨b, 4, none⟩ = some v4 ∧ (∀ k, w.frozen? ⟨b, k, none⟩ = false) := by
  simp [World.cell?, World.frozen?, h]
theorem cells8 {w : World} {b : Nat} {v0 v1 v2 v3 v4 v5 v6 v7 : Value} {ty : TypeId} (h : w.heap[b]? = some (.cells #[v0, v1, v2, v3, v4, v5, v6, v7] ty (0, 0))) :
    w.cell? ⟨b, 0, none⟩ = some v0 ∧ w.cell? ⟨b, 1, none⟩ = some v1 ∧ w.cell? ⟨b, 2, none⟩ = some v2 ∧ w.cell? ⟨b, 3, none⟩ = some v3 ∧ w.cell? ⟨b, 4, none⟩ = some v4 ∧ w.cell? ⟨b, 5, none⟩ = some v5 ∧ w.cell? ⟨b, 6, none⟩ = some v6 ∧ w.cell? ⟨b, 7, none⟩ = some v7 ∧ (∀ k, w.frozen? ⟨b, k, none⟩ = false) := by
  simp [World.cell?, World.frozen?, h]
/-- the world behind three new blocks, and what it holds -/
theorem three_new {s : Ks} {l : Ly} {w : World} (h : KsIs s l w) (o1 o2 o3 : Obj) : ∃ w1, ((w.alloc o1).alloc o2).alloc o3 = w1 ∧ KStep s l w s l w1 ∧ w1.heap[w.heap.size]? = some o1 ∧ w1.heap[w.heap.size + 1]? = some o2 ∧ w1.heap[w.heap.size + 1 + 1]? = some o3 ∧ w1.heap.size = w.heap.size + 3 := by
  refine ⟨_, rfl, (KStep.refl h).below ((((Below.refl _ _).alloc (Nat.le_refl _) _).alloc (by simp) _).alloc (by simp; omega) _), ?_, ?_, ?_, by simp⟩
  · rw [Below.heap_alloc _ _ _ (by simp; omega), Below.heap_alloc _ _ _ (by simp)]; exact Array.getElem?_push_size
  · rw [Below.heap_alloc _ _ _ (by simp)]
    have : w.heap.size + 1 = (w.alloc o1).heap.size := by simp
    rw [this]; exact Array.getElem?_push_size
  · have : w.heap.size + 1 + 1 = ((w.alloc o1).alloc o2).heap.size := by simp
    rw [this]; exact Array.getElem?_push_size
/-- one block alone is turned -/
structure Aside (b : Nat) (w w' : World) : Prop where
  os : w'.os = w.os
  tape : w'.tape = w.tape
  output : w'.output = w.output
  size : w'.heap.size = w.heap.size
  block : ∀ k, k ≠ b → w'.heap[k]? = w.heap[k]?
theorem Aside.refl (b : Nat) (w : World) : Aside b w w := ⟨rfl, rfl, rfl, rfl, fun _ _ => rfl⟩
theorem Aside.set {b : Nat} {w w' : World} (h : Aside b w w') (k : Nat) (v : Value) : Aside b w (w'.setCell ⟨b, k, none⟩ v) :=
  ⟨h.os, h.tape, h.output, by simpa [World.setCell] using h.size, fun j hj => by rw [Below.heap_setCell _ _ _ _ (by simpa using hj)]; exact h.block j hj⟩
theorem KStep.aside {s s' : Ks} {l l' : Ly} {w w' w'' : World} (K : KStep s l w s' l' w') {b : Nat} (h : Aside b w' w'') (hn : w.heap.size ≤ b) (ho : ¬ Owns (s'.obj l') l'.all b) : KStep s l w s' l' w'' :=
  ⟨⟨K.g.lies.kept fun i hi => h.block _ (fun e => ho ⟨i, hi, e⟩), ⟨h.os.trans K.g.turned.os, h.tape.trans K.g.turned.tape, h.output.trans K.g.turned.output, by rw [h.size]; exact K.g.turned.size, fun j hj hs => (h.block j (by omega)).trans (K.g.turned.block j hj hs)⟩, K.g.own⟩, K.ok, K.top⟩
theorem set_row {w : World} {b k : Nat} {cs : Array Value} {ty : TypeId} {fz : Nat × Nat} {v : Value} (h : w.heap[b]? = some (.cells cs ty fz)) : (w.setCell ⟨b, k, none⟩ v).heap[b]? = some (.cells (cs.setIfInBounds k v) ty fz) := by
  simp [World.setCell, Array.getElem?_modify, h]
/-- eight cells are stored -/
theorem eight_set {w : World} {b : Nat} {v0 v1 v2 v3 v4 v5 v6 v7 : Value} {ty : TypeId} (h : w.heap[b]? = some (.cells #[v0, v1, v2, v3, v4, v5, v6, v7] ty (0, 0))) (u0 u1 u2 u3 u4 u5 u6 u7 : Value) :
    ∃ w', ((((((((w.setCell ⟨b, 0, none⟩ u0).setCell ⟨b, 1, none⟩ u1).setCell ⟨b, 2, none⟩ u2).setCell ⟨b, 3, none⟩ u3).setCell ⟨b, 4, none⟩ u4).setCell ⟨b, 5, none⟩ u5).setCell ⟨b, 6, none⟩ u6).setCell ⟨b, 7, none⟩ u7) = w' ∧ Aside b w w' ∧ w'.heap[b]? = some (.cells #[u0, u1, u2, u3, u4, u5, u6, u7] ty (0, 0)) :=
  ⟨_, rfl, ((((((((Aside.refl b w).set 0 _).set 1 _).set 2 _).set 3 _).set 4 _).set 5 _).set 6 _).set 7 _, by
    have h0 := set_row (k := 0) (v := u0) h
    simp only [List.setIfInBounds_toArray, List.set_cons_zero, List.set_cons_succ] at h0
    have h1 := set_row (k := 1) (v := u1) h0
    simp only [List.setIfInBounds_toArray, List.set_cons_zero, List.set_cons_succ] at h1
    have h2 := set_row (k := 2) (v := u2) h1
    simp only [List.setIfInBounds_toArray, List.set_cons_zero, List.set_cons_succ] at h2
    have h3 := set_row (k := 3) (v := u3) h2
    simp only [List.setIfInBounds_toArray, List.set_cons_zero, List.set_cons_succ] at h3
    have h4 := set_row (k := 4) (v := u4) h3
    simp only [List.setIfInBounds_toArray, List.set_cons_zero, List.set_cons_succ] at h4
    have h5 := set_row (k := 5) (v := u5) h4
    simp only [List.setIfInBounds_toArray, List.set_cons_zero, List.set_cons_succ] at h5
    have h6 := set_row (k := 6) (v := u6) h5
    simp only [List.setIfInBounds_toArray, List.set_cons_zero, List.set_cons_succ] at h6
    have h7 := set_row (k := 7) (v := u7) h6
    simp only [List.setIfInBounds_toArray, List.set_cons_zero, List.set_cons_succ] at h7
    exact h7⟩
/-- a set's write to number 1, in the kernel -/
theorem kwrite_set {s l} (i : Int) (l0 : List (Option Nat)) (d : List UInt8) (w : World) (h : KsIs s l w) (hi : s.x.zs i = some l0) (hn : l0[1]? = some (some 1)) (hl : s.h.out.length + d.length ≤ 1000000) :
    Calls Tryz.prog 71 #[ptrOf (l.x (.Z i)), .int .i64 1, .string ⟨d.toArray⟩] w fun e w' => e = .returned (.tuple #[.int .i64 d.length, .int .i64 0]) ∧ KsW s l d w w' := by
  obtain ⟨c, hk⟩ := h.ok.sk
  have := setwrite_any (s := s.x) (lay := l.x) i l0 1 1 (l.h .S) c d w (HxW s.h l.h d w) h.fx hi hn hk (sinkwrite_any d w h.hx h.ok.h hl)
  refine this.mono ?_
  rintro e w' ⟨rfl, s', lay', h1, h2, h3, h4, h5, hst⟩
  exact ⟨rfl, s', lay', KStep.hx h hst h3 h4 h5 h2, h1, h2⟩
set_option maxHeartbeats 1000000 in
set_option maxRecDepth 100000 in
theorem call_write {s l} (i : Int) (l0 : List (Option Nat)) (d : List UInt8) (w : World) (h : KsIs s l w) (hik : i ∈ s.k.m.keys) (hi : s.x.zs i = some l0) (hn : l0[1]? = some (some 1)) (hl : s.h.out.length + d.length ≤ 1000000) :
    Calls Tryz.prog 48 #[ptrOf (l.k .K), .int .i64 i, ptrOf (l.k (.R i)), .agg (clV 2 1 d)] w fun e w' => e = .returned (.agg (rpV 0 d.length 0)) ∧ KsW s l d w w' := by
  have hrl := h.rl hik
  have hr0 := h.r0 hik
  have H := Lib.hid h
  unfold ptrOf clV rpV at *
  clear h
  go_enter Tryz.func48, Tryz.ntmps48
  go_wp2_with fail
  obtain ⟨w1, hw1, K0, hb7, hb8, hb9, hz1⟩ := three_new H.out (.cells #[.int .i64 2, .int .i64 1, .int .i64 0, .string ByteArray.empty, .string ⟨d.toArray⟩] 31) (.cells #[.int .i64 0, .int .i64 0, .int .i64 0, .string ⟨#[]⟩, .slice none 0 0, .int .i64 0, .int .i64 0, .int .i64 0] 37) (.cells #[.int .i64 0, .int .i64 0, .int .i64 0, .string ⟨#[]⟩, .slice none 0 0, .int .i64 0, .int .i64 0, .int .i64 0] 37)
  rw [hw1]
  clear hw1
  have n7 := H.out.fresh (Nat.le_refl w.heap.size)
  have n8 := H.out.fresh (Nat.le_succ w.heap.size)
  have n9 := H.out.fresh (show w.heap.size ≤ w.heap.size + 1 + 1 by omega)
  obtain ⟨p0, p1, p2, p3, p4, pf⟩ := cells5 hb7
  have q0 := K0.is.r0 hik
  have HS := Lib.hid (kwrite_set i l0 d w1.drew K0.drew.is hi hn hl)
  have hall : ∀ w2, KsW s l d w1.drew w2 → (w2.cell? ⟨l.k (.R i), 0, none⟩ = some (.pointer (some ⟨l.x (.Z i), 0, none⟩)) ∧ w2.cell? ⟨w.heap.size, 1, none⟩ = some (.int .i64 1) ∧ w2.cell? ⟨w.heap.size, 4, none⟩ = some (.string ⟨d.toArray⟩)) ∧
      w2.heap[w.heap.size + 1]? = some (.cells #[.int .i64 0, .int .i64 0, .int .i64 0, .string ⟨#[]⟩, .slice none 0 0, .int .i64 0, .int .i64 0, .int .i64 0] 37 (0, 0)) ∧ w2.heap[w.heap.size + 1 + 1]? = some (.cells #[.int .i64 0, .int .i64 0, .int .i64 0, .string ⟨#[]⟩, .slice none 0 0, .int .i64 0, .int .i64 0, .int .i64 0] 37 (0, 0)) ∧
      ∃ (h' : Hx) (lh : HId → Nat), KStep s l w { s with h := h' } { l with h := lh } w2 ∧ h'.out = s.h.out ++ d ∧ h'.gs = s.h.gs ∧ ¬ Owns (({ s with h := h' } : Ks).obj { l with h := lh }) ({ l with h := lh } : Ly).all (w.heap.size + 1) ∧ ¬ Owns (({ s with h := h' } : Ks).obj { l with h := lh }) ({ l with h := lh } : Ly).all (w.heap.size + 1 + 1) := fun w2 ⟨h', lh, K, e1, e2⟩ => by
    refine ⟨⟨K.is.r0 hik, K.cell (w := w1.drew) p1 n7, K.cell (w := w1.drew) p4 n7⟩, K.heap (w := w1.drew) hb8 n8, K.heap (w := w1.drew) hb9 n9, h', lh, K0.drew.trans K, e1, e2, K.fresh n8 (by show _ < w1.heap.size; omega), K.fresh n9 (by show _ < w1.heap.size; omega)⟩
  have HALL := Lib.hid hall
  unfold ptrOf at *
  clear p2 p3 p0 pf n7 n8 n9 hb7 hb8 hb9 K0 hz1 hall
  go_region_held3 (fun W => W.cell? ⟨l.k (.R i), 0, none⟩ = some (.pointer (some ⟨l.x (.Z i), 0, none⟩)) ∧ W.cell? ⟨w.heap.size, 1, none⟩ = some (.int .i64 1) ∧ W.cell? ⟨w.heap.size, 4, none⟩ = some (.string ⟨d.toArray⟩)) (first | go_keep | exact ⟨q0, p1, p4⟩ | exact ⟨e0, e1, e4⟩ | ((try dsimp only); (repeat' apply And.intro) <;> first | go_keep | assumption | exact (cs_block (by dsimp only; omega)).trans (by assumption) | exact ((cs_block (by dsimp only; omega)).trans (cs_block (by dsimp only; omega))).trans (by assumption))) (first | (go_at_call 71; refine HS.out.mono ?_; rintro e w2 ⟨rfl, hq⟩; obtain ⟨⟨e0, e1, e4⟩, hb8, hb9, hrest⟩ := HALL.out _ hq; have HB8 := Lib.hid (cells8 hb8); have HR8 := Lib.hid hb8; have c9 := cells8 hb9; obtain ⟨c0, c1, c2, c3, c4, c5, c6, c7, cf⟩ := c9; have HREST := Lib.hid hrest; clear hq hrest hb8 hb9))
  all_goals
    obtain ⟨g0, g1, g2, g3, g4, g5, g6, g7, gf⟩ := HB8.out
    obtain ⟨h', lh, K, e5, e6, m8, m9⟩ := HREST.out
    have HK := Lib.hid K
    have HM8 := Lib.hid m8
    have HM9 := Lib.hid m9
    have HE := Lib.hid (And.intro e5 e6)
    clear HREST HB8 K m8 m9 e5 e6 HALL HS e0 e1 e4 p1 p4 q0 hi hn
    go_wp2_with fail
    first
      | generalize hwa : (w2.setCell ⟨w.heap.size + 1 + 1, 1, none⟩ (.int .i64 d.length)).setCell ⟨w.heap.size + 1 + 1, 0, none⟩ (.int .i64 0) = wa
        have hA9 : Aside (w.heap.size + 1 + 1) w2 wa := hwa ▸ ((Aside.refl _ _).set 1 _).set 0 _
      | generalize hwa : (w2.setCell ⟨w.heap.size + 1 + 1, 0, none⟩ (.int .i64 0)).setCell ⟨w.heap.size + 1 + 1, 1, none⟩ (.int .i64 d.length) = wa
        have hA9 : Aside (w.heap.size + 1 + 1) w2 wa := hwa ▸ ((Aside.refl _ _).set 0 _).set 1 _
    clear hwa
    obtain ⟨w3, hw3, hA8, hc8⟩ := eight_set ((hA9.block (w.heap.size + 1) (by omega)).trans HR8.out) (.int .i64 0) (.int .i64 d.length) (.int .i64 0) (.string ⟨#[]⟩) (.slice none 0 0) (.int .i64 0) (.int .i64 0) (.int .i64 0)
    rw [hw3]
    obtain ⟨x0, x1, x2, x3, x4, x5, x6, x7, _⟩ := cells8 hc8
    have KF := (HK.out.aside hA9 (by omega) HM9.out).aside hA8 (by omega) HM8.out
    refine bodyPost_ret (v := .agg #[.int .i64 0, .int .i64 d.length, .int .i64 0, .string ByteArray.empty, .slice none 0 0, .int .i64 0, .int .i64 0, .int .i64 0]) ?_ rfl ⟨rfl, h', lh, KF, HE.out.1, HE.out.2⟩
    clear KF hw3 hA8 hA9 hc8
    simp [results, Tryz.results48, go_sem, x0, x1, x2, x3, x4, x5, x6, x7]
    try rfl
end Go.Proofs.YtelohloaoocoaaaGreatDoor
/- sys.Kernel: call of Fork, Exit, Wait. -/
namespace Go.Proofs.YtelohloaoocoaaaGreatDoor
open Go.RowKit IntWalk
set_option linter.unusedVariables false
set_option linter.unusedSimpArgs false
set_option linter.unnecessarySimpa false

/-- the result that lies in cells, before the region -/
theorem emp_str : (ByteArray.mk ([] : List UInt8).toArray) = ByteArray.empty := rfl
set_option maxHeartbeats 1000000 in
set_option maxRecDepth 100000 in
theorem call_fork {s l} (p q : Int) (l0 : List (Option Nat)) (w : World) (h : KsIs s l w) (hm : MayFork s p q l0) :
    Calls Tryz.prog 48 #[ptrOf (l.k .K), .int .i64 p, ptrOf (l.k (.R p)), .agg (clV 7 0 [])] w fun e w' => e = .returned (.agg (rpV 0 q 0)) ∧ Forked s l w p q l0 w' := by
  have H := Lib.hid h
  unfold ptrOf clV rpV at *
  clear h
  go_enter Tryz.func48, Tryz.ntmps48
  go_upto_region 17 with fail
  obtain ⟨w1, hw1, K0, hb7, hb8, hb9, hz1⟩ := three_new H.out (.cells #[.int .i64 7, .int .i64 0, .int .i64 0, .string ByteArray.empty, .string ⟨#[]⟩] 31) (.cells #[.int .i64 0, .int .i64 0, .int .i64 0, .string ⟨#[]⟩, .slice none 0 0, .int .i64 0, .int .i64 0, .int .i64 0] 37) (.cells #[.int .i64 0, .int .i64 0, .int .i64 0, .string ⟨#[]⟩, .slice none 0 0, .int .i64 0, .int .i64 0, .int .i64 0] 37)
  rw [hw1]
  clear hw1
  have n7 := H.out.fresh (Nat.le_refl w.heap.size)
  have n8 := H.out.fresh (Nat.le_succ w.heap.size)
  have n9 := H.out.fresh (show w.heap.size ≤ w.heap.size + 1 + 1 by omega)
  obtain ⟨p0, p1, p2, p3, p4, pf⟩ := cells5 hb7
  have HF := Lib.hid (kfork_any p q l0 w1 K0.is ⟨hm.pk, hm.pt, hm.ps, hm.q1, hm.qm, hm.mm, hm.qin, hm.qout, hm.qk, hm.zp, hm.zq, hm.cnt, hm.u0, hm.u1⟩)
  have HB := Lib.hid (And.intro hb8 hb9)
  have HNN := Lib.hid (And.intro n8 n9)
  have HZ := Lib.hid hz1
  have HK0 := Lib.hid K0
  unfold ptrOf at *
  clear p0 p1 p2 p3 p4 pf n7 n8 n9 hb7 hb8 hb9 K0 hz1
  go_wp2_with (go_at_call 76; refine HF.out.mono ?_; rintro e w2 ⟨rfl, hq⟩; obtain ⟨l', K⟩ := hq; have HR8 := Lib.hid (K.heap HB.out.1 HNN.out.1); obtain ⟨c0, c1, c2, c3, c4, c5, c6, c7, cf⟩ := cells8 (K.heap HB.out.2 HNN.out.2); obtain ⟨g0, g1, g2, g3, g4, g5, g6, g7, gf⟩ := cells8 HR8.out; have HM8 := Lib.hid (K.fresh HNN.out.1 (by have := HZ.out; omega)); have HM9 := Lib.hid (K.fresh HNN.out.2 (by have := HZ.out; omega)); have HK := Lib.hid (HK0.out.trans K); clear K)
  first
    | generalize hwa : ((w2.setCell ⟨w.heap.size + 1 + 1, 1, none⟩ (.int .i64 q)).setCell ⟨w.heap.size + 1 + 1, 0, none⟩ (.int .i64 0)) = wa
      have hA9 : Aside (w.heap.size + 1 + 1) w2 wa := hwa ▸ (((Aside.refl _ _).set 1 _).set 0 _)
    | generalize hwa : ((w2.setCell ⟨w.heap.size + 1 + 1, 0, none⟩ (.int .i64 0)).setCell ⟨w.heap.size + 1 + 1, 1, none⟩ (.int .i64 q)) = wa
      have hA9 : Aside (w.heap.size + 1 + 1) w2 wa := hwa ▸ (((Aside.refl _ _).set 0 _).set 1 _)
  clear hwa
  obtain ⟨w3, hw3, hA8, hc8⟩ := eight_set ((hA9.block (w.heap.size + 1) (by omega)).trans HR8.out) (.int .i64 0) (.int .i64 q) (.int .i64 0) (.string ⟨#[]⟩) (.slice none 0 0) (.int .i64 0) (.int .i64 0) (.int .i64 0)
  rw [hw3]
  obtain ⟨x0, x1, x2, x3, x4, x5, x6, x7, _⟩ := cells8 hc8
  have KF := ((HK.out.aside hA9 (by omega) HM9.out).aside hA8 (by omega) HM8.out)
  refine bodyPost_ret (v := .agg #[.int .i64 0, .int .i64 q, .int .i64 0, .string ByteArray.empty, .slice none 0 0, .int .i64 0, .int .i64 0, .int .i64 0]) ?_ rfl ⟨rfl, l', KF⟩
  clear KF hw3 hA8 hc8
  simp [results, Tryz.results48, go_sem, x0, x1, x2, x3, x4, x5, x6, x7]
  try rfl
set_option maxHeartbeats 1000000 in
set_option maxRecDepth 100000 in
theorem call_exit_kid {s l} (i p st : Int) (l0 : List (Option Nat)) (w : World) (h : KsIs s l w) (hm : MayEnd s i p l0) (hst0 : 0 ≤ st) (hst1 : st ≤ 255) :
    Calls Tryz.prog 48 #[ptrOf (l.k .K), .int .i64 i, ptrOf (l.k (.R i)), .agg (clV 8 st [])] w fun e w' => e = .returned (.agg (rpV 0 0 0)) ∧ KStep s l w (s.endedK i p st l0) l w' := by
  have H := Lib.hid h
  unfold ptrOf clV rpV at *
  clear h
  go_enter Tryz.func48, Tryz.ntmps48
  go_upto_region 19 with fail
  obtain ⟨w1, hw1, K0, hb7, hb8, hb9, hz1⟩ := three_new H.out (.cells #[.int .i64 8, .int .i64 st, .int .i64 0, .string ByteArray.empty, .string ⟨#[]⟩] 31) (.cells #[.int .i64 0, .int .i64 0, .int .i64 0, .string ⟨#[]⟩, .slice none 0 0, .int .i64 0, .int .i64 0, .int .i64 0] 37) (.cells #[.int .i64 0, .int .i64 0, .int .i64 0, .string ⟨#[]⟩, .slice none 0 0, .int .i64 0, .int .i64 0, .int .i64 0] 37)
  rw [hw1]
  clear hw1
  have n7 := H.out.fresh (Nat.le_refl w.heap.size)
  have n8 := H.out.fresh (Nat.le_succ w.heap.size)
  have n9 := H.out.fresh (show w.heap.size ≤ w.heap.size + 1 + 1 by omega)
  obtain ⟨p0, p1, p2, p3, p4, pf⟩ := cells5 hb7
  have HF := Lib.hid (kexit_kid i p st l0 w1 K0.is ⟨hm.ik, hm.it, hm.is, hm.ip, hm.i1, hm.one, hm.pt, hm.np, hm.p0, hm.ps, hm.no, hm.zi, hm.cnt, hm.u0, hm.u1⟩ hst0 hst1)
  have HB := Lib.hid (And.intro hb8 hb9)
  have HNN := Lib.hid (And.intro n8 n9)
  have HZ := Lib.hid hz1
  have HK0 := Lib.hid K0
  unfold ptrOf at *
  clear p0 p2 p3 p4 pf n7 n8 n9 hb7 hb8 hb9 K0 hz1
  go_wp2_with (go_at_call 77; refine HF.out.mono ?_; rintro e w2 ⟨rfl, K⟩; have HR8 := Lib.hid (K.heap HB.out.1 HNN.out.1); obtain ⟨c0, c1, c2, c3, c4, c5, c6, c7, cf⟩ := cells8 (K.heap HB.out.2 HNN.out.2); obtain ⟨g0, g1, g2, g3, g4, g5, g6, g7, gf⟩ := cells8 HR8.out; have HM8 := Lib.hid (K.fresh HNN.out.1 (by have := HZ.out; omega)); have HK := Lib.hid (HK0.out.trans K); clear K)
  obtain ⟨w3, hw3, hA8, hc8⟩ := eight_set HR8.out (.int .i64 0) (.int .i64 0) (.int .i64 0) (.string ⟨#[]⟩) (.slice none 0 0) (.int .i64 0) (.int .i64 0) (.int .i64 0)
  rw [hw3]
  obtain ⟨x0, x1, x2, x3, x4, x5, x6, x7, _⟩ := cells8 hc8
  have KF := (HK.out.aside hA8 (by omega) HM8.out)
  refine bodyPost_ret (v := .agg #[.int .i64 0, .int .i64 0, .int .i64 0, .string ByteArray.empty, .slice none 0 0, .int .i64 0, .int .i64 0, .int .i64 0]) ?_ rfl ⟨rfl, KF⟩
  clear KF hw3 hA8 hc8
  simp [results, Tryz.results48, go_sem, x0, x1, x2, x3, x4, x5, x6, x7]
  try rfl
set_option maxHeartbeats 1000000 in
set_option maxRecDepth 100000 in
theorem call_exit_one {s l} (st : Int) (b0 b1 b2 : Nat) (w : World) (h : KsIs s l w) (hm : MayEnd1 s b0 b1 b2) (hst0 : 0 ≤ st) (hst1 : st ≤ 255) :
    Calls Tryz.prog 48 #[ptrOf (l.k .K), .int .i64 1, ptrOf (l.k (.R 1)), .agg (clV 8 st [])] w fun e w' => e = .returned (.agg (rpV 0 0 0)) ∧ KStep s l w (s.ended1 st) l w' := by
  have H := Lib.hid h
  unfold ptrOf clV rpV at *
  clear h
  go_enter Tryz.func48, Tryz.ntmps48
  go_upto_region 19 with fail
  obtain ⟨w1, hw1, K0, hb7, hb8, hb9, hz1⟩ := three_new H.out (.cells #[.int .i64 8, .int .i64 st, .int .i64 0, .string ByteArray.empty, .string ⟨#[]⟩] 31) (.cells #[.int .i64 0, .int .i64 0, .int .i64 0, .string ⟨#[]⟩, .slice none 0 0, .int .i64 0, .int .i64 0, .int .i64 0] 37) (.cells #[.int .i64 0, .int .i64 0, .int .i64 0, .string ⟨#[]⟩, .slice none 0 0, .int .i64 0, .int .i64 0, .int .i64 0] 37)
  rw [hw1]
  clear hw1
  have n7 := H.out.fresh (Nat.le_refl w.heap.size)
  have n8 := H.out.fresh (Nat.le_succ w.heap.size)
  have n9 := H.out.fresh (show w.heap.size ≤ w.heap.size + 1 + 1 by omega)
  obtain ⟨p0, p1, p2, p3, p4, pf⟩ := cells5 hb7
  have HF := Lib.hid (kexit_one st b0 b1 b2 w1 K0.is ⟨hm.ik, hm.it, hm.is, hm.ip, hm.no, hm.zi, hm.o0, hm.o1, hm.o2, hm.many, hm.u0, hm.u1, hm.ne⟩ hst0 hst1)
  have HB := Lib.hid (And.intro hb8 hb9)
  have HNN := Lib.hid (And.intro n8 n9)
  have HZ := Lib.hid hz1
  have HK0 := Lib.hid K0
  unfold ptrOf at *
  clear p0 p2 p3 p4 pf n7 n8 n9 hb7 hb8 hb9 K0 hz1
  go_wp2_with (go_at_call 77; refine HF.out.mono ?_; rintro e w2 ⟨rfl, K⟩; have HR8 := Lib.hid (K.heap HB.out.1 HNN.out.1); obtain ⟨c0, c1, c2, c3, c4, c5, c6, c7, cf⟩ := cells8 (K.heap HB.out.2 HNN.out.2); obtain ⟨g0, g1, g2, g3, g4, g5, g6, g7, gf⟩ := cells8 HR8.out; have HM8 := Lib.hid (K.fresh HNN.out.1 (by have := HZ.out; omega)); have HK := Lib.hid (HK0.out.trans K); clear K)
  obtain ⟨w3, hw3, hA8, hc8⟩ := eight_set HR8.out (.int .i64 0) (.int .i64 0) (.int .i64 0) (.string ⟨#[]⟩) (.slice none 0 0) (.int .i64 0) (.int .i64 0) (.int .i64 0)
  rw [hw3]
  obtain ⟨x0, x1, x2, x3, x4, x5, x6, x7, _⟩ := cells8 hc8
  have KF := (HK.out.aside hA8 (by omega) HM8.out)
  refine bodyPost_ret (v := .agg #[.int .i64 0, .int .i64 0, .int .i64 0, .string ByteArray.empty, .slice none 0 0, .int .i64 0, .int .i64 0, .int .i64 0]) ?_ rfl ⟨rfl, KF⟩
  clear KF hw3 hA8 hc8
  simp [results, Tryz.results48, go_sem, x0, x1, x2, x3, x4, x5, x6, x7]
  try rfl
end Go.Proofs.YtelohloaoocoaaaGreatDoor
/- sys.Kernel: call of Wait. -/
namespace Go.Proofs.YtelohloaoocoaaaGreatDoor
open Go.RowKit IntWalk
set_option linter.unusedVariables false
set_option linter.unusedSimpArgs false
set_option linter.unnecessarySimpa false

/-- what a wait asks -/
structure MayWait (s : Ks) (p z : Int) : Prop where
  pk : p ∈ s.k.m.keys
  pt : p ∈ s.t.m.keys
  ps : (s.t.pr p).state ≠ 3
  rz : s.t.Reaps p z
  kid : ∃ i, i ∈ s.t.m.keys ∧ (s.t.pr i).parent = p
  pos : ∀ i ∈ s.t.m.keys, 0 < i
set_option maxHeartbeats 1000000 in
set_option maxRecDepth 100000 in
theorem call_wait_none {s l} (p : Int) (w : World) (h : KsIs s l w) (hm : MayWait s p 0) :
    Calls Tryz.prog 48 #[ptrOf (l.k .K), .int .i64 p, ptrOf (l.k (.R p)), .agg (clV 9 0 [])] w fun e w' => e = .returned (.agg (rpV 30 0 0)) ∧ KStep s l w (s) l w' := by
  have hwt : ∀ W, KsIs s l W → Calls Tryz.prog 78 #[.pointer (some ⟨l.t .T, 0, none⟩), .int .i64 p, .int .i64 0] W fun e w' => e = .returned (.tuple #[.int .i64 0, .int .i64 0, .int .i64 30]) ∧ KStep s l W (s) l w' := fun W hW => by
    refine (wait_any p 0 W hW.tab hm.pt hm.ps hm.rz hm.kid hm.pos).mono ?_
    rintro e w' (⟨q1, q2, q3⟩ | ⟨q1, q2, q3⟩)
    · exact ⟨q2, KStep.tab hW q3⟩
    · exact absurd rfl q1
  have HWT := Lib.hid hwt
  clear hwt
  have H := Lib.hid h
  unfold ptrOf clV rpV at *
  clear h
  go_enter Tryz.func48, Tryz.ntmps48
  go_wp2_with fail
  obtain ⟨w1, hw1, K0, hb7, hb8, hb9, hz1⟩ := three_new H.out (.cells #[.int .i64 9, .int .i64 0, .int .i64 0, .string ByteArray.empty, .string ⟨#[]⟩] 31) (.cells #[.int .i64 0, .int .i64 0, .int .i64 0, .string ⟨#[]⟩, .slice none 0 0, .int .i64 0, .int .i64 0, .int .i64 0] 37) (.cells #[.int .i64 0, .int .i64 0, .int .i64 0, .string ⟨#[]⟩, .slice none 0 0, .int .i64 0, .int .i64 0, .int .i64 0] 37)
  rw [hw1]
  clear hw1
  have n7 := H.out.fresh (Nat.le_refl w.heap.size)
  have n8 := H.out.fresh (Nat.le_succ w.heap.size)
  have n9 := H.out.fresh (show w.heap.size ≤ w.heap.size + 1 + 1 by omega)
  obtain ⟨p0, p1, p2, p3, p4, pf⟩ := cells5 hb7
  have q2 := K0.is.k2
  have hkl := H.out.kl
  have HF := Lib.hid (HWT.out w1.drew K0.drew.is)
  have hall : ∀ w2, KStep s l w1.drew (s) l w2 → (w2.cell? ⟨l.k .K, 2, none⟩ = some (.pointer (some ⟨l.t .T, 0, none⟩)) ∧ w2.cell? ⟨w.heap.size, 1, none⟩ = some (.int .i64 0)) ∧
      w2.heap[w.heap.size + 1]? = some (.cells #[.int .i64 0, .int .i64 0, .int .i64 0, .string ⟨#[]⟩, .slice none 0 0, .int .i64 0, .int .i64 0, .int .i64 0] 37 (0, 0)) ∧ w2.heap[w.heap.size + 1 + 1]? = some (.cells #[.int .i64 0, .int .i64 0, .int .i64 0, .string ⟨#[]⟩, .slice none 0 0, .int .i64 0, .int .i64 0, .int .i64 0] 37 (0, 0)) ∧
      KStep s l w (s) l w2 ∧ ¬ Owns (Ks.obj (s) l) l.all (w.heap.size + 1) ∧ ¬ Owns (Ks.obj (s) l) l.all (w.heap.size + 1 + 1) := fun w2 K => by
    refine ⟨⟨K.is.k2, K.cell (w := w1.drew) p1 n7⟩, K.heap (w := w1.drew) hb8 n8, K.heap (w := w1.drew) hb9 n9, K0.drew.trans K, K.fresh n8 (by show _ < w1.heap.size; omega), K.fresh n9 (by show _ < w1.heap.size; omega)⟩
  have HALL := Lib.hid hall
  unfold ptrOf at *
  clear p2 p3 p0 p4 pf n7 n8 n9 hb7 hb8 hb9 K0 hz1 hall
  go_region_held3 (fun W => W.cell? ⟨l.k .K, 2, none⟩ = some (.pointer (some ⟨l.t .T, 0, none⟩)) ∧ W.cell? ⟨w.heap.size, 1, none⟩ = some (.int .i64 0)) (first | go_keep | exact ⟨q2, p1⟩ | exact ⟨e2, e1⟩ | ((try dsimp only); (repeat' apply And.intro) <;> first | go_keep | assumption | exact (cs_block (by dsimp only; omega)).trans (by assumption) | exact ((cs_block (by dsimp only; omega)).trans (cs_block (by dsimp only; omega))).trans (by assumption) | exact (((cs_block (by dsimp only; omega)).trans (cs_block (by dsimp only; omega))).trans (cs_block (by dsimp only; omega))).trans (by assumption))) (first | (go_at_call 78; refine HF.out.mono ?_; rintro e w2 ⟨rfl, hq⟩; obtain ⟨⟨e2, e1⟩, hb8, hb9, hk, hm8, hm9⟩ := HALL.out _ hq; have HB8 := Lib.hid (cells8 hb8); have HR8 := Lib.hid hb8; have c9 := cells8 hb9; obtain ⟨c0, c1, c2, c3, c4, c5, c6, c7, cf⟩ := c9; have HK := Lib.hid hk; have HM8 := Lib.hid hm8; have HM9 := Lib.hid hm9; clear hq hb8 hb9 hk hm8 hm9))
  all_goals
    obtain ⟨g0, g1, g2, g3, g4, g5, g6, g7, gf⟩ := HB8.out
    clear HB8 HALL HF e2 e1 p1 q2
    go_wp2_with fail
    first
      | generalize hwa : (((w2.setCell ⟨w.heap.size + 1 + 1, 1, none⟩ (.int .i64 0)).setCell ⟨w.heap.size + 1 + 1, 2, none⟩ (.int .i64 0)).setCell ⟨w.heap.size + 1 + 1, 0, none⟩ (.int .i64 30)) = wa
        have hA9 : Aside (w.heap.size + 1 + 1) w2 wa := hwa ▸ ((((Aside.refl _ _).set 1 _).set 2 _).set 0 _)
      | generalize hwa : (((w2.setCell ⟨w.heap.size + 1 + 1, 1, none⟩ (.int .i64 0)).setCell ⟨w.heap.size + 1 + 1, 0, none⟩ (.int .i64 30)).setCell ⟨w.heap.size + 1 + 1, 2, none⟩ (.int .i64 0)) = wa
        have hA9 : Aside (w.heap.size + 1 + 1) w2 wa := hwa ▸ ((((Aside.refl _ _).set 1 _).set 0 _).set 2 _)
      | generalize hwa : (((w2.setCell ⟨w.heap.size + 1 + 1, 2, none⟩ (.int .i64 0)).setCell ⟨w.heap.size + 1 + 1, 1, none⟩ (.int .i64 0)).setCell ⟨w.heap.size + 1 + 1, 0, none⟩ (.int .i64 30)) = wa
        have hA9 : Aside (w.heap.size + 1 + 1) w2 wa := hwa ▸ ((((Aside.refl _ _).set 2 _).set 1 _).set 0 _)
      | generalize hwa : (((w2.setCell ⟨w.heap.size + 1 + 1, 2, none⟩ (.int .i64 0)).setCell ⟨w.heap.size + 1 + 1, 0, none⟩ (.int .i64 30)).setCell ⟨w.heap.size + 1 + 1, 1, none⟩ (.int .i64 0)) = wa
        have hA9 : Aside (w.heap.size + 1 + 1) w2 wa := hwa ▸ ((((Aside.refl _ _).set 2 _).set 0 _).set 1 _)
      | generalize hwa : (((w2.setCell ⟨w.heap.size + 1 + 1, 0, none⟩ (.int .i64 30)).setCell ⟨w.heap.size + 1 + 1, 1, none⟩ (.int .i64 0)).setCell ⟨w.heap.size + 1 + 1, 2, none⟩ (.int .i64 0)) = wa
        have hA9 : Aside (w.heap.size + 1 + 1) w2 wa := hwa ▸ ((((Aside.refl _ _).set 0 _).set 1 _).set 2 _)
      | generalize hwa : (((w2.setCell ⟨w.heap.size + 1 + 1, 0, none⟩ (.int .i64 30)).setCell ⟨w.heap.size + 1 + 1, 2, none⟩ (.int .i64 0)).setCell ⟨w.heap.size + 1 + 1, 1, none⟩ (.int .i64 0)) = wa
        have hA9 : Aside (w.heap.size + 1 + 1) w2 wa := hwa ▸ ((((Aside.refl _ _).set 0 _).set 2 _).set 1 _)
    clear hwa
    obtain ⟨w3, hw3, hA8, hc8⟩ := eight_set ((hA9.block (w.heap.size + 1) (by omega)).trans HR8.out) (.int .i64 30) (.int .i64 0) (.int .i64 0) (.string ⟨#[]⟩) (.slice none 0 0) (.int .i64 0) (.int .i64 0) (.int .i64 0)
    rw [hw3]
    obtain ⟨x0, x1, x2, x3, x4, x5, x6, x7, _⟩ := cells8 hc8
    have KF := ((HK.out.aside hA9 (by omega) HM9.out).aside hA8 (by omega) HM8.out)
    refine bodyPost_ret (v := .agg #[.int .i64 30, .int .i64 0, .int .i64 0, .string ByteArray.empty, .slice none 0 0, .int .i64 0, .int .i64 0, .int .i64 0]) ?_ rfl ⟨rfl, KF⟩
    clear KF hw3 hA8 hc8
    simp [results, Tryz.results48, go_sem, x0, x1, x2, x3, x4, x5, x6, x7]
    try rfl
set_option maxHeartbeats 1000000 in
set_option maxRecDepth 100000 in
theorem call_wait_reap {s l} (p z : Int) (w : World) (h : KsIs s l w) (hm : MayWait s p z) (hz : z ≠ 0) :
    Calls Tryz.prog 48 #[ptrOf (l.k .K), .int .i64 p, ptrOf (l.k (.R p)), .agg (clV 9 0 [])] w fun e w' => e = .returned (.agg (rpV 0 z (s.t.pr z).status)) ∧ KStep s l w ({ s with t := s.t.delP z }) l w' := by
  have hwt : ∀ W, KsIs s l W → Calls Tryz.prog 78 #[.pointer (some ⟨l.t .T, 0, none⟩), .int .i64 p, .int .i64 0] W fun e w' => e = .returned (.tuple #[.int .i64 z, .int .i64 (s.t.pr z).status, .int .i64 0]) ∧ KStep s l W ({ s with t := s.t.delP z }) l w' := fun W hW => by
    refine (wait_any p z W hW.tab hm.pt hm.ps hm.rz hm.kid hm.pos).mono ?_
    rintro e w' (⟨q1, q2, q3⟩ | ⟨q1, q2, q3⟩)
    · exact absurd q1 hz
    · exact ⟨q2, KStep.tab hW q3⟩
  have HWT := Lib.hid hwt
  clear hwt
  have H := Lib.hid h
  unfold ptrOf clV rpV at *
  clear h
  go_enter Tryz.func48, Tryz.ntmps48
  go_wp2_with fail
  obtain ⟨w1, hw1, K0, hb7, hb8, hb9, hz1⟩ := three_new H.out (.cells #[.int .i64 9, .int .i64 0, .int .i64 0, .string ByteArray.empty, .string ⟨#[]⟩] 31) (.cells #[.int .i64 0, .int .i64 0, .int .i64 0, .string ⟨#[]⟩, .slice none 0 0, .int .i64 0, .int .i64 0, .int .i64 0] 37) (.cells #[.int .i64 0, .int .i64 0, .int .i64 0, .string ⟨#[]⟩, .slice none 0 0, .int .i64 0, .int .i64 0, .int .i64 0] 37)
  rw [hw1]
  clear hw1
  have n7 := H.out.fresh (Nat.le_refl w.heap.size)
  have n8 := H.out.fresh (Nat.le_succ w.heap.size)
  have n9 := H.out.fresh (show w.heap.size ≤ w.heap.size + 1 + 1 by omega)
  obtain ⟨p0, p1, p2, p3, p4, pf⟩ := cells5 hb7
  have q2 := K0.is.k2
  have hkl := H.out.kl
  have HF := Lib.hid (HWT.out w1.drew K0.drew.is)
  have hall : ∀ w2, KStep s l w1.drew ({ s with t := s.t.delP z }) l w2 → (w2.cell? ⟨l.k .K, 2, none⟩ = some (.pointer (some ⟨l.t .T, 0, none⟩)) ∧ w2.cell? ⟨w.heap.size, 1, none⟩ = some (.int .i64 0)) ∧
      w2.heap[w.heap.size + 1]? = some (.cells #[.int .i64 0, .int .i64 0, .int .i64 0, .string ⟨#[]⟩, .slice none 0 0, .int .i64 0, .int .i64 0, .int .i64 0] 37 (0, 0)) ∧ w2.heap[w.heap.size + 1 + 1]? = some (.cells #[.int .i64 0, .int .i64 0, .int .i64 0, .string ⟨#[]⟩, .slice none 0 0, .int .i64 0, .int .i64 0, .int .i64 0] 37 (0, 0)) ∧
      KStep s l w ({ s with t := s.t.delP z }) l w2 ∧ ¬ Owns (Ks.obj ({ s with t := s.t.delP z }) l) l.all (w.heap.size + 1) ∧ ¬ Owns (Ks.obj ({ s with t := s.t.delP z }) l) l.all (w.heap.size + 1 + 1) := fun w2 K => by
    refine ⟨⟨K.is.k2, K.cell (w := w1.drew) p1 n7⟩, K.heap (w := w1.drew) hb8 n8, K.heap (w := w1.drew) hb9 n9, K0.drew.trans K, K.fresh n8 (by show _ < w1.heap.size; omega), K.fresh n9 (by show _ < w1.heap.size; omega)⟩
  have HALL := Lib.hid hall
  unfold ptrOf at *
  clear p2 p3 p0 p4 pf n7 n8 n9 hb7 hb8 hb9 K0 hz1 hall
  go_region_held3 (fun W => W.cell? ⟨l.k .K, 2, none⟩ = some (.pointer (some ⟨l.t .T, 0, none⟩)) ∧ W.cell? ⟨w.heap.size, 1, none⟩ = some (.int .i64 0)) (first | go_keep | exact ⟨q2, p1⟩ | exact ⟨e2, e1⟩ | ((try dsimp only); (repeat' apply And.intro) <;> first | go_keep | assumption | exact (cs_block (by dsimp only; omega)).trans (by assumption) | exact ((cs_block (by dsimp only; omega)).trans (cs_block (by dsimp only; omega))).trans (by assumption) | exact (((cs_block (by dsimp only; omega)).trans (cs_block (by dsimp only; omega))).trans (cs_block (by dsimp only; omega))).trans (by assumption))) (first | (go_at_call 78; refine HF.out.mono ?_; rintro e w2 ⟨rfl, hq⟩; obtain ⟨⟨e2, e1⟩, hb8, hb9, hk, hm8, hm9⟩ := HALL.out _ hq; have HB8 := Lib.hid (cells8 hb8); have HR8 := Lib.hid hb8; have c9 := cells8 hb9; obtain ⟨c0, c1, c2, c3, c4, c5, c6, c7, cf⟩ := c9; have HK := Lib.hid hk; have HM8 := Lib.hid hm8; have HM9 := Lib.hid hm9; clear hq hb8 hb9 hk hm8 hm9))
  all_goals
    obtain ⟨g0, g1, g2, g3, g4, g5, g6, g7, gf⟩ := HB8.out
    clear HB8 HALL HF e2 e1 p1 q2
    go_wp2_with fail
    first
      | generalize hwa : (((w2.setCell ⟨w.heap.size + 1 + 1, 1, none⟩ (.int .i64 z)).setCell ⟨w.heap.size + 1 + 1, 2, none⟩ (.int .i64 (s.t.pr z).status)).setCell ⟨w.heap.size + 1 + 1, 0, none⟩ (.int .i64 0)) = wa
        have hA9 : Aside (w.heap.size + 1 + 1) w2 wa := hwa ▸ ((((Aside.refl _ _).set 1 _).set 2 _).set 0 _)
      | generalize hwa : (((w2.setCell ⟨w.heap.size + 1 + 1, 1, none⟩ (.int .i64 z)).setCell ⟨w.heap.size + 1 + 1, 0, none⟩ (.int .i64 0)).setCell ⟨w.heap.size + 1 + 1, 2, none⟩ (.int .i64 (s.t.pr z).status)) = wa
        have hA9 : Aside (w.heap.size + 1 + 1) w2 wa := hwa ▸ ((((Aside.refl _ _).set 1 _).set 0 _).set 2 _)
      | generalize hwa : (((w2.setCell ⟨w.heap.size + 1 + 1, 2, none⟩ (.int .i64 (s.t.pr z).status)).setCell ⟨w.heap.size + 1 + 1, 1, none⟩ (.int .i64 z)).setCell ⟨w.heap.size + 1 + 1, 0, none⟩ (.int .i64 0)) = wa
        have hA9 : Aside (w.heap.size + 1 + 1) w2 wa := hwa ▸ ((((Aside.refl _ _).set 2 _).set 1 _).set 0 _)
      | generalize hwa : (((w2.setCell ⟨w.heap.size + 1 + 1, 2, none⟩ (.int .i64 (s.t.pr z).status)).setCell ⟨w.heap.size + 1 + 1, 0, none⟩ (.int .i64 0)).setCell ⟨w.heap.size + 1 + 1, 1, none⟩ (.int .i64 z)) = wa
        have hA9 : Aside (w.heap.size + 1 + 1) w2 wa := hwa ▸ ((((Aside.refl _ _).set 2 _).set 0 _).set 1 _)
      | generalize hwa : (((w2.setCell ⟨w.heap.size + 1 + 1, 0, none⟩ (.int .i64 0)).setCell ⟨w.heap.size + 1 + 1, 1, none⟩ (.int .i64 z)).setCell ⟨w.heap.size + 1 + 1, 2, none⟩ (.int .i64 (s.t.pr z).status)) = wa
        have hA9 : Aside (w.heap.size + 1 + 1) w2 wa := hwa ▸ ((((Aside.refl _ _).set 0 _).set 1 _).set 2 _)
      | generalize hwa : (((w2.setCell ⟨w.heap.size + 1 + 1, 0, none⟩ (.int .i64 0)).setCell ⟨w.heap.size + 1 + 1, 2, none⟩ (.int .i64 (s.t.pr z).status)).setCell ⟨w.heap.size + 1 + 1, 1, none⟩ (.int .i64 z)) = wa
        have hA9 : Aside (w.heap.size + 1 + 1) w2 wa := hwa ▸ ((((Aside.refl _ _).set 0 _).set 2 _).set 1 _)
    clear hwa
    obtain ⟨w3, hw3, hA8, hc8⟩ := eight_set ((hA9.block (w.heap.size + 1) (by omega)).trans HR8.out) (.int .i64 0) (.int .i64 z) (.int .i64 (s.t.pr z).status) (.string ⟨#[]⟩) (.slice none 0 0) (.int .i64 0) (.int .i64 0) (.int .i64 0)
    rw [hw3]
    obtain ⟨x0, x1, x2, x3, x4, x5, x6, x7, _⟩ := cells8 hc8
    have KF := ((HK.out.aside hA9 (by omega) HM9.out).aside hA8 (by omega) HM8.out)
    refine bodyPost_ret (v := .agg #[.int .i64 0, .int .i64 z, .int .i64 (s.t.pr z).status, .string ByteArray.empty, .slice none 0 0, .int .i64 0, .int .i64 0, .int .i64 0]) ?_ rfl ⟨rfl, KF⟩
    clear KF hw3 hA8 hc8
    simp [results, Tryz.results48, go_sem, x0, x1, x2, x3, x4, x5, x6, x7]
    try rfl
end Go.Proofs.YtelohloaoocoaaaGreatDoor
/- sys.Kernel: Do, kind by kind. -/
namespace Go.Proofs.YtelohloaoocoaaaGreatDoor
open Go.RowKit IntWalk
set_option linter.unusedVariables false
set_option linter.unusedSimpArgs false
set_option linter.unnecessarySimpa false

theorem wakes_any (k : Int) (b : Bool) (w : World) (h : b = (k == 1 || k == 2 || k == 4 || k == 6 || k == 8)) : Calls Tryz.prog 50 #[.int .i64 k] w fun e w' => e = .returned (.bool b) ∧ w = w' := by
  subst h
  by_cases h1 : k = 1
  · subst h1
    go_enter Tryz.func50, Tryz.ntmps50
    go_wp2
    go_ret
    exact ⟨rfl, rfl⟩
  by_cases h2 : k = 2
  · subst h2
    go_enter Tryz.func50, Tryz.ntmps50
    go_wp2
    go_ret
    exact ⟨rfl, rfl⟩
  by_cases h3 : k = 4
  · subst h3
    go_enter Tryz.func50, Tryz.ntmps50
    go_wp2
    go_ret
    exact ⟨rfl, rfl⟩
  by_cases h4 : k = 6
  · subst h4
    go_enter Tryz.func50, Tryz.ntmps50
    go_wp2
    go_ret
    exact ⟨rfl, rfl⟩
  by_cases h5 : k = 8
  · subst h5
    go_enter Tryz.func50, Tryz.ntmps50
    go_wp2
    go_ret
    exact ⟨rfl, rfl⟩
  have e1 : (k == 1) = false := by simpa using h1
  have e2 : (k == 2) = false := by simpa using h2
  have e3 : (k == 4) = false := by simpa using h3
  have e4 : (k == 6) = false := by simpa using h4
  have e5 : (k == 8) = false := by simpa using h5
  go_enter Tryz.func50, Tryz.ntmps50
  go_wp2
  go_ret
  exact ⟨by simp [e1, e2, e3, e4, e5], rfl⟩
theorem two_new {s : Ks} {l : Ly} {w : World} (h : KsIs s l w) (o1 o2 : Obj) : ∃ w1, (w.alloc o1).alloc o2 = w1 ∧ KStep s l w s l w1 ∧ w1.heap[w.heap.size]? = some o1 ∧ w1.heap[w.heap.size + 1]? = some o2 ∧ w1.heap.size = w.heap.size + 2 := by
  refine ⟨_, rfl, (KStep.refl h).below (((Below.refl _ _).alloc (Nat.le_refl _) _).alloc (by simp) _), ?_, ?_, by simp⟩
  · rw [Below.heap_alloc _ _ _ (by simp)]; exact Array.getElem?_push_size
  · have : w.heap.size + 1 = (w.alloc o1).heap.size := by simp
    rw [this]; exact Array.getElem?_push_size
/-- the process that calls is woken, and told whether it waits -/
def Ks.awoke (s : Ks) (i : Int) (b : Bool) : Ks := { s with t := s.t.turnS i 1, k := s.k.setR i ⟨(s.k.pc i).zb, b⟩ }
theorem KStep.setW {s s' : Ks} {l l' : Ly} {w w' : World} (K : KStep s l w s' l' w') {i : Int} (hi : i ∈ s'.k.m.keys) (b : Bool) : KStep s l w { s' with k := s'.k.setR i ⟨(s'.k.pc i).zb, b⟩ } l' (w'.setCell ⟨l'.k (.R i), 2, none⟩ (.bool b)) :=
  K.trans (KStep.kx K.is (kx_setW (GStep.refl K.is.kx) hi b) K.ok.k rfl rfl rfl rfl (fun j hj => by
    by_cases e : j = i
    · subst e; simp only [Kx.setR, if_pos]; exact K.ok.zb j hj
    · simp only [Kx.setR, if_neg e]; exact K.ok.zb j hj))
set_option maxHeartbeats 1000000 in
set_option maxRecDepth 100000 in
theorem do_fork {s l} (p q : Int) (l0 : List (Option Nat)) (w : World) (h : KsIs s l w) (hp : p ∈ s.t.m.keys) (hs : (s.t.pr p).state ≠ 3) (hm : MayFork (s.awoke p false) p q l0) :
    Calls Tryz.prog 25 #[ptrOf (l.k .K), .int .i64 p, .agg (clV 7 0 [])] w fun e w' => e = .returned (.agg (rpV 0 q 0)) ∧ ∃ l' : Ly, KStep s l w ((s.awoke p false).forked p q l0 (l'.x (.Z q))) l' w' := by
  have H := Lib.hid h
  have hpk : p ∈ s.k.m.keys := hm.pk
  have hpt : p ∈ s.t.m.keys := hp
  have hps : (s.t.pr p).state ≠ 3 := hs
  unfold ptrOf clV rpV at *
  clear h
  go_enter Tryz.func25, Tryz.ntmps25
  go_upto_region 1 with fail
  obtain ⟨w1, hw1, K0, hb5, hb6, hz1⟩ := two_new H.out (.cells #[.int .i64 7, .int .i64 0, .int .i64 0, .string ByteArray.empty, .string ⟨#[]⟩] 31) (.cells #[.int .i64 0, .int .i64 0, .int .i64 0, .string ⟨#[]⟩, .slice none 0 0, .int .i64 0, .int .i64 0, .int .i64 0] 37)
  rw [hw1]
  clear hw1
  have n5 := H.out.fresh (Nat.le_refl w.heap.size)
  have n6 := H.out.fresh (Nat.le_succ w.heap.size)
  have k3 := K0.is.k3
  have k2 := K0.is.k2
  have hlook := kx_look K0.is.kx hpk
  have HW := Lib.hid (wake_in p w1 K0.is.tab hpt hps)
  have HK0 := Lib.hid K0
  have HB5 := Lib.hid hb5
  have HB6 := Lib.hid hb6
  unfold ptrOf at *
  clear K0 hb5 hb6
  go_upto_region 7 with (go_at_call 47; refine HW.out.mono ?_; rintro e wa ⟨rfl, ht⟩)
  have KT := KStep.tab HK0.out.is ht
  have hb5 := KT.heap HB5.out n5
  have hb6 := KT.heap HB6.out n6
  have c5 := (cells5 hb5).1
  have r2 := KT.is.r2 (i := p) hpk
  have rf := kx_rf KT.is.kx (i := p) hpk 2
  have hrl := H.out.rl hpk
  have hne : l.k (.R p) ≠ w.heap.size := by omega
  have KA := KT.setW hpk false
  have hd5 := (Aside.refl (l.k (.R p)) wa).set 2 (.bool false)
  have g5 := (hd5.block w.heap.size (by omega)).trans hb5
  have g6 := (hd5.block (w.heap.size + 1) (by omega)).trans hb6
  have hm5 := KA.fresh n5 (by omega)
  have hm6 := KA.fresh n6 (by omega)
  have HK2 := Lib.hid (HK0.out.trans KA)
  have HG5 := Lib.hid g5
  have HG6 := Lib.hid g6
  have HMM := Lib.hid (And.intro hm5 hm6)
  clear KT hb5 hb6 KA hd5 g5 g6 ht k3 k2 hlook HB5 HB6 hm5 hm6 hz1 n5 n6 HW HK0
  go_upto_region 8 with fail
  generalize wa.setCell ⟨l.k (.R p), 2, none⟩ (.bool false) = w2 at *
  clear r2 rf c5
  obtain ⟨m5, m6⟩ := HMM.out
  obtain ⟨p0, p1, p2, p3, p4, pf⟩ := cells5 HG5.out
  have HC := Lib.hid (call_fork (s := s.awoke p false) p q l0 w2 HK2.out.is hm)
  unfold ptrOf clV rpV at HC
  clear HMM hrl hne
  go_wp2_with first
    | (go_at_call 48; refine HC.out.mono ?_; rintro e w3 ⟨rfl, hq⟩; obtain ⟨l', K⟩ := hq; have hh5 := K.heap HG5.out m5; have hh6 := K.heap HG6.out m6; obtain ⟨y0, y1, y2, y3, y4, yf⟩ := cells5 hh5; obtain ⟨z0, z1, z2, z3, z4, z5, z6, z7, zf⟩ := cells8 hh6; have hl3 : w.heap.size + 1 < w3.heap.size := (Array.getElem?_eq_some_iff.1 hh6).1; have hl2 : w.heap.size < w3.heap.size := (Nat.lt_of_succ_lt hl3); have HM6 := Lib.hid (K.fresh m6 (Array.getElem?_eq_some_iff.1 HG6.out).1); have HR6 := Lib.hid hh6; have HK := Lib.hid (HK2.out.trans K); clear K hh5 hh6)
    | (go_at_call 50; refine (wakes_any 7 false _ rfl).mono ?_; rintro e w' ⟨rfl, rfl⟩)
  obtain ⟨w9, hw9, hA6, hc9⟩ := eight_set HR6.out (.int .i64 0) (.int .i64 q) (.int .i64 0) (.string ByteArray.empty) (.slice none 0 0) (.int .i64 0) (.int .i64 0) (.int .i64 0)
  rw [hw9]
  have hl9 : w.heap.size + 1 < w9.heap.size := (Array.getElem?_eq_some_iff.1 hc9).1
  obtain ⟨x0, x1, x2, x3, x4, x5, x6, x7, _⟩ := cells8 hc9
  have KF := ((HK.out.aside hA6 (by omega) HM6.out).below ((Below.refl _ w9).alloc (Nat.le_refl _) (.cells #[.int .i64 0, .int .i64 q, .int .i64 0, .string ByteArray.empty, .slice none 0 0, .int .i64 0, .int .i64 0, .int .i64 0] 37)))
  refine bodyPost_ret (v := .agg #[.int .i64 0, .int .i64 q, .int .i64 0, .string ByteArray.empty, .slice none 0 0, .int .i64 0, .int .i64 0, .int .i64 0]) ?_ rfl ⟨rfl, l', KF⟩
  clear KF hw9 hA6 hc9
  simp [results, Tryz.results25, go_sem, x0, x1, x2, x3, x4, x5, x6, x7, hl9]
  try rfl
set_option maxHeartbeats 1000000 in
set_option maxRecDepth 100000 in
theorem do_write {s l} (i : Int) (l0 : List (Option Nat)) (d : List UInt8) (w : World) (h : KsIs s l w) (hk : i ∈ s.k.m.keys) (ht0 : i ∈ s.t.m.keys) (hs : (s.t.pr i).state ≠ 3) (hi : s.x.zs i = some l0) (hn : l0[1]? = some (some 1)) (hl : s.h.out.length + d.length ≤ 1000000) (hno : ∀ j ∈ s.k.m.keys, ((s.awoke i false).k.pc j).waits = true ∨ (s.awoke i false).t.stateOf j ≠ 2) :
    Calls Tryz.prog 25 #[ptrOf (l.k .K), .int .i64 i, .agg (clV 2 1 d)] w fun e w' => e = .returned (.agg (rpV 0 d.length 0)) ∧ ∃ (h' : Hx) (lh : HId → Nat), KStep s l w { s.awoke i false with h := h' } { l with h := lh } w' ∧ h'.out = s.h.out ++ d ∧ h'.gs = s.h.gs := by
  have H := Lib.hid h
  have hpk : i ∈ s.k.m.keys := hk
  have hpt : i ∈ s.t.m.keys := ht0
  have hps : (s.t.pr i).state ≠ 3 := hs
  unfold ptrOf clV rpV at *
  clear h
  go_enter Tryz.func25, Tryz.ntmps25
  go_upto_region 1 with fail
  obtain ⟨w1, hw1, K0, hb5, hb6, hz1⟩ := two_new H.out (.cells #[.int .i64 2, .int .i64 1, .int .i64 0, .string ByteArray.empty, .string ⟨d.toArray⟩] 31) (.cells #[.int .i64 0, .int .i64 0, .int .i64 0, .string ⟨#[]⟩, .slice none 0 0, .int .i64 0, .int .i64 0, .int .i64 0] 37)
  rw [hw1]
  clear hw1
  have n5 := H.out.fresh (Nat.le_refl w.heap.size)
  have n6 := H.out.fresh (Nat.le_succ w.heap.size)
  have k3 := K0.is.k3
  have k2 := K0.is.k2
  have hlook := kx_look K0.is.kx hpk
  have HW := Lib.hid (wake_in i w1 K0.is.tab hpt hps)
  have HK0 := Lib.hid K0
  have HB5 := Lib.hid hb5
  have HB6 := Lib.hid hb6
  unfold ptrOf at *
  clear K0 hb5 hb6
  go_upto_region 7 with (go_at_call 47; refine HW.out.mono ?_; rintro e wa ⟨rfl, ht⟩)
  have KT := KStep.tab HK0.out.is ht
  have hb5 := KT.heap HB5.out n5
  have hb6 := KT.heap HB6.out n6
  have c5 := (cells5 hb5).1
  have r2 := KT.is.r2 (i := i) hpk
  have rf := kx_rf KT.is.kx (i := i) hpk 2
  have hrl := H.out.rl hpk
  have hne : l.k (.R i) ≠ w.heap.size := by omega
  have KA := KT.setW hpk false
  have hd5 := (Aside.refl (l.k (.R i)) wa).set 2 (.bool false)
  have g5 := (hd5.block w.heap.size (by omega)).trans hb5
  have g6 := (hd5.block (w.heap.size + 1) (by omega)).trans hb6
  have hm5 := KA.fresh n5 (by omega)
  have hm6 := KA.fresh n6 (by omega)
  have HK2 := Lib.hid (HK0.out.trans KA)
  have HG5 := Lib.hid g5
  have HG6 := Lib.hid g6
  have HMM := Lib.hid (And.intro hm5 hm6)
  clear KT hb5 hb6 KA hd5 g5 g6 ht k3 k2 hlook HB5 HB6 hm5 hm6 hz1 n5 n6 HW HK0
  go_upto_region 8 with fail
  generalize wa.setCell ⟨l.k (.R i), 2, none⟩ (.bool false) = w2 at *
  clear r2 rf c5
  obtain ⟨m5, m6⟩ := HMM.out
  obtain ⟨p0, p1, p2, p3, p4, pf⟩ := cells5 HG5.out
  have HC := Lib.hid (call_write (s := s.awoke i false) i l0 d w2 HK2.out.is hk hi hn hl)
  unfold ptrOf clV rpV at HC
  clear HMM hrl hne
  go_wp2_with first
    | (go_at_call 48; refine HC.out.mono ?_; rintro e w3 ⟨rfl, hq⟩; obtain ⟨h', lh, K, q1, q2⟩ := hq; have hh5 := K.heap HG5.out m5; have hh6 := K.heap HG6.out m6; obtain ⟨y0, y1, y2, y3, y4, yf⟩ := cells5 hh5; obtain ⟨z0, z1, z2, z3, z4, z5, z6, z7, zf⟩ := cells8 hh6; have hl3 : w.heap.size + 1 < w3.heap.size := (Array.getElem?_eq_some_iff.1 hh6).1; have hl2 : w.heap.size < w3.heap.size := (Nat.lt_of_succ_lt hl3); have HM6 := Lib.hid (K.fresh m6 (Array.getElem?_eq_some_iff.1 HG6.out).1); have HR6 := Lib.hid hh6; have HK := Lib.hid (HK2.out.trans K); have HI3 := Lib.hid ((HK.out.below ((Below.refl _ w3).alloc (Nat.le_refl _) (.cells #[.int .i64 0, .int .i64 d.length, .int .i64 0, .string ByteArray.empty, .slice none 0 0, .int .i64 0, .int .i64 0, .int .i64 0] 37))).is); have HNO := Lib.hid (hno); have HWN := Lib.hid (wakenone_any _ HI3.out HNO.out); unfold ptrOf at HWN; clear K hh5 hh6)
    | (go_at_call 50; refine (wakes_any 2 true _ rfl).mono ?_; rintro e w' ⟨rfl, rfl⟩)
    | (go_at_call 51; refine HWN.out.mono ?_; rintro e w5 ⟨rfl, hB⟩; have ht8 := (hB.block w3.heap.size (by simp)).trans (show (w3.alloc (.cells #[.int .i64 0, .int .i64 d.length, .int .i64 0, .string ByteArray.empty, .slice none 0 0, .int .i64 0, .int .i64 0, .int .i64 0] 37)).heap[w3.heap.size]? = some (.cells #[.int .i64 0, .int .i64 d.length, .int .i64 0, .string ByteArray.empty, .slice none 0 0, .int .i64 0, .int .i64 0, .int .i64 0] 37) from Array.getElem?_push_size); obtain ⟨t0, t1, t2, t3, t4, t5, t6, t7, tf⟩ := cells8 ht8; have h65 := (hB.block (w.heap.size + 1) (by simp; omega)).trans ((Below.heap_alloc w3 (.cells #[.int .i64 0, .int .i64 d.length, .int .i64 0, .string ByteArray.empty, .slice none 0 0, .int .i64 0, .int .i64 0, .int .i64 0] 37) _ hl3).trans HR6.out); obtain ⟨u0, u1, u2, u3, u4, u5, u6, u7, uf⟩ := cells8 h65; have HB := Lib.hid hB; have H65 := Lib.hid h65; clear hB ht8 h65)
  obtain ⟨w9, hw9, hA6, hc9⟩ := eight_set H65.out (.int .i64 0) (.int .i64 d.length) (.int .i64 0) (.string ByteArray.empty) (.slice none 0 0) (.int .i64 0) (.int .i64 0) (.int .i64 0)
  rw [hw9]
  have hl9 : w.heap.size + 1 < w9.heap.size := (Array.getElem?_eq_some_iff.1 hc9).1
  obtain ⟨x0, x1, x2, x3, x4, x5, x6, x7, _⟩ := cells8 hc9
  have KF := (((HK.out.below ((Below.refl _ w3).alloc (Nat.le_refl _) (.cells #[.int .i64 0, .int .i64 d.length, .int .i64 0, .string ByteArray.empty, .slice none 0 0, .int .i64 0, .int .i64 0, .int .i64 0] 37))).below HB.out).aside hA6 (by omega) HM6.out)
  refine bodyPost_ret (v := .agg #[.int .i64 0, .int .i64 d.length, .int .i64 0, .string ByteArray.empty, .slice none 0 0, .int .i64 0, .int .i64 0, .int .i64 0]) ?_ rfl ⟨rfl, h', lh, KF, q1, q2⟩
  clear KF hw9 hA6 hc9
  simp [results, Tryz.results25, go_sem, x0, x1, x2, x3, x4, x5, x6, x7, hl9]
  try rfl
set_option maxHeartbeats 1000000 in
set_option maxRecDepth 100000 in
theorem do_exit_kid {s l} (i p st : Int) (l0 : List (Option Nat)) (w : World) (h : KsIs s l w) (hm : MayEnd (s.awoke i false) i p l0) (hs : (s.t.pr i).state ≠ 3) (hst0 : 0 ≤ st) (hst1 : st ≤ 255) (hno : ∀ j ∈ ((s.awoke i false).endedK i p st l0).k.m.keys, (((s.awoke i false).endedK i p st l0).k.pc j).waits = true ∨ ((s.awoke i false).endedK i p st l0).t.stateOf j ≠ 2) :
    Calls Tryz.prog 25 #[ptrOf (l.k .K), .int .i64 i, .agg (clV 8 st [])] w fun e w' => e = .returned (.agg (rpV 0 0 0)) ∧ KStep s l w ((s.awoke i false).endedK i p st l0) l w' := by
  have H := Lib.hid h
  have hpk : i ∈ s.k.m.keys := hm.ik
  have hpt : i ∈ s.t.m.keys := hm.it
  have hps : (s.t.pr i).state ≠ 3 := hs
  unfold ptrOf clV rpV at *
  clear h
  go_enter Tryz.func25, Tryz.ntmps25
  go_upto_region 1 with fail
  obtain ⟨w1, hw1, K0, hb5, hb6, hz1⟩ := two_new H.out (.cells #[.int .i64 8, .int .i64 st, .int .i64 0, .string ByteArray.empty, .string ⟨#[]⟩] 31) (.cells #[.int .i64 0, .int .i64 0, .int .i64 0, .string ⟨#[]⟩, .slice none 0 0, .int .i64 0, .int .i64 0, .int .i64 0] 37)
  rw [hw1]
  clear hw1
  have n5 := H.out.fresh (Nat.le_refl w.heap.size)
  have n6 := H.out.fresh (Nat.le_succ w.heap.size)
  have k3 := K0.is.k3
  have k2 := K0.is.k2
  have hlook := kx_look K0.is.kx hpk
  have HW := Lib.hid (wake_in i w1 K0.is.tab hpt hps)
  have HK0 := Lib.hid K0
  have HB5 := Lib.hid hb5
  have HB6 := Lib.hid hb6
  unfold ptrOf at *
  clear K0 hb5 hb6
  go_upto_region 7 with (go_at_call 47; refine HW.out.mono ?_; rintro e wa ⟨rfl, ht⟩)
  have KT := KStep.tab HK0.out.is ht
  have hb5 := KT.heap HB5.out n5
  have hb6 := KT.heap HB6.out n6
  have c5 := (cells5 hb5).1
  have r2 := KT.is.r2 (i := i) hpk
  have rf := kx_rf KT.is.kx (i := i) hpk 2
  have hrl := H.out.rl hpk
  have hne : l.k (.R i) ≠ w.heap.size := by omega
  have KA := KT.setW hpk false
  have hd5 := (Aside.refl (l.k (.R i)) wa).set 2 (.bool false)
  have g5 := (hd5.block w.heap.size (by omega)).trans hb5
  have g6 := (hd5.block (w.heap.size + 1) (by omega)).trans hb6
  have hm5 := KA.fresh n5 (by omega)
  have hm6 := KA.fresh n6 (by omega)
  have HK2 := Lib.hid (HK0.out.trans KA)
  have HG5 := Lib.hid g5
  have HG6 := Lib.hid g6
  have HMM := Lib.hid (And.intro hm5 hm6)
  clear KT hb5 hb6 KA hd5 g5 g6 ht k3 k2 hlook HB5 HB6 hm5 hm6 hz1 n5 n6 HW HK0
  go_upto_region 8 with fail
  generalize wa.setCell ⟨l.k (.R i), 2, none⟩ (.bool false) = w2 at *
  clear r2 rf c5
  obtain ⟨m5, m6⟩ := HMM.out
  obtain ⟨p0, p1, p2, p3, p4, pf⟩ := cells5 HG5.out
  have HC := Lib.hid (call_exit_kid (s := s.awoke i false) i p st l0 w2 HK2.out.is hm hst0 hst1)
  unfold ptrOf clV rpV at HC
  clear HMM hrl hne
  go_wp2_with first
    | (go_at_call 48; refine HC.out.mono ?_; rintro e w3 ⟨rfl, hq⟩; have K := hq; have hh5 := K.heap HG5.out m5; have hh6 := K.heap HG6.out m6; obtain ⟨y0, y1, y2, y3, y4, yf⟩ := cells5 hh5; obtain ⟨z0, z1, z2, z3, z4, z5, z6, z7, zf⟩ := cells8 hh6; have hl3 : w.heap.size + 1 < w3.heap.size := (Array.getElem?_eq_some_iff.1 hh6).1; have hl2 : w.heap.size < w3.heap.size := (Nat.lt_of_succ_lt hl3); have HM6 := Lib.hid (K.fresh m6 (Array.getElem?_eq_some_iff.1 HG6.out).1); have HR6 := Lib.hid hh6; have HK := Lib.hid (HK2.out.trans K); have HI3 := Lib.hid ((HK.out.below ((Below.refl _ w3).alloc (Nat.le_refl _) (.cells #[.int .i64 0, .int .i64 0, .int .i64 0, .string ByteArray.empty, .slice none 0 0, .int .i64 0, .int .i64 0, .int .i64 0] 37))).is); have HNO := Lib.hid (hno); have HWN := Lib.hid (wakenone_any _ HI3.out HNO.out); unfold ptrOf at HWN; clear K hh5 hh6)
    | (go_at_call 50; refine (wakes_any 8 true _ rfl).mono ?_; rintro e w' ⟨rfl, rfl⟩)
    | (go_at_call 51; refine HWN.out.mono ?_; rintro e w5 ⟨rfl, hB⟩; have ht8 := (hB.block w3.heap.size (by simp)).trans (show (w3.alloc (.cells #[.int .i64 0, .int .i64 0, .int .i64 0, .string ByteArray.empty, .slice none 0 0, .int .i64 0, .int .i64 0, .int .i64 0] 37)).heap[w3.heap.size]? = some (.cells #[.int .i64 0, .int .i64 0, .int .i64 0, .string ByteArray.empty, .slice none 0 0, .int .i64 0, .int .i64 0, .int .i64 0] 37) from Array.getElem?_push_size); obtain ⟨t0, t1, t2, t3, t4, t5, t6, t7, tf⟩ := cells8 ht8; have h65 := (hB.block (w.heap.size + 1) (by simp; omega)).trans ((Below.heap_alloc w3 (.cells #[.int .i64 0, .int .i64 0, .int .i64 0, .string ByteArray.empty, .slice none 0 0, .int .i64 0, .int .i64 0, .int .i64 0] 37) _ hl3).trans HR6.out); obtain ⟨u0, u1, u2, u3, u4, u5, u6, u7, uf⟩ := cells8 h65; have HB := Lib.hid hB; have H65 := Lib.hid h65; clear hB ht8 h65)
  obtain ⟨w9, hw9, hA6, hc9⟩ := eight_set H65.out (.int .i64 0) (.int .i64 0) (.int .i64 0) (.string ByteArray.empty) (.slice none 0 0) (.int .i64 0) (.int .i64 0) (.int .i64 0)
  rw [hw9]
  have hl9 : w.heap.size + 1 < w9.heap.size := (Array.getElem?_eq_some_iff.1 hc9).1
  obtain ⟨x0, x1, x2, x3, x4, x5, x6, x7, _⟩ := cells8 hc9
  have KF := (((HK.out.below ((Below.refl _ w3).alloc (Nat.le_refl _) (.cells #[.int .i64 0, .int .i64 0, .int .i64 0, .string ByteArray.empty, .slice none 0 0, .int .i64 0, .int .i64 0, .int .i64 0] 37))).below HB.out).aside hA6 (by omega) HM6.out)
  refine bodyPost_ret (v := .agg #[.int .i64 0, .int .i64 0, .int .i64 0, .string ByteArray.empty, .slice none 0 0, .int .i64 0, .int .i64 0, .int .i64 0]) ?_ rfl ⟨rfl, KF⟩
  clear KF hw9 hA6 hc9
  simp [results, Tryz.results25, go_sem, x0, x1, x2, x3, x4, x5, x6, x7, hl9]
  try rfl
set_option maxHeartbeats 1000000 in
set_option maxRecDepth 100000 in
theorem do_exit_one {s l} (st : Int) (b0 b1 b2 : Nat) (w : World) (h : KsIs s l w) (hm : MayEnd1 (s.awoke 1 false) b0 b1 b2) (hs : (s.t.pr 1).state ≠ 3) (hst0 : 0 ≤ st) (hst1 : st ≤ 255) (hno : ∀ j ∈ ((s.awoke 1 false).ended1 st).k.m.keys, (((s.awoke 1 false).ended1 st).k.pc j).waits = true ∨ ((s.awoke 1 false).ended1 st).t.stateOf j ≠ 2) :
    Calls Tryz.prog 25 #[ptrOf (l.k .K), .int .i64 1, .agg (clV 8 st [])] w fun e w' => e = .returned (.agg (rpV 0 0 0)) ∧ KStep s l w ((s.awoke 1 false).ended1 st) l w' := by
  have H := Lib.hid h
  have hpk : 1 ∈ s.k.m.keys := hm.ik
  have hpt : 1 ∈ s.t.m.keys := hm.it
  have hps : (s.t.pr 1).state ≠ 3 := hs
  unfold ptrOf clV rpV at *
  clear h
  go_enter Tryz.func25, Tryz.ntmps25
  go_upto_region 1 with fail
  obtain ⟨w1, hw1, K0, hb5, hb6, hz1⟩ := two_new H.out (.cells #[.int .i64 8, .int .i64 st, .int .i64 0, .string ByteArray.empty, .string ⟨#[]⟩] 31) (.cells #[.int .i64 0, .int .i64 0, .int .i64 0, .string ⟨#[]⟩, .slice none 0 0, .int .i64 0, .int .i64 0, .int .i64 0] 37)
  rw [hw1]
  clear hw1
  have n5 := H.out.fresh (Nat.le_refl w.heap.size)
  have n6 := H.out.fresh (Nat.le_succ w.heap.size)
  have k3 := K0.is.k3
  have k2 := K0.is.k2
  have hlook := kx_look K0.is.kx hpk
  have HW := Lib.hid (wake_in 1 w1 K0.is.tab hpt hps)
  have HK0 := Lib.hid K0
  have HB5 := Lib.hid hb5
  have HB6 := Lib.hid hb6
  unfold ptrOf at *
  clear K0 hb5 hb6
  go_upto_region 7 with (go_at_call 47; refine HW.out.mono ?_; rintro e wa ⟨rfl, ht⟩)
  have KT := KStep.tab HK0.out.is ht
  have hb5 := KT.heap HB5.out n5
  have hb6 := KT.heap HB6.out n6
  have c5 := (cells5 hb5).1
  have r2 := KT.is.r2 (i := 1) hpk
  have rf := kx_rf KT.is.kx (i := 1) hpk 2
  have hrl := H.out.rl hpk
  have hne : l.k (.R 1) ≠ w.heap.size := by omega
  have KA := KT.setW hpk false
  have hd5 := (Aside.refl (l.k (.R 1)) wa).set 2 (.bool false)
  have g5 := (hd5.block w.heap.size (by omega)).trans hb5
  have g6 := (hd5.block (w.heap.size + 1) (by omega)).trans hb6
  have hm5 := KA.fresh n5 (by omega)
  have hm6 := KA.fresh n6 (by omega)
  have HK2 := Lib.hid (HK0.out.trans KA)
  have HG5 := Lib.hid g5
  have HG6 := Lib.hid g6
  have HMM := Lib.hid (And.intro hm5 hm6)
  clear KT hb5 hb6 KA hd5 g5 g6 ht k3 k2 hlook HB5 HB6 hm5 hm6 hz1 n5 n6 HW HK0
  go_upto_region 8 with fail
  generalize wa.setCell ⟨l.k (.R 1), 2, none⟩ (.bool false) = w2 at *
  clear r2 rf c5
  obtain ⟨m5, m6⟩ := HMM.out
  obtain ⟨p0, p1, p2, p3, p4, pf⟩ := cells5 HG5.out
  have HC := Lib.hid (call_exit_one (s := s.awoke 1 false) st b0 b1 b2 w2 HK2.out.is hm hst0 hst1)
  unfold ptrOf clV rpV at HC
  clear HMM hrl hne
  go_wp2_with first
    | (go_at_call 48; refine HC.out.mono ?_; rintro e w3 ⟨rfl, hq⟩; have K := hq; have hh5 := K.heap HG5.out m5; have hh6 := K.heap HG6.out m6; obtain ⟨y0, y1, y2, y3, y4, yf⟩ := cells5 hh5; obtain ⟨z0, z1, z2, z3, z4, z5, z6, z7, zf⟩ := cells8 hh6; have hl3 : w.heap.size + 1 < w3.heap.size := (Array.getElem?_eq_some_iff.1 hh6).1; have hl2 : w.heap.size < w3.heap.size := (Nat.lt_of_succ_lt hl3); have HM6 := Lib.hid (K.fresh m6 (Array.getElem?_eq_some_iff.1 HG6.out).1); have HR6 := Lib.hid hh6; have HK := Lib.hid (HK2.out.trans K); have HI3 := Lib.hid ((HK.out.below ((Below.refl _ w3).alloc (Nat.le_refl _) (.cells #[.int .i64 0, .int .i64 0, .int .i64 0, .string ByteArray.empty, .slice none 0 0, .int .i64 0, .int .i64 0, .int .i64 0] 37))).is); have HNO := Lib.hid (hno); have HWN := Lib.hid (wakenone_any _ HI3.out HNO.out); unfold ptrOf at HWN; clear K hh5 hh6)
    | (go_at_call 50; refine (wakes_any 8 true _ rfl).mono ?_; rintro e w' ⟨rfl, rfl⟩)
    | (go_at_call 51; refine HWN.out.mono ?_; rintro e w5 ⟨rfl, hB⟩; have ht8 := (hB.block w3.heap.size (by simp)).trans (show (w3.alloc (.cells #[.int .i64 0, .int .i64 0, .int .i64 0, .string ByteArray.empty, .slice none 0 0, .int .i64 0, .int .i64 0, .int .i64 0] 37)).heap[w3.heap.size]? = some (.cells #[.int .i64 0, .int .i64 0, .int .i64 0, .string ByteArray.empty, .slice none 0 0, .int .i64 0, .int .i64 0, .int .i64 0] 37) from Array.getElem?_push_size); obtain ⟨t0, t1, t2, t3, t4, t5, t6, t7, tf⟩ := cells8 ht8; have h65 := (hB.block (w.heap.size + 1) (by simp; omega)).trans ((Below.heap_alloc w3 (.cells #[.int .i64 0, .int .i64 0, .int .i64 0, .string ByteArray.empty, .slice none 0 0, .int .i64 0, .int .i64 0, .int .i64 0] 37) _ hl3).trans HR6.out); obtain ⟨u0, u1, u2, u3, u4, u5, u6, u7, uf⟩ := cells8 h65; have HB := Lib.hid hB; have H65 := Lib.hid h65; clear hB ht8 h65)
  obtain ⟨w9, hw9, hA6, hc9⟩ := eight_set H65.out (.int .i64 0) (.int .i64 0) (.int .i64 0) (.string ByteArray.empty) (.slice none 0 0) (.int .i64 0) (.int .i64 0) (.int .i64 0)
  rw [hw9]
  have hl9 : w.heap.size + 1 < w9.heap.size := (Array.getElem?_eq_some_iff.1 hc9).1
  obtain ⟨x0, x1, x2, x3, x4, x5, x6, x7, _⟩ := cells8 hc9
  have KF := (((HK.out.below ((Below.refl _ w3).alloc (Nat.le_refl _) (.cells #[.int .i64 0, .int .i64 0, .int .i64 0, .string ByteArray.empty, .slice none 0 0, .int .i64 0, .int .i64 0, .int .i64 0] 37))).below HB.out).aside hA6 (by omega) HM6.out)
  refine bodyPost_ret (v := .agg #[.int .i64 0, .int .i64 0, .int .i64 0, .string ByteArray.empty, .slice none 0 0, .int .i64 0, .int .i64 0, .int .i64 0]) ?_ rfl ⟨rfl, KF⟩
  clear KF hw9 hA6 hc9
  simp [results, Tryz.results25, go_sem, x0, x1, x2, x3, x4, x5, x6, x7, hl9]
  try rfl
set_option maxHeartbeats 1000000 in
set_option maxRecDepth 100000 in
theorem do_wait_reap {s l} (p z : Int) (w : World) (h : KsIs s l w) (hm : MayWait (s.awoke p true) p z) (hz : z ≠ 0) (hs : (s.t.pr p).state ≠ 3) :
    Calls Tryz.prog 25 #[ptrOf (l.k .K), .int .i64 p, .agg (clV 9 0 [])] w fun e w' => e = .returned (.agg (rpV 0 z ((s.awoke p true).t.pr z).status)) ∧ KStep s l w { s.awoke p true with t := (s.awoke p true).t.delP z } l w' := by
  have H := Lib.hid h
  have hpk : p ∈ s.k.m.keys := hm.pk
  have hpt : p ∈ s.t.m.keys := hm.pt
  have hps : (s.t.pr p).state ≠ 3 := hs
  unfold ptrOf clV rpV at *
  clear h
  go_enter Tryz.func25, Tryz.ntmps25
  go_upto_region 1 with fail
  obtain ⟨w1, hw1, K0, hb5, hb6, hz1⟩ := two_new H.out (.cells #[.int .i64 9, .int .i64 0, .int .i64 0, .string ByteArray.empty, .string ⟨#[]⟩] 31) (.cells #[.int .i64 0, .int .i64 0, .int .i64 0, .string ⟨#[]⟩, .slice none 0 0, .int .i64 0, .int .i64 0, .int .i64 0] 37)
  rw [hw1]
  clear hw1
  have n5 := H.out.fresh (Nat.le_refl w.heap.size)
  have n6 := H.out.fresh (Nat.le_succ w.heap.size)
  have k3 := K0.is.k3
  have k2 := K0.is.k2
  have hlook := kx_look K0.is.kx hpk
  have HW := Lib.hid (wake_in p w1 K0.is.tab hpt hps)
  have HK0 := Lib.hid K0
  have HB5 := Lib.hid hb5
  have HB6 := Lib.hid hb6
  unfold ptrOf at *
  clear K0 hb5 hb6
  go_upto_region 7 with (go_at_call 47; refine HW.out.mono ?_; rintro e wa ⟨rfl, ht⟩)
  have KT := KStep.tab HK0.out.is ht
  have hb5 := KT.heap HB5.out n5
  have hb6 := KT.heap HB6.out n6
  have c5 := (cells5 hb5).1
  have r2 := KT.is.r2 (i := p) hpk
  have rf := kx_rf KT.is.kx (i := p) hpk 2
  have hrl := H.out.rl hpk
  have hne : l.k (.R p) ≠ w.heap.size := by omega
  have KA := KT.setW hpk true
  have hd5 := (Aside.refl (l.k (.R p)) wa).set 2 (.bool true)
  have g5 := (hd5.block w.heap.size (by omega)).trans hb5
  have g6 := (hd5.block (w.heap.size + 1) (by omega)).trans hb6
  have hm5 := KA.fresh n5 (by omega)
  have hm6 := KA.fresh n6 (by omega)
  have HK2 := Lib.hid (HK0.out.trans KA)
  have HG5 := Lib.hid g5
  have HG6 := Lib.hid g6
  have HMM := Lib.hid (And.intro hm5 hm6)
  clear KT hb5 hb6 KA hd5 g5 g6 ht k3 k2 hlook HB5 HB6 hm5 hm6 hz1 n5 n6 HW HK0
  go_upto_region 8 with fail
  generalize wa.setCell ⟨l.k (.R p), 2, none⟩ (.bool true) = w2 at *
  clear r2 rf c5
  obtain ⟨m5, m6⟩ := HMM.out
  obtain ⟨p0, p1, p2, p3, p4, pf⟩ := cells5 HG5.out
  have HC := Lib.hid (call_wait_reap (s := s.awoke p true) p z w2 HK2.out.is hm hz)
  unfold ptrOf clV rpV at HC
  clear HMM hrl hne
  go_wp2_with first
    | (go_at_call 48; refine HC.out.mono ?_; rintro e w3 ⟨rfl, hq⟩; have K := hq; have hh5 := K.heap HG5.out m5; have hh6 := K.heap HG6.out m6; obtain ⟨y0, y1, y2, y3, y4, yf⟩ := cells5 hh5; obtain ⟨z0, z1, z2, z3, z4, z5, z6, z7, zf⟩ := cells8 hh6; have hl3 : w.heap.size + 1 < w3.heap.size := (Array.getElem?_eq_some_iff.1 hh6).1; have hl2 : w.heap.size < w3.heap.size := (Nat.lt_of_succ_lt hl3); have HM6 := Lib.hid (K.fresh m6 (Array.getElem?_eq_some_iff.1 HG6.out).1); have HR6 := Lib.hid hh6; have HK := Lib.hid (HK2.out.trans K); clear K hh5 hh6)
    | (go_at_call 50; refine (wakes_any 9 false _ rfl).mono ?_; rintro e w' ⟨rfl, rfl⟩)
  obtain ⟨w9, hw9, hA6, hc9⟩ := eight_set HR6.out (.int .i64 0) (.int .i64 z) (.int .i64 ((s.awoke p true).t.pr z).status) (.string ByteArray.empty) (.slice none 0 0) (.int .i64 0) (.int .i64 0) (.int .i64 0)
  rw [hw9]
  have hl9 : w.heap.size + 1 < w9.heap.size := (Array.getElem?_eq_some_iff.1 hc9).1
  obtain ⟨x0, x1, x2, x3, x4, x5, x6, x7, _⟩ := cells8 hc9
  have KF := ((HK.out.aside hA6 (by omega) HM6.out).below ((Below.refl _ w9).alloc (Nat.le_refl _) (.cells #[.int .i64 0, .int .i64 z, .int .i64 ((s.awoke p true).t.pr z).status, .string ByteArray.empty, .slice none 0 0, .int .i64 0, .int .i64 0, .int .i64 0] 37)))
  refine bodyPost_ret (v := .agg #[.int .i64 0, .int .i64 z, .int .i64 ((s.awoke p true).t.pr z).status, .string ByteArray.empty, .slice none 0 0, .int .i64 0, .int .i64 0, .int .i64 0]) ?_ rfl ⟨rfl, KF⟩
  clear KF hw9 hA6 hc9
  simp [results, Tryz.results25, go_sem, x0, x1, x2, x3, x4, x5, x6, x7, hl9]
  try rfl
set_option maxHeartbeats 1000000 in
set_option maxRecDepth 100000 in
theorem do_wait_none {s l} (p : Int) (w : World) (h : KsIs s l w) (hm : MayWait (s.awoke p true) p 0) (hs : (s.t.pr p).state ≠ 3) :
    Calls Tryz.prog 25 #[ptrOf (l.k .K), .int .i64 p, .agg (clV 9 0 [])] w fun e w' => e = .returned (.agg (rpV 30 0 0)) ∧ KStep s l w { s.awoke p true with t := (s.awoke p true).t.turnS p 2 } l w' := by
  have H := Lib.hid h
  have hpk : p ∈ s.k.m.keys := hm.pk
  have hpt : p ∈ s.t.m.keys := hm.pt
  have hps : (s.t.pr p).state ≠ 3 := hs
  have HI3O := Lib.hid (fun (w3 : World) (K : KStep s l w (s.awoke p true) l w3) => K.is.fresh (Nat.le_refl w3.heap.size))
  unfold ptrOf clV rpV at *
  clear h
  go_enter Tryz.func25, Tryz.ntmps25
  go_upto_region 1 with fail
  obtain ⟨w1, hw1, K0, hb5, hb6, hz1⟩ := two_new H.out (.cells #[.int .i64 9, .int .i64 0, .int .i64 0, .string ByteArray.empty, .string ⟨#[]⟩] 31) (.cells #[.int .i64 0, .int .i64 0, .int .i64 0, .string ⟨#[]⟩, .slice none 0 0, .int .i64 0, .int .i64 0, .int .i64 0] 37)
  rw [hw1]
  clear hw1
  have n5 := H.out.fresh (Nat.le_refl w.heap.size)
  have n6 := H.out.fresh (Nat.le_succ w.heap.size)
  have k3 := K0.is.k3
  have k2 := K0.is.k2
  have hlook := kx_look K0.is.kx hpk
  have HW := Lib.hid (wake_in p w1 K0.is.tab hpt hps)
  have HK0 := Lib.hid K0
  have HB5 := Lib.hid hb5
  have HB6 := Lib.hid hb6
  unfold ptrOf at *
  clear K0 hb5 hb6
  go_upto_region 7 with (go_at_call 47; refine HW.out.mono ?_; rintro e wa ⟨rfl, ht⟩)
  have KT := KStep.tab HK0.out.is ht
  have hb5 := KT.heap HB5.out n5
  have hb6 := KT.heap HB6.out n6
  have c5 := (cells5 hb5).1
  have r2 := KT.is.r2 (i := p) hpk
  have rf := kx_rf KT.is.kx (i := p) hpk 2
  have hrl := H.out.rl hpk
  have hne : l.k (.R p) ≠ w.heap.size := by omega
  have KA := KT.setW hpk true
  have hd5 := (Aside.refl (l.k (.R p)) wa).set 2 (.bool true)
  have g5 := (hd5.block w.heap.size (by omega)).trans hb5
  have g6 := (hd5.block (w.heap.size + 1) (by omega)).trans hb6
  have hm5 := KA.fresh n5 (by omega)
  have hm6 := KA.fresh n6 (by omega)
  have HK2 := Lib.hid (HK0.out.trans KA)
  have HG5 := Lib.hid g5
  have HG6 := Lib.hid g6
  have HMM := Lib.hid (And.intro hm5 hm6)
  clear KT hb5 hb6 KA hd5 g5 g6 ht k3 k2 hlook HB5 HB6 hm5 hm6 hz1 n5 n6 HW HK0
  go_upto_region 8 with fail
  generalize wa.setCell ⟨l.k (.R p), 2, none⟩ (.bool true) = w2 at *
  clear r2 rf c5
  obtain ⟨m5, m6⟩ := HMM.out
  obtain ⟨p0, p1, p2, p3, p4, pf⟩ := cells5 HG5.out
  have HC := Lib.hid (call_wait_none (s := s.awoke p true) p w2 HK2.out.is hm)
  unfold ptrOf clV rpV at HC
  clear HMM hrl hne
  go_wp2_with first
    | (go_at_call 48; refine HC.out.mono ?_; rintro e w3 ⟨rfl, hq⟩; have K := hq; have hh5 := K.heap HG5.out m5; have hh6 := K.heap HG6.out m6; obtain ⟨y0, y1, y2, y3, y4, yf⟩ := cells5 hh5; obtain ⟨z0, z1, z2, z3, z4, z5, z6, z7, zf⟩ := cells8 hh6; have hl3 : w.heap.size + 1 < w3.heap.size := (Array.getElem?_eq_some_iff.1 hh6).1; have hl2 : w.heap.size < w3.heap.size := (Nat.lt_of_succ_lt hl3); have HM6 := Lib.hid (K.fresh m6 (Array.getElem?_eq_some_iff.1 HG6.out).1); have HR6 := Lib.hid hh6; have HK := Lib.hid (HK2.out.trans K); have HI3 := Lib.hid ((HK.out.below ((Below.refl _ w3).alloc (Nat.le_refl _) (.cells #[.int .i64 30, .int .i64 0, .int .i64 0, .string ByteArray.empty, .slice none 0 0, .int .i64 0, .int .i64 0, .int .i64 0] 37))).is); have k2 := K.is.k2; unfold ptrOf at k2; have HBL := Lib.hid (block_in p _ HI3.out.tab hm.pt hm.ps); unfold ptrOf at HBL; have hkl3 : l.k .K < w3.heap.size := K.is.kl; clear K hh5 hh6)
    | (go_at_call 50; refine (wakes_any 9 false _ rfl).mono ?_; rintro e w' ⟨rfl, rfl⟩)
    | (go_at_call 49; refine HBL.out.mono ?_; rintro e w5 ⟨rfl, ht⟩; have KB := KStep.tab HI3.out ht; have nf8 : ¬ Owns _ _ w3.heap.size := HI3O.out w3 HK.out; have ht8 := KB.heap (show (w3.alloc (.cells #[.int .i64 30, .int .i64 0, .int .i64 0, .string ByteArray.empty, .slice none 0 0, .int .i64 0, .int .i64 0, .int .i64 0] 37)).heap[w3.heap.size]? = some (.cells #[.int .i64 30, .int .i64 0, .int .i64 0, .string ByteArray.empty, .slice none 0 0, .int .i64 0, .int .i64 0, .int .i64 0] 37) from Array.getElem?_push_size) nf8; obtain ⟨t0, t1, t2, t3, t4, t5, t6, t7, tf⟩ := cells8 ht8; have h65 := KB.heap ((Below.heap_alloc w3 (.cells #[.int .i64 30, .int .i64 0, .int .i64 0, .string ByteArray.empty, .slice none 0 0, .int .i64 0, .int .i64 0, .int .i64 0] 37) _ hl3).trans HR6.out) HM6.out; obtain ⟨u0, u1, u2, u3, u4, u5, u6, u7, uf⟩ := cells8 h65; have HB := Lib.hid KB; have HM65 := Lib.hid (KB.fresh HM6.out (by simp; omega)); have H65 := Lib.hid h65; clear KB ht8 h65 ht)
  obtain ⟨w9, hw9, hA6, hc9⟩ := eight_set H65.out (.int .i64 30) (.int .i64 0) (.int .i64 0) (.string ⟨#[]⟩) (.slice none 0 0) (.int .i64 0) (.int .i64 0) (.int .i64 0)
  rw [hw9]
  have hl9 : w.heap.size + 1 < w9.heap.size := (Array.getElem?_eq_some_iff.1 hc9).1
  obtain ⟨x0, x1, x2, x3, x4, x5, x6, x7, _⟩ := cells8 hc9
  have KF := (((HK.out.below ((Below.refl _ w3).alloc (Nat.le_refl _) (.cells #[.int .i64 30, .int .i64 0, .int .i64 0, .string ByteArray.empty, .slice none 0 0, .int .i64 0, .int .i64 0, .int .i64 0] 37))).trans HB.out).aside hA6 (by omega) HM65.out)
  refine bodyPost_ret (v := .agg #[.int .i64 30, .int .i64 0, .int .i64 0, .string ByteArray.empty, .slice none 0 0, .int .i64 0, .int .i64 0, .int .i64 0]) ?_ rfl ⟨rfl, KF⟩
  clear KF hw9 hA6 hc9
  simp [results, Tryz.results25, go_sem, x0, x1, x2, x3, x4, x5, x6, x7, hl9]
  try rfl
end Go.Proofs.YtelohloaoocoaaaGreatDoor
/- world.World and its families: their objects. -/
namespace Go.Proofs.YtelohloaoocoaaaGreatDoor
open Go.RowKit IntWalk
set_option linter.unusedVariables false
set_option linter.unusedSimpArgs false
set_option linter.unnecessarySimpa false

/-- a family's program: its texts, the row of its own that holds them (none: the first one's), its numbers -/
structure Fp where
  tl : List (List UInt8)
  own : Option (Nat × Array Value)
  pieces : Int
  at_ : Int
  child : Bool
  sum : Int
  step : Int
/-- a process of the world: its program, what it was answered, what it asked, whether it stands in that -/
structure Qs where
  fp : Fp
  re : Int
  rn : Int
  rm : Int
  ck : Int
  cf : Int
  cd : List UInt8
  st : Bool
def Qs.withFp (q : Qs) (p : Fp) : Qs := { q with fp := p }
inductive WId where
  | W | M | X
  | Q (i : Int)
  | F (i : Int)
  | A (i : Int)
  deriving DecidableEq
/-- a world: its kernel, its processes, the first row of texts -/
structure Wx where
  kb : Nat
  m : PMap
  qs : Int → Qs
  ol : List (List UInt8)
  xc : Option (Nat × Array Value)
def strV (d : List UInt8) : Value := .string ⟨d.toArray⟩
def rowV (b : Nat) (n : Nat) : Option (Nat × Array Value) → Value
  | none => .slice none 0 0
  | some (cap, _) => .slice (some ⟨b, 0, none⟩) n cap
def Wx.ov (s : Wx) (lay : WId → Nat) : Value := rowV (lay .X) s.ol.length s.xc
def Wx.tv (s : Wx) (lay : WId → Nat) (i : Int) : Value := match (s.qs i).fp.own with
  | none => s.ov lay
  | some (cap, _) => .slice (some ⟨lay (.A i), 0, none⟩) s.ol.length cap
def fpV (tv : Value) (p : Fp) : Array Value := #[tv, .int .i64 p.pieces, .int .i64 p.at_, .bool p.child, .int .i64 p.sum, .int .i64 p.step]
def qsV (f : Nat) (q : Qs) : Array Value := #[.iface 64 (ptrOf f), .int .i64 q.re, .int .i64 q.rn, .int .i64 q.rm, .string ByteArray.empty, .slice none 0 0, .int .i64 0, .int .i64 0, .int .i64 0,
  .int .i64 q.ck, .int .i64 q.cf, .int .i64 0, .string ByteArray.empty, strV q.cd, .bool q.st]
def Wx.obj (s : Wx) (lay : WId → Nat) : WId → Option Obj
  | .W => some (.cells #[ptrOf s.kb, .map (some (lay .M))] 74 (0, 0))
  | .M => some (s.m.gm fun i => lay (.Q i)).obj
  | .X => match s.xc with
    | none => none
    | some (_, cs) => some (.cells cs 9 (0, 0))
  | .Q i => if i ∈ s.m.keys then some (.cells (qsV (lay (.F i)) (s.qs i)) 82 (0, 0)) else none
  | .F i => if i ∈ s.m.keys then some (.cells (fpV (s.tv lay i) (s.qs i).fp) 66 (0, 0)) else none
  | .A i => if i ∈ s.m.keys then (match (s.qs i).fp.own with
    | none => none
    | some (_, cs) => some (.cells cs 9 (0, 0))) else none
def RowOk (l : List (List UInt8)) : Option (Nat × Array Value) → Prop
  | none => l = []
  | some (cap, cs) => l.length ≤ cap ∧ cap ≤ maxLen ∧ cs.size = cap ∧ cs.toList.take l.length = l.map strV
structure Wx.Ok (s : Wx) : Prop where
  m : s.m.Ok
  x : RowOk s.ol s.xc
  a : ∀ i ∈ s.m.keys, (s.qs i).fp.tl.length = s.ol.length ∧ ((s.qs i).fp.own = none → (s.qs i).fp.tl = s.ol) ∧ ((s.qs i).fp.own ≠ none → RowOk (s.qs i).fp.tl (s.qs i).fp.own)
section
variable {s : Wx} {lay : WId → Nat} {w : World}
theorem wx_w0 (h : Lies (s.obj lay) lay w) : w.cell? ⟨lay .W, 0, none⟩ = some (ptrOf s.kb) := h.cell (i := .W) rfl rfl
theorem wx_w1 (h : Lies (s.obj lay) lay w) : w.cell? ⟨lay .W, 1, none⟩ = some (.map (some (lay .M))) := h.cell (i := .W) rfl rfl
theorem wx_m (h : Lies (s.obj lay) lay w) : w.heap[lay .M]? = some (s.m.gm fun i => lay (.Q i)).obj := h.at_ .M _ rfl
theorem Wx.obj_q {i : Int} (hi : i ∈ s.m.keys) : s.obj lay (.Q i) = some (.cells (qsV (lay (.F i)) (s.qs i)) 82 (0, 0)) := by simp [Wx.obj, hi]
theorem Wx.obj_f {i : Int} (hi : i ∈ s.m.keys) : s.obj lay (.F i) = some (.cells (fpV (s.tv lay i) (s.qs i).fp) 66 (0, 0)) := by simp [Wx.obj, hi]
theorem wx_q (h : Lies (s.obj lay) lay w) {i : Int} (hi : i ∈ s.m.keys) {k : Nat} {v : Value} (hk : (qsV (lay (.F i)) (s.qs i))[k]? = some v) : w.cell? ⟨lay (.Q i), k, none⟩ = some v := h.cell (Wx.obj_q hi) hk
theorem wx_qf (h : Lies (s.obj lay) lay w) {i : Int} (hi : i ∈ s.m.keys) (k : Nat) : w.frozen? ⟨lay (.Q i), k, none⟩ = false := h.fz (Wx.obj_q hi) k
theorem wx_f (h : Lies (s.obj lay) lay w) {i : Int} (hi : i ∈ s.m.keys) {k : Nat} {v : Value} (hk : (fpV (s.tv lay i) (s.qs i).fp)[k]? = some v) : w.cell? ⟨lay (.F i), k, none⟩ = some v := h.cell (Wx.obj_f hi) hk
theorem wx_ff (h : Lies (s.obj lay) lay w) {i : Int} (hi : i ∈ s.m.keys) (k : Nat) : w.frozen? ⟨lay (.F i), k, none⟩ = false := h.fz (Wx.obj_f hi) k
theorem wx_fl (h : Lies (s.obj lay) lay w) {i : Int} (hi : i ∈ s.m.keys) : lay (.F i) < w.heap.size := h.owns_lt ⟨.F i, by rw [Wx.obj_f hi]; simp, rfl⟩
theorem wx_ql (h : Lies (s.obj lay) lay w) {i : Int} (hi : i ∈ s.m.keys) : lay (.Q i) < w.heap.size := h.owns_lt ⟨.Q i, by rw [Wx.obj_q hi]; simp, rfl⟩
theorem zero_wp (w : World) : (zeroValue 80).run Tryz.prog w = .ok (.pointer none) w := by kernel_rfl
theorem wx_look (h : Lies (s.obj lay) lay w) (i : Int) : (Instr.lookup 72 (.map (some (lay .M))) (.int .i64 i) false).run Tryz.prog w = .ok (if i ∈ s.m.keys then .pointer (some ⟨lay (.Q i), 0, none⟩) else .pointer none) w := by
  have := (GMap.look (P := Tryz.prog) (k := .int i) Tryz.underlying72 Tryz.underlying3 (PMap.of_gm s.m _) (wx_m h) (zero_wp w)).1
  simp only [Key.val] at this
  rw [this, PMap.get_gm]
  split <;> rfl
theorem wx_look_in (h : Lies (s.obj lay) lay w) {i : Int} (hi : i ∈ s.m.keys) : (Instr.lookup 72 (.map (some (lay .M))) (.int .i64 i) false).run Tryz.prog w = .ok (.pointer (some ⟨lay (.Q i), 0, none⟩)) w := by
  rw [wx_look h, if_pos hi]
/-- a process turned -/
def Wx.setQ (s : Wx) (i : Int) (q : Qs) : Wx := { s with qs := fun j => if j = i then q else s.qs j }
theorem wx_tv_other (s : Wx) (lay : WId → Nat) (i j : Int) (q : Qs) (h : j ≠ i) : (s.setQ i q).tv lay j = s.tv lay j := by
  unfold Wx.tv
  simp only [Wx.setQ, if_neg h]
  rfl
theorem wx_tv_same (s : Wx) (lay : WId → Nat) (i : Int) (q : Qs) (h : q.fp.own = (s.qs i).fp.own) : (s.setQ i q).tv lay i = s.tv lay i := by
  unfold Wx.tv
  simp only [Wx.setQ, if_pos, h]
  rfl
section
variable {I : Type} {c0 : I → Option Obj} {lay0 : I → Nat} {w0 : World}
/-- a cell of a family's -/
theorem wx_setF (h : GStep c0 lay0 w0 (s.obj lay) lay w) {i : Int} (hi : i ∈ s.m.keys) (k : Nat) (v : Value) (p : Fp) (ho : p.own = (s.qs i).fp.own) (hp : fpV (s.tv lay i) p = (fpV (s.tv lay i) (s.qs i).fp).setIfInBounds k v) :
    GStep c0 lay0 w0 ((s.setQ i ((s.qs i).withFp p)).obj lay) lay (w.setCell ⟨lay (.F i), k, none⟩ v) :=
  h.set (Wx.obj_f hi) k v (fun j => by
    cases j with
    | Q a => by_cases e : a = i
             · subst e; simp [Wx.obj, Wx.setQ, hi, qsV, Qs.withFp]
             · simp [Wx.obj, Wx.setQ, e]
    | F a => by_cases e : a = i
             · subst e
               have := wx_tv_same s lay a ((s.qs a).withFp p) ho
               simp only [Wx.obj, if_pos rfl]
               rw [if_pos (show a ∈ (s.setQ a ((s.qs a).withFp p)).m.keys from hi), this, ← hp]
               simp [Wx.setQ, Qs.withFp]
             · have := wx_tv_other s lay i a ((s.qs i).withFp p) e
               simp only [Wx.obj, WId.F.injEq, if_neg e]
               rw [this]
               simp [Wx.setQ, e]
    | A a => by_cases e : a = i
             · subst e; simp [Wx.obj, Wx.setQ, hi, ho, Qs.withFp]
             · simp [Wx.obj, Wx.setQ, e]
    | _ => simp [Wx.obj, Wx.setQ])
/-- a cell of a process's -/
theorem wx_setQ (h : GStep c0 lay0 w0 (s.obj lay) lay w) {i : Int} (hi : i ∈ s.m.keys) (k : Nat) (v : Value) (q : Qs) (ho : q.fp = (s.qs i).fp) (hp : qsV (lay (.F i)) q = (qsV (lay (.F i)) (s.qs i)).setIfInBounds k v) :
    GStep c0 lay0 w0 ((s.setQ i q).obj lay) lay (w.setCell ⟨lay (.Q i), k, none⟩ v) :=
  h.set (Wx.obj_q hi) k v (fun j => by
    cases j with
    | Q a => by_cases e : a = i
             · subst e; simp only [Wx.obj, if_pos rfl]; rw [if_pos (show a ∈ (s.setQ a q).m.keys from hi), ← hp]; simp [Wx.setQ]
             · simp [Wx.obj, Wx.setQ, e]
    | F a => by_cases e : a = i
             · subst e
               have := wx_tv_same s lay a q (by rw [ho])
               simp only [Wx.obj, reduceCtorEq, if_false]
               rw [if_pos (show a ∈ (s.setQ a q).m.keys from hi), if_pos hi, this]
               simp [Wx.setQ, ho]
             · have := wx_tv_other s lay i a q e
               simp only [Wx.obj, reduceCtorEq, if_false]
               rw [this]
               simp [Wx.setQ, e]
    | A a => by_cases e : a = i
             · subst e; simp [Wx.obj, Wx.setQ, hi, ho]
             · simp [Wx.obj, Wx.setQ, e]
    | _ => simp [Wx.obj, Wx.setQ])
end
end
end Go.Proofs.YtelohloaoocoaaaGreatDoor
/- family.Next: a child's first step. -/
namespace Go.Proofs.YtelohloaoocoaaaGreatDoor
open Go.RowKit IntWalk
set_option linter.unusedVariables false
set_option linter.unusedSimpArgs false
set_option linter.unnecessarySimpa false

theorem two_newG (w : World) (o1 o2 : Obj) : ∃ w1, (w.alloc o1).alloc o2 = w1 ∧ Below w.heap.size w w1 ∧ w1.heap[w.heap.size]? = some o1 ∧ w1.heap[w.heap.size + 1]? = some o2 ∧ w1.heap.size = w.heap.size + 2 := by
  refine ⟨_, rfl, (((Below.refl _ _).alloc (Nat.le_refl _) _).alloc (by simp) _), ?_, ?_, by simp⟩
  · rw [Below.heap_alloc _ _ _ (by simp)]; exact Array.getElem?_push_size
  · have : w.heap.size + 1 = (w.alloc o1).heap.size := by simp
    rw [this]; exact Array.getElem?_push_size
section
variable {I I' : Type} {c : I → Option Obj} {lay : I → Nat} {w w' w'' : World} {c' : I' → Option Obj} {lay' : I' → Nat}
theorem GStep.aside (K : GStep c lay w c' lay' w') {b : Nat} (h : Aside b w' w'') (hn : w.heap.size ≤ b) (ho : ¬ Owns c' lay' b) : GStep c lay w c' lay' w'' :=
  ⟨K.lies.kept fun i hi => h.block _ (fun e => ho ⟨i, hi, e⟩), ⟨h.os.trans K.turned.os, h.tape.trans K.turned.tape, h.output.trans K.turned.output, by rw [h.size]; exact K.turned.size, fun j hj hs => (h.block j (by omega)).trans (K.turned.block j hj hs)⟩, K.own⟩
theorem GStep.fresh (K : GStep c lay w c' lay' w') {b : Nat} (h : ¬ Owns c lay b) (hb : b < w.heap.size) : ¬ Owns c' lay' b := fun ho => by
  rcases K.own b ho with q | q
  · exact h q
  · omega
theorem GStep.heap (K : GStep c lay w c' lay' w') {b : Nat} {o : Obj} (h : w.heap[b]? = some o) (hn : ¬ Owns c lay b) : w'.heap[b]? = some o := by
  rw [K.turned.block b (Array.getElem?_eq_some_iff.1 h).1 hn]; exact h
theorem Lies.fresh (h : Lies c lay w) {b : Nat} (hb : w.heap.size ≤ b) : ¬ Owns c lay b := fun ho => by have := h.owns_lt ho; omega
theorem Lies.below (h : Lies c lay w) (hb : Below w.heap.size w w') : Lies c lay w' := ((GStep.refl h).below hb).lies
end
/-- five cells are stored -/
theorem five_set {w : World} {b : Nat} {v0 v1 v2 v3 v4 : Value} {ty : TypeId} (h : w.heap[b]? = some (.cells #[v0, v1, v2, v3, v4] ty (0, 0))) (u0 u1 u2 u3 u4 : Value) :
    ∃ w', (((((w.setCell ⟨b, 0, none⟩ u0).setCell ⟨b, 1, none⟩ u1).setCell ⟨b, 2, none⟩ u2).setCell ⟨b, 3, none⟩ u3).setCell ⟨b, 4, none⟩ u4) = w' ∧ Aside b w w' ∧ w'.heap[b]? = some (.cells #[u0, u1, u2, u3, u4] ty (0, 0)) :=
  ⟨_, rfl, (((((Aside.refl b w).set 0 _).set 1 _).set 2 _).set 3 _).set 4 _, by
    have h0 := set_row (k := 0) (v := u0) h
    simp only [List.setIfInBounds_toArray, List.set_cons_zero, List.set_cons_succ] at h0
    have h1 := set_row (k := 1) (v := u1) h0
    simp only [List.setIfInBounds_toArray, List.set_cons_zero, List.set_cons_succ] at h1
    have h2 := set_row (k := 2) (v := u2) h1
    simp only [List.setIfInBounds_toArray, List.set_cons_zero, List.set_cons_succ] at h2
    have h3 := set_row (k := 3) (v := u3) h2
    simp only [List.setIfInBounds_toArray, List.set_cons_zero, List.set_cons_succ] at h3
    have h4 := set_row (k := 4) (v := u4) h3
    simp only [List.setIfInBounds_toArray, List.set_cons_zero, List.set_cons_succ] at h4
    exact h4⟩
/-- where a family's texts lie -/
theorem wx_row {s : Wx} {lay : WId → Nat} {w : World} (h : Lies (s.obj lay) lay w) (hok : s.Ok) {i : Int} (hi : i ∈ s.m.keys) (hn : 0 < s.ol.length) :
    ∃ b cap, s.tv lay i = .slice (some ⟨b, 0, none⟩) s.ol.length cap ∧ s.ol.length ≤ cap ∧ b < w.heap.size ∧ (∀ (k : Nat) (x : List UInt8), (s.qs i).fp.tl[k]? = some x → w.cell? ⟨b, k, none⟩ = some (strV x)) ∧ b ≠ lay (.F i) ∧ b ≠ lay (.Q i) := by
  have hcell : ∀ (cs : Array Value) (tl : List (List UInt8)) (b : Nat), cs.toList.take tl.length = tl.map strV → w.heap[b]? = some (.cells cs 9 (0, 0)) → ∀ (k : Nat) (x : List UInt8), tl[k]? = some x → w.cell? ⟨b, k, none⟩ = some (strV x) := by
    intro cs tl b ht hb k x hx
    have hk : k < tl.length := (List.getElem?_eq_some_iff.1 hx).1
    have : (cs.toList.take tl.length)[k]? = some (strV x) := by rw [ht, List.getElem?_map, hx]; rfl
    rw [List.getElem?_take_of_lt hk, Array.getElem?_toList] at this
    simp [World.cell?, hb, this]
  obtain ⟨a1, a2, a3⟩ := hok.a i hi
  cases ho : (s.qs i).fp.own with
  | none =>
    have htv : s.tv lay i = s.ov lay := by unfold Wx.tv; rw [ho]
    cases hx : s.xc with
    | none =>
      have := hok.x
      rw [hx] at this
      have : s.ol = [] := this
      rw [this] at hn; simp at hn
    | some p =>
      obtain ⟨cap, cs⟩ := p
      have hx2 := hok.x
      rw [hx] at hx2
      obtain ⟨x1, x2, x3, x4⟩ := hx2
      have hX : w.heap[lay .X]? = some (.cells cs 9 (0, 0)) := h.at_ .X _ (by simp [Wx.obj, hx])
      refine ⟨lay .X, cap, by rw [htv]; unfold Wx.ov rowV; rw [hx], x1, (Array.getElem?_eq_some_iff.1 hX).1, ?_, fun e => ?_, fun e => ?_⟩
      · rw [a2 ho]; exact hcell cs s.ol _ x4 hX
      · have := h.inj .X (.F i) (by simp [Wx.obj, hx]) (by rw [Wx.obj_f hi]; simp) e; cases this
      · have := h.inj .X (.Q i) (by simp [Wx.obj, hx]) (by rw [Wx.obj_q hi]; simp) e; cases this
  | some p =>
    obtain ⟨cap, cs⟩ := p
    have hx2 := a3 (by rw [ho]; simp)
    rw [ho] at hx2
    obtain ⟨x1, x2, x3, x4⟩ := hx2
    have hob : s.obj lay (.A i) = some (.cells cs 9 (0, 0)) := by simp [Wx.obj, hi, ho]
    have hX : w.heap[lay (.A i)]? = some (.cells cs 9 (0, 0)) := h.at_ (.A i) _ hob
    refine ⟨lay (.A i), cap, by unfold Wx.tv; rw [ho], by rw [← a1]; exact x1, (Array.getElem?_eq_some_iff.1 hX).1, hcell cs _ _ x4 hX, fun e => ?_, fun e => ?_⟩
    · have := h.inj (.A i) (.F i) (by rw [hob]; simp) (by rw [Wx.obj_f hi]; simp) e; cases this
    · have := h.inj (.A i) (.Q i) (by rw [hob]; simp) (by rw [Wx.obj_q hi]; simp) e; cases this
/-- what a child asks -/
def askK (t : List UInt8) : Int := if t = [] then 8 else 2
def askF (at_ : Int) (t : List UInt8) : Int := if t = [] then at_ + 1 else 1
def askD (pieces : Int) (t : List UInt8) : List UInt8 := if t = [] then [] else t.take pieces.toNat
/-- what a step of a family's leaves -/
structure WStep (s : Wx) (lay : WId → Nat) (w : World) (s' : Wx) (lay' : WId → Nat) (w' : World) : Prop where
  g : GStep (s.obj lay) lay w (s'.obj lay') lay' w'
  ok : s'.Ok
  top : lay' .W = lay .W
structure WxIs (s : Wx) (lay : WId → Nat) (w : World) : Prop where
  lies : Lies (s.obj lay) lay w
  ok : s.Ok
theorem WStep.is {s lay w s' lay' w'} (h : WStep s lay w s' lay' w') : WxIs s' lay' w' := ⟨h.g.lies, h.ok⟩
theorem WxIs.below {s lay w w'} (h : WxIs s lay w) (hb : Below w.heap.size w w') : WxIs s lay w' := ⟨h.lies.below hb, h.ok⟩
theorem Wx.Ok.setQ {s : Wx} (h : s.Ok) {i : Int} (q : Qs) (h1 : q.fp.tl = (s.qs i).fp.tl) (h2 : q.fp.own = (s.qs i).fp.own) : (s.setQ i q).Ok := by
  refine ⟨h.m, h.x, fun j hj => ?_⟩
  by_cases e : j = i
  · subst e
    simp only [Wx.setQ, if_pos]
    rw [h1, h2]; exact h.a j hj
  · simp only [Wx.setQ, if_neg e]; exact h.a j hj
set_option maxHeartbeats 1000000 in
set_option maxRecDepth 100000 in
theorem next_child1 {s lay} (i re rn rm : Int) (k : Nat) (t : List UInt8) (w : World) (h : WxIs s lay w) (hi : i ∈ s.m.keys) (hc : (s.qs i).fp.child = true) (hat : (s.qs i).fp.at_ = k) (hs0 : 0 ≤ (s.qs i).fp.step) (hs1 : (s.qs i).fp.step ≤ 1) (ht : (s.qs i).fp.tl[k]? = some t) (htl : t.length ≤ 1000) (hp0 : 1 ≤ (s.qs i).fp.pieces) (hp1 : (s.qs i).fp.pieces ≤ 1000) (hn : s.ol.length ≤ 8) :
    Calls Tryz.prog 296 #[ptrOf (lay (.F i)), .agg (rpV re rn rm)] w fun e w' => e = .returned (.agg (clV (askK t) (askF (k : Int) t) (askD (s.qs i).fp.pieces t))) ∧ WStep s lay w (s.setQ i ((s.qs i).withFp { (s.qs i).fp with step := (s.qs i).fp.step + 1 })) lay w' := by
  have hkl : k < s.ol.length := by rw [← (h.ok.a i hi).1]; exact (List.getElem?_eq_some_iff.1 ht).1
  obtain ⟨p, hp⟩ : ∃ p, (s.qs i).fp = p := ⟨_, rfl⟩
  obtain ⟨st, hst⟩ : ∃ st, p.step = st := ⟨_, rfl⟩
  obtain ⟨pc, hpc⟩ : ∃ pc, p.pieces = pc := ⟨_, rfl⟩
  rw [hp] at hc hat hs0 hs1 ht hp0 hp1 ⊢
  rw [hst] at hs0 hs1 ⊢
  rw [hpc] at hp0 hp1 ⊢
  have H := Lib.hid h
  have HT := Lib.hid ht
  have HP := Lib.hid hp
  have HST := Lib.hid hst
  have HC := Lib.hid (And.intro hc (And.intro hat hpc))
  have hfl := wx_fl h.lies hi
  have hk8 : (k : Int) < s.ol.length := by omega
  have hks : (k : Int) ≤ 8 := by omega
  unfold ptrOf rpV clV at *
  clear h ht hc hat hp hst hpc
  go_enter Tryz.func296, Tryz.ntmps296
  go_upto_region 1 with fail
  obtain ⟨w1, hw1, hB1, hb3, hb4, hz1⟩ := two_newG w (.cells #[.int .i64 re, .int .i64 rn, .int .i64 rm, .string ByteArray.empty, .slice none 0 0, .int .i64 0, .int .i64 0, .int .i64 0] 37) (.cells #[.int .i64 0, .int .i64 0, .int .i64 0, .string ⟨#[]⟩, .string ⟨#[]⟩] 31)
  rw [hw1]
  clear hw1
  have I1 := H.out.below hB1
  have n3 := H.out.lies.fresh (Nat.le_refl w.heap.size)
  have n4 := H.out.lies.fresh (Nat.le_succ w.heap.size)
  have c3 := wx_f I1.lies hi (k := 3) (v := .bool p.child) (by rw [HP.out]; rfl)
  have c5 := wx_f I1.lies hi (k := 5) (v := .int .i64 p.step) (by rw [HP.out]; rfl)
  have f5 := wx_ff I1.lies hi 5
  rw [HC.out.1] at c3
  rw [HST.out] at c5
  have K1 := wx_setF (GStep.refl I1.lies) hi 5 (.int .i64 (st + 1)) { p with step := st + 1 } (by rw [HP.out]) (by rw [HP.out]; simp [fpV])
  have hm3 := K1.fresh n3 (by omega)
  have hm4 := K1.fresh n4 (by omega)
  have g3 := (((Aside.refl (lay (.F i)) w1).set 5 (.int .i64 (st + 1))).block w.heap.size (by omega)).trans hb3
  have g4 := (((Aside.refl (lay (.F i)) w1).set 5 (.int .i64 (st + 1))).block (w.heap.size + 1) (by omega)).trans hb4
  have HK1 := Lib.hid (((GStep.refl H.out.lies).below hB1).trans K1)
  have HG3 := Lib.hid g3
  have HG4 := Lib.hid g4
  have HM := Lib.hid (And.intro hm3 hm4)
  clear K1 hm3 hm4 g3 g4 hb3 hb4 n3 n4 I1 hB1 hz1
  go_upto_region 3 with fail
  generalize w1.setCell ⟨lay (.F i), 5, none⟩ (.int .i64 (st + 1)) = w2 at *
  clear c3 c5 f5
  have I2 : WxIs (s.setQ i ((s.qs i).withFp { p with step := st + 1 })) lay w2 := ⟨HK1.out.lies, H.out.ok.setQ _ (by rw [HP.out]; rfl) (by rw [HP.out]; rfl)⟩
  obtain ⟨b, cap, htv, hcap, hbl, hcells, hbF, hbQ⟩ := wx_row I2.lies I2.ok hi (show 0 < s.ol.length by omega)
  have ct := hcells k t (by simpa [Wx.setQ, Qs.withFp] using HT.out)
  have c0 := wx_f I2.lies hi (k := 0) (v := (s.setQ i ((s.qs i).withFp { p with step := st + 1 })).tv lay i) rfl
  have c1 := wx_f I2.lies hi (k := 1) (v := .int .i64 pc) (by simp [Wx.setQ, Qs.withFp, fpV, HC.out.2.2])
  have c2 := wx_f I2.lies hi (k := 2) (v := .int .i64 k) (by simp [Wx.setQ, Qs.withFp, fpV, HC.out.2.1])
  have c5 := wx_f I2.lies hi (k := 5) (v := .int .i64 (st + 1)) (by simp [Wx.setQ, Qs.withFp, fpV])
  rw [htv] at c0
  have HI2 := Lib.hid I2
  unfold strV at ct
  clear I2 htv hcells
  have hol : s.ol.length = (s.setQ i ((s.qs i).withFp { p with step := st + 1 })).ol.length := rfl
  rw [← hol] at c0 hcap
  clear hol
  generalize s.ol.length = n at *
  go_quiet (fail)
  have d0 : (w2.drewN nq).cell? ⟨lay (.F i), 0, none⟩ = _ := c0
  have d1 : (w2.drewN nq).cell? ⟨lay (.F i), 1, none⟩ = _ := c1
  have d2 : (w2.drewN nq).cell? ⟨lay (.F i), 2, none⟩ = _ := c2
  have d5 : (w2.drewN nq).cell? ⟨lay (.F i), 5, none⟩ = _ := c5
  have HI3 := Lib.hid (HK1.out.drewN nq)
  have HG3' := Lib.hid (show (w2.drewN nq).heap[w.heap.size]? = _ from HG3.out)
  have HG4' := Lib.hid (show (w2.drewN nq).heap[w.heap.size + 1]? = _ from HG4.out)
  obtain ⟨y0, y1, y2, y3, y4, y5, y6, y7, _⟩ := cells8 HG3'.out
  obtain ⟨z0, z1, z2, z3, z4, zf⟩ := cells5 HG4'.out
  generalize w2.drewN nq = w3 at *
  clear c0 c1 c2 c5 ct HG3 HG4 HK1 HI2
  by_cases ht0 : t = []
  · subst ht0
    have hle : st + 1 ≤ 2 := by omega
    go_wp2_with fail
    obtain ⟨w9, hw9, hA9, hc9⟩ := five_set HG4'.out (.int .i64 8) (.int .i64 (↑k + 1)) (.int .i64 0) (.string ⟨#[]⟩) (.string ⟨#[]⟩)
    rw [hw9]
    obtain ⟨x0, x1, x2, x3, x4, _⟩ := cells5 hc9
    have KF := HI3.out.aside hA9 (by omega) HM.out.2
    have hokF : (s.setQ i ((s.qs i).withFp { p with step := st + 1 })).Ok := H.out.ok.setQ _ (by rw [HP.out]; rfl) (by rw [HP.out]; rfl)
    refine bodyPost_ret (v := .agg #[.int .i64 8, .int .i64 (↑k + 1), .int .i64 0, .string ⟨#[]⟩, .string ⟨#[]⟩]) ?_ rfl ⟨by simp [askK, askF, askD]; rfl, KF, hokF, rfl⟩
    clear KF hw9 hA9 hc9 hokF
    simp [results, Tryz.results296, go_sem, x0, x1, x2, x3, x4]
    try rfl
  · have hte : t.isEmpty = false := by simpa using ht0
    have hle : st + 1 ≤ 2 := by omega
    have hmn : List.take (min (t.length : Int) pc).toNat t = t.take pc.toNat := by
      by_cases q : (t.length : Int) ≤ pc
      · rw [Int.min_eq_left q, List.take_of_length_le (by omega), List.take_of_length_le (by omega)]
      · rw [Int.min_eq_right (by omega)]
    have HMN := Lib.hid hmn
    have HT0 := Lib.hid ht0
    clear hmn ht0
    go_wp2_with fail
    rw [HMN.out]
    obtain ⟨w9, hw9, hA9, hc9⟩ := five_set HG4'.out (.int .i64 2) (.int .i64 (1)) (.int .i64 0) (.string ⟨#[]⟩) (.string ⟨(t.take pc.toNat).toArray⟩)
    rw [hw9]
    obtain ⟨x0, x1, x2, x3, x4, _⟩ := cells5 hc9
    have KF := HI3.out.aside hA9 (by omega) HM.out.2
    have hokF : (s.setQ i ((s.qs i).withFp { p with step := st + 1 })).Ok := H.out.ok.setQ _ (by rw [HP.out]; rfl) (by rw [HP.out]; rfl)
    refine bodyPost_ret (v := .agg #[.int .i64 2, .int .i64 (1), .int .i64 0, .string ⟨#[]⟩, .string ⟨(t.take pc.toNat).toArray⟩]) ?_ rfl ⟨by simp [askK, askF, askD, HT0.out]; rfl, KF, hokF, rfl⟩
    clear KF hw9 hA9 hc9 hokF
    simp [results, Tryz.results296, go_sem, x0, x1, x2, x3, x4]
    try rfl
end Go.Proofs.YtelohloaoocoaaaGreatDoor
