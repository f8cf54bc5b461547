/- Texts of one proof, packed: FeQ, FeR, FeRb -/
import Derived.Test.YtomjjedgmnkciaaGreatDoorP09
set_option linter.unusedVariables false
set_option linter.unusedSimpArgs false
set_option linter.deprecated false
set_option linter.unnecessarySimpa false
/- fds: blocks that are held as they are while sets are used. -/
namespace Go.Proofs.YtomjjedgmnkciaaGreatDoor
open Go.RowKit IntWalk
set_option linter.unusedVariables false
set_option linter.unusedSimpArgs false

section
variable {W0 : World} {zp : List Nat} {xp fp N : Nat} {H : List (Nat × Obj)} {w w' : World}
theorem St.held (h : St W0 zp xp fp N H w) {b : Nat} {o : Obj} (hb : (b, o) ∈ H) : w.heap[b]? = some o := by
  obtain ⟨g, s, fl, x, xl, pl, ns, h⟩ := h
  exact h.al.po b _ (h.so.2 _ hb)
theorem St.held_lt (h : St W0 zp xp fp N H w) : ∀ p ∈ H, p.1 < w.heap.size := fun p hp => (Array.getElem?_eq_some_iff.1 (h.held (b := p.1) (o := p.2) hp)).1
/-- a block more is held -/
theorem St.hold (h : St W0 zp xp fp N H w) (o : Obj) : St W0 zp xp fp N ((w.heap.size, o) :: H) (w.alloc o) := by
  obtain ⟨g, s, fl, x, xl, pl, ns, h⟩ := h
  have hfr := h.al.fresh (Nat.le_refl w.heap.size)
  refine ⟨g, s, fl, x, xl, updP pl w.heap.size (.held o), ns, ⟨h.al.newP ((Below.refl w.heap.size w).alloc (Nat.le_refl _) o) w.heap.size (Nat.le_refl _) (.held o) (alloc_at w o), h.lk.turn (fun p hp => (h.lk.things p hp).upd hfr) h.lk.tidy, h.fF, h.xX, h.zn, h.zl, ?_, h.ns⟩⟩
  have hs := h.so.upd (b := w.heap.size) (o := .held o) (fun y r q => by cases q) (by rw [hfr]; simp)
  refine ⟨hs.1, fun p hp => ?_⟩
  rcases List.mem_cons.1 hp with rfl | q
  · exact updP_same _ _ _
  · exact hs.2 p q
/-- blocks are no longer held, and turned -/
theorem St.free (Hs : List (Nat × Obj)) (h : St W0 zp xp fp N (Hs ++ H) w) (ht : Turned (fun k => ∃ p ∈ Hs, p.1 = k) w w') (hd : ∀ p ∈ Hs, ∀ q ∈ H, p.1 ≠ q.1) : St W0 zp xp fp N H w' := by
  obtain ⟨g, s, fl, x, xl, pl, ns, h⟩ := h
  have hHs : ∀ k, (∃ p ∈ Hs, p.1 = k) → ∃ o, pl k = some (.held o) := fun k ⟨p, hp, e⟩ => ⟨p.2, by rw [← e]; exact h.so.2 p (List.mem_append_left _ hp)⟩
  have hsz := ht.size
  have hin : ∀ k, (∃ p ∈ Hs, p.1 = k) → ∃ o, w'.heap[k]? = some o := fun k hk => by
    obtain ⟨o, ho⟩ := hHs k hk
    have hlt := h.al.po.lt (b := k) (by rw [ho]; simp)
    exact ⟨_, Array.getElem?_eq_getElem (Nat.lt_of_lt_of_le hlt hsz)⟩
  let pl' : Nat → Option Po := fun c => @ite _ (∃ p ∈ Hs, p.1 = c) (Classical.propDecidable _) ((w'.heap[c]?).map Po.held) (pl c)
  have hin' : ∀ c, (∃ p ∈ Hs, p.1 = c) → pl' c = (w'.heap[c]?).map Po.held := fun c hc => if_pos hc
  have hout' : ∀ c, ¬ (∃ p ∈ Hs, p.1 = c) → pl' c = pl c := fun c hc => if_neg hc
  have hkeepP : ∀ c o, pl c = some o → (∀ q, o ≠ .held q) → pl' c = some o := fun c o hc hn => by
    rw [hout' c (fun hk => by obtain ⟨o', ho'⟩ := hHs c hk; rw [hc] at ho'; cases ho'; exact hn _ rfl)]
    exact hc
  have hnot : ∀ c o, pl c = some o → (∀ q, o ≠ .held q) → ¬ ∃ p ∈ Hs, p.1 = c := fun c o hc hn hk => by
    obtain ⟨o', ho'⟩ := hHs c hk
    rw [hc] at ho'; cases ho'; exact hn _ rfl
  have hpo : PoolIs (fl .F) pl' w' := fun b o hb => by
    rcases Classical.em (∃ p ∈ Hs, p.1 = b) with hk | hk
    · rw [hin' b hk] at hb
      obtain ⟨o', ho'⟩ := hin b hk
      rw [ho'] at hb
      cases hb
      exact ho'
    · rw [hout' b hk] at hb
      have hlt := h.al.po.lt (b := b) (by rw [hb]; simp)
      refine (h.al.po b o hb).keep hsz (ht.block b hlt hk) (fun y gb e hc => ?_)
      subst e
      have hr := (h.al.po b _ hb).2.2 hc
      have hkg := hnot gb _ hr (by simp)
      exact ⟨ht.block gb (h.al.po.lt (by rw [hr]; simp)) hkg, by rw [hout' gb hkg]; exact hr⟩
  have hA : Al W0 s fl x xl pl' ns w' := by
    refine h.al.stepP (ht.mono fun k hk _ => ?_) hpo (fun k hk => ?_) (h.al.sv.keep ht h.al.po (fun c hc hk => hnot c _ hc (by simp) hk) (fun c hc => hkeepP c _ hc (by simp)))
    · obtain ⟨o, ho⟩ := hHs k hk; rw [ho]; simp
    · left
      rcases Classical.em (∃ p ∈ Hs, p.1 = k) with hk2 | hk2
      · obtain ⟨o, ho⟩ := hHs k hk2; rw [ho]; simp
      · rw [hout' k hk2] at hk; exact hk
  refine ⟨g, s, fl, x, xl, pl', ns, ⟨hA, h.lk.turn (fun p hp => ?_) h.lk.tidy, h.fF, h.xX, h.zn, h.zl, ⟨fun b y r hb => ?_, fun p hp => ?_⟩, h.ns⟩⟩
  · have hthp := h.lk.things p hp
    obtain ⟨pk, pt⟩ := p
    cases pt with
    | tape c => obtain ⟨z, hz⟩ := hthp; exact ⟨z, hkeepP c _ hz (by simp)⟩
    | sink c => obtain ⟨z, r, hz⟩ := hthp; exact ⟨z, r, hkeepP c _ hz (by simp)⟩
    | pend c wr => obtain ⟨z, r, q, hz⟩ := hthp; exact ⟨z, r, q, hkeepP c _ hz (by simp)⟩
    | file c m => obtain ⟨a', f', k1, k2, hz, k4⟩ := hthp; exact ⟨a', f', k1, k2, hkeepP c _ hz (by simp), k4⟩
  · rcases Classical.em (∃ p ∈ Hs, p.1 = b) with hk | hk
    · rw [hin' b hk] at hb
      obtain ⟨o', ho'⟩ := hin b hk
      rw [ho'] at hb
      cases hb
    · rw [hout' b hk] at hb
      exact h.so.1 b y r hb
  · rw [hout' p.1 (fun ⟨q, hq, e⟩ => hd q hq p hp e)]
    exact h.so.2 p (List.mem_append_right _ hp)
end
end Go.Proofs.YtomjjedgmnkciaaGreatDoor
/- fds: a call of the law's, whichever it is. -/
namespace Go.Proofs.YtomjjedgmnkciaaGreatDoor
open Go.RowKit IntWalk
set_option linter.unusedVariables false
set_option linter.unusedSimpArgs false

def opA (set_ ask fd n : Int) (t : List UInt8) : Array Value := #[.int .i64 set_, .int .i64 ask, .int .i64 fd, .int .i64 n, .string ⟨t.toArray⟩]
def ansO : Obj := .cells #[.int .i64 0, .int .i64 0, .string ⟨#[]⟩, .int .i64 0] 37 (0, 0)
def opO (set_ ask fd n : Int) (t : List UInt8) : Obj := .cells (opA set_ ask fd n t) 32 (0, 0)
def doW (w : World) (o : Obj) : World := ((w.alloc o).alloc ansO).alloc ansO
theorem ans_facts {w : World} {b : Nat} (h : w.heap[b]? = some ansO) : w.cell? ⟨b, 0, none⟩ = some (.int .i64 0) ∧ w.cell? ⟨b, 1, none⟩ = some (.int .i64 0) ∧ w.cell? ⟨b, 2, none⟩ = some (.string ⟨#[]⟩) ∧ w.cell? ⟨b, 3, none⟩ = some (.int .i64 0) ∧
    w.frozen? ⟨b, 0, none⟩ = false ∧ w.frozen? ⟨b, 1, none⟩ = false ∧ w.frozen? ⟨b, 2, none⟩ = false ∧ w.frozen? ⟨b, 3, none⟩ = false := by
  unfold ansO at h
  refine ⟨cell_of_row w _ 0 _ _ _ h, cell_of_row w _ 1 _ _ _ h, cell_of_row w _ 2 _ _ _ h, cell_of_row w _ 3 _ _ _ h, ?_, ?_, ?_, ?_⟩ <;> simp [World.frozen?, h]
theorem ans_ret (w : World) (g : Nat) (a b c d : Value) (hg : w.heap[g]? = some (.cells #[a, b, c, d] 37 (0, 0))) {fn : Func} {p : Tmp} (h : fn.results = #[.cell p 37]) (tmps : Array Value) (hp : tmps.getD p undef = .pointer (some ⟨g, 0, none⟩)) :
    (results fn tmps).run Tryz.prog w = .ok (.agg #[a, b, c, d]) w :=
  results_cell_row h tmps w g _ #[a, b, c, d] _ _ hp hg Tryz.underlying37 rfl (by kernel_rfl)
theorem four_set {w : World} {b : Nat} {v0 v1 v2 v3 : Value} {ty : TypeId} (h : w.heap[b]? = some (.cells #[v0, v1, v2, v3] ty (0, 0))) (u0 u1 u2 u3 : Value) :
    ((((w.setCell ⟨b, 0, none⟩ u0).setCell ⟨b, 1, none⟩ u1).setCell ⟨b, 2, none⟩ u2).setCell ⟨b, 3, none⟩ u3).heap[b]? = some (.cells #[u0, u1, u2, u3] ty (0, 0)) := by
  have h0 := set_rowN (k := 0) (v := u0) h
  simp only [List.setIfInBounds_toArray, List.set_cons_zero, List.set_cons_succ] at h0
  have h1 := set_rowN (k := 1) (v := u1) h0
  simp only [List.setIfInBounds_toArray, List.set_cons_zero, List.set_cons_succ] at h1
  have h2 := set_rowN (k := 2) (v := u2) h1
  simp only [List.setIfInBounds_toArray, List.set_cons_zero, List.set_cons_succ] at h2
  have h3 := set_rowN (k := 3) (v := u3) h2
  simp only [List.setIfInBounds_toArray, List.set_cons_zero, List.set_cons_succ] at h3
  exact h3
theorem set_far {w : World} {b c k : Nat} {v : Value} {o : Obj} (h : w.heap[b]? = some o) (hne : b ≠ c) : (w.setCell ⟨c, k, none⟩ v).heap[b]? = some o := by
  rw [Below.heap_setCell _ _ _ _ hne]; exact h
section
variable {W0 : World} {zp : List Nat} {xp fp N : Nat} {H : List (Nat × Obj)} {w w' : World}
theorem do_hold (h : St W0 zp xp fp N H w) (o : Obj) : St W0 zp xp fp N ([(w.heap.size + 2, ansO), (w.heap.size + 1, ansO), (w.heap.size, o)] ++ H) (doW w o) := by
  have h3 := ((h.hold o).hold ansO).hold ansO
  have e1 : (w.alloc o).heap.size = w.heap.size + 1 := by simp
  have e2 : ((w.alloc o).alloc ansO).heap.size = w.heap.size + 2 := by simp
  rw [e2, e1] at h3
  exact h3
/-- what a call leaves, when its blocks are done with -/
theorem do_free (h0 : St W0 zp xp fp N H w) {N' : Nat} {o : Obj} (h : St W0 zp xp fp N' ([(w.heap.size + 2, ansO), (w.heap.size + 1, ansO), (w.heap.size, o)] ++ H) w') :
    ∀ w'', Turned (fun k => k = w.heap.size + 2 ∨ k = w.heap.size + 1) w' w'' → St W0 zp xp fp N' H w'' := fun w'' ht => by
  refine h.free _ (ht.mono fun k hk _ => ?_) (fun p hp q hq => ?_)
  · rcases hk with rfl | rfl
    · exact ⟨_, List.mem_cons_self, rfl⟩
    · exact ⟨_, List.mem_cons_of_mem _ List.mem_cons_self, rfl⟩
  · have := h0.held_lt q hq
    simp only [List.mem_cons, List.not_mem_nil, or_false] at hp
    rcases hp with rfl | rfl | rfl <;> dsimp only <;> omega
structure DoTo (W0 : World) (zp : List Nat) (xp fp N : Nat) (H : List (Nat × Obj)) (w w' : World) : Prop where
  b1 : w'.heap[w.heap.size + 1]? = some ansO
  b2 : w'.heap[w.heap.size + 2]? = some ansO
  free : ∀ w'', Turned (fun k => k = w.heap.size + 2 ∨ k = w.heap.size + 1) w' w'' → St W0 zp xp fp N H w''
theorem DoTo.of (h0 : St W0 zp xp fp N H w) {N' : Nat} {o : Obj} (h : St W0 zp xp fp N' ([(w.heap.size + 2, ansO), (w.heap.size + 1, ansO), (w.heap.size, o)] ++ H) w') (hN : N' ≤ N + 1) : DoTo W0 zp xp fp (N + 1) H w w' :=
  ⟨h.held (by simp), h.held (by simp), fun w'' ht => (do_free h0 h w'' ht).mono hN⟩
theorem do_tape (j zb : Nat) (hz : zp[j]? = some zb) (set_ fd n : Int) (t : List UInt8) (ht : t.length ≤ 500) (h : St W0 zp xp fp N H w) :
    Calls Tryz.prog 8 #[ptrOf zb, .agg (opA set_ 0 fd n t)] w fun e w' => (∃ v, e = .returned v) ∧ St W0 zp xp fp (N + 1) H w' := by
  have HC := Lib.hid ((tape_st j zb hz fd t (by omega) (do_hold h (opO set_ 0 fd n t))).mono (fun e w' hq => (⟨hq.1, DoTo.of h hq.2 (Nat.le_succ _)⟩ : (∃ c, e = .returned (.int .i64 c)) ∧ DoTo W0 zp xp fp (N + 1) H w w')))
  unfold doW opO ansO opA at *
  unfold ptrOf at *
  clear h
  go_enter Tryz.func8, Tryz.ntmps8
  go_wp2_with (go_at_call 22; refine HC.out.mono ?_; rintro e w1 ⟨⟨c, rfl⟩, hD⟩; obtain ⟨p0, p1, p2, p3, f0, f1, f2, f3⟩ := ans_facts hD.b1; obtain ⟨q0, q1, q2, q3, g0, g1, g2, g3⟩ := ans_facts hD.b2; have HD := Lib.hid hD; clear hD)
  (try simp only [Exit.inBlock, Exit.then]); refine bodyPost_ret (ans_ret _ _ _ _ _ _ (four_set (set_far HD.out.b1 (by omega)) _ _ _ _) rfl _ rfl) rfl ?_
  refine ⟨⟨_, rfl⟩, HD.out.free _ ?_⟩
  exact (((((Turned.refl _ w1).set _ _ (fun _ => .inl rfl)).set _ _ (fun _ => .inr rfl)).set _ _ (fun _ => .inr rfl)).set _ _ (fun _ => .inr rfl)).set _ _ (fun _ => .inr rfl)
end
end Go.Proofs.YtomjjedgmnkciaaGreatDoor
/- fds: a call of the law's, whichever it is (printed by gendo.py). -/
namespace Go.Proofs.YtomjjedgmnkciaaGreatDoor
open Go.RowKit IntWalk
set_option linter.unusedVariables false
set_option linter.unusedSimpArgs false

section
variable {W0 : World} {zp : List Nat} {xp fp N : Nat} {H : List (Nat × Obj)} {w w' : World}
theorem endall_st (j zb : Nat) (hz : zp[j]? = some zb) (h : St W0 zp xp fp N H w) :
    Calls Tryz.prog 10 #[ptrOf zb] w fun e w' => e = .returned (.tuple #[]) ∧ St W0 zp xp fp N H w' := by
  obtain ⟨sets, xl, h⟩ := h.x
  refine (end_st j zb hz h).mono ?_
  rintro e w' ⟨rfl, h2⟩
  exact ⟨rfl, h2.st⟩
theorem do_sink (hE : EnvG W0) (j zb : Nat) (hz : zp[j]? = some zb) (set_ fd n : Int) (hn64 : n ≤ 9223372036854775807) (t : List UInt8) (ht : t.length ≤ 500) (hN : N ≤ 1000) (h : St W0 zp xp fp N H w) :
    Calls Tryz.prog 8 #[ptrOf zb, .agg (opA set_ 1 fd n t)] w fun e w' => (∃ v, e = .returned v) ∧ St W0 zp xp fp (N + 1) H w' := by
  have HC := Lib.hid ((sinkopen_st j zb hz fd hN (do_hold h (opO set_ 1 fd n t))).mono (fun e w' hq => (⟨hq.1, DoTo.of h hq.2 (Nat.le_refl _)⟩ : SaysW e ∧ DoTo W0 zp xp fp (N + 1) H w w')))
  unfold doW opO ansO opA at *
  unfold ptrOf at *
  clear h hE
  go_enter Tryz.func8, Tryz.ntmps8
  go_wp2_with (go_at_call 23; refine HC.out.mono ?_; rintro e w1 ⟨⟨a, c, rfl⟩, hD⟩; obtain ⟨p0, p1, p2, p3, f0, f1, f2, f3⟩ := ans_facts hD.b1; obtain ⟨q0, q1, q2, q3, g0, g1, g2, g3⟩ := ans_facts hD.b2; have HD := Lib.hid hD; clear hD)
  (try simp only [Exit.inBlock, Exit.then]); refine bodyPost_ret (ans_ret _ _ _ _ _ _ (four_set (set_far (set_far HD.out.b1 (by omega)) (by omega)) _ _ _ _) rfl _ rfl) rfl ?_
  refine ⟨⟨_, rfl⟩, HD.out.free _ ?_⟩
  repeat refine Turned.set ?_ _ _ (fun _ => by first | exact .inl rfl | exact .inr rfl)
  exact Turned.refl _ _
theorem do_open (hE : EnvG W0) (j zb : Nat) (hz : zp[j]? = some zb) (set_ fd n : Int) (hn64 : n ≤ 9223372036854775807) (t : List UInt8) (ht : t.length ≤ 500) (hN : N ≤ 1000) (h : St W0 zp xp fp N H w) :
    Calls Tryz.prog 8 #[ptrOf zb, .agg (opA set_ 2 fd n t)] w fun e w' => (∃ v, e = .returned v) ∧ St W0 zp xp fp (N + 1) H w' := by
  have HC := Lib.hid ((open_st hE j zb hz t (by omega) n (do_hold h (opO set_ 2 fd n t))).mono (fun e w' hq => (⟨hq.1, DoTo.of h hq.2 (Nat.le_succ _)⟩ : (∃ a c, e = .returned (.tuple #[.int .i64 a, .int .i64 c])) ∧ DoTo W0 zp xp fp (N + 1) H w w')))
  unfold doW opO ansO opA at *
  unfold ptrOf at *
  clear h hE
  go_enter Tryz.func8, Tryz.ntmps8
  go_wp2_with (go_at_call 24; refine HC.out.mono ?_; rintro e w1 ⟨⟨a, c, rfl⟩, hD⟩; obtain ⟨p0, p1, p2, p3, f0, f1, f2, f3⟩ := ans_facts hD.b1; obtain ⟨q0, q1, q2, q3, g0, g1, g2, g3⟩ := ans_facts hD.b2; have HD := Lib.hid hD; clear hD)
  (try simp only [Exit.inBlock, Exit.then]); refine bodyPost_ret (ans_ret _ _ _ _ _ _ (four_set (set_far (set_far HD.out.b1 (by omega)) (by omega)) _ _ _ _) rfl _ rfl) rfl ?_
  refine ⟨⟨_, rfl⟩, HD.out.free _ ?_⟩
  repeat refine Turned.set ?_ _ _ (fun _ => by first | exact .inl rfl | exact .inr rfl)
  exact Turned.refl _ _
theorem do_pipe (hE : EnvG W0) (j zb : Nat) (hz : zp[j]? = some zb) (set_ fd n : Int) (hn64 : n ≤ 9223372036854775807) (t : List UInt8) (ht : t.length ≤ 500) (hN : N ≤ 1000) (h : St W0 zp xp fp N H w) :
    Calls Tryz.prog 8 #[ptrOf zb, .agg (opA set_ 3 fd n t)] w fun e w' => (∃ v, e = .returned v) ∧ St W0 zp xp fp (N + 1) H w' := by
  have HC := Lib.hid ((pipe_st j zb hz (do_hold h (opO set_ 3 fd n t))).mono (fun e w' hq => (⟨hq.1, DoTo.of h hq.2 (Nat.le_succ _)⟩ : (∃ a b c, e = .returned (.tuple #[.int .i64 a, .int .i64 b, .int .i64 c])) ∧ DoTo W0 zp xp fp (N + 1) H w w')))
  unfold doW opO ansO opA at *
  unfold ptrOf at *
  clear h hE
  go_enter Tryz.func8, Tryz.ntmps8
  go_wp2_with (go_at_call 18; refine HC.out.mono ?_; rintro e w1 ⟨⟨a, b, c, rfl⟩, hD⟩; obtain ⟨p0, p1, p2, p3, f0, f1, f2, f3⟩ := ans_facts hD.b1; obtain ⟨q0, q1, q2, q3, g0, g1, g2, g3⟩ := ans_facts hD.b2; have HD := Lib.hid hD; clear hD)
  (try simp only [Exit.inBlock, Exit.then]); refine bodyPost_ret (ans_ret _ _ _ _ _ _ (four_set (set_far (set_far (set_far HD.out.b1 (by omega)) (by omega)) (by omega)) _ _ _ _) rfl _ rfl) rfl ?_
  refine ⟨⟨_, rfl⟩, HD.out.free _ ?_⟩
  repeat refine Turned.set ?_ _ _ (fun _ => by first | exact .inl rfl | exact .inr rfl)
  exact Turned.refl _ _
theorem do_dup (hE : EnvG W0) (j zb : Nat) (hz : zp[j]? = some zb) (set_ fd n : Int) (hn64 : n ≤ 9223372036854775807) (t : List UInt8) (ht : t.length ≤ 500) (hN : N ≤ 1000) (h : St W0 zp xp fp N H w) :
    Calls Tryz.prog 8 #[ptrOf zb, .agg (opA set_ 4 fd n t)] w fun e w' => (∃ v, e = .returned v) ∧ St W0 zp xp fp (N + 1) H w' := by
  have HC := Lib.hid ((dup_st j zb hz fd n (do_hold h (opO set_ 4 fd n t))).mono (fun e w' hq => (⟨hq.1, DoTo.of h hq.2 (Nat.le_succ _)⟩ : (∃ c, e = .returned (.int .i64 c)) ∧ DoTo W0 zp xp fp (N + 1) H w w')))
  unfold doW opO ansO opA at *
  unfold ptrOf at *
  clear h hE
  go_enter Tryz.func8, Tryz.ntmps8
  go_wp2_with (go_at_call 25; refine HC.out.mono ?_; rintro e w1 ⟨⟨c, rfl⟩, hD⟩; obtain ⟨p0, p1, p2, p3, f0, f1, f2, f3⟩ := ans_facts hD.b1; obtain ⟨q0, q1, q2, q3, g0, g1, g2, g3⟩ := ans_facts hD.b2; have HD := Lib.hid hD; clear hD)
  (try simp only [Exit.inBlock, Exit.then]); refine bodyPost_ret (ans_ret _ _ _ _ _ _ (four_set (set_far HD.out.b1 (by omega)) _ _ _ _) rfl _ rfl) rfl ?_
  refine ⟨⟨_, rfl⟩, HD.out.free _ ?_⟩
  repeat refine Turned.set ?_ _ _ (fun _ => by first | exact .inl rfl | exact .inr rfl)
  exact Turned.refl _ _
theorem do_close (hE : EnvG W0) (j zb : Nat) (hz : zp[j]? = some zb) (set_ fd n : Int) (hn64 : n ≤ 9223372036854775807) (t : List UInt8) (ht : t.length ≤ 500) (hN : N ≤ 1000) (h : St W0 zp xp fp N H w) :
    Calls Tryz.prog 8 #[ptrOf zb, .agg (opA set_ 5 fd n t)] w fun e w' => (∃ v, e = .returned v) ∧ St W0 zp xp fp (N + 1) H w' := by
  have HC := Lib.hid ((close_st j zb hz fd (do_hold h (opO set_ 5 fd n t))).mono (fun e w' hq => (⟨hq.1, DoTo.of h hq.2 (Nat.le_succ _)⟩ : (∃ c, e = .returned (.int .i64 c)) ∧ DoTo W0 zp xp fp (N + 1) H w w')))
  unfold doW opO ansO opA at *
  unfold ptrOf at *
  clear h hE
  go_enter Tryz.func8, Tryz.ntmps8
  go_wp2_with (go_at_call 26; refine HC.out.mono ?_; rintro e w1 ⟨⟨c, rfl⟩, hD⟩; obtain ⟨p0, p1, p2, p3, f0, f1, f2, f3⟩ := ans_facts hD.b1; obtain ⟨q0, q1, q2, q3, g0, g1, g2, g3⟩ := ans_facts hD.b2; have HD := Lib.hid hD; clear hD)
  (try simp only [Exit.inBlock, Exit.then]); refine bodyPost_ret (ans_ret _ _ _ _ _ _ (four_set (set_far HD.out.b1 (by omega)) _ _ _ _) rfl _ rfl) rfl ?_
  refine ⟨⟨_, rfl⟩, HD.out.free _ ?_⟩
  repeat refine Turned.set ?_ _ _ (fun _ => by first | exact .inl rfl | exact .inr rfl)
  exact Turned.refl _ _
theorem do_read (hE : EnvG W0) (j zb : Nat) (hz : zp[j]? = some zb) (set_ fd n : Int) (hn64 : n ≤ 9223372036854775807) (t : List UInt8) (ht : t.length ≤ 500) (hN : N ≤ 1000) (h : St W0 zp xp fp N H w) :
    Calls Tryz.prog 8 #[ptrOf zb, .agg (opA set_ 6 fd n t)] w fun e w' => (∃ v, e = .returned v) ∧ St W0 zp xp fp (N + 1) H w' := by
  have HC := Lib.hid ((sread_st j zb hz fd n hn64 (do_hold h (opO set_ 6 fd n t))).mono (fun e w' hq => (⟨hq.1, DoTo.of h hq.2 (Nat.le_succ _)⟩ : SaysR e ∧ DoTo W0 zp xp fp (N + 1) H w w')))
  unfold doW opO ansO opA at *
  unfold ptrOf at *
  clear h hE
  go_enter Tryz.func8, Tryz.ntmps8
  go_wp2_with (go_at_call 20; refine HC.out.mono ?_; rintro e w1 ⟨⟨u, c, rfl⟩, hD⟩; obtain ⟨p0, p1, p2, p3, f0, f1, f2, f3⟩ := ans_facts hD.b1; obtain ⟨q0, q1, q2, q3, g0, g1, g2, g3⟩ := ans_facts hD.b2; have HD := Lib.hid hD; clear hD)
  (try simp only [Exit.inBlock, Exit.then]); refine bodyPost_ret (ans_ret _ _ _ _ _ _ (four_set (set_far (set_far HD.out.b1 (by omega)) (by omega)) _ _ _ _) rfl _ rfl) rfl ?_
  refine ⟨⟨_, rfl⟩, HD.out.free _ ?_⟩
  repeat refine Turned.set ?_ _ _ (fun _ => by first | exact .inl rfl | exact .inr rfl)
  exact Turned.refl _ _
theorem do_write (hE : EnvG W0) (j zb : Nat) (hz : zp[j]? = some zb) (set_ fd n : Int) (hn64 : n ≤ 9223372036854775807) (t : List UInt8) (ht : t.length ≤ 500) (hN : N ≤ 1000) (h : St W0 zp xp fp N H w) :
    Calls Tryz.prog 8 #[ptrOf zb, .agg (opA set_ 7 fd n t)] w fun e w' => (∃ v, e = .returned v) ∧ St W0 zp xp fp (N + 1) H w' := by
  have HC := Lib.hid ((swrite_st j zb hz fd t ht hN (do_hold h (opO set_ 7 fd n t))).mono (fun e w' hq => (⟨hq.1, DoTo.of h hq.2 (Nat.le_refl _)⟩ : SaysW e ∧ DoTo W0 zp xp fp (N + 1) H w w')))
  unfold doW opO ansO opA at *
  unfold ptrOf at *
  clear h hE
  go_enter Tryz.func8, Tryz.ntmps8
  go_wp2_with (go_at_call 19; refine HC.out.mono ?_; rintro e w1 ⟨⟨a, c, rfl⟩, hD⟩; obtain ⟨p0, p1, p2, p3, f0, f1, f2, f3⟩ := ans_facts hD.b1; obtain ⟨q0, q1, q2, q3, g0, g1, g2, g3⟩ := ans_facts hD.b2; have HD := Lib.hid hD; clear hD)
  (try simp only [Exit.inBlock, Exit.then]); refine bodyPost_ret (ans_ret _ _ _ _ _ _ (four_set (set_far (set_far HD.out.b1 (by omega)) (by omega)) _ _ _ _) rfl _ rfl) rfl ?_
  refine ⟨⟨_, rfl⟩, HD.out.free _ ?_⟩
  repeat refine Turned.set ?_ _ _ (fun _ => by first | exact .inl rfl | exact .inr rfl)
  exact Turned.refl _ _
theorem do_end (hE : EnvG W0) (j zb : Nat) (hz : zp[j]? = some zb) (set_ fd n : Int) (hn64 : n ≤ 9223372036854775807) (t : List UInt8) (ht : t.length ≤ 500) (hN : N ≤ 1000) (h : St W0 zp xp fp N H w) :
    Calls Tryz.prog 8 #[ptrOf zb, .agg (opA set_ 9 fd n t)] w fun e w' => (∃ v, e = .returned v) ∧ St W0 zp xp fp (N + 1) H w' := by
  have HC := Lib.hid ((endall_st j zb hz (do_hold h (opO set_ 9 fd n t))).mono (fun e w' hq => (⟨hq.1, DoTo.of h hq.2 (Nat.le_succ _)⟩ : e = .returned (.tuple #[]) ∧ DoTo W0 zp xp fp (N + 1) H w w')))
  unfold doW opO ansO opA at *
  unfold ptrOf at *
  clear h hE
  go_enter Tryz.func8, Tryz.ntmps8
  go_wp2_with (go_at_call 10; refine HC.out.mono ?_; rintro e w1 ⟨rfl, hD⟩; obtain ⟨p0, p1, p2, p3, f0, f1, f2, f3⟩ := ans_facts hD.b1; obtain ⟨q0, q1, q2, q3, g0, g1, g2, g3⟩ := ans_facts hD.b2; have HD := Lib.hid hD; clear hD)
  (try simp only [Exit.inBlock, Exit.then]); refine bodyPost_ret (ans_ret _ _ _ _ _ _ (four_set HD.out.b1 _ _ _ _) rfl _ rfl) rfl ?_
  refine ⟨⟨_, rfl⟩, HD.out.free _ ?_⟩
  repeat refine Turned.set ?_ _ _ (fun _ => by first | exact .inl rfl | exact .inr rfl)
  exact Turned.refl _ _
theorem do_else (j zb : Nat) (hz : zp[j]? = some zb) (set_ ask fd n : Int) (t : List UInt8) (hk : ∀ k : Nat, k ≤ 9 → k ≠ 8 → ask ≠ k) (h : St W0 zp xp fp N H w) :
    Calls Tryz.prog 8 #[ptrOf zb, .agg (opA set_ ask fd n t)] w fun e w' => (∃ v, e = .returned v) ∧ St W0 zp xp fp (N + 1) H w' := by
  have a0 : (ask == 0) = false := by simpa using hk 0 (by omega) (by omega)
  have a1 : (ask == 1) = false := by simpa using hk 1 (by omega) (by omega)
  have a2 : (ask == 2) = false := by simpa using hk 2 (by omega) (by omega)
  have a3 : (ask == 3) = false := by simpa using hk 3 (by omega) (by omega)
  have a4 : (ask == 4) = false := by simpa using hk 4 (by omega) (by omega)
  have a5 : (ask == 5) = false := by simpa using hk 5 (by omega) (by omega)
  have a6 : (ask == 6) = false := by simpa using hk 6 (by omega) (by omega)
  have a7 : (ask == 7) = false := by simpa using hk 7 (by omega) (by omega)
  have a9 : (ask == 9) = false := by simpa using hk 9 (by omega) (by omega)
  have hD := DoTo.of h (do_hold h (opO set_ ask fd n t)) (Nat.le_succ _)
  have hw3 : doW w (opO set_ ask fd n t) = ((w.alloc (.cells #[.int .i64 set_, .int .i64 ask, .int .i64 fd, .int .i64 n, .string ⟨t.toArray⟩] 32)).alloc (.cells #[.int .i64 0, .int .i64 0, .string ⟨#[]⟩, .int .i64 0] 37)).alloc (.cells #[.int .i64 0, .int .i64 0, .string ⟨#[]⟩, .int .i64 0] 37) := rfl
  have hask : (doW w (opO set_ ask fd n t)).cell? ⟨w.heap.size, 1, none⟩ = some (.int .i64 ask) := cell_of_row _ _ 1 _ _ _ ((do_hold h (opO set_ ask fd n t)).held (b := w.heap.size) (o := opO set_ ask fd n t) (by simp))
  generalize hw4 : doW w (opO set_ ask fd n t) = w1 at *
  unfold opA at *
  unfold ptrOf at *
  clear h hk hw4
  obtain ⟨p0, p1, p2, p3, f0, f1, f2, f3⟩ := ans_facts hD.b1
  obtain ⟨q0, q1, q2, q3, g0, g1, g2, g3⟩ := ans_facts hD.b2
  have HD := Lib.hid hD
  clear hD
  have hw5 := hw3.symm
  clear hw3
  go_enter Tryz.func8, Tryz.ntmps8
  go_wp2_with fail
  (try simp only [Exit.inBlock, Exit.then]); refine bodyPost_ret (ans_ret _ _ _ _ _ _ (four_set HD.out.b1 _ _ _ _) rfl _ rfl) rfl ?_
  refine ⟨⟨_, rfl⟩, HD.out.free _ ?_⟩
  repeat refine Turned.set ?_ _ _ (fun _ => by first | exact .inl rfl | exact .inr rfl)
  exact Turned.refl _ _
theorem do_st (hE : EnvG W0) (j zb : Nat) (hz : zp[j]? = some zb) (set_ ask fd n : Int) (hn64 : n ≤ 9223372036854775807) (t : List UInt8) (ht : t.length ≤ 500) (hN : N ≤ 1000) (h : St W0 zp xp fp N H w) :
    Calls Tryz.prog 8 #[ptrOf zb, .agg (opA set_ ask fd n t)] w fun e w' => (∃ v, e = .returned v) ∧ St W0 zp xp fp (N + 1) H w' := by
  by_cases k0 : ask = 0
  · subst k0; exact do_tape j zb hz set_ fd n t ht h
  by_cases k1 : ask = 1
  · subst k1; exact do_sink hE j zb hz set_ fd n hn64 t ht hN h
  by_cases k2 : ask = 2
  · subst k2; exact do_open hE j zb hz set_ fd n hn64 t ht hN h
  by_cases k3 : ask = 3
  · subst k3; exact do_pipe hE j zb hz set_ fd n hn64 t ht hN h
  by_cases k4 : ask = 4
  · subst k4; exact do_dup hE j zb hz set_ fd n hn64 t ht hN h
  by_cases k5 : ask = 5
  · subst k5; exact do_close hE j zb hz set_ fd n hn64 t ht hN h
  by_cases k6 : ask = 6
  · subst k6; exact do_read hE j zb hz set_ fd n hn64 t ht hN h
  by_cases k7 : ask = 7
  · subst k7; exact do_write hE j zb hz set_ fd n hn64 t ht hN h
  by_cases k9 : ask = 9
  · subst k9; exact do_end hE j zb hz set_ fd n hn64 t ht hN h
  exact do_else j zb hz set_ ask fd n t (fun k h1 h2 q => by omega) h
end
end Go.Proofs.YtomjjedgmnkciaaGreatDoor
