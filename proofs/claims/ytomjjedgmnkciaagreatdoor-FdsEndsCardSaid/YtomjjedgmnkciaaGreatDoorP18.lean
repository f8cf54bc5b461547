/- Texts of one proof, packed: FeY, FeZ, FeZa -/
import Derived.Test.YtomjjedgmnkciaaGreatDoorP17
import Derived.Test.YtomjjedgmnkciaaGreatDoorOpen
set_option linter.unusedVariables false
set_option linter.unusedSimpArgs false
set_option linter.deprecated false
set_option linter.unnecessarySimpa false
/- The law's calls as the world holds them; the row of sets grows; when all sets have ended. -/
namespace Go.Proofs.YtomjjedgmnkciaaGreatDoor
open Go.RowKit Go.WideShapes IntWalk
set_option linter.unusedVariables false
set_option linter.unusedSimpArgs false

section
variable {H : Type} {enc : TypeId × Value → H} {P : Program} {w : World} {base : Nat} {spare : Nat → Bool} {held : Bool}
theorem trod_struct5 {t : TypeId} {f0 f1 f2 f3 f4 : Field} {fuel : Nat} {cs : List Value} {x : DataW H × List MemPlace} (ht : P.underlying t = some (.struct #[f0, f1, f2, f3, f4])) (h : DataW.trod enc P w base spare held fuel t cs = some x) :
    ∃ y0 y1 y2 y3 y4 n, cs.length = P.cellsOf t ∧ DataW.trod enc P w base spare held n f0.type ((cs.drop f0.offset).take (P.cellsOf f0.type)) = some y0 ∧ DataW.trod enc P w base spare held n f1.type ((cs.drop f1.offset).take (P.cellsOf f1.type)) = some y1 ∧
      DataW.trod enc P w base spare held n f2.type ((cs.drop f2.offset).take (P.cellsOf f2.type)) = some y2 ∧ DataW.trod enc P w base spare held n f3.type ((cs.drop f3.offset).take (P.cellsOf f3.type)) = some y3 ∧ DataW.trod enc P w base spare held n f4.type ((cs.drop f4.offset).take (P.cellsOf f4.type)) = some y4 := by
  obtain ⟨xs, n, _, rfl, hl, hlen, hf⟩ := DataW.trod_struct ht h
  match xs, hlen with
  | [y0, y1, y2, y3, y4], _ => exact ⟨y0, y1, y2, y3, y4, n, hl, by simpa using hf 0 f0 rfl, by simpa using hf 1 f1 rfl, by simpa using hf 2 f2 rfl, by simpa using hf 3 f3 rfl, by simpa using hf 4 f4 rfl⟩
end
structure OpR5 where
  set_ : Int
  ask : Int
  fd : Int
  n : Int
  data : List UInt8
structure OpR5.ok (o : OpR5) : Prop where
  set_ : -9223372036854775808 ≤ o.set_ ∧ o.set_ ≤ 9223372036854775807
  n : o.n ≤ 9223372036854775807
  data : o.data.length ≤ maxLen
def OpAt (W : World) (b off : Nat) (o : OpR5) : Prop := W.cell? ⟨b, off, none⟩ = some (.int .i64 o.set_) ∧ W.cell? ⟨b, off + 1, none⟩ = some (.int .i64 o.ask) ∧ W.cell? ⟨b, off + 2, none⟩ = some (.int .i64 o.fd) ∧ W.cell? ⟨b, off + 3, none⟩ = some (.int .i64 o.n) ∧ W.cell? ⟨b, off + 4, none⟩ = some (.string ⟨o.data.toArray⟩)
/-- a slice of such elements -/
structure Ops5 (W : World) (v : Value) (L : List OpR5) : Prop where
  len : L.length ≤ maxLen
  shape : ∃ a cap, v = .slice a L.length cap ∧ (0 < L.length → ∃ b off, a = some ⟨b, off, none⟩ ∧ b < W.heap.size ∧ ∀ (i : Nat) (o : OpR5), L[i]? = some o → OpAt W b (off + i * 5) o)
  ok : ∀ (i : Nat) (o : OpR5), L[i]? = some o → o.ok
theorem open_ops5 {H : Type} {enc : TypeId × Value → H} {P : Program} {W : World} {base : Nat} {t e : TypeId} {f0 f1 f2 f3 f4 : Field} {v : Value} {d : DataW H} {ps : List MemPlace} {r : Reach}
    (ht : P.underlying t = some (.slice e)) (he : P.underlying e = some (.struct #[f0, f1, f2, f3, f4])) (hi0 : P.underlying f0.type = some (.int .i64)) (hi1 : P.underlying f1.type = some (.int .i64)) (hi2 : P.underlying f2.type = some (.int .i64)) (hi3 : P.underlying f3.type = some (.int .i64)) (hs4 : P.underlying f4.type = some .string)
    (ho0 : f0.offset = 0) (ho1 : f1.offset = 1) (ho2 : f2.offset = 2) (ho3 : f3.offset = 3) (ho4 : f4.offset = 4) (hc0 : P.cellsOf f0.type = 1) (hc1 : P.cellsOf f1.type = 1) (hc2 : P.cellsOf f2.type = 1) (hc3 : P.cellsOf f3.type = 1) (hc4 : P.cellsOf f4.type = 1) (hc : P.cellsOf e = 5)
    (hval : Value.okWide P W r base t v) (h : DataW.Trod enc P W 0 (fun _ => true) true t v d ps) : ∃ L, Ops5 W v L := by
  obtain ⟨a0, len, cap, rfl⟩ := okWide_slice ht hval
  obtain ⟨fuel, hf⟩ := h
  rcases Go.Deep.open_slice ht hf with ⟨hcs, _⟩ | ⟨a, l, c, m, k, D, Pl, hcs, _, hl, hm, hmm, _, hx⟩
  · simp [Value.cells] at hcs
    obtain ⟨rfl, rfl, rfl⟩ := hcs
    exact ⟨[], by simp, ⟨none, 0, rfl, fun h => by simp at h⟩, fun i o h => by simp at h⟩
  · simp [Value.cells] at hcs
    obtain ⟨rfl, rfl, rfl⟩ := hcs
    simp only [if_true] at hmm
    have each : ∀ i, i < len → ∃ o : OpR5, o.ok ∧ W.cell? (a.add (i * 5)) = some (.int .i64 o.set_) ∧ W.cell? ((a.add (i * 5)).add 1) = some (.int .i64 o.ask) ∧ W.cell? ((a.add (i * 5)).add 2) = some (.int .i64 o.fd) ∧ W.cell? ((a.add (i * 5)).add 3) = some (.int .i64 o.n) ∧ W.cell? ((a.add (i * 5)).add 4) = some (.string ⟨o.data.toArray⟩) := by
      intro i hi
      obtain ⟨cs, h1, h2⟩ := hx i (by omega)
      rw [hc] at h1
      obtain ⟨_, hlen, hcell⟩ := World.cells?_some h1
      obtain ⟨y0, y1, y2, y3, y4, n, _, g0, g1, g2, g3, g4⟩ := trod_struct5 he h2
      rw [ho0, hc0] at g0; rw [ho1, hc1] at g1; rw [ho2, hc2] at g2; rw [ho3, hc3] at g3; rw [ho4, hc4] at g4
      match cs, hlen with
      | [c0, c1, c2, c3, c4], _ =>
        obtain ⟨z0, e0, _, w0⟩ := DataW.trod_int hi0 g0
        obtain ⟨z1, e1, _, w1⟩ := DataW.trod_int hi1 g1
        obtain ⟨z2, e2, _, w2⟩ := DataW.trod_int hi2 g2
        obtain ⟨z3, e3, _, w3⟩ := DataW.trod_int hi3 g3
        obtain ⟨z4, e4, _, w4⟩ := DataW.trod_string hs4 g4
        simp at e0 e1 e2 e3 e4
        subst e0 e1 e2 e3 e4
        obtain ⟨l4, rfl, hl4⟩ := str_list z4 w4
        refine ⟨⟨z0, z1, z2, z3, l4⟩, ⟨wf_i64 w0, (wf_i64 w3).2, hl4⟩, ?_, hcell 1 (by omega), hcell 2 (by omega), hcell 3 (by omega), hcell 4 (by omega)⟩
        have := hcell 0 (by omega)
        simpa [Addr.add] using this
    haveI : Inhabited OpR5 := ⟨⟨0, 0, 0, 0, []⟩⟩
    obtain ⟨f, hf⟩ := Go.Deep.choose_lt (α := OpR5) (p := fun i o => o.ok ∧ W.cell? (a.add (i * 5)) = some (.int .i64 o.set_) ∧ W.cell? ((a.add (i * 5)).add 1) = some (.int .i64 o.ask) ∧ W.cell? ((a.add (i * 5)).add 2) = some (.int .i64 o.fd) ∧ W.cell? ((a.add (i * 5)).add 3) = some (.int .i64 o.n) ∧ W.cell? ((a.add (i * 5)).add 4) = some (.string ⟨o.data.toArray⟩)) each
    have hget : ∀ i o, ((List.range len).map f)[i]? = some o → i < len ∧ f i = o := by
      intro i o h
      rw [List.getElem?_map] at h
      rcases Nat.lt_or_ge i len with h' | h'
      · simp [h'] at h; exact ⟨h', h⟩
      · rw [List.getElem?_eq_none (by simpa using h')] at h; simp at h
    refine ⟨(List.range len).map f, by simp; omega, ⟨some a, cap, by simp, fun hpos => ?_⟩, fun i o h => ?_⟩
    · have hpos' : 0 < len := by simpa using hpos
      have h0 := (hf 0 hpos').2.1
      have ha : a = ⟨a.block, a.off, none⟩ := cell_plain (by simpa [Addr.add] using h0)
      refine ⟨a.block, a.off, by rw [← ha], World.block_lt_of_cell? W a (by simpa [Addr.add] using h0), fun i o h => ?_⟩
      obtain ⟨hi, rfl⟩ := hget i o h
      obtain ⟨_, h1, h2, h3, h4, h5⟩ := hf i hi
      rw [ha, add_mk] at h1 h2 h3 h4 h5
      rw [add_mk] at h2 h3 h4 h5
      exact ⟨h1, h2, h3, h4, h5⟩
    · obtain ⟨hi, rfl⟩ := hget i o h
      exact (hf i hi).1
section
variable {W0 : World} {zp : List Nat} {xp fp N : Nat} {w w' : World}
/-- the row of sets is another one, in its block or a new one -/
theorem St.regrow {G G' : Nat} {o o' : Obj} (h : St W0 zp xp fp N [(G, o)] w) (ht : w.grownBy w' (some G)) (hG' : G' = G ∨ G' = w.heap.size) (ho' : w'.heap[G']? = some o') : St W0 zp xp fp N [(G', o')] w' := by
  obtain ⟨g, s, fl, x, xl, pl, ns, h⟩ := h
  have hpl : pl G = some (.held o) := h.so.2 (G, o) (by simp)
  have hGlt := h.al.po.lt (b := G) (by rw [hpl]; simp)
  obtain ⟨oG, hoG⟩ : ∃ oG, w'.heap[G]? = some oG := ⟨_, Array.getElem?_eq_getElem (Nat.lt_of_lt_of_le hGlt ht.size)⟩
  have hA1 := h.al.turnP hpl (by simp) (by simp) (turned_grown ht) (o' := .held oG) hoG
  have hkeep : ∀ b p, pl b = some p → (∀ q, p ≠ .held q) → updP pl G (.held oG) b = some p := fun b p hb hn => by
    rw [updP_other (by rintro rfl; rw [hpl] at hb; cases hb; exact hn _ rfl)]; exact hb
  have hth1 : ∀ p ∈ g.live, ThOk (updP pl G (.held oG)) p.2 := fun p hp => by
    have hthp := h.lk.things p hp
    obtain ⟨pk, pt⟩ := p
    cases pt with
    | tape c => obtain ⟨z, hz⟩ := hthp; exact ⟨z, hkeep c _ hz (by simp)⟩
    | sink c => obtain ⟨z, r, hz⟩ := hthp; exact ⟨z, r, hkeep c _ hz (by simp)⟩
    | pend c wr => obtain ⟨z, r, q, hz⟩ := hthp; exact ⟨z, r, q, hkeep c _ hz (by simp)⟩
    | file c m => obtain ⟨a', f', k1, k2, hz, k4⟩ := hthp; exact ⟨a', f', k1, k2, hkeep c _ hz (by simp), k4⟩
  have hso1 : ∀ b y r, updP pl G (.held oG) b = some (.sink y r) → y.out.length ≤ 500 * N := fun b y r hb => by
    by_cases e : b = G
    · rw [e, updP_same] at hb; cases hb
    · rw [updP_other e] at hb; exact h.so.1 b y r hb
  rcases hG' with rfl | rfl
  · rw [hoG] at ho'
    cases ho'
    exact ⟨g, s, fl, x, xl, _, ns, ⟨hA1, h.lk.turn hth1 h.lk.tidy, h.fF, h.xX, h.zn, h.zl, ⟨hso1, fun p hp => by simp at hp; subst hp; exact updP_same _ _ _⟩, h.ns⟩⟩
  · have hne : w.heap.size ≠ G := by omega
    have hfr : updP pl G (.held oG) w.heap.size = none := by rw [updP_other hne]; exact h.al.fresh (Nat.le_refl _)
    have hA2 := hA1.addP w.heap.size hfr (.held o') ho' h.al.fs.below.size (fun q => by have := h.al.fs.is.lies.owns_lt q; omega) (fun q => by have := h.al.fx.lies.owns_lt q; omega)
    refine ⟨g, s, fl, x, xl, _, ns, ⟨hA2, h.lk.turn (fun p hp => (hth1 p hp).upd hfr) h.lk.tidy, h.fF, h.xX, h.zn, h.zl, ⟨fun b y r hb => ?_, fun p hp => by simp at hp; subst hp; exact updP_same _ _ _⟩, h.ns⟩⟩
    by_cases e : b = w.heap.size
    · rw [e, updP_same] at hb; cases hb
    · rw [updP_other e] at hb; exact hso1 b y r hb
/-- when every number of every set is shut -/
theorem ended {H : List (Nat × Obj)} {sets : List (List (Option Nat))} {xl : XId → Nat} (h : StX W0 zp xp fp N H sets xl w) (hs : ∀ l ∈ sets, ∀ k, some k ∉ l) :
    Calls Tryz.prog 9 #[ptrOf xp] w (fun e w' => e = .returned (.int .i64 0) ∧ w = w') ∧ ∃ s fl d, FsIn W0 s fl w ∧ Tidy s (fun _ => 0) ∧ fl .F = fp ∧ s.dr 1 = some d := by
  obtain ⟨g, s, fl, x, pl, ns, h, rfl⟩ := h
  have hlive : g.live = [] := by
    cases hl : g.live with
    | nil => rfl
    | cons p l =>
      have := (h.lk.live p (by rw [hl]; simp)).2
      rw [cntS_zero (fun l hl => hs l hl p.1)] at this
      omega
  have hm := h.lk.many
  rw [hlive] at hm
  have ht := h.lk.tidy
  have hu : users g.live = fun _ => 0 := by rw [hlive]; rfl
  rw [hu] at ht
  obtain ⟨d, b, hds, _, _⟩ := ht.dir
  refine ⟨?_, s, fl, d, h.al.fs, ht, h.fF, ?_⟩
  · have c1 := h.al.fx.x1
    rw [h.xX, hm] at c1
    clear h hm ht hu hs hlive hds
    unfold ptrOf
    go_enter Tryz.func9, Tryz.ntmps9
    go_wp2_with fail
    go_ret
    exact ⟨rfl, rfl⟩
  · unfold Fs.dr; rw [hds]; rfl
end
end Go.Proofs.YtomjjedgmnkciaaGreatDoor
/- FdsEnds: what its loops keep. -/
namespace Go.Proofs.YtomjjedgmnkciaaGreatDoor
open Go.RowKit Go.WideShapes IntWalk
set_option linter.unusedVariables false
set_option linter.unusedSimpArgs false

def rowZ (cur : Array Value) : Obj := .cells cur 25 (0, 0)
/-- a row of sets -/
structure RowZ (zp : List Nat) (cap : Nat) (cur : Array Value) : Prop where
  le : zp.length ≤ cap
  capM : cap ≤ maxLen
  size : cur.size = cap
  row : cur.toList.take zp.length = zp.map ptrOf
theorem RowZ.at {zp : List Nat} {cap : Nat} {cur : Array Value} (h : RowZ zp cap cur) {j zb : Nat} (hj : zp[j]? = some zb) : cur[j]? = some (ptrOf zb) := by
  have hlt := (List.getElem?_eq_some_iff.1 hj).1
  have h1 : (cur.toList.take zp.length)[j]? = some (ptrOf zb) := by rw [h.row, List.getElem?_map, hj]; rfl
  rw [List.getElem?_take_of_lt hlt, Array.getElem?_toList] at h1
  exact h1
theorem RowZ.own {zp : List Nat} {cap G : Nat} {cur : Array Value} {w : World} {base : Nat} (h : RowZ zp cap cur) (hG : w.heap[G]? = some (rowZ cur)) (hb : base ≤ G) : w.ownsRow base 25 1 (.slice (some ⟨G, 0, none⟩) zp.length cap) zp.length (zp.map ptrOf) :=
  ⟨by simp, .inr ⟨G, cap, cur, rfl, hb, hG, h.le, h.capM, by rw [h.size, Nat.mul_one], by rw [Nat.mul_one]; exact h.row⟩⟩
theorem RowZ.of {zp : List Nat} {w : World} {base : Nat} {v : Value} (h : w.ownsRow base 25 1 v zp.length (zp.map ptrOf)) (hz : 0 < zp.length) : ∃ G cap cur, v = .slice (some ⟨G, 0, none⟩) zp.length cap ∧ w.heap[G]? = some (rowZ cur) ∧ RowZ zp cap cur := by
  obtain ⟨hxs, hr⟩ := h
  rcases hr with ⟨rfl, hn⟩ | ⟨g, cap, cur, rfl, hbg, hg, h1, h2, h3, h4⟩
  · omega
  · exact ⟨g, cap, cur, rfl, hg, h1, h2, by rw [h3, Nat.mul_one], by rw [Nat.mul_one] at h4; exact h4⟩
theorem info_pz : (Tryz.prog.info? 25).map (fun i => (i.zero, i.size, i.bytes)) = some (some (.pointer none), 1, 8) := by kernel_rfl
/-- 'append(sets, s)': one set, that the statement has just laid in a new block -/
theorem append_z {ops : Array Oper} {rest : List Oper} {o : Oper} {a : Act} {Q : Exit → Act → World → Prop} {w : World} (hgd : o.guard = none) (s x : Operand)
    (ho : o.op = .call { callee := .builtin .append, args := #[s, x], argTypes := #[30, 30] }) (base : Nat) (v : Value) (zp : List Nat) (hs : a.eval s = v) (hown : w.ownsRow base 25 1 v zp.length (zp.map ptrOf))
    (b : Nat) (hx : a.eval x = .slice (some ⟨w.heap.size, 0, none⟩) 1 1) (hlen : zp.length + 1 ≤ 1000000000000) (hbase : base ≤ w.heap.size)
    (h : ∀ v' w', w'.ownsRow base 25 1 v' (zp ++ [b]).length ((zp ++ [b]).map ptrOf) → (w.alloc (.cells #[ptrOf b] 25)).grownBy w' v.ownBlock → (v'.ownBlock = v.ownBlock ∨ v'.ownBlock = some (w.heap.size + 1)) → wpList Tryz.prog ops Q rest (a.put o.dst v') w') :
    wpList Tryz.prog ops Q (o :: rest) a (w.alloc (.cells #[ptrOf b] 25)) := by
  obtain ⟨i0, hi, hz0, hz1, hz2⟩ := info_parts info_pz
  have hsz : (w.alloc (.cells #[ptrOf b] 25)).heap.size = w.heap.size + 1 := by simp
  refine wpList_append_own_at _ hgd s x 30 ho base 25 i0 (.pointer none) 1 8 (by kernel_rfl) hi hz0 hz1 hz2 rfl (by omega) v zp.length _ hs (World.ownsRow.alloc hown _) ⟨w.heap.size, 0, none⟩ 1 1 [ptrOf b] hx rfl (cell_one_new _ _ _) ?_ (by simp only [maxLen]; omega) (by omega) (by rw [hsz]; omega) ?_
  · intro u hu; simp at hu; subst hu; rfl
  · intro v' w' h1 h2 _ h4
    rw [hsz] at h4
    refine h v' w' ?_ h2 h4
    simpa using h1
end Go.Proofs.YtomjjedgmnkciaaGreatDoor
/- Names are taken away, one by one: plain; what the last loop keeps. -/
namespace Go.Proofs.YtomjjedgmnkciaaGreatDoor
open Go.RowKit Go.WideShapes IntWalk
set_option linter.unusedVariables false
set_option linter.unusedSimpArgs false

theorem delE_names {t : List UInt8} : ∀ {l : List (Key × Value × Nat)}, (∀ e ∈ l, ∃ u, e.1 = .str u) → (delE (.str t) l).map nameOf = (l.map nameOf).erase t
  | [], _ => by simp [delE]
  | e :: l, h => by
    obtain ⟨u, hu⟩ := h e (by simp)
    have ih := delE_names (t := t) (l := l) (fun x hx => h x (by simp [hx]))
    have hn : nameOf e = u := by unfold nameOf; rw [hu]
    unfold delE
    rw [hu, List.map_cons, hn, List.erase_cons]
    by_cases q : u = t
    · subst q; simp
    · have hk : ¬ (Key.str u = Key.str t) := fun z => q (by cases z; rfl)
      rw [if_neg hk, if_neg (by simpa using q), List.map_cons, hn, ih]
/-- one name is taken away -/
structure Takes (W : World) (F : Nat) (v : Value) (ss : List (List UInt8)) (q : Nat) (V : World) : Prop where
  ex : ∃ s fl d, FsIn W s fl V ∧ Tidy s (fun _ => 0) ∧ fl .F = F ∧ s.dr 1 = some d ∧ (d.names.es.map nameOf).Perm (ss.drop q) ∧ ∀ g, v.ownBlock = some g → ¬ Owns (s.obj fl) fl g ∧ g < V.heap.size
  own : V.ownsRow W.heap.size 9 1 v ss.length (ss.map encStr)
theorem namesT_of {s : Fs} {d : Dr} (hT : Tidy s (fun _ => 0)) (hd : s.dr 1 = some d) : NamesT s d := by
  obtain ⟨d0, b0, hds, hpar, hnm⟩ := hT.dir
  have hdd : d0 = d := by
    unfold Fs.dr at hd
    rw [hds] at hd
    cases hd; rfl
  rw [← hdd]; exact hnm
theorem Takes.step {W : World} (hE : EnvG W) {F : Nat} {v : Value} {ss : List (List UInt8)} {q : Nat} {V : World} (h : Takes W F v ss q V) {t : List UInt8} (ht : ss[q]? = some t) :
    Calls Tryz.prog 13 #[ptrTo F, .int .i64 1, .string ⟨t.toArray⟩] V fun e w' => e = .returned (.int .i64 0) ∧ Takes W F v ss (q + 1) w' := by
  obtain ⟨⟨s, fl, d, hF, hT, rfl, hd, hp, ho⟩, hown⟩ := h
  have hnm := namesT_of hT hd
  have hdrop : ss.drop q = t :: ss.drop (q + 1) := by
    rw [← List.getElem_cons_drop (List.getElem?_eq_some_iff.1 ht).1]
    rw [(List.getElem?_eq_some_iff.1 ht).2]
  rw [hdrop] at hp
  have hmem : t ∈ d.names.es.map nameOf := hp.symm.subset (by simp)
  obtain ⟨e, he, hne⟩ := List.mem_map.1 hmem
  obtain ⟨u, i, e1, e2, hg, _, _⟩ := hnm.ent e he
  have hu : u = t := by rw [← hne]; unfold nameOf; rw [e1]
  subst hu
  obtain ⟨e1', e2', n⟩ := e
  dsimp only at e1 e2
  subst e1 e2
  obtain ⟨k1, k2, k3⟩ := hT.unlink hd he
  have hl := hg.2.2.2.2
  refine (unlink_any hE 1 u (by omega) V hF).mono ?_
  rintro x w' ⟨rfl, hst⟩
  refine ⟨by rw [k1], ⟨_, fl, _, hF.step hst k2.whole, k2, rfl, k3, ?_, fun g hg' => ⟨fun q => ?_, Nat.lt_of_lt_of_le (ho g hg').2 hst.turned.size⟩⟩, ?_⟩
  · show ((delE (.str u) d.names.es).map nameOf).Perm _
    rw [delE_names (fun x hx => by obtain ⟨z, _, z1, _⟩ := hnm.ent x hx; exact ⟨z, z1⟩)]
    have := hp.erase u
    simpa using this
  · rcases hst.own g q with z | z
    · exact (ho g hg').1 z
    · have := (ho g hg').2; omega
  · obtain ⟨hxs, hr⟩ := hown
    refine ⟨hxs, ?_⟩
    rcases hr with ⟨rfl, hn⟩ | ⟨g, cap, cur, rfl, hbg, hg2, hr⟩
    · exact .inl ⟨rfl, hn⟩
    · exact .inr ⟨g, cap, cur, rfl, hbg, (hst.turned.block g (ho g rfl).2 (ho g rfl).1).trans hg2, hr⟩
theorem Takes.cell {W : World} {F : Nat} {v : Value} {ss : List (List UInt8)} {q : Nat} {V : World} (h : Takes W F v ss q V) {t : List UInt8} (ht : ss[q]? = some t) : ∃ g cap, v = .slice (some ⟨g, 0, none⟩) ss.length cap ∧ V.cell? ⟨g, q, none⟩ = some (.string ⟨t.toArray⟩) := by
  obtain ⟨_, hxs, hr⟩ := h
  have hlt := (List.getElem?_eq_some_iff.1 ht).1
  rcases hr with ⟨rfl, hn⟩ | ⟨g, cap, cur, rfl, hbg, hg2, h1, h2, h3, h4⟩
  · omega
  · refine ⟨g, cap, rfl, ?_⟩
    have h5 : (cur.toList.take (ss.length * 1))[q]? = some (.string ⟨t.toArray⟩) := by rw [h4, List.getElem?_map, ht]; rfl
    rw [List.getElem?_take_of_lt (by omega), Array.getElem?_toList] at h5
    simp [World.cell?, hg2, h5]
theorem Takes.form {W : World} {F : Nat} {v : Value} {ss : List (List UInt8)} {q : Nat} {V : World} (h : Takes W F v ss q V) : ∃ p c, v = .slice p ss.length c := by
  obtain ⟨_, hxs, hr⟩ := h
  rcases hr with ⟨rfl, hn⟩ | ⟨g, cap, cur, rfl, _⟩
  · exact ⟨none, 0, by rw [hn]⟩
  · exact ⟨_, cap, rfl⟩
/-- when no name is left -/
theorem Takes.done {W : World} {F : Nat} {v : Value} {ss : List (List UInt8)} {V : World} (h : Takes W F v ss ss.length V) :
    Calls Tryz.prog 5 #[ptrTo F] V (fun e w2 => e = .returned (.tuple #[.int .i64 8, .int .i64 20]) ∧ V = w2) ∧ Below W.heap.size W V := by
  obtain ⟨⟨s, fl, d, hF, hT, rfl, hd, hp, ho⟩, hown⟩ := h
  rw [List.drop_length] at hp
  have he : d.names.es = [] := by
    have := hp.length_eq
    simp at this
    exact this
  obtain ⟨h1, h2⟩ := hT.empty hd he
  have := nfree_any V hF.is
  rw [h1, h2] at this
  exact ⟨this, hF.below⟩
theorem takes_start {W : World} {F : Nat} {s : Fs} {fl : FId → Nat} {d : Dr} {w w' : World} {v : Value} (hF : FsIn W s fl w) (hT : Tidy s (fun _ => 0)) (hf : fl .F = F) (hd : s.dr 1 = some d) (hl : Listed w w' (d.names.es.map nameOf) v) : ∃ ss, Takes W F v ss 0 w' ∧ ss.length ≤ 10 := by
  obtain ⟨hb, ss, hp, hown⟩ := hl
  have hlow := hF.below.size
  have hlen := len9 hT.len (namesT_of hT hd)
  refine ⟨ss, ⟨⟨s, fl, d, ⟨⟨hF.is.lies.turned (Turned.of_below hb : Turned (fun _ => False) w w') (fun _ _ q => q), hF.is.ok⟩, hF.low, hF.below.trans (hb.mono hlow), hF.whole⟩, hT, hf, hd, hp.symm, fun g hg => ⟨fun q => ?_, (World.ownsRow.lt hown g hg).2⟩⟩, ?_⟩, by have := hp.length_eq; simp at this; omega⟩
  · have h1 := hF.is.lies.owns_lt q
    have h2 := (World.ownsRow.lt hown g hg).1
    omega
  · obtain ⟨hxs, hr⟩ := hown
    refine ⟨hxs, ?_⟩
    rcases hr with ⟨rfl, hn⟩ | ⟨g, cap, cur, rfl, hbg, hr⟩
    · exact .inl ⟨rfl, hn⟩
    · exact .inr ⟨g, cap, cur, rfl, by omega, hr⟩
end Go.Proofs.YtomjjedgmnkciaaGreatDoor
