/- Texts of one proof, packed: WwC, WwD, WwE, WwF, WwG -/
import Derived.Test.YtelohloaoocoaaaGreatDoorM03
set_option linter.unusedVariables false
set_option linter.unusedSimpArgs false
set_option linter.deprecated false
set_option linter.unnecessarySimpa false
/- family.Next: a child's further steps. -/
namespace Go.Proofs.YtelohloaoocoaaaGreatDoor
open Go.RowKit IntWalk
set_option linter.unusedVariables false
set_option linter.unusedSimpArgs false
set_option linter.unnecessarySimpa false

theorem wx_newA {s : Wx} {lay lay' : WId → Nat} {w : World} {I : Type} {c0 : I → Option Obj} {lay0 : I → Nat} {w0 : World} (h : GStep c0 lay0 w0 (s.obj lay) lay w) {i : Int} (hi : i ∈ s.m.keys) (cap : Nat) (cs : Array Value) (tl : List (List UInt8)) (hl : ∀ j, lay' j = if j = .A i then w.heap.size else lay j) :
    GStep c0 lay0 w0 ((s.setQ i ((s.qs i).withFp { (s.qs i).fp with tl := tl, own := some (cap, cs) })).obj lay') lay' ((w.drew.alloc (.cells cs 9)).setCell ⟨lay (.F i), 0, none⟩ (.slice (some ⟨w.heap.size, 0, none⟩) s.ol.length cap)) := by
  have hF : lay' (.F i) = lay (.F i) := by rw [hl, if_neg (by simp)]
  have hA : lay' (.A i) = w.heap.size := by rw [hl, if_pos rfl]
  have hX : lay' .X = lay .X := by rw [hl, if_neg (by simp)]
  have hM : lay' .M = lay .M := by rw [hl, if_neg (by simp)]
  have hQ : ∀ j, lay' (.Q j) = lay (.Q j) := fun j => by rw [hl, if_neg (by simp)]
  have hFj : ∀ j, lay' (.F j) = lay (.F j) := fun j => by rw [hl, if_neg (by simp)]
  have hov : s.ov lay' = s.ov lay := by unfold Wx.ov; rw [hX]
  have htv : ∀ j, j ≠ i → s.tv lay' j = s.tv lay j := fun j hj => by
    unfold Wx.tv
    cases (s.qs j).fp.own with
    | none => exact hov
    | some p => simp only [hl (.A j), if_neg (show WId.A j ≠ .A i by simp [hj])]
  have h1 := (h.drew).new (c3 := fun j => if j = .A i then some (.cells cs 9 (0, 0)) else s.obj lay j) (lay3 := lay') (.A i) (.cells cs 9 (0, 0)) (fun j => rfl) hl
  rw [← hF]
  refine h1.set (i := .F i) (cs := fpV (s.tv lay i) (s.qs i).fp) (ty := 66) (fz := (0, 0)) (by simp [Wx.obj_f hi]) 0 _ (fun j => ?_)
  cases j with
  | W => simp [Wx.obj, Wx.setQ, hM]
  | M => simp [Wx.obj, Wx.setQ, hQ]
  | X => simp [Wx.obj, Wx.setQ]
  | Q a =>
    by_cases e : a = i
    · subst e; simp [Wx.obj, Wx.setQ, Qs.withFp, qsV, hFj, hi]
    · simp [Wx.obj, Wx.setQ, e, hFj]
  | F a =>
    by_cases e : a = i
    · subst e; simp [Wx.obj, Wx.setQ, Qs.withFp, fpV, hi, Wx.tv, hA]
    · have := wx_tv_other s lay' i a ((s.qs i).withFp { (s.qs i).fp with tl := tl, own := some (cap, cs) }) e
      simp only [Wx.obj, reduceCtorEq, if_false, WId.F.injEq, e]
      rw [this, htv a e]
      simp [Wx.setQ, e]
  | A a =>
    by_cases e : a = i
    · subst e; simp [Wx.obj, Wx.setQ, Qs.withFp, hi]
    · simp [Wx.obj, Wx.setQ, e]
/-- a text of a row of its own -/
theorem wx_setA {s : Wx} {lay : WId → Nat} {w : World} {I : Type} {c0 : I → Option Obj} {lay0 : I → Nat} {w0 : World} (h : GStep c0 lay0 w0 (s.obj lay) lay w) {i : Int} (hi : i ∈ s.m.keys) {cap : Nat} {cs : Array Value} (ho : (s.qs i).fp.own = some (cap, cs)) (k : Nat) (v : Value) (tl : List (List UInt8)) :
    GStep c0 lay0 w0 ((s.setQ i ((s.qs i).withFp { (s.qs i).fp with tl := tl, own := some (cap, cs.setIfInBounds k v) })).obj lay) lay (w.setCell ⟨lay (.A i), k, none⟩ v) :=
  h.set (i := .A i) (cs := cs) (ty := 9) (fz := (0, 0)) (by simp [Wx.obj, hi, ho]) k v (fun j => by
    cases j with
    | Q a => by_cases e : a = i
             · subst e; simp [Wx.obj, Wx.setQ, Qs.withFp, hi, qsV]
             · simp [Wx.obj, Wx.setQ, e]
    | F a => by_cases e : a = i
             · subst e; simp [Wx.obj, Wx.setQ, Qs.withFp, hi, fpV, Wx.tv, ho]
             · have := wx_tv_other s lay i a ((s.qs i).withFp { (s.qs i).fp with tl := tl, own := some (cap, cs.setIfInBounds k v) }) e
               simp only [Wx.obj, reduceCtorEq, if_false]
               rw [this]
               simp [Wx.setQ, e]
    | A a => by_cases e : a = i
             · subst e; simp [Wx.obj, Wx.setQ, Qs.withFp, hi]
             · simp [Wx.obj, Wx.setQ, e]
    | _ => simp [Wx.obj, Wx.setQ])
theorem info_strp : (Tryz.prog.info? 9).map (fun i => (i.zero, i.size, i.bytes)) = some (some (.string ByteArray.empty), 1, 16) := by kernel_rfl
/-- append to an empty slice that is not nil -/
theorem append_new {w : World} (ty : TypeId) (b0 b cap : Nat) (tl : List (List UInt8)) (hb : ∀ (k : Nat) (x : List UInt8), tl[k]? = some x → w.cell? ⟨b, k, none⟩ = some (strV x)) (h0 : 0 < tl.length) (h8 : tl.length ≤ 1000) :
    ∃ cap' cs, (Builtin.append_ #[33, 33] ty #[.slice (some ⟨b0, 0, none⟩) 0 0, .slice (some ⟨b, 0, none⟩) tl.length cap]).run Tryz.prog w = .ok (.slice (some ⟨w.heap.size, 0, none⟩) tl.length cap') (w.drew.alloc (.cells cs 9)) ∧ tl.length ≤ cap' ∧ cap' ≤ maxLen ∧ cs.size = cap' ∧ cs.toList.take tl.length = tl.map strV := by
  obtain ⟨i, hi, hz, hsz, hby⟩ := info_parts info_strp
  have hr := run_append_grow (P := Tryz.prog) w 33 ty 9 i (.string ByteArray.empty) (by kernel_rfl) hi hz ⟨b0, 0, none⟩ 0 0 [] (by simp) (fun j v hj => by simp at hj) ⟨b, 0, none⟩ tl.length cap (tl.map strV) (by rw [List.length_map, hsz, Nat.mul_one]) (fun j u hj => by
    rw [List.getElem?_map] at hj
    cases hx : tl[j]? with
    | none => rw [hx] at hj; cases hj
    | some x =>
      rw [hx] at hj; cases hj
      have hadd : (⟨b, 0, none⟩ : Addr).add j = ⟨b, j, none⟩ := by unfold Addr.add; split <;> simp_all
      rw [hadd]; exact hb j x hx) (by omega) (by omega) (by rw [hby]; exact growslice_fits (by omega) (by omega))
  simp only [Nat.zero_add] at hr
  have hg : tl.length ≤ grownCap w tl.length 0 9 ∧ grownCap w tl.length 0 9 ≤ maxLen := ⟨grownCap_ge w _ _ _, grownCap_le_maxLen w _ _ _ (by simp only [maxLen]; omega)⟩
  refine ⟨_, _, hr, hg.1, hg.2, ?_, ?_⟩
  · have hz1 : (Value.string ByteArray.empty).cells.size = 1 := rfl
    simp only [Array.size_append, List.size_toArray, size_zeroCells, hz1, List.length_map, List.length_nil]
    omega
  · simp only [Array.toList_append, List.nil_append]
    rw [List.take_left' (by simp)]
/-- all lies where it lay, but for rows of texts -/
def Keeps (lay lay' : WId → Nat) : Prop := ∀ j, (∀ a, j ≠ WId.A a) → lay' j = lay j
theorem setQ_setQ (s : Wx) (i : Int) (a b : Qs) : (s.setQ i a).setQ i b = s.setQ i b := by
  unfold Wx.setQ
  simp only [Wx.mk.injEq, true_and, and_true]
  funext j
  by_cases e : j = i <;> simp [e]
theorem setQ_qs (s : Wx) (i : Int) (a : Qs) : (s.setQ i a).qs i = a := by simp [Wx.setQ]
theorem withFp_fp (q : Qs) (p : Fp) : (q.withFp p).fp = p := rfl
theorem withFp_withFp (q : Qs) (a b : Fp) : (q.withFp a).withFp b = q.withFp b := rfl
theorem wx_live {s : Wx} {lay lay' : WId → Nat} {i : Int} {q q' : Qs} {j : WId} (hj : j ≠ .A i) (h : (s.setQ i q).obj lay' j ≠ none) : (s.setQ i q').obj lay j ≠ none := by
  cases j with
  | W => simp [Wx.obj]
  | M => simp [Wx.obj]
  | X => intro e; apply h; simp only [Wx.obj, Wx.setQ] at e ⊢; exact e
  | Q a =>
    by_cases ha : a ∈ s.m.keys
    · rw [Wx.obj_q (show a ∈ (s.setQ i q').m.keys from ha)]; simp
    · exfalso; apply h; simp only [Wx.obj]; rw [if_neg (show a ∉ (s.setQ i q).m.keys from ha)]
  | F a =>
    by_cases ha : a ∈ s.m.keys
    · rw [Wx.obj_f (show a ∈ (s.setQ i q').m.keys from ha)]; simp
    · exfalso; apply h; simp only [Wx.obj]; rw [if_neg (show a ∉ (s.setQ i q).m.keys from ha)]
  | A a =>
    have hai : a ≠ i := fun e => hj (by rw [e])
    intro e; apply h; simp only [Wx.obj, Wx.setQ, if_neg hai] at e ⊢; exact e
theorem RowOk.set {tl : List (List UInt8)} {cap : Nat} {cs : Array Value} (h : RowOk tl (some (cap, cs))) (k : Nat) (d : List UInt8) (hk : k < tl.length) : RowOk (tl.set k d) (some (cap, cs.setIfInBounds k (strV d))) := by
  obtain ⟨h1, h2, h3, h4⟩ := h
  refine ⟨by simpa using h1, h2, by simpa using h3, ?_⟩
  rw [List.length_set, Array.toList_setIfInBounds, List.map_set, ← h4, List.take_set]
theorem Wx.Ok.setOwn {s : Wx} (h : s.Ok) {i : Int} {q : Qs} (h1 : q.fp.tl.length = s.ol.length) (h2 : q.fp.own ≠ none) (h3 : RowOk q.fp.tl q.fp.own) : (s.setQ i q).Ok := by
  refine ⟨h.m, h.x, fun j hj => ?_⟩
  by_cases e : j = i
  · subst e
    simp only [Wx.setQ, if_pos]
    exact ⟨h1, fun q0 => absurd q0 h2, fun _ => h3⟩
  · simp only [Wx.setQ, if_neg e]; exact h.a j hj
/-- the texts laid anew, by what that leaves -/
theorem fresh_texts {s : Wx} {lay : WId → Nat} {w : World} {I : Type} {c0 : I → Option Obj} {lay0 : I → Nat} {w0 : World} (G : GStep c0 lay0 w0 (s.obj lay) lay w) {i : Int} (hi : i ∈ s.m.keys) (n : Nat) (hno : s.ol.length = n) (hn : 0 < n) (h8 : n ≤ 1000) (b cap : Nat) (htl : (s.qs i).fp.tl.length = n)
    (hcells : ∀ (k : Nat) (x : List UInt8), (s.qs i).fp.tl[k]? = some x → w.cell? ⟨b, k, none⟩ = some (strV x)) (hb : b < w.heap.size) :
    ∃ bn cap' cs w4 lay', (Builtin.append_ #[33, 33] 33 #[.slice (some ⟨w.heap.size, 0, none⟩) 0 0, .slice (some ⟨b, 0, none⟩) n cap]).run Tryz.prog (w.alloc (.cells #[] 9)) = .ok (.slice (some ⟨bn, 0, none⟩) n cap') w4 ∧
      Below w.heap.size w w4 ∧ w4.heap[bn]? = some (.cells cs 9 (0, 0)) ∧ w.heap.size < bn ∧ RowOk (s.qs i).fp.tl (some (cap', cs)) ∧ lay' (.A i) = bn ∧ (∀ j, j ≠ .A i → lay' j = lay j) ∧
      GStep c0 lay0 w0 ((s.setQ i ((s.qs i).withFp { (s.qs i).fp with own := some (cap', cs) })).obj lay') lay' (w4.setCell ⟨lay (.F i), 0, none⟩ (.slice (some ⟨bn, 0, none⟩) n cap')) := by
  obtain ⟨cap', cs, hrun, r1, r2, r3, r4⟩ := append_new (w := w.alloc (.cells #[] 9)) 33 w.heap.size b cap (s.qs i).fp.tl (fun j x hx => by
    rw [World.cell?_of_block (w := w) (Below.heap_alloc w _ _ hb)]
    exact hcells j x hx) (by omega) (by omega)
  have K4 := wx_newA (lay' := fun j => if j = .A i then (w.alloc (.cells #[] 9)).heap.size else lay j) (G.alloc (.cells #[] 9)) hi cap' cs (s.qs i).fp.tl (fun j => rfl)
  rw [hno] at K4
  rw [htl] at hrun
  exact ⟨_, cap', cs, _, _, hrun, (((Below.refl _ w).alloc (Nat.le_refl _) _).drew).alloc (by simp) _, Array.getElem?_push_size, by simp, ⟨r1, r2, r3, r4⟩, if_pos rfl, fun j hj => if_neg hj, K4⟩
set_option maxHeartbeats 1000000 in
set_option maxRecDepth 100000 in
theorem next_child2 {s lay} (i : Int) (re rm : Int) (k rn : Nat) (t : List UInt8) (w : World) (h : WxIs s lay w) (hi : i ∈ s.m.keys) (hc : (s.qs i).fp.child = true) (hat : (s.qs i).fp.at_ = k) (hs0 : 2 ≤ (s.qs i).fp.step) (hs1 : (s.qs i).fp.step ≤ 100000) (ht : (s.qs i).fp.tl[k]? = some t) (hrn : rn ≤ t.length) (htl : t.length ≤ 1000) (hp0 : 1 ≤ (s.qs i).fp.pieces) (hp1 : (s.qs i).fp.pieces ≤ 1000) (hn : s.ol.length ≤ 8) :
    Calls Tryz.prog 296 #[ptrOf (lay (.F i)), .agg (rpV re rn rm)] w fun e w' => e = .returned (.agg (clV (askK (t.drop rn)) (askF (k : Int) (t.drop rn)) (askD (s.qs i).fp.pieces (t.drop rn)))) ∧
      ∃ own lay', WStep s lay w (s.setQ i ((s.qs i).withFp { (s.qs i).fp with step := (s.qs i).fp.step + 1, tl := (s.qs i).fp.tl.set k (t.drop rn), own := own })) lay' w' ∧ Keeps lay lay' := by
  have hkl : k < s.ol.length := by rw [← (h.ok.a i hi).1]; exact (List.getElem?_eq_some_iff.1 ht).1
  obtain ⟨t', ht'⟩ : ∃ t', t.drop rn = t' := ⟨_, rfl⟩
  have htl' : t'.length ≤ 1000 := by rw [← ht', List.length_drop]; omega
  rw [ht']
  have HTT := Lib.hid ht'
  clear ht'
  obtain ⟨p, hp⟩ : ∃ p, (s.qs i).fp = p := ⟨_, rfl⟩
  obtain ⟨st, hst⟩ : ∃ st, p.step = st := ⟨_, rfl⟩
  obtain ⟨pc, hpc⟩ : ∃ pc, p.pieces = pc := ⟨_, rfl⟩
  rw [hp] at hc hat hs0 hs1 ht hp0 hp1 ⊢
  rw [hst] at hs0 hs1 ⊢
  rw [hpc] at hp0 hp1 ⊢
  have H := Lib.hid h
  have HT := Lib.hid ht
  have HP := Lib.hid hp
  have HST := Lib.hid hst
  have HC := Lib.hid (And.intro hc (And.intro hat hpc))
  have hfl := wx_fl h.lies hi
  have hk8 : (k : Int) < s.ol.length := by omega
  have hks : (k : Int) ≤ 8 := by omega
  unfold ptrOf rpV clV at *
  clear h ht hc hat hp hst hpc
  go_enter Tryz.func296, Tryz.ntmps296
  go_upto_region 1 with fail
  obtain ⟨w1, hw1, hB1, hb3, hb4, hz1⟩ := two_newG w (.cells #[.int .i64 re, .int .i64 rn, .int .i64 rm, .string ByteArray.empty, .slice none 0 0, .int .i64 0, .int .i64 0, .int .i64 0] 37) (.cells #[.int .i64 0, .int .i64 0, .int .i64 0, .string ⟨#[]⟩, .string ⟨#[]⟩] 31)
  rw [hw1]
  clear hw1
  have I1 := H.out.below hB1
  have n3 := H.out.lies.fresh (Nat.le_refl w.heap.size)
  have n4 := H.out.lies.fresh (Nat.le_succ w.heap.size)
  have c3 := wx_f I1.lies hi (k := 3) (v := .bool p.child) (by rw [HP.out]; rfl)
  have c5 := wx_f I1.lies hi (k := 5) (v := .int .i64 p.step) (by rw [HP.out]; rfl)
  have f5 := wx_ff I1.lies hi 5
  rw [HC.out.1] at c3
  rw [HST.out] at c5
  have K1 := wx_setF (GStep.refl I1.lies) hi 5 (.int .i64 (st + 1)) { p with step := st + 1 } (by rw [HP.out]) (by rw [HP.out]; simp [fpV])
  have hm3 := K1.fresh n3 (by omega)
  have hm4 := K1.fresh n4 (by omega)
  have g3 := (((Aside.refl (lay (.F i)) w1).set 5 (.int .i64 (st + 1))).block w.heap.size (by omega)).trans hb3
  have g4 := (((Aside.refl (lay (.F i)) w1).set 5 (.int .i64 (st + 1))).block (w.heap.size + 1) (by omega)).trans hb4
  have HK1 := Lib.hid (((GStep.refl H.out.lies).below hB1).trans K1)
  have HG3 := Lib.hid g3
  have HG4 := Lib.hid g4
  have HM := Lib.hid (And.intro hm3 hm4)
  clear K1 hm3 hm4 g3 g4 hb3 hb4 n3 n4 I1 hB1 hz1
  go_upto_region 3 with fail
  generalize w1.setCell ⟨lay (.F i), 5, none⟩ (.int .i64 (st + 1)) = w2 at *
  clear c3 c5 f5
  have I2 : WxIs (s.setQ i ((s.qs i).withFp { p with step := st + 1 })) lay w2 := ⟨HK1.out.lies, H.out.ok.setQ _ (by rw [HP.out]; rfl) (by rw [HP.out]; rfl)⟩
  obtain ⟨b, cap, htv, hcap, hbl, hcells, hbF, hbQ⟩ := wx_row I2.lies I2.ok hi (show 0 < s.ol.length by omega)
  have ct := hcells k t (by simpa [Wx.setQ, Qs.withFp] using HT.out)
  have c0 := wx_f I2.lies hi (k := 0) (v := (s.setQ i ((s.qs i).withFp { p with step := st + 1 })).tv lay i) rfl
  have c1 := wx_f I2.lies hi (k := 1) (v := .int .i64 pc) (by simp [Wx.setQ, Qs.withFp, fpV, HC.out.2.2])
  have c2 := wx_f I2.lies hi (k := 2) (v := .int .i64 k) (by simp [Wx.setQ, Qs.withFp, fpV, HC.out.2.1])
  have c5 := wx_f I2.lies hi (k := 5) (v := .int .i64 (st + 1)) (by simp [Wx.setQ, Qs.withFp, fpV])
  rw [htv] at c0
  have HCE := Lib.hid hcells
  have HI2 := Lib.hid I2
  unfold strV at ct
  clear I2 htv hcells
  have hol : s.ol.length = (s.setQ i ((s.qs i).withFp { p with step := st + 1 })).ol.length := rfl
  rw [← hol] at c0 hcap
  clear hol
  obtain ⟨n, hnn⟩ : ∃ n, s.ol.length = n := ⟨_, rfl⟩
  have HNN := Lib.hid hnn
  rw [hnn] at hn hkl hk8 c0 hcap
  clear hnn
  go_quiet (fail)
  have d0 : (w2.drewN nq).cell? ⟨lay (.F i), 0, none⟩ = _ := c0
  have d1 : (w2.drewN nq).cell? ⟨lay (.F i), 1, none⟩ = _ := c1
  have d2 : (w2.drewN nq).cell? ⟨lay (.F i), 2, none⟩ = _ := c2
  have d5 : (w2.drewN nq).cell? ⟨lay (.F i), 5, none⟩ = _ := c5
  have HI3 := Lib.hid (HK1.out.drewN nq)
  have HCE3 := Lib.hid (show ∀ (k : Nat) (x : List UInt8), ((s.setQ i ((s.qs i).withFp { p with step := st + 1 })).qs i).fp.tl[k]? = some x → (w2.drewN nq).cell? ⟨b, k, none⟩ = some (strV x) from HCE.out)
  have HG3' := Lib.hid (show (w2.drewN nq).heap[w.heap.size]? = _ from HG3.out)
  have HG4' := Lib.hid (show (w2.drewN nq).heap[w.heap.size + 1]? = _ from HG4.out)
  obtain ⟨y0, y1, y2, y3, y4, y5, y6, y7, _⟩ := cells8 HG3'.out
  have ff := wx_ff HI3.out.lies (i := i) hi 0
  generalize w2.drewN nq = w3 at *
  clear c0 c1 c2 c5 ct HG3 HG4 HK1 HI2 HCE
  have hgt : ¬ st + 1 ≤ 2 := by omega
  have hrn0 : (0 : Int) ≤ rn := by omega
  have hrn1 : (rn : Int) ≤ t.length := by omega
  have hF3 : lay (.F i) < w3.heap.size := wx_fl HI3.out.lies (i := i) hi
  have hb3 : b < w3.heap.size := by
    have := HCE3.out k t (by simpa [Wx.setQ, Qs.withFp] using HT.out)
    exact World.block_lt_of_cell? w3 ⟨b, k, none⟩ this
  have htn : p.tl.length = n := by have := (H.out.ok.a i hi).1; rw [HP.out] at this; rw [this, HNN.out]
  obtain ⟨bn, cap', cs, w4, lay', hrun, hA9, hnb, hge, hrow, hlA, hlo, K4⟩ := fresh_texts HI3.out (i := i) hi n HNN.out (by omega) (by omega) b cap (by simpa [Wx.setQ, Qs.withFp] using htn) HCE3.out hb3
  have HR := Lib.hid hrun
  have hne : bn ≠ lay (.F i) := by omega
  have e0 : w4.cell? ⟨lay (.F i), 0, none⟩ = some (.slice (some ⟨b, 0, none⟩) n cap) := by rw [World.cell?_of_block (w := w3) (hA9.block _ hF3)]; exact d0
  have e1 : w4.cell? ⟨lay (.F i), 1, none⟩ = some (.int .i64 pc) := by rw [World.cell?_of_block (w := w3) (hA9.block _ hF3)]; exact d1
  have e2 : w4.cell? ⟨lay (.F i), 2, none⟩ = some (.int .i64 k) := by rw [World.cell?_of_block (w := w3) (hA9.block _ hF3)]; exact d2
  have e4 : w4.frozen? ⟨lay (.F i), 0, none⟩ = false := by rw [World.frozen?_of_block (w := w3) (hA9.block _ hF3)]; exact ff
  have hrc := hrow.1
  have hrs := hrow.2.2.1
  rw [show ((s.setQ i ((s.qs i).withFp { p with step := st + 1 })).qs i).fp.tl.length = n by simpa [Wx.setQ, Qs.withFp] using htn] at hrc
  have hvk : w4.cell? ⟨bn, k, none⟩ = some (cs[k]'(by omega)) := by
    simp [World.cell?, hnb, show k < cs.size by omega]
  have hfk : w4.frozen? ⟨bn, k, none⟩ = false := by simp [World.frozen?, hnb]
  have HK4 := Lib.hid K4
  have HNB := Lib.hid hnb
  have HA9 := Lib.hid hA9
  have HRR := Lib.hid hrow
  have HLA := Lib.hid (And.intro hlA hlo)
  have hkc : k < cap' := by omega
  have hkc2 : n ≤ cap' := hrc
  generalize cs[k]'(by omega) = vk at hvk
  clear K4 hnb hA9 hrow hrun hlA hlo hrs hrc htn
  go_upto_region 6 with fail
  rw [HTT.out]
  go_upto_region 7 with (at_builtin; refine wpList_append_at rfl (.tmp 49) (.tmp 53) 33 33 rfl (.slice (some ⟨w3.heap.size, 0, none⟩) 0 0) (.slice (some ⟨b, 0, none⟩) n cap) (.slice (some ⟨bn, 0, none⟩) n cap') rfl rfl HR.out ?_)
  have hlo : lay' (.F i) = lay (.F i) := HLA.out.2 _ (by simp)
  have K4 := HK4.out
  rw [setQ_setQ, setQ_qs, withFp_fp, withFp_withFp] at K4
  have K5 := wx_setA (K4.drew) (i := i) hi (cap := cap') (cs := cs) (by rw [setQ_qs]; rfl) k (.string ⟨t'.toArray⟩) (p.tl.set k t')
  rw [setQ_setQ, setQ_qs, withFp_fp, withFp_withFp] at K5
  have hA5 := (Aside.refl (lay (.F i)) w4).set 0 (.slice (some ⟨bn, 0, none⟩) n cap')
  have q0 := wx_f K4.lies (i := i) hi (k := 0) (v := .slice (some ⟨bn, 0, none⟩) n cap') (by rw [setQ_qs]; simp [Wx.tv, setQ_qs, withFp_fp, fpV, HLA.out.1]; exact HNN.out)
  have q1 := wx_f K4.lies (i := i) hi (k := 1) (v := .int .i64 pc) (by rw [setQ_qs]; simp [withFp_fp, fpV, HC.out.2.2])
  have q2 := wx_f K4.lies (i := i) hi (k := 2) (v := .int .i64 k) (by rw [setQ_qs]; simp [withFp_fp, fpV, HC.out.2.1])
  rw [hlo] at q0 q1 q2
  rw [HLA.out.1] at K5
  have qk : (w4.setCell ⟨lay (.F i), 0, none⟩ (.slice (some ⟨bn, 0, none⟩) n cap')).cell? ⟨bn, k, none⟩ = some vk := by
    rw [World.cell?_of_block (w := w4) (hA5.block bn hne)]; exact hvk
  have qf : (w4.setCell ⟨lay (.F i), 0, none⟩ (.slice (some ⟨bn, 0, none⟩) n cap')).frozen? ⟨bn, k, none⟩ = false := by
    rw [World.frozen?_of_block (w := w4) (hA5.block bn hne)]; exact hfk
  have hb4 : (w4.setCell ⟨lay (.F i), 0, none⟩ (.slice (some ⟨bn, 0, none⟩) n cap')).heap[w.heap.size + 1]? = _ := (hA5.block (w.heap.size + 1) (by omega)).trans ((HA9.out.block (w.heap.size + 1) (Array.getElem?_eq_some_iff.1 HG4'.out).1).trans HG4'.out)
  have hl4 : w.heap.size + 1 < w3.heap.size := (Array.getElem?_eq_some_iff.1 HG4'.out).1
  have HB4 := Lib.hid hb4
  have HK5 := Lib.hid K5
  clear K4 K5 hA5 hb4 hvk hfk e0 e1 e2 e4 hlo
  generalize w4.setCell ⟨lay (.F i), 0, none⟩ (.slice (some ⟨bn, 0, none⟩) n cap') = w5 at *
  go_still_tail 10, (by kernel_rfl)
  have q1' : w5.drew.cell? ⟨lay (.F i), 1, none⟩ = _ := q1
  have q2' : w5.drew.cell? ⟨lay (.F i), 2, none⟩ = _ := q2
  have qk' : w5.drew.cell? ⟨bn, k, none⟩ = _ := qk
  have qf' : w5.drew.frozen? ⟨bn, k, none⟩ = false := qf
  have HB5 := Lib.hid (show w5.drew.heap[w.heap.size + 1]? = _ from HB4.out)
  change wpList _ _ _ _ _ w5.drew
  generalize w5.drew = w6 at *
  clear q0 q1 q2 qk qf HB4
  have hA6 := (Aside.refl bn w6).set k (.string ⟨t'.toArray⟩)
  have HG6 := Lib.hid ((hA6.block (w.heap.size + 1) (by omega)).trans HB5.out)
  have u1 : (w6.setCell ⟨bn, k, none⟩ (.string ⟨t'.toArray⟩)).cell? ⟨lay (.F i), 1, none⟩ = _ := (World.cell?_of_block (w := w6) (hA6.block _ (Ne.symm hne))).trans q1'
  have u2 : (w6.setCell ⟨bn, k, none⟩ (.string ⟨t'.toArray⟩)).cell? ⟨lay (.F i), 2, none⟩ = _ := (World.cell?_of_block (w := w6) (hA6.block _ (Ne.symm hne))).trans q2'
  clear hA6 q1' q2' HB5
  have hM6 : ¬ Owns ((s.setQ i ((s.qs i).withFp { p with step := st + 1, tl := p.tl.set k t', own := some (cap', cs.setIfInBounds k (.string ⟨t'.toArray⟩)) })).obj lay') lay' (w.heap.size + 1) := by
    rintro ⟨j, hj, e⟩
    by_cases hji : j = .A i
    · rw [hji, HLA.out.1] at e; omega
    · rw [HLA.out.2 j hji] at e
      exact HM.out.2 ⟨j, wx_live hji hj, e⟩
  have hOK : (s.setQ i ((s.qs i).withFp { p with step := st + 1, tl := p.tl.set k t', own := some (cap', cs.setIfInBounds k (.string ⟨t'.toArray⟩)) })).Ok := by
    have hr := HRR.out
    rw [setQ_qs, withFp_fp] at hr
    have htn : p.tl.length = s.ol.length := by have := (H.out.ok.a i hi).1; rwa [HP.out] at this
    exact H.out.ok.setOwn (by simp [withFp_fp, htn]) (by simp [withFp_fp]) (hr.set k t' (by show k < p.tl.length; rw [htn, HNN.out]; exact hkl))
  have HM6 := Lib.hid hM6
  have HOK := Lib.hid hOK
  have HTOP := Lib.hid (HLA.out.2 .W (by simp))
  have HQA := Lib.hid (show Keeps lay lay' from fun j hj => HLA.out.2 j (hj i))
  clear hM6 hOK
  go_upto_region 8 with fail
  generalize w6.setCell ⟨bn, k, none⟩ (.string ⟨t'.toArray⟩) = w7 at *
  clear hrn0 hrn1 hrn htl HT HRR HK4 HNB HA9 HR HCE3 HI3
  obtain ⟨z0, z1, z2, z3, z4, zf⟩ := cells5 HG6.out
  by_cases ht0 : t' = []
  · subst ht0
    go_wp2_with fail
    obtain ⟨w9, hw9, hA9, hc9⟩ := five_set HG6.out (.int .i64 8) (.int .i64 (↑k + 1)) (.int .i64 0) (.string ⟨#[]⟩) (.string ⟨#[]⟩)
    rw [hw9]
    obtain ⟨x0, x1, x2, x3, x4, _⟩ := cells5 hc9
    have KF := HK5.out.aside hA9 (by omega) HM6.out
    refine bodyPost_ret (v := .agg #[.int .i64 8, .int .i64 (↑k + 1), .int .i64 0, .string ⟨#[]⟩, .string ⟨#[]⟩]) ?_ rfl ⟨by simp [askK, askF, askD]; rfl, _, lay', ⟨KF, HOK.out, HTOP.out⟩, HQA.out⟩
    clear KF hw9 hA9 hc9
    simp [results, Tryz.results296, go_sem, x0, x1, x2, x3, x4]
    try rfl
  · have hte : t'.isEmpty = false := by simpa using ht0
    have hmn : List.take (min (t'.length : Int) pc).toNat t' = t'.take pc.toNat := by
      by_cases q : (t'.length : Int) ≤ pc
      · rw [Int.min_eq_left q, List.take_of_length_le (by omega), List.take_of_length_le (by omega)]
      · rw [Int.min_eq_right (by omega)]
    have HMN := Lib.hid hmn
    have HT0 := Lib.hid ht0
    clear hmn ht0
    go_wp2_with fail
    rw [HMN.out]
    obtain ⟨w9, hw9, hA9, hc9⟩ := five_set HG6.out (.int .i64 2) (.int .i64 (1)) (.int .i64 0) (.string ⟨#[]⟩) (.string ⟨(t'.take pc.toNat).toArray⟩)
    rw [hw9]
    obtain ⟨x0, x1, x2, x3, x4, _⟩ := cells5 hc9
    have KF := HK5.out.aside hA9 (by omega) HM6.out
    refine bodyPost_ret (v := .agg #[.int .i64 2, .int .i64 (1), .int .i64 0, .string ⟨#[]⟩, .string ⟨(t'.take pc.toNat).toArray⟩]) ?_ rfl ⟨by simp [askK, askF, askD, HT0.out]; rfl, some (cap', cs.setIfInBounds k (.string ⟨t'.toArray⟩)), lay', ⟨KF, HOK.out, HTOP.out⟩, HQA.out⟩
    clear KF hw9 hA9 hc9
    simp [results, Tryz.results296, go_sem, x0, x1, x2, x3, x4]
    try rfl
end Go.Proofs.YtelohloaoocoaaaGreatDoor
/- family.Next: the parent's steps; a child that is new. -/
namespace Go.Proofs.YtelohloaoocoaaaGreatDoor
open Go.RowKit IntWalk
set_option linter.unusedVariables false
set_option linter.unusedSimpArgs false
set_option linter.unnecessarySimpa false

theorem wx_tv_any (s : Wx) (lay : WId → Nat) (i : Int) (hx : RowOk s.ol s.xc) : ∃ a cap, s.tv lay i = .slice a s.ol.length cap := by
  unfold Wx.tv
  cases (s.qs i).fp.own with
  | none =>
    unfold Wx.ov
    cases hc : s.xc with
    | none =>
      rw [hc] at hx
      have : s.ol = [] := hx
      exact ⟨none, 0, by rw [this]; rfl⟩
    | some p => exact ⟨_, p.1, rfl⟩
  | some p => exact ⟨_, p.1, rfl⟩
set_option maxHeartbeats 1000000 in
set_option maxRecDepth 100000 in
theorem next_fork {s lay} (i rn rm : Int) (w : World) (h : WxIs s lay w) (hi : i ∈ s.m.keys) (hc : (s.qs i).fp.child = false) (hs0 : 0 ≤ (s.qs i).fp.step) (hs1 : (s.qs i).fp.step ≤ 1000) (hn8 : s.ol.length ≤ 8) (hm0 : 0 ≤ (s.qs i).fp.sum) (hm1 : (s.qs i).fp.sum ≤ 100000) (hr0 : 0 ≤ rm) (hr1 : rm ≤ 100000) (hb : (s.qs i).fp.step + 1 ≤ s.ol.length) (hg : (s.qs i).fp.step + 1 ≤ 1 ∨ rn ≠ 0) :
    Calls Tryz.prog 296 #[ptrOf (lay (.F i)), .agg (rpV 0 rn rm)] w fun e w' => e = .returned (.agg (clV 7 0 [])) ∧ WStep s lay w (s.setQ i ((s.qs i).withFp { (s.qs i).fp with step := (s.qs i).fp.step + 1 })) lay w' := by
  obtain ⟨p, hp⟩ : ∃ p, (s.qs i).fp = p := ⟨_, rfl⟩
  obtain ⟨st, hst⟩ : ∃ st, p.step = st := ⟨_, rfl⟩
  obtain ⟨sm, hsm⟩ : ∃ sm, p.sum = sm := ⟨_, rfl⟩
  obtain ⟨n, hnn⟩ : ∃ n, s.ol.length = n := ⟨_, rfl⟩
  rw [hp] at hc hs0 hs1 hm0 hm1 ⊢
  try rw [hp] at hb
  try rw [hst] at hb
  try rw [hnn] at hb
  try rw [hp] at hg
  try rw [hst] at hg
  try rw [hnn] at hg
  rw [hst] at hs0 hs1 ⊢
  rw [hsm] at hm0 hm1
  try rw [hsm]
  rw [hnn] at hn8
  have H := Lib.hid h
  have HP := Lib.hid hp
  have HST := Lib.hid hst
  have HC := Lib.hid (And.intro hc hsm)
  have HNN := Lib.hid hnn
  have hfl := wx_fl h.lies hi
  unfold ptrOf rpV clV at *
  clear h hc hp hst hsm hnn
  go_enter Tryz.func296, Tryz.ntmps296
  go_upto_region 1 with fail
  obtain ⟨w1, hw1, hB1, hb3, hb4, hz1⟩ := two_newG w (.cells #[.int .i64 0, .int .i64 rn, .int .i64 rm, .string ByteArray.empty, .slice none 0 0, .int .i64 0, .int .i64 0, .int .i64 0] 37) (.cells #[.int .i64 0, .int .i64 0, .int .i64 0, .string ⟨#[]⟩, .string ⟨#[]⟩] 31)
  rw [hw1]
  clear hw1
  have I1 := H.out.below hB1
  have n4 := H.out.lies.fresh (Nat.le_succ w.heap.size)
  have c3 := wx_f I1.lies hi (k := 3) (v := .bool p.child) (by rw [HP.out]; rfl)
  have c5 := wx_f I1.lies hi (k := 5) (v := .int .i64 p.step) (by rw [HP.out]; rfl)
  have f5 := wx_ff I1.lies hi 5
  rw [HC.out.1] at c3
  rw [HST.out] at c5
  have K1 := wx_setF (GStep.refl I1.lies) hi 5 (.int .i64 (st + 1)) { p with step := st + 1 } (by rw [HP.out]) (by rw [HP.out]; simp [fpV])
  have hm4 := K1.fresh n4 (by omega)
  have g3 := (((Aside.refl (lay (.F i)) w1).set 5 (.int .i64 (st + 1))).block w.heap.size (by omega)).trans hb3
  have g4 := (((Aside.refl (lay (.F i)) w1).set 5 (.int .i64 (st + 1))).block (w.heap.size + 1) (by omega)).trans hb4
  have HK1 := Lib.hid (((GStep.refl H.out.lies).below hB1).trans K1)
  have HG3 := Lib.hid g3
  have HG4 := Lib.hid g4
  have HM := Lib.hid hm4
  have i3 := wx_f K1.lies (i := i) hi (k := 3) (v := .bool false) (by rw [setQ_qs]; simp [withFp_fp, fpV, HC.out.1])
  clear K1 hm4 g3 g4 hb3 hb4 n4 I1 hB1 hz1
  go_upto_region 11 with fail
  generalize w1.setCell ⟨lay (.F i), 5, none⟩ (.int .i64 (st + 1)) = w2 at *
  clear c3 c5 f5 i3
  have I2 : WxIs (s.setQ i ((s.qs i).withFp { p with step := st + 1 })) lay w2 := ⟨HK1.out.lies, H.out.ok.setQ _ (by rw [HP.out]; rfl) (by rw [HP.out]; rfl)⟩
  obtain ⟨ad, cap, htv⟩ := wx_tv_any (s.setQ i ((s.qs i).withFp { p with step := st + 1 })) lay i I2.ok.x
  have c0 := wx_f I2.lies hi (k := 0) (v := (s.setQ i ((s.qs i).withFp { p with step := st + 1 })).tv lay i) rfl
  have c4 := wx_f I2.lies hi (k := 4) (v := .int .i64 sm) (by rw [setQ_qs]; simp [withFp_fp, fpV, HC.out.2])
  have c5 := wx_f I2.lies hi (k := 5) (v := .int .i64 (st + 1)) (by simp [Wx.setQ, Qs.withFp, fpV])
  have f4 := wx_ff I2.lies (i := i) hi 4
  rw [htv, show (s.setQ i ((s.qs i).withFp { p with step := st + 1 })).ol.length = n from HNN.out] at c0
  have HOK := Lib.hid I2.ok
  clear I2 htv
  have hn8' : (n : Int) ≤ 8 := by omega
  have hbb : st + 1 ≤ (n : Int) := by omega
  rcases hg with hg | hg
  · have g11 : ¬ (1 : Int) < st + 1 := by omega
    have g11' : decide ((1 : Int) < st + 1) = false := by simpa using g11
    go_quiet (fail)
    have c0' : (w2.drewN nq).cell? ⟨lay (.F i), 0, none⟩ = _ := c0
    have c4' : (w2.drewN nq).cell? ⟨lay (.F i), 4, none⟩ = _ := c4
    have c5' : (w2.drewN nq).cell? ⟨lay (.F i), 5, none⟩ = _ := c5
    have f4' : (w2.drewN nq).frozen? ⟨lay (.F i), 4, none⟩ = false := f4
    have HK1' := Lib.hid (HK1.out.drewN nq)
    have HG3' := Lib.hid (show (w2.drewN nq).heap[w.heap.size]? = _ from HG3.out)
    have HG4' := Lib.hid (show (w2.drewN nq).heap[w.heap.size + 1]? = _ from HG4.out)
    generalize w2.drewN nq = w3 at *
    clear c0 c4 c5 f4 HK1 HG3 HG4
    have c0 := c0'
    have c4 := c4'
    have c5 := c5'
    have f4 := f4'
    have HK1 := HK1'
    have HG3 := HG3'
    have HG4 := HG4'
    clear c0' c4' c5' f4' HK1' HG3' HG4'
    obtain ⟨y0, y1, y2, y3, y4, y5, y6, y7, _⟩ := cells8 HG3.out
    obtain ⟨z0, z1, z2, z3, z4, zf⟩ := cells5 HG4.out
    go_upto_region 17 with fail
    go_quiet (fail)
    clear y0 y1 y2 y3 y4 y5 y6 y7 z0 z1 z2 z3 z4 zf
    have c0' : (w3.drewN nq).cell? ⟨lay (.F i), 0, none⟩ = _ := c0
    have c4' : (w3.drewN nq).cell? ⟨lay (.F i), 4, none⟩ = _ := c4
    have c5' : (w3.drewN nq).cell? ⟨lay (.F i), 5, none⟩ = _ := c5
    have f4' : (w3.drewN nq).frozen? ⟨lay (.F i), 4, none⟩ = false := f4
    have HK1' := Lib.hid (HK1.out.drewN nq)
    have HG3' := Lib.hid (show (w3.drewN nq).heap[w.heap.size]? = _ from HG3.out)
    have HG4' := Lib.hid (show (w3.drewN nq).heap[w.heap.size + 1]? = _ from HG4.out)
    generalize w3.drewN nq = w4 at *
    clear c0 c4 c5 f4 HK1 HG3 HG4
    have c0 := c0'
    have c4 := c4'
    have c5 := c5'
    have f4 := f4'
    have HK1 := HK1'
    have HG3 := HG3'
    have HG4 := HG4'
    clear c0' c4' c5' f4' HK1' HG3' HG4'
    obtain ⟨y0, y1, y2, y3, y4, y5, y6, y7, _⟩ := cells8 HG3.out
    obtain ⟨z0, z1, z2, z3, z4, zf⟩ := cells5 HG4.out
    go_wp2_with fail
    obtain ⟨w9, hw9, hA9, hc9⟩ := five_set HG4.out (.int .i64 7) (.int .i64 (0)) (.int .i64 0) (.string ⟨#[]⟩) (.string ⟨#[]⟩)
    rw [hw9]
    obtain ⟨x0, x1, x2, x3, x4, _⟩ := cells5 hc9
    have KF := HK1.out.aside hA9 (by omega) HM.out
    refine bodyPost_ret (v := .agg #[.int .i64 7, .int .i64 (0), .int .i64 0, .string ⟨#[]⟩, .string ⟨#[]⟩]) ?_ rfl ⟨rfl, KF, HOK.out, rfl⟩
    clear KF hw9 hA9 hc9
    simp [results, Tryz.results296, go_sem, x0, x1, x2, x3, x4]
    try rfl
  by_cases hq : st + 1 ≤ 1
  · have g11 : ¬ (1 : Int) < st + 1 := by omega
    have g11' : decide ((1 : Int) < st + 1) = false := by simpa using g11
    go_quiet (fail)
    have c0' : (w2.drewN nq).cell? ⟨lay (.F i), 0, none⟩ = _ := c0
    have c4' : (w2.drewN nq).cell? ⟨lay (.F i), 4, none⟩ = _ := c4
    have c5' : (w2.drewN nq).cell? ⟨lay (.F i), 5, none⟩ = _ := c5
    have f4' : (w2.drewN nq).frozen? ⟨lay (.F i), 4, none⟩ = false := f4
    have HK1' := Lib.hid (HK1.out.drewN nq)
    have HG3' := Lib.hid (show (w2.drewN nq).heap[w.heap.size]? = _ from HG3.out)
    have HG4' := Lib.hid (show (w2.drewN nq).heap[w.heap.size + 1]? = _ from HG4.out)
    generalize w2.drewN nq = w3 at *
    clear c0 c4 c5 f4 HK1 HG3 HG4
    have c0 := c0'
    have c4 := c4'
    have c5 := c5'
    have f4 := f4'
    have HK1 := HK1'
    have HG3 := HG3'
    have HG4 := HG4'
    clear c0' c4' c5' f4' HK1' HG3' HG4'
    obtain ⟨y0, y1, y2, y3, y4, y5, y6, y7, _⟩ := cells8 HG3.out
    obtain ⟨z0, z1, z2, z3, z4, zf⟩ := cells5 HG4.out
    go_upto_region 17 with fail
    go_quiet (fail)
    clear y0 y1 y2 y3 y4 y5 y6 y7 z0 z1 z2 z3 z4 zf
    have c0' : (w3.drewN nq).cell? ⟨lay (.F i), 0, none⟩ = _ := c0
    have c4' : (w3.drewN nq).cell? ⟨lay (.F i), 4, none⟩ = _ := c4
    have c5' : (w3.drewN nq).cell? ⟨lay (.F i), 5, none⟩ = _ := c5
    have f4' : (w3.drewN nq).frozen? ⟨lay (.F i), 4, none⟩ = false := f4
    have HK1' := Lib.hid (HK1.out.drewN nq)
    have HG3' := Lib.hid (show (w3.drewN nq).heap[w.heap.size]? = _ from HG3.out)
    have HG4' := Lib.hid (show (w3.drewN nq).heap[w.heap.size + 1]? = _ from HG4.out)
    generalize w3.drewN nq = w4 at *
    clear c0 c4 c5 f4 HK1 HG3 HG4
    have c0 := c0'
    have c4 := c4'
    have c5 := c5'
    have f4 := f4'
    have HK1 := HK1'
    have HG3 := HG3'
    have HG4 := HG4'
    clear c0' c4' c5' f4' HK1' HG3' HG4'
    obtain ⟨y0, y1, y2, y3, y4, y5, y6, y7, _⟩ := cells8 HG3.out
    obtain ⟨z0, z1, z2, z3, z4, zf⟩ := cells5 HG4.out
    go_wp2_with fail
    obtain ⟨w9, hw9, hA9, hc9⟩ := five_set HG4.out (.int .i64 7) (.int .i64 (0)) (.int .i64 0) (.string ⟨#[]⟩) (.string ⟨#[]⟩)
    rw [hw9]
    obtain ⟨x0, x1, x2, x3, x4, _⟩ := cells5 hc9
    have KF := HK1.out.aside hA9 (by omega) HM.out
    refine bodyPost_ret (v := .agg #[.int .i64 7, .int .i64 (0), .int .i64 0, .string ⟨#[]⟩, .string ⟨#[]⟩]) ?_ rfl ⟨rfl, KF, HOK.out, rfl⟩
    clear KF hw9 hA9 hc9
    simp [results, Tryz.results296, go_sem, x0, x1, x2, x3, x4]
    try rfl
  · have g11 : (1 : Int) < st + 1 := by omega
    have g12 : st + 1 ≤ (n : Int) + 1 := by omega
    have hrb : (rn == 0) = false := by simpa using hg
    go_quiet (fail)
    have c0' : (w2.drewN nq).cell? ⟨lay (.F i), 0, none⟩ = _ := c0
    have c4' : (w2.drewN nq).cell? ⟨lay (.F i), 4, none⟩ = _ := c4
    have c5' : (w2.drewN nq).cell? ⟨lay (.F i), 5, none⟩ = _ := c5
    have f4' : (w2.drewN nq).frozen? ⟨lay (.F i), 4, none⟩ = false := f4
    have HK1' := Lib.hid (HK1.out.drewN nq)
    have HG3' := Lib.hid (show (w2.drewN nq).heap[w.heap.size]? = _ from HG3.out)
    have HG4' := Lib.hid (show (w2.drewN nq).heap[w.heap.size + 1]? = _ from HG4.out)
    generalize w2.drewN nq = w3 at *
    clear c0 c4 c5 f4 HK1 HG3 HG4
    have c0 := c0'
    have c4 := c4'
    have c5 := c5'
    have f4 := f4'
    have HK1 := HK1'
    have HG3 := HG3'
    have HG4 := HG4'
    clear c0' c4' c5' f4' HK1' HG3' HG4'
    obtain ⟨y0, y1, y2, y3, y4, y5, y6, y7, _⟩ := cells8 HG3.out
    obtain ⟨z0, z1, z2, z3, z4, zf⟩ := cells5 HG4.out
    go_upto_region 17 with fail
    go_quiet (fail)
    clear y0 y1 y2 y3 y4 y5 y6 y7 z0 z1 z2 z3 z4 zf
    have c0' : (w3.drewN nq).cell? ⟨lay (.F i), 0, none⟩ = _ := c0
    have c4' : (w3.drewN nq).cell? ⟨lay (.F i), 4, none⟩ = _ := c4
    have c5' : (w3.drewN nq).cell? ⟨lay (.F i), 5, none⟩ = _ := c5
    have f4' : (w3.drewN nq).frozen? ⟨lay (.F i), 4, none⟩ = false := f4
    have HK1' := Lib.hid (HK1.out.drewN nq)
    have HG3' := Lib.hid (show (w3.drewN nq).heap[w.heap.size]? = _ from HG3.out)
    have HG4' := Lib.hid (show (w3.drewN nq).heap[w.heap.size + 1]? = _ from HG4.out)
    generalize w3.drewN nq = w4 at *
    clear c0 c4 c5 f4 HK1 HG3 HG4
    have c0 := c0'
    have c4 := c4'
    have c5 := c5'
    have f4 := f4'
    have HK1 := HK1'
    have HG3 := HG3'
    have HG4 := HG4'
    clear c0' c4' c5' f4' HK1' HG3' HG4'
    obtain ⟨y0, y1, y2, y3, y4, y5, y6, y7, _⟩ := cells8 HG3.out
    obtain ⟨z0, z1, z2, z3, z4, zf⟩ := cells5 HG4.out
    go_wp2_with fail
    obtain ⟨w9, hw9, hA9, hc9⟩ := five_set HG4.out (.int .i64 7) (.int .i64 (0)) (.int .i64 0) (.string ⟨#[]⟩) (.string ⟨#[]⟩)
    rw [hw9]
    obtain ⟨x0, x1, x2, x3, x4, _⟩ := cells5 hc9
    have KF := HK1.out.aside hA9 (by omega) HM.out
    refine bodyPost_ret (v := .agg #[.int .i64 7, .int .i64 (0), .int .i64 0, .string ⟨#[]⟩, .string ⟨#[]⟩]) ?_ rfl ⟨rfl, KF, HOK.out, rfl⟩
    clear KF hw9 hA9 hc9
    simp [results, Tryz.results296, go_sem, x0, x1, x2, x3, x4]
    try rfl
set_option maxHeartbeats 1000000 in
set_option maxRecDepth 100000 in
theorem next_wait0 {s lay} (i rn rm : Int) (w : World) (h : WxIs s lay w) (hi : i ∈ s.m.keys) (hc : (s.qs i).fp.child = false) (hs0 : 0 ≤ (s.qs i).fp.step) (hs1 : (s.qs i).fp.step ≤ 1000) (hn8 : s.ol.length ≤ 8) (hm0 : 0 ≤ (s.qs i).fp.sum) (hm1 : (s.qs i).fp.sum ≤ 100000) (hr0 : 0 ≤ rm) (hr1 : rm ≤ 100000) (hb : (s.qs i).fp.step = s.ol.length) (hn1 : 1 ≤ s.ol.length) (hg : rn ≠ 0) :
    Calls Tryz.prog 296 #[ptrOf (lay (.F i)), .agg (rpV 0 rn rm)] w fun e w' => e = .returned (.agg (clV 9 0 [])) ∧ WStep s lay w (s.setQ i ((s.qs i).withFp { (s.qs i).fp with step := (s.qs i).fp.step + 1 })) lay w' := by
  obtain ⟨p, hp⟩ : ∃ p, (s.qs i).fp = p := ⟨_, rfl⟩
  obtain ⟨st, hst⟩ : ∃ st, p.step = st := ⟨_, rfl⟩
  obtain ⟨sm, hsm⟩ : ∃ sm, p.sum = sm := ⟨_, rfl⟩
  obtain ⟨n, hnn⟩ : ∃ n, s.ol.length = n := ⟨_, rfl⟩
  rw [hp] at hc hs0 hs1 hm0 hm1 ⊢
  try rw [hp] at hb
  try rw [hst] at hb
  try rw [hnn] at hb
  try rw [hp] at hn1
  try rw [hst] at hn1
  try rw [hnn] at hn1
  try rw [hp] at hg
  try rw [hst] at hg
  try rw [hnn] at hg
  rw [hst] at hs0 hs1 ⊢
  rw [hsm] at hm0 hm1
  try rw [hsm]
  rw [hnn] at hn8
  have H := Lib.hid h
  have HP := Lib.hid hp
  have HST := Lib.hid hst
  have HC := Lib.hid (And.intro hc hsm)
  have HNN := Lib.hid hnn
  have hfl := wx_fl h.lies hi
  have hbA : st ≤ (n : Int) := by omega
  have hbB : (n : Int) ≤ st := by omega
  clear hb
  unfold ptrOf rpV clV at *
  clear h hc hp hst hsm hnn
  go_enter Tryz.func296, Tryz.ntmps296
  go_upto_region 1 with fail
  obtain ⟨w1, hw1, hB1, hb3, hb4, hz1⟩ := two_newG w (.cells #[.int .i64 0, .int .i64 rn, .int .i64 rm, .string ByteArray.empty, .slice none 0 0, .int .i64 0, .int .i64 0, .int .i64 0] 37) (.cells #[.int .i64 0, .int .i64 0, .int .i64 0, .string ⟨#[]⟩, .string ⟨#[]⟩] 31)
  rw [hw1]
  clear hw1
  have I1 := H.out.below hB1
  have n4 := H.out.lies.fresh (Nat.le_succ w.heap.size)
  have c3 := wx_f I1.lies hi (k := 3) (v := .bool p.child) (by rw [HP.out]; rfl)
  have c5 := wx_f I1.lies hi (k := 5) (v := .int .i64 p.step) (by rw [HP.out]; rfl)
  have f5 := wx_ff I1.lies hi 5
  rw [HC.out.1] at c3
  rw [HST.out] at c5
  have K1 := wx_setF (GStep.refl I1.lies) hi 5 (.int .i64 (st + 1)) { p with step := st + 1 } (by rw [HP.out]) (by rw [HP.out]; simp [fpV])
  have hm4 := K1.fresh n4 (by omega)
  have g3 := (((Aside.refl (lay (.F i)) w1).set 5 (.int .i64 (st + 1))).block w.heap.size (by omega)).trans hb3
  have g4 := (((Aside.refl (lay (.F i)) w1).set 5 (.int .i64 (st + 1))).block (w.heap.size + 1) (by omega)).trans hb4
  have HK1 := Lib.hid (((GStep.refl H.out.lies).below hB1).trans K1)
  have HG3 := Lib.hid g3
  have HG4 := Lib.hid g4
  have HM := Lib.hid hm4
  have i3 := wx_f K1.lies (i := i) hi (k := 3) (v := .bool false) (by rw [setQ_qs]; simp [withFp_fp, fpV, HC.out.1])
  clear K1 hm4 g3 g4 hb3 hb4 n4 I1 hB1 hz1
  go_upto_region 11 with fail
  generalize w1.setCell ⟨lay (.F i), 5, none⟩ (.int .i64 (st + 1)) = w2 at *
  clear c3 c5 f5 i3
  have I2 : WxIs (s.setQ i ((s.qs i).withFp { p with step := st + 1 })) lay w2 := ⟨HK1.out.lies, H.out.ok.setQ _ (by rw [HP.out]; rfl) (by rw [HP.out]; rfl)⟩
  obtain ⟨ad, cap, htv⟩ := wx_tv_any (s.setQ i ((s.qs i).withFp { p with step := st + 1 })) lay i I2.ok.x
  have c0 := wx_f I2.lies hi (k := 0) (v := (s.setQ i ((s.qs i).withFp { p with step := st + 1 })).tv lay i) rfl
  have c4 := wx_f I2.lies hi (k := 4) (v := .int .i64 sm) (by rw [setQ_qs]; simp [withFp_fp, fpV, HC.out.2])
  have c5 := wx_f I2.lies hi (k := 5) (v := .int .i64 (st + 1)) (by simp [Wx.setQ, Qs.withFp, fpV])
  have f4 := wx_ff I2.lies (i := i) hi 4
  rw [htv, show (s.setQ i ((s.qs i).withFp { p with step := st + 1 })).ol.length = n from HNN.out] at c0
  have HOK := Lib.hid I2.ok
  clear I2 htv
  have hn8' : (n : Int) ≤ 8 := by omega
  have g11 : (1 : Int) < st + 1 := by omega
  have g12 : st + 1 ≤ (n : Int) + 1 := by omega
  have hrb : (rn == 0) = false := by simpa using hg
  have g17 : ¬ st + 1 ≤ (n : Int) := by omega
  go_quiet (fail)
  have c0' : (w2.drewN nq).cell? ⟨lay (.F i), 0, none⟩ = _ := c0
  have c4' : (w2.drewN nq).cell? ⟨lay (.F i), 4, none⟩ = _ := c4
  have c5' : (w2.drewN nq).cell? ⟨lay (.F i), 5, none⟩ = _ := c5
  have f4' : (w2.drewN nq).frozen? ⟨lay (.F i), 4, none⟩ = false := f4
  have HK1' := Lib.hid (HK1.out.drewN nq)
  have HG3' := Lib.hid (show (w2.drewN nq).heap[w.heap.size]? = _ from HG3.out)
  have HG4' := Lib.hid (show (w2.drewN nq).heap[w.heap.size + 1]? = _ from HG4.out)
  generalize w2.drewN nq = w3 at *
  clear c0 c4 c5 f4 HK1 HG3 HG4
  have c0 := c0'
  have c4 := c4'
  have c5 := c5'
  have f4 := f4'
  have HK1 := HK1'
  have HG3 := HG3'
  have HG4 := HG4'
  clear c0' c4' c5' f4' HK1' HG3' HG4'
  obtain ⟨y0, y1, y2, y3, y4, y5, y6, y7, _⟩ := cells8 HG3.out
  obtain ⟨z0, z1, z2, z3, z4, zf⟩ := cells5 HG4.out
  go_upto_region 17 with fail
  go_quiet (fail)
  clear y0 y1 y2 y3 y4 y5 y6 y7 z0 z1 z2 z3 z4 zf
  have c0' : (w3.drewN nq).cell? ⟨lay (.F i), 0, none⟩ = _ := c0
  have c4' : (w3.drewN nq).cell? ⟨lay (.F i), 4, none⟩ = _ := c4
  have c5' : (w3.drewN nq).cell? ⟨lay (.F i), 5, none⟩ = _ := c5
  have f4' : (w3.drewN nq).frozen? ⟨lay (.F i), 4, none⟩ = false := f4
  have HK1' := Lib.hid (HK1.out.drewN nq)
  have HG3' := Lib.hid (show (w3.drewN nq).heap[w.heap.size]? = _ from HG3.out)
  have HG4' := Lib.hid (show (w3.drewN nq).heap[w.heap.size + 1]? = _ from HG4.out)
  generalize w3.drewN nq = w4 at *
  clear c0 c4 c5 f4 HK1 HG3 HG4
  have c0 := c0'
  have c4 := c4'
  have c5 := c5'
  have f4 := f4'
  have HK1 := HK1'
  have HG3 := HG3'
  have HG4 := HG4'
  clear c0' c4' c5' f4' HK1' HG3' HG4'
  obtain ⟨y0, y1, y2, y3, y4, y5, y6, y7, _⟩ := cells8 HG3.out
  obtain ⟨z0, z1, z2, z3, z4, zf⟩ := cells5 HG4.out
  go_upto_region 19 with fail
  have g19 : ¬ (n : Int) + 1 < st + 1 := by omega
  go_quiet (fail)
  clear y0 y1 y2 y3 y4 y5 y6 y7 z0 z1 z2 z3 z4 zf
  have c0' : (w4.drewN nq).cell? ⟨lay (.F i), 0, none⟩ = _ := c0
  have c4' : (w4.drewN nq).cell? ⟨lay (.F i), 4, none⟩ = _ := c4
  have c5' : (w4.drewN nq).cell? ⟨lay (.F i), 5, none⟩ = _ := c5
  have f4' : (w4.drewN nq).frozen? ⟨lay (.F i), 4, none⟩ = false := f4
  have HK1' := Lib.hid (HK1.out.drewN nq)
  have HG3' := Lib.hid (show (w4.drewN nq).heap[w.heap.size]? = _ from HG3.out)
  have HG4' := Lib.hid (show (w4.drewN nq).heap[w.heap.size + 1]? = _ from HG4.out)
  generalize w4.drewN nq = w5 at *
  clear c0 c4 c5 f4 HK1 HG3 HG4
  have c0 := c0'
  have c4 := c4'
  have c5 := c5'
  have f4 := f4'
  have HK1 := HK1'
  have HG3 := HG3'
  have HG4 := HG4'
  clear c0' c4' c5' f4' HK1' HG3' HG4'
  obtain ⟨y0, y1, y2, y3, y4, y5, y6, y7, _⟩ := cells8 HG3.out
  obtain ⟨z0, z1, z2, z3, z4, zf⟩ := cells5 HG4.out
  go_upto_region 21 with fail
  have g21 : ¬ (2 : Int) * n < st + 1 := by omega
  go_quiet (fail)
  clear y0 y1 y2 y3 y4 y5 y6 y7 z0 z1 z2 z3 z4 zf
  have c0' : (w5.drewN nq).cell? ⟨lay (.F i), 0, none⟩ = _ := c0
  have c4' : (w5.drewN nq).cell? ⟨lay (.F i), 4, none⟩ = _ := c4
  have c5' : (w5.drewN nq).cell? ⟨lay (.F i), 5, none⟩ = _ := c5
  have f4' : (w5.drewN nq).frozen? ⟨lay (.F i), 4, none⟩ = false := f4
  have HK1' := Lib.hid (HK1.out.drewN nq)
  have HG3' := Lib.hid (show (w5.drewN nq).heap[w.heap.size]? = _ from HG3.out)
  have HG4' := Lib.hid (show (w5.drewN nq).heap[w.heap.size + 1]? = _ from HG4.out)
  generalize w5.drewN nq = w6 at *
  clear c0 c4 c5 f4 HK1 HG3 HG4
  have c0 := c0'
  have c4 := c4'
  have c5 := c5'
  have f4 := f4'
  have HK1 := HK1'
  have HG3 := HG3'
  have HG4 := HG4'
  clear c0' c4' c5' f4' HK1' HG3' HG4'
  obtain ⟨y0, y1, y2, y3, y4, y5, y6, y7, _⟩ := cells8 HG3.out
  obtain ⟨z0, z1, z2, z3, z4, zf⟩ := cells5 HG4.out
  go_wp2_with fail
  obtain ⟨w9, hw9, hA9, hc9⟩ := five_set HG4.out (.int .i64 9) (.int .i64 (0)) (.int .i64 0) (.string ⟨#[]⟩) (.string ⟨#[]⟩)
  rw [hw9]
  obtain ⟨x0, x1, x2, x3, x4, _⟩ := cells5 hc9
  have KF := HK1.out.aside hA9 (by omega) HM.out
  refine bodyPost_ret (v := .agg #[.int .i64 9, .int .i64 (0), .int .i64 0, .string ⟨#[]⟩, .string ⟨#[]⟩]) ?_ rfl ⟨rfl, KF, HOK.out, rfl⟩
  clear KF hw9 hA9 hc9
  simp [results, Tryz.results296, go_sem, x0, x1, x2, x3, x4]
  try rfl
set_option maxHeartbeats 1000000 in
set_option maxRecDepth 100000 in
theorem next_exit0 {s lay} (i rn rm : Int) (w : World) (h : WxIs s lay w) (hi : i ∈ s.m.keys) (hc : (s.qs i).fp.child = false) (hs0 : 0 ≤ (s.qs i).fp.step) (hs1 : (s.qs i).fp.step ≤ 1000) (hn8 : s.ol.length ≤ 8) (hm0 : 0 ≤ (s.qs i).fp.sum) (hm1 : (s.qs i).fp.sum ≤ 100000) (hr0 : 0 ≤ rm) (hr1 : rm ≤ 100000) (hb : (s.qs i).fp.step = 0) (hn1 : s.ol.length = 0) :
    Calls Tryz.prog 296 #[ptrOf (lay (.F i)), .agg (rpV 0 rn rm)] w fun e w' => e = .returned (.agg (clV 8 (s.qs i).fp.sum [])) ∧ WStep s lay w (s.setQ i ((s.qs i).withFp { (s.qs i).fp with step := (s.qs i).fp.step + 1 })) lay w' := by
  obtain ⟨p, hp⟩ : ∃ p, (s.qs i).fp = p := ⟨_, rfl⟩
  obtain ⟨st, hst⟩ : ∃ st, p.step = st := ⟨_, rfl⟩
  obtain ⟨sm, hsm⟩ : ∃ sm, p.sum = sm := ⟨_, rfl⟩
  obtain ⟨n, hnn⟩ : ∃ n, s.ol.length = n := ⟨_, rfl⟩
  rw [hp] at hc hs0 hs1 hm0 hm1 ⊢
  try rw [hp] at hb
  try rw [hst] at hb
  try rw [hnn] at hb
  try rw [hp] at hn1
  try rw [hst] at hn1
  try rw [hnn] at hn1
  rw [hst] at hs0 hs1 ⊢
  rw [hsm] at hm0 hm1
  try rw [hsm]
  rw [hnn] at hn8
  have H := Lib.hid h
  have HP := Lib.hid hp
  have HST := Lib.hid hst
  have HC := Lib.hid (And.intro hc hsm)
  have HNN := Lib.hid hnn
  have hfl := wx_fl h.lies hi
  have hbA : st ≤ 0 := by omega
  have hnA : n ≤ 0 := by omega
  clear hb hn1
  unfold ptrOf rpV clV at *
  clear h hc hp hst hsm hnn
  go_enter Tryz.func296, Tryz.ntmps296
  go_upto_region 1 with fail
  obtain ⟨w1, hw1, hB1, hb3, hb4, hz1⟩ := two_newG w (.cells #[.int .i64 0, .int .i64 rn, .int .i64 rm, .string ByteArray.empty, .slice none 0 0, .int .i64 0, .int .i64 0, .int .i64 0] 37) (.cells #[.int .i64 0, .int .i64 0, .int .i64 0, .string ⟨#[]⟩, .string ⟨#[]⟩] 31)
  rw [hw1]
  clear hw1
  have I1 := H.out.below hB1
  have n4 := H.out.lies.fresh (Nat.le_succ w.heap.size)
  have c3 := wx_f I1.lies hi (k := 3) (v := .bool p.child) (by rw [HP.out]; rfl)
  have c5 := wx_f I1.lies hi (k := 5) (v := .int .i64 p.step) (by rw [HP.out]; rfl)
  have f5 := wx_ff I1.lies hi 5
  rw [HC.out.1] at c3
  rw [HST.out] at c5
  have K1 := wx_setF (GStep.refl I1.lies) hi 5 (.int .i64 (st + 1)) { p with step := st + 1 } (by rw [HP.out]) (by rw [HP.out]; simp [fpV])
  have hm4 := K1.fresh n4 (by omega)
  have g3 := (((Aside.refl (lay (.F i)) w1).set 5 (.int .i64 (st + 1))).block w.heap.size (by omega)).trans hb3
  have g4 := (((Aside.refl (lay (.F i)) w1).set 5 (.int .i64 (st + 1))).block (w.heap.size + 1) (by omega)).trans hb4
  have HK1 := Lib.hid (((GStep.refl H.out.lies).below hB1).trans K1)
  have HG3 := Lib.hid g3
  have HG4 := Lib.hid g4
  have HM := Lib.hid hm4
  have i3 := wx_f K1.lies (i := i) hi (k := 3) (v := .bool false) (by rw [setQ_qs]; simp [withFp_fp, fpV, HC.out.1])
  clear K1 hm4 g3 g4 hb3 hb4 n4 I1 hB1 hz1
  go_upto_region 11 with fail
  generalize w1.setCell ⟨lay (.F i), 5, none⟩ (.int .i64 (st + 1)) = w2 at *
  clear c3 c5 f5 i3
  have I2 : WxIs (s.setQ i ((s.qs i).withFp { p with step := st + 1 })) lay w2 := ⟨HK1.out.lies, H.out.ok.setQ _ (by rw [HP.out]; rfl) (by rw [HP.out]; rfl)⟩
  obtain ⟨ad, cap, htv⟩ := wx_tv_any (s.setQ i ((s.qs i).withFp { p with step := st + 1 })) lay i I2.ok.x
  have c0 := wx_f I2.lies hi (k := 0) (v := (s.setQ i ((s.qs i).withFp { p with step := st + 1 })).tv lay i) rfl
  have c4 := wx_f I2.lies hi (k := 4) (v := .int .i64 sm) (by rw [setQ_qs]; simp [withFp_fp, fpV, HC.out.2])
  have c5 := wx_f I2.lies hi (k := 5) (v := .int .i64 (st + 1)) (by simp [Wx.setQ, Qs.withFp, fpV])
  have f4 := wx_ff I2.lies (i := i) hi 4
  rw [htv, show (s.setQ i ((s.qs i).withFp { p with step := st + 1 })).ol.length = n from HNN.out] at c0
  have HOK := Lib.hid I2.ok
  clear I2 htv
  have hn8' : (n : Int) ≤ 8 := by omega
  have g11 : ¬ (1 : Int) < st + 1 := by omega
  have g11' : decide ((1 : Int) < st + 1) = false := by simpa using g11
  have g17 : ¬ st + 1 ≤ (n : Int) := by omega
  go_quiet (fail)
  have c0' : (w2.drewN nq).cell? ⟨lay (.F i), 0, none⟩ = _ := c0
  have c4' : (w2.drewN nq).cell? ⟨lay (.F i), 4, none⟩ = _ := c4
  have c5' : (w2.drewN nq).cell? ⟨lay (.F i), 5, none⟩ = _ := c5
  have f4' : (w2.drewN nq).frozen? ⟨lay (.F i), 4, none⟩ = false := f4
  have HK1' := Lib.hid (HK1.out.drewN nq)
  have HG3' := Lib.hid (show (w2.drewN nq).heap[w.heap.size]? = _ from HG3.out)
  have HG4' := Lib.hid (show (w2.drewN nq).heap[w.heap.size + 1]? = _ from HG4.out)
  generalize w2.drewN nq = w3 at *
  clear c0 c4 c5 f4 HK1 HG3 HG4
  have c0 := c0'
  have c4 := c4'
  have c5 := c5'
  have f4 := f4'
  have HK1 := HK1'
  have HG3 := HG3'
  have HG4 := HG4'
  clear c0' c4' c5' f4' HK1' HG3' HG4'
  obtain ⟨y0, y1, y2, y3, y4, y5, y6, y7, _⟩ := cells8 HG3.out
  obtain ⟨z0, z1, z2, z3, z4, zf⟩ := cells5 HG4.out
  go_upto_region 17 with fail
  go_quiet (fail)
  clear y0 y1 y2 y3 y4 y5 y6 y7 z0 z1 z2 z3 z4 zf
  have c0' : (w3.drewN nq).cell? ⟨lay (.F i), 0, none⟩ = _ := c0
  have c4' : (w3.drewN nq).cell? ⟨lay (.F i), 4, none⟩ = _ := c4
  have c5' : (w3.drewN nq).cell? ⟨lay (.F i), 5, none⟩ = _ := c5
  have f4' : (w3.drewN nq).frozen? ⟨lay (.F i), 4, none⟩ = false := f4
  have HK1' := Lib.hid (HK1.out.drewN nq)
  have HG3' := Lib.hid (show (w3.drewN nq).heap[w.heap.size]? = _ from HG3.out)
  have HG4' := Lib.hid (show (w3.drewN nq).heap[w.heap.size + 1]? = _ from HG4.out)
  generalize w3.drewN nq = w4 at *
  clear c0 c4 c5 f4 HK1 HG3 HG4
  have c0 := c0'
  have c4 := c4'
  have c5 := c5'
  have f4 := f4'
  have HK1 := HK1'
  have HG3 := HG3'
  have HG4 := HG4'
  clear c0' c4' c5' f4' HK1' HG3' HG4'
  obtain ⟨y0, y1, y2, y3, y4, y5, y6, y7, _⟩ := cells8 HG3.out
  obtain ⟨z0, z1, z2, z3, z4, zf⟩ := cells5 HG4.out
  go_upto_region 19 with fail
  have g19 : ¬ (n : Int) + 1 < st + 1 := by omega
  go_quiet (fail)
  clear y0 y1 y2 y3 y4 y5 y6 y7 z0 z1 z2 z3 z4 zf
  have c0' : (w4.drewN nq).cell? ⟨lay (.F i), 0, none⟩ = _ := c0
  have c4' : (w4.drewN nq).cell? ⟨lay (.F i), 4, none⟩ = _ := c4
  have c5' : (w4.drewN nq).cell? ⟨lay (.F i), 5, none⟩ = _ := c5
  have f4' : (w4.drewN nq).frozen? ⟨lay (.F i), 4, none⟩ = false := f4
  have HK1' := Lib.hid (HK1.out.drewN nq)
  have HG3' := Lib.hid (show (w4.drewN nq).heap[w.heap.size]? = _ from HG3.out)
  have HG4' := Lib.hid (show (w4.drewN nq).heap[w.heap.size + 1]? = _ from HG4.out)
  generalize w4.drewN nq = w5 at *
  clear c0 c4 c5 f4 HK1 HG3 HG4
  have c0 := c0'
  have c4 := c4'
  have c5 := c5'
  have f4 := f4'
  have HK1 := HK1'
  have HG3 := HG3'
  have HG4 := HG4'
  clear c0' c4' c5' f4' HK1' HG3' HG4'
  obtain ⟨y0, y1, y2, y3, y4, y5, y6, y7, _⟩ := cells8 HG3.out
  obtain ⟨z0, z1, z2, z3, z4, zf⟩ := cells5 HG4.out
  go_upto_region 21 with fail
  have g21 : (2 : Int) * n < st + 1 := by omega
  go_quiet (fail)
  clear y0 y1 y2 y3 y4 y5 y6 y7 z0 z1 z2 z3 z4 zf
  have c0' : (w5.drewN nq).cell? ⟨lay (.F i), 0, none⟩ = _ := c0
  have c4' : (w5.drewN nq).cell? ⟨lay (.F i), 4, none⟩ = _ := c4
  have c5' : (w5.drewN nq).cell? ⟨lay (.F i), 5, none⟩ = _ := c5
  have f4' : (w5.drewN nq).frozen? ⟨lay (.F i), 4, none⟩ = false := f4
  have HK1' := Lib.hid (HK1.out.drewN nq)
  have HG3' := Lib.hid (show (w5.drewN nq).heap[w.heap.size]? = _ from HG3.out)
  have HG4' := Lib.hid (show (w5.drewN nq).heap[w.heap.size + 1]? = _ from HG4.out)
  generalize w5.drewN nq = w6 at *
  clear c0 c4 c5 f4 HK1 HG3 HG4
  have c0 := c0'
  have c4 := c4'
  have c5 := c5'
  have f4 := f4'
  have HK1 := HK1'
  have HG3 := HG3'
  have HG4 := HG4'
  clear c0' c4' c5' f4' HK1' HG3' HG4'
  obtain ⟨y0, y1, y2, y3, y4, y5, y6, y7, _⟩ := cells8 HG3.out
  obtain ⟨z0, z1, z2, z3, z4, zf⟩ := cells5 HG4.out
  go_wp2_with fail
  obtain ⟨w9, hw9, hA9, hc9⟩ := five_set HG4.out (.int .i64 8) (.int .i64 (sm)) (.int .i64 0) (.string ⟨#[]⟩) (.string ⟨#[]⟩)
  rw [hw9]
  obtain ⟨x0, x1, x2, x3, x4, _⟩ := cells5 hc9
  have KF := HK1.out.aside hA9 (by omega) HM.out
  refine bodyPost_ret (v := .agg #[.int .i64 8, .int .i64 (sm), .int .i64 0, .string ⟨#[]⟩, .string ⟨#[]⟩]) ?_ rfl ⟨rfl, KF, HOK.out, rfl⟩
  clear KF hw9 hA9 hc9
  simp [results, Tryz.results296, go_sem, x0, x1, x2, x3, x4]
  try rfl
set_option maxHeartbeats 1000000 in
set_option maxRecDepth 100000 in
theorem next_waitS {s lay} (i rn rm : Int) (w : World) (h : WxIs s lay w) (hi : i ∈ s.m.keys) (hc : (s.qs i).fp.child = false) (hs0 : 0 ≤ (s.qs i).fp.step) (hs1 : (s.qs i).fp.step ≤ 1000) (hn8 : s.ol.length ≤ 8) (hm0 : 0 ≤ (s.qs i).fp.sum) (hm1 : (s.qs i).fp.sum ≤ 100000) (hr0 : 0 ≤ rm) (hr1 : rm ≤ 100000) (hb : s.ol.length < (s.qs i).fp.step) (hb2 : (s.qs i).fp.step + 1 ≤ 2 * s.ol.length) :
    Calls Tryz.prog 296 #[ptrOf (lay (.F i)), .agg (rpV 0 rn rm)] w fun e w' => e = .returned (.agg (clV 9 0 [])) ∧ WStep s lay w (s.setQ i ((s.qs i).withFp { (s.qs i).fp with step := (s.qs i).fp.step + 1, sum := (s.qs i).fp.sum + rm })) lay w' := by
  obtain ⟨p, hp⟩ : ∃ p, (s.qs i).fp = p := ⟨_, rfl⟩
  obtain ⟨st, hst⟩ : ∃ st, p.step = st := ⟨_, rfl⟩
  obtain ⟨sm, hsm⟩ : ∃ sm, p.sum = sm := ⟨_, rfl⟩
  obtain ⟨n, hnn⟩ : ∃ n, s.ol.length = n := ⟨_, rfl⟩
  rw [hp] at hc hs0 hs1 hm0 hm1 ⊢
  try rw [hp] at hb
  try rw [hst] at hb
  try rw [hnn] at hb
  try rw [hp] at hb2
  try rw [hst] at hb2
  try rw [hnn] at hb2
  rw [hst] at hs0 hs1 ⊢
  rw [hsm] at hm0 hm1
  try rw [hsm]
  rw [hnn] at hn8
  have H := Lib.hid h
  have HP := Lib.hid hp
  have HST := Lib.hid hst
  have HC := Lib.hid (And.intro hc hsm)
  have HNN := Lib.hid hnn
  have hfl := wx_fl h.lies hi
  unfold ptrOf rpV clV at *
  clear h hc hp hst hsm hnn
  go_enter Tryz.func296, Tryz.ntmps296
  go_upto_region 1 with fail
  obtain ⟨w1, hw1, hB1, hb3, hb4, hz1⟩ := two_newG w (.cells #[.int .i64 0, .int .i64 rn, .int .i64 rm, .string ByteArray.empty, .slice none 0 0, .int .i64 0, .int .i64 0, .int .i64 0] 37) (.cells #[.int .i64 0, .int .i64 0, .int .i64 0, .string ⟨#[]⟩, .string ⟨#[]⟩] 31)
  rw [hw1]
  clear hw1
  have I1 := H.out.below hB1
  have n4 := H.out.lies.fresh (Nat.le_succ w.heap.size)
  have c3 := wx_f I1.lies hi (k := 3) (v := .bool p.child) (by rw [HP.out]; rfl)
  have c5 := wx_f I1.lies hi (k := 5) (v := .int .i64 p.step) (by rw [HP.out]; rfl)
  have f5 := wx_ff I1.lies hi 5
  rw [HC.out.1] at c3
  rw [HST.out] at c5
  have K1 := wx_setF (GStep.refl I1.lies) hi 5 (.int .i64 (st + 1)) { p with step := st + 1 } (by rw [HP.out]) (by rw [HP.out]; simp [fpV])
  have hm4 := K1.fresh n4 (by omega)
  have g3 := (((Aside.refl (lay (.F i)) w1).set 5 (.int .i64 (st + 1))).block w.heap.size (by omega)).trans hb3
  have g4 := (((Aside.refl (lay (.F i)) w1).set 5 (.int .i64 (st + 1))).block (w.heap.size + 1) (by omega)).trans hb4
  have HK1 := Lib.hid (((GStep.refl H.out.lies).below hB1).trans K1)
  have HG3 := Lib.hid g3
  have HG4 := Lib.hid g4
  have HM := Lib.hid hm4
  have i3 := wx_f K1.lies (i := i) hi (k := 3) (v := .bool false) (by rw [setQ_qs]; simp [withFp_fp, fpV, HC.out.1])
  clear K1 hm4 g3 g4 hb3 hb4 n4 I1 hB1 hz1
  go_upto_region 11 with fail
  generalize w1.setCell ⟨lay (.F i), 5, none⟩ (.int .i64 (st + 1)) = w2 at *
  clear c3 c5 f5 i3
  have I2 : WxIs (s.setQ i ((s.qs i).withFp { p with step := st + 1 })) lay w2 := ⟨HK1.out.lies, H.out.ok.setQ _ (by rw [HP.out]; rfl) (by rw [HP.out]; rfl)⟩
  obtain ⟨ad, cap, htv⟩ := wx_tv_any (s.setQ i ((s.qs i).withFp { p with step := st + 1 })) lay i I2.ok.x
  have c0 := wx_f I2.lies hi (k := 0) (v := (s.setQ i ((s.qs i).withFp { p with step := st + 1 })).tv lay i) rfl
  have c4 := wx_f I2.lies hi (k := 4) (v := .int .i64 sm) (by rw [setQ_qs]; simp [withFp_fp, fpV, HC.out.2])
  have c5 := wx_f I2.lies hi (k := 5) (v := .int .i64 (st + 1)) (by simp [Wx.setQ, Qs.withFp, fpV])
  have f4 := wx_ff I2.lies (i := i) hi 4
  rw [htv, show (s.setQ i ((s.qs i).withFp { p with step := st + 1 })).ol.length = n from HNN.out] at c0
  have HOK := Lib.hid I2.ok
  clear I2 htv
  have hn8' : (n : Int) ≤ 8 := by omega
  have g11 : (1 : Int) < st + 1 := by omega
  have g12 : ¬ st + 1 ≤ (n : Int) + 1 := by omega
  have g17 : ¬ st + 1 ≤ (n : Int) := by omega
  go_quiet (fail)
  have c0' : (w2.drewN nq).cell? ⟨lay (.F i), 0, none⟩ = _ := c0
  have c4' : (w2.drewN nq).cell? ⟨lay (.F i), 4, none⟩ = _ := c4
  have c5' : (w2.drewN nq).cell? ⟨lay (.F i), 5, none⟩ = _ := c5
  have f4' : (w2.drewN nq).frozen? ⟨lay (.F i), 4, none⟩ = false := f4
  have HK1' := Lib.hid (HK1.out.drewN nq)
  have HG3' := Lib.hid (show (w2.drewN nq).heap[w.heap.size]? = _ from HG3.out)
  have HG4' := Lib.hid (show (w2.drewN nq).heap[w.heap.size + 1]? = _ from HG4.out)
  generalize w2.drewN nq = w3 at *
  clear c0 c4 c5 f4 HK1 HG3 HG4
  have c0 := c0'
  have c4 := c4'
  have c5 := c5'
  have f4 := f4'
  have HK1 := HK1'
  have HG3 := HG3'
  have HG4 := HG4'
  clear c0' c4' c5' f4' HK1' HG3' HG4'
  obtain ⟨y0, y1, y2, y3, y4, y5, y6, y7, _⟩ := cells8 HG3.out
  obtain ⟨z0, z1, z2, z3, z4, zf⟩ := cells5 HG4.out
  go_upto_region 17 with fail
  go_quiet (fail)
  clear y0 y1 y2 y3 y4 y5 y6 y7 z0 z1 z2 z3 z4 zf
  have c0' : (w3.drewN nq).cell? ⟨lay (.F i), 0, none⟩ = _ := c0
  have c4' : (w3.drewN nq).cell? ⟨lay (.F i), 4, none⟩ = _ := c4
  have c5' : (w3.drewN nq).cell? ⟨lay (.F i), 5, none⟩ = _ := c5
  have f4' : (w3.drewN nq).frozen? ⟨lay (.F i), 4, none⟩ = false := f4
  have HK1' := Lib.hid (HK1.out.drewN nq)
  have HG3' := Lib.hid (show (w3.drewN nq).heap[w.heap.size]? = _ from HG3.out)
  have HG4' := Lib.hid (show (w3.drewN nq).heap[w.heap.size + 1]? = _ from HG4.out)
  generalize w3.drewN nq = w4 at *
  clear c0 c4 c5 f4 HK1 HG3 HG4
  have c0 := c0'
  have c4 := c4'
  have c5 := c5'
  have f4 := f4'
  have HK1 := HK1'
  have HG3 := HG3'
  have HG4 := HG4'
  clear c0' c4' c5' f4' HK1' HG3' HG4'
  obtain ⟨y0, y1, y2, y3, y4, y5, y6, y7, _⟩ := cells8 HG3.out
  obtain ⟨z0, z1, z2, z3, z4, zf⟩ := cells5 HG4.out
  go_upto_region 19 with fail
  have g19 : (n : Int) + 1 < st + 1 := by omega
  go_quiet (fail)
  clear y0 y1 y2 y3 y4 y5 y6 y7 z0 z1 z2 z3 z4 zf
  have c0' : (w4.drewN nq).cell? ⟨lay (.F i), 0, none⟩ = _ := c0
  have c4' : (w4.drewN nq).cell? ⟨lay (.F i), 4, none⟩ = _ := c4
  have c5' : (w4.drewN nq).cell? ⟨lay (.F i), 5, none⟩ = _ := c5
  have f4' : (w4.drewN nq).frozen? ⟨lay (.F i), 4, none⟩ = false := f4
  have HK1' := Lib.hid (HK1.out.drewN nq)
  have HG3' := Lib.hid (show (w4.drewN nq).heap[w.heap.size]? = _ from HG3.out)
  have HG4' := Lib.hid (show (w4.drewN nq).heap[w.heap.size + 1]? = _ from HG4.out)
  generalize w4.drewN nq = w5 at *
  clear c0 c4 c5 f4 HK1 HG3 HG4
  have c0 := c0'
  have c4 := c4'
  have c5 := c5'
  have f4 := f4'
  have HK1 := HK1'
  have HG3 := HG3'
  have HG4 := HG4'
  clear c0' c4' c5' f4' HK1' HG3' HG4'
  obtain ⟨y0, y1, y2, y3, y4, y5, y6, y7, _⟩ := cells8 HG3.out
  obtain ⟨z0, z1, z2, z3, z4, zf⟩ := cells5 HG4.out
  go_upto_region 20 with fail
  go_still_tail 10, (by kernel_rfl)
  have c0' : w5.drew.cell? ⟨lay (.F i), 0, none⟩ = _ := c0
  have c4' : w5.drew.cell? ⟨lay (.F i), 4, none⟩ = _ := c4
  have c5' : w5.drew.cell? ⟨lay (.F i), 5, none⟩ = _ := c5
  have f4' : w5.drew.frozen? ⟨lay (.F i), 4, none⟩ = false := f4
  have HK1' := Lib.hid (HK1.out.drew)
  have HG4' := Lib.hid (show w5.drew.heap[w.heap.size + 1]? = _ from HG4.out)
  change wpList _ _ _ _ _ w5.drew
  generalize w5.drew = w6 at *
  clear c0 c4 c5 f4 HK1 HG4 y0 y1 y2 y3 y4 y5 y6 y7 z0 z1 z2 z3 z4 zf HG3
  have K2 := wx_setF HK1'.out (i := i) hi 4 (.int .i64 (sm + rm)) { p with step := st + 1, sum := sm + rm } (by rw [setQ_qs]; rfl) (by rw [setQ_qs]; simp [withFp_fp, fpV])
  rw [setQ_setQ, setQ_qs, withFp_withFp] at K2
  have hA6 := (Aside.refl (lay (.F i)) w6).set 4 (.int .i64 (sm + rm))
  have HG4 := Lib.hid ((hA6.block (w.heap.size + 1) (by omega)).trans HG4'.out)
  have d0 := wx_f K2.lies (i := i) hi (k := 0) (v := (s.setQ i ((s.qs i).withFp { p with step := st + 1, sum := sm + rm })).tv lay i) rfl
  obtain ⟨ad2, cap2, htv2⟩ := wx_tv_any (s.setQ i ((s.qs i).withFp { p with step := st + 1, sum := sm + rm })) lay i H.out.ok.x
  rw [htv2, show (s.setQ i ((s.qs i).withFp { p with step := st + 1, sum := sm + rm })).ol.length = n from HNN.out] at d0
  have d4 := wx_f K2.lies (i := i) hi (k := 4) (v := .int .i64 (sm + rm)) (by rw [setQ_qs]; simp [withFp_fp, fpV])
  have d5 := wx_f K2.lies (i := i) hi (k := 5) (v := .int .i64 (st + 1)) (by rw [setQ_qs]; simp [withFp_fp, fpV])
  have HM2 := Lib.hid (fun ho => HM.out (by
    obtain ⟨j, hj, e⟩ := ho
    refine ⟨j, ?_, e⟩
    intro e2
    by_cases hji : j = .A i
    · subst hji
      apply hj
      simp only [Wx.obj, Wx.setQ, Qs.withFp, if_pos] at e2 ⊢
      exact e2
    · exact wx_live hji hj e2) : ¬ Owns ((s.setQ i ((s.qs i).withFp { p with step := st + 1, sum := sm + rm })).obj lay) lay (w.heap.size + 1))
  have HOK2 := Lib.hid (H.out.ok.setQ (i := i) ((s.qs i).withFp { p with step := st + 1, sum := sm + rm }) (by rw [HP.out]; rfl) (by rw [HP.out]; rfl))
  have HK2 := Lib.hid K2
  clear K2 hA6 HG4' HK1' htv2 HM HOK
  have HM := HM2
  have HOK := HOK2
  clear HM2 HOK2
  go_upto_region 21 with fail
  have g21 : ¬ (2 : Int) * n < st + 1 := by omega
  generalize w6.setCell ⟨lay (.F i), 4, none⟩ (.int .i64 (sm + rm)) = w7 at *
  clear c0' c4' c5' f4'
  go_quiet (fail)
  have d4' : (w7.drewN nq).cell? ⟨lay (.F i), 4, none⟩ = _ := d4
  have HK1 := Lib.hid (HK2.out.drewN nq)
  have HG4' := Lib.hid (show (w7.drewN nq).heap[w.heap.size + 1]? = _ from HG4.out)
  generalize w7.drewN nq = w8 at *
  clear d0 d4 d5 HK2 HG4
  have HG4 := HG4'
  clear HG4'
  obtain ⟨z0, z1, z2, z3, z4, zf⟩ := cells5 HG4.out
  go_wp2_with fail
  obtain ⟨w9, hw9, hA9, hc9⟩ := five_set HG4.out (.int .i64 9) (.int .i64 (0)) (.int .i64 0) (.string ⟨#[]⟩) (.string ⟨#[]⟩)
  rw [hw9]
  obtain ⟨x0, x1, x2, x3, x4, _⟩ := cells5 hc9
  have KF := HK1.out.aside hA9 (by omega) HM.out
  refine bodyPost_ret (v := .agg #[.int .i64 9, .int .i64 (0), .int .i64 0, .string ⟨#[]⟩, .string ⟨#[]⟩]) ?_ rfl ⟨rfl, KF, HOK.out, rfl⟩
  clear KF hw9 hA9 hc9
  simp [results, Tryz.results296, go_sem, x0, x1, x2, x3, x4]
  try rfl
set_option maxHeartbeats 1000000 in
set_option maxRecDepth 100000 in
theorem next_exitS {s lay} (i rn rm : Int) (w : World) (h : WxIs s lay w) (hi : i ∈ s.m.keys) (hc : (s.qs i).fp.child = false) (hs0 : 0 ≤ (s.qs i).fp.step) (hs1 : (s.qs i).fp.step ≤ 1000) (hn8 : s.ol.length ≤ 8) (hm0 : 0 ≤ (s.qs i).fp.sum) (hm1 : (s.qs i).fp.sum ≤ 100000) (hr0 : 0 ≤ rm) (hr1 : rm ≤ 100000) (hb : s.ol.length < (s.qs i).fp.step) (hb2 : 2 * s.ol.length < (s.qs i).fp.step + 1) :
    Calls Tryz.prog 296 #[ptrOf (lay (.F i)), .agg (rpV 0 rn rm)] w fun e w' => e = .returned (.agg (clV 8 ((s.qs i).fp.sum + rm) [])) ∧ WStep s lay w (s.setQ i ((s.qs i).withFp { (s.qs i).fp with step := (s.qs i).fp.step + 1, sum := (s.qs i).fp.sum + rm })) lay w' := by
  obtain ⟨p, hp⟩ : ∃ p, (s.qs i).fp = p := ⟨_, rfl⟩
  obtain ⟨st, hst⟩ : ∃ st, p.step = st := ⟨_, rfl⟩
  obtain ⟨sm, hsm⟩ : ∃ sm, p.sum = sm := ⟨_, rfl⟩
  obtain ⟨n, hnn⟩ : ∃ n, s.ol.length = n := ⟨_, rfl⟩
  rw [hp] at hc hs0 hs1 hm0 hm1 ⊢
  try rw [hp] at hb
  try rw [hst] at hb
  try rw [hnn] at hb
  try rw [hp] at hb2
  try rw [hst] at hb2
  try rw [hnn] at hb2
  rw [hst] at hs0 hs1 ⊢
  rw [hsm] at hm0 hm1
  try rw [hsm]
  rw [hnn] at hn8
  have H := Lib.hid h
  have HP := Lib.hid hp
  have HST := Lib.hid hst
  have HC := Lib.hid (And.intro hc hsm)
  have HNN := Lib.hid hnn
  have hfl := wx_fl h.lies hi
  unfold ptrOf rpV clV at *
  clear h hc hp hst hsm hnn
  go_enter Tryz.func296, Tryz.ntmps296
  go_upto_region 1 with fail
  obtain ⟨w1, hw1, hB1, hb3, hb4, hz1⟩ := two_newG w (.cells #[.int .i64 0, .int .i64 rn, .int .i64 rm, .string ByteArray.empty, .slice none 0 0, .int .i64 0, .int .i64 0, .int .i64 0] 37) (.cells #[.int .i64 0, .int .i64 0, .int .i64 0, .string ⟨#[]⟩, .string ⟨#[]⟩] 31)
  rw [hw1]
  clear hw1
  have I1 := H.out.below hB1
  have n4 := H.out.lies.fresh (Nat.le_succ w.heap.size)
  have c3 := wx_f I1.lies hi (k := 3) (v := .bool p.child) (by rw [HP.out]; rfl)
  have c5 := wx_f I1.lies hi (k := 5) (v := .int .i64 p.step) (by rw [HP.out]; rfl)
  have f5 := wx_ff I1.lies hi 5
  rw [HC.out.1] at c3
  rw [HST.out] at c5
  have K1 := wx_setF (GStep.refl I1.lies) hi 5 (.int .i64 (st + 1)) { p with step := st + 1 } (by rw [HP.out]) (by rw [HP.out]; simp [fpV])
  have hm4 := K1.fresh n4 (by omega)
  have g3 := (((Aside.refl (lay (.F i)) w1).set 5 (.int .i64 (st + 1))).block w.heap.size (by omega)).trans hb3
  have g4 := (((Aside.refl (lay (.F i)) w1).set 5 (.int .i64 (st + 1))).block (w.heap.size + 1) (by omega)).trans hb4
  have HK1 := Lib.hid (((GStep.refl H.out.lies).below hB1).trans K1)
  have HG3 := Lib.hid g3
  have HG4 := Lib.hid g4
  have HM := Lib.hid hm4
  have i3 := wx_f K1.lies (i := i) hi (k := 3) (v := .bool false) (by rw [setQ_qs]; simp [withFp_fp, fpV, HC.out.1])
  clear K1 hm4 g3 g4 hb3 hb4 n4 I1 hB1 hz1
  go_upto_region 11 with fail
  generalize w1.setCell ⟨lay (.F i), 5, none⟩ (.int .i64 (st + 1)) = w2 at *
  clear c3 c5 f5 i3
  have I2 : WxIs (s.setQ i ((s.qs i).withFp { p with step := st + 1 })) lay w2 := ⟨HK1.out.lies, H.out.ok.setQ _ (by rw [HP.out]; rfl) (by rw [HP.out]; rfl)⟩
  obtain ⟨ad, cap, htv⟩ := wx_tv_any (s.setQ i ((s.qs i).withFp { p with step := st + 1 })) lay i I2.ok.x
  have c0 := wx_f I2.lies hi (k := 0) (v := (s.setQ i ((s.qs i).withFp { p with step := st + 1 })).tv lay i) rfl
  have c4 := wx_f I2.lies hi (k := 4) (v := .int .i64 sm) (by rw [setQ_qs]; simp [withFp_fp, fpV, HC.out.2])
  have c5 := wx_f I2.lies hi (k := 5) (v := .int .i64 (st + 1)) (by simp [Wx.setQ, Qs.withFp, fpV])
  have f4 := wx_ff I2.lies (i := i) hi 4
  rw [htv, show (s.setQ i ((s.qs i).withFp { p with step := st + 1 })).ol.length = n from HNN.out] at c0
  have HOK := Lib.hid I2.ok
  clear I2 htv
  have hn8' : (n : Int) ≤ 8 := by omega
  have g11 : (1 : Int) < st + 1 := by omega
  have g12 : ¬ st + 1 ≤ (n : Int) + 1 := by omega
  have g17 : ¬ st + 1 ≤ (n : Int) := by omega
  go_quiet (fail)
  have c0' : (w2.drewN nq).cell? ⟨lay (.F i), 0, none⟩ = _ := c0
  have c4' : (w2.drewN nq).cell? ⟨lay (.F i), 4, none⟩ = _ := c4
  have c5' : (w2.drewN nq).cell? ⟨lay (.F i), 5, none⟩ = _ := c5
  have f4' : (w2.drewN nq).frozen? ⟨lay (.F i), 4, none⟩ = false := f4
  have HK1' := Lib.hid (HK1.out.drewN nq)
  have HG3' := Lib.hid (show (w2.drewN nq).heap[w.heap.size]? = _ from HG3.out)
  have HG4' := Lib.hid (show (w2.drewN nq).heap[w.heap.size + 1]? = _ from HG4.out)
  generalize w2.drewN nq = w3 at *
  clear c0 c4 c5 f4 HK1 HG3 HG4
  have c0 := c0'
  have c4 := c4'
  have c5 := c5'
  have f4 := f4'
  have HK1 := HK1'
  have HG3 := HG3'
  have HG4 := HG4'
  clear c0' c4' c5' f4' HK1' HG3' HG4'
  obtain ⟨y0, y1, y2, y3, y4, y5, y6, y7, _⟩ := cells8 HG3.out
  obtain ⟨z0, z1, z2, z3, z4, zf⟩ := cells5 HG4.out
  go_upto_region 17 with fail
  go_quiet (fail)
  clear y0 y1 y2 y3 y4 y5 y6 y7 z0 z1 z2 z3 z4 zf
  have c0' : (w3.drewN nq).cell? ⟨lay (.F i), 0, none⟩ = _ := c0
  have c4' : (w3.drewN nq).cell? ⟨lay (.F i), 4, none⟩ = _ := c4
  have c5' : (w3.drewN nq).cell? ⟨lay (.F i), 5, none⟩ = _ := c5
  have f4' : (w3.drewN nq).frozen? ⟨lay (.F i), 4, none⟩ = false := f4
  have HK1' := Lib.hid (HK1.out.drewN nq)
  have HG3' := Lib.hid (show (w3.drewN nq).heap[w.heap.size]? = _ from HG3.out)
  have HG4' := Lib.hid (show (w3.drewN nq).heap[w.heap.size + 1]? = _ from HG4.out)
  generalize w3.drewN nq = w4 at *
  clear c0 c4 c5 f4 HK1 HG3 HG4
  have c0 := c0'
  have c4 := c4'
  have c5 := c5'
  have f4 := f4'
  have HK1 := HK1'
  have HG3 := HG3'
  have HG4 := HG4'
  clear c0' c4' c5' f4' HK1' HG3' HG4'
  obtain ⟨y0, y1, y2, y3, y4, y5, y6, y7, _⟩ := cells8 HG3.out
  obtain ⟨z0, z1, z2, z3, z4, zf⟩ := cells5 HG4.out
  go_upto_region 19 with fail
  have g19 : (n : Int) + 1 < st + 1 := by omega
  go_quiet (fail)
  clear y0 y1 y2 y3 y4 y5 y6 y7 z0 z1 z2 z3 z4 zf
  have c0' : (w4.drewN nq).cell? ⟨lay (.F i), 0, none⟩ = _ := c0
  have c4' : (w4.drewN nq).cell? ⟨lay (.F i), 4, none⟩ = _ := c4
  have c5' : (w4.drewN nq).cell? ⟨lay (.F i), 5, none⟩ = _ := c5
  have f4' : (w4.drewN nq).frozen? ⟨lay (.F i), 4, none⟩ = false := f4
  have HK1' := Lib.hid (HK1.out.drewN nq)
  have HG3' := Lib.hid (show (w4.drewN nq).heap[w.heap.size]? = _ from HG3.out)
  have HG4' := Lib.hid (show (w4.drewN nq).heap[w.heap.size + 1]? = _ from HG4.out)
  generalize w4.drewN nq = w5 at *
  clear c0 c4 c5 f4 HK1 HG3 HG4
  have c0 := c0'
  have c4 := c4'
  have c5 := c5'
  have f4 := f4'
  have HK1 := HK1'
  have HG3 := HG3'
  have HG4 := HG4'
  clear c0' c4' c5' f4' HK1' HG3' HG4'
  obtain ⟨y0, y1, y2, y3, y4, y5, y6, y7, _⟩ := cells8 HG3.out
  obtain ⟨z0, z1, z2, z3, z4, zf⟩ := cells5 HG4.out
  go_upto_region 20 with fail
  go_still_tail 10, (by kernel_rfl)
  have c0' : w5.drew.cell? ⟨lay (.F i), 0, none⟩ = _ := c0
  have c4' : w5.drew.cell? ⟨lay (.F i), 4, none⟩ = _ := c4
  have c5' : w5.drew.cell? ⟨lay (.F i), 5, none⟩ = _ := c5
  have f4' : w5.drew.frozen? ⟨lay (.F i), 4, none⟩ = false := f4
  have HK1' := Lib.hid (HK1.out.drew)
  have HG4' := Lib.hid (show w5.drew.heap[w.heap.size + 1]? = _ from HG4.out)
  change wpList _ _ _ _ _ w5.drew
  generalize w5.drew = w6 at *
  clear c0 c4 c5 f4 HK1 HG4 y0 y1 y2 y3 y4 y5 y6 y7 z0 z1 z2 z3 z4 zf HG3
  have K2 := wx_setF HK1'.out (i := i) hi 4 (.int .i64 (sm + rm)) { p with step := st + 1, sum := sm + rm } (by rw [setQ_qs]; rfl) (by rw [setQ_qs]; simp [withFp_fp, fpV])
  rw [setQ_setQ, setQ_qs, withFp_withFp] at K2
  have hA6 := (Aside.refl (lay (.F i)) w6).set 4 (.int .i64 (sm + rm))
  have HG4 := Lib.hid ((hA6.block (w.heap.size + 1) (by omega)).trans HG4'.out)
  have d0 := wx_f K2.lies (i := i) hi (k := 0) (v := (s.setQ i ((s.qs i).withFp { p with step := st + 1, sum := sm + rm })).tv lay i) rfl
  obtain ⟨ad2, cap2, htv2⟩ := wx_tv_any (s.setQ i ((s.qs i).withFp { p with step := st + 1, sum := sm + rm })) lay i H.out.ok.x
  rw [htv2, show (s.setQ i ((s.qs i).withFp { p with step := st + 1, sum := sm + rm })).ol.length = n from HNN.out] at d0
  have d4 := wx_f K2.lies (i := i) hi (k := 4) (v := .int .i64 (sm + rm)) (by rw [setQ_qs]; simp [withFp_fp, fpV])
  have d5 := wx_f K2.lies (i := i) hi (k := 5) (v := .int .i64 (st + 1)) (by rw [setQ_qs]; simp [withFp_fp, fpV])
  have HM2 := Lib.hid (fun ho => HM.out (by
    obtain ⟨j, hj, e⟩ := ho
    refine ⟨j, ?_, e⟩
    intro e2
    by_cases hji : j = .A i
    · subst hji
      apply hj
      simp only [Wx.obj, Wx.setQ, Qs.withFp, if_pos] at e2 ⊢
      exact e2
    · exact wx_live hji hj e2) : ¬ Owns ((s.setQ i ((s.qs i).withFp { p with step := st + 1, sum := sm + rm })).obj lay) lay (w.heap.size + 1))
  have HOK2 := Lib.hid (H.out.ok.setQ (i := i) ((s.qs i).withFp { p with step := st + 1, sum := sm + rm }) (by rw [HP.out]; rfl) (by rw [HP.out]; rfl))
  have HK2 := Lib.hid K2
  clear K2 hA6 HG4' HK1' htv2 HM HOK
  have HM := HM2
  have HOK := HOK2
  clear HM2 HOK2
  go_upto_region 21 with fail
  have g21 : (2 : Int) * n < st + 1 := by omega
  generalize w6.setCell ⟨lay (.F i), 4, none⟩ (.int .i64 (sm + rm)) = w7 at *
  clear c0' c4' c5' f4'
  go_quiet (fail)
  have d4' : (w7.drewN nq).cell? ⟨lay (.F i), 4, none⟩ = _ := d4
  have HK1 := Lib.hid (HK2.out.drewN nq)
  have HG4' := Lib.hid (show (w7.drewN nq).heap[w.heap.size + 1]? = _ from HG4.out)
  generalize w7.drewN nq = w8 at *
  clear d0 d4 d5 HK2 HG4
  have HG4 := HG4'
  clear HG4'
  obtain ⟨z0, z1, z2, z3, z4, zf⟩ := cells5 HG4.out
  go_wp2_with fail
  obtain ⟨w9, hw9, hA9, hc9⟩ := five_set HG4.out (.int .i64 8) (.int .i64 (sm + rm)) (.int .i64 0) (.string ⟨#[]⟩) (.string ⟨#[]⟩)
  rw [hw9]
  obtain ⟨x0, x1, x2, x3, x4, _⟩ := cells5 hc9
  have KF := HK1.out.aside hA9 (by omega) HM.out
  refine bodyPost_ret (v := .agg #[.int .i64 8, .int .i64 (sm + rm), .int .i64 0, .string ⟨#[]⟩, .string ⟨#[]⟩]) ?_ rfl ⟨rfl, KF, HOK.out, rfl⟩
  clear KF hw9 hA9 hc9
  simp [results, Tryz.results296, go_sem, x0, x1, x2, x3, x4]
  try rfl
end Go.Proofs.YtelohloaoocoaaaGreatDoor
/- family.Next of a child that is new; Copy. -/
namespace Go.Proofs.YtelohloaoocoaaaGreatDoor
open Go.RowKit IntWalk
set_option linter.unusedVariables false
set_option linter.unusedSimpArgs false
set_option linter.unnecessarySimpa false

theorem wx_live2 {s : Wx} {lay : WId → Nat} {i : Int} {q q' : Qs} {j : WId} (ho : q.fp.own = q'.fp.own) (h : (s.setQ i q).obj lay j ≠ none) : (s.setQ i q').obj lay j ≠ none := by
  by_cases hji : j = .A i
  · subst hji
    intro e
    apply h
    simp only [Wx.obj, Wx.setQ, if_pos] at e ⊢
    rw [ho]; exact e
  · exact wx_live hji h
theorem wx_notown {s : Wx} {lay : WId → Nat} {i : Int} {q q' : Qs} {b : Nat} (ho : q.fp.own = q'.fp.own) (h : ¬ Owns ((s.setQ i q').obj lay) lay b) : ¬ Owns ((s.setQ i q).obj lay) lay b := fun ⟨j, hj, e⟩ => h ⟨j, wx_live2 ho hj, e⟩
set_option maxHeartbeats 1000000 in
set_option maxRecDepth 100000 in
theorem next_new {s lay} (i rm : Int) (k : Nat) (t : List UInt8) (w : World) (h : WxIs s lay w) (hi : i ∈ s.m.keys) (hc : (s.qs i).fp.child = false) (hst : (s.qs i).fp.step = (k : Int) + 1) (ht : (s.qs i).fp.tl[k]? = some t) (htl : t.length ≤ 1000) (hp0 : 1 ≤ (s.qs i).fp.pieces) (hp1 : (s.qs i).fp.pieces ≤ 1000) (hn8 : s.ol.length ≤ 8) :
    Calls Tryz.prog 296 #[ptrOf (lay (.F i)), .agg (rpV 0 0 rm)] w fun e w' => e = .returned (.agg (clV (askK t) (askF (k : Int) t) (askD (s.qs i).fp.pieces t))) ∧ WStep s lay w (s.setQ i ((s.qs i).withFp { (s.qs i).fp with child := true, at_ := (k : Int), step := 2 })) lay w' := by
  have hkl : k < s.ol.length := by rw [← (h.ok.a i hi).1]; exact (List.getElem?_eq_some_iff.1 ht).1
  obtain ⟨p, hp⟩ : ∃ p, (s.qs i).fp = p := ⟨_, rfl⟩
  obtain ⟨n, hnn⟩ : ∃ n, s.ol.length = n := ⟨_, rfl⟩
  obtain ⟨pc, hpc⟩ : ∃ pc, p.pieces = pc := ⟨_, rfl⟩
  rw [hp] at hc hst ht hp0 hp1 ⊢
  rw [hpc] at hp0 hp1 ⊢
  rw [hnn] at hn8 hkl
  obtain ⟨st, hsv⟩ : ∃ st, p.step = st := ⟨_, rfl⟩
  rw [hsv] at hst
  have hsA : st ≤ (k : Int) + 1 := by omega
  have hsB : (k : Int) + 1 ≤ st := by omega
  have HSE := Lib.hid hst
  have H := Lib.hid h
  have HP := Lib.hid hp
  have HST := Lib.hid hsv
  have HC := Lib.hid (And.intro hc hpc)
  have HT := Lib.hid ht
  have HNN := Lib.hid hnn
  have hfl := wx_fl h.lies hi
  have hk8 : (k : Int) < n := by omega
  unfold ptrOf rpV clV at *
  clear h hc hp hst hnn ht hpc hsv
  go_enter Tryz.func296, Tryz.ntmps296
  go_upto_region 1 with fail
  obtain ⟨w1, hw1, hB1, hb3, hb4, hz1⟩ := two_newG w (.cells #[.int .i64 0, .int .i64 0, .int .i64 rm, .string ByteArray.empty, .slice none 0 0, .int .i64 0, .int .i64 0, .int .i64 0] 37) (.cells #[.int .i64 0, .int .i64 0, .int .i64 0, .string ⟨#[]⟩, .string ⟨#[]⟩] 31)
  rw [hw1]
  clear hw1
  have I1 := H.out.below hB1
  have n4 := H.out.lies.fresh (Nat.le_succ w.heap.size)
  have c3 := wx_f I1.lies hi (k := 3) (v := .bool p.child) (by rw [HP.out]; rfl)
  have c5 := wx_f I1.lies hi (k := 5) (v := .int .i64 p.step) (by rw [HP.out]; rfl)
  have f5 := wx_ff I1.lies hi 5
  rw [HC.out.1] at c3
  rw [HST.out] at c5
  have K1 := wx_setF (GStep.refl I1.lies) hi 5 (.int .i64 (st + 1)) { p with step := st + 1 } (by rw [HP.out]) (by rw [HP.out]; simp [fpV])
  have hm4 := K1.fresh n4 (by omega)
  have g3 := (((Aside.refl (lay (.F i)) w1).set 5 (.int .i64 (st + 1))).block w.heap.size (by omega)).trans hb3
  have g4 := (((Aside.refl (lay (.F i)) w1).set 5 (.int .i64 (st + 1))).block (w.heap.size + 1) (by omega)).trans hb4
  have HK1 := Lib.hid (((GStep.refl H.out.lies).below hB1).trans K1)
  have HG3 := Lib.hid g3
  have HG4 := Lib.hid g4
  have HM := Lib.hid hm4
  clear hm4 g3 g4 hb3 hb4 n4 I1 hB1 hz1 K1
  go_upto_region 11 with fail
  generalize w1.setCell ⟨lay (.F i), 5, none⟩ (.int .i64 (st + 1)) = w2 at *
  clear c3 c5 f5
  have I2 : WxIs (s.setQ i ((s.qs i).withFp { p with step := st + 1 })) lay w2 := ⟨HK1.out.lies, H.out.ok.setQ _ (by rw [HP.out]; rfl) (by rw [HP.out]; rfl)⟩
  obtain ⟨ad, cap, htv⟩ := wx_tv_any (s.setQ i ((s.qs i).withFp { p with step := st + 1 })) lay i I2.ok.x
  have c0 := wx_f I2.lies hi (k := 0) (v := (s.setQ i ((s.qs i).withFp { p with step := st + 1 })).tv lay i) rfl
  have c2 := wx_f I2.lies hi (k := 2) (v := .int .i64 p.at_) (by rw [setQ_qs]; simp [withFp_fp, fpV])
  have c3 := wx_f I2.lies hi (k := 3) (v := .bool false) (by rw [setQ_qs]; simp [withFp_fp, fpV, HC.out.1])
  have c5 := wx_f I2.lies hi (k := 5) (v := .int .i64 (st + 1)) (by rw [setQ_qs]; simp [withFp_fp, fpV])
  have ff := wx_ff I2.lies (i := i) hi
  rw [htv, show (s.setQ i ((s.qs i).withFp { p with step := st + 1 })).ol.length = n from HNN.out] at c0
  clear I2 htv
  have g11 : (1 : Int) < st + 1 := by omega
  have g12 : st + 1 ≤ (n : Int) + 1 := by omega
  go_quiet (fail)
  have d2 : (w2.drewN nq).cell? ⟨lay (.F i), 2, none⟩ = _ := c2
  have d3 : (w2.drewN nq).cell? ⟨lay (.F i), 3, none⟩ = _ := c3
  have d5 : (w2.drewN nq).cell? ⟨lay (.F i), 5, none⟩ = _ := c5
  have e2 : (w2.drewN nq).frozen? ⟨lay (.F i), 2, none⟩ = false := ff 2
  have e3 : (w2.drewN nq).frozen? ⟨lay (.F i), 3, none⟩ = false := ff 3
  have e5 : (w2.drewN nq).frozen? ⟨lay (.F i), 5, none⟩ = false := ff 5
  have HK3 := Lib.hid (HK1.out.drewN nq)
  have HG3' := Lib.hid (show (w2.drewN nq).heap[w.heap.size]? = _ from HG3.out)
  have HG4' := Lib.hid (show (w2.drewN nq).heap[w.heap.size + 1]? = _ from HG4.out)
  obtain ⟨y0, y1, y2, y3, y4, y5, y6, y7, _⟩ := cells8 HG3'.out
  generalize w2.drewN nq = w3 at *
  clear c0 c2 c3 c5 ff HK1 HG3 HG4
  have hst1 : st + 1 - 2 = (k : Int) := by have := HSE.out; omega
  have K3 := HK3.out
  have K4 := wx_setF K3 (i := i) hi 3 (.bool true) { p with step := st + 1, child := true } (by rw [setQ_qs]; rfl) (by rw [setQ_qs]; simp [withFp_fp, fpV])
  rw [setQ_setQ, setQ_qs, withFp_withFp] at K4
  have K5 := wx_setF K4 (i := i) hi 2 (.int .i64 (k : Int)) { p with step := st + 1, child := true, at_ := (k : Int) } (by rw [setQ_qs]; rfl) (by rw [setQ_qs]; simp [withFp_fp, fpV, hst1])
  rw [setQ_setQ, setQ_qs, withFp_withFp] at K5
  have K6 := wx_setF K5 (i := i) hi 5 (.int .i64 1) { p with step := 1, child := true, at_ := (k : Int) } (by rw [setQ_qs]; rfl) (by rw [setQ_qs]; simp [withFp_fp, fpV])
  rw [setQ_setQ, setQ_qs, withFp_withFp] at K6
  have hA6 := (((Aside.refl (lay (.F i)) w3).set 3 (.bool true)).set 2 (.int .i64 (k : Int))).set 5 (.int .i64 1)
  have hst1 : st + 1 - 2 = (k : Int) := by have := HSE.out; omega
  have HG6 := Lib.hid ((hA6.block (w.heap.size + 1) (by omega)).trans HG4'.out)
  have hok6 : (s.setQ i ((s.qs i).withFp { p with step := 1, child := true, at_ := (k : Int) })).Ok := H.out.ok.setQ _ (by rw [HP.out]; rfl) (by rw [HP.out]; rfl)
  have hnx := next_child1 (s := s.setQ i ((s.qs i).withFp { p with step := 1, child := true, at_ := (k : Int) })) (lay := lay) i 0 0 0 k t _ ⟨K6.lies, hok6⟩ hi (by rw [setQ_qs]; rfl) (by rw [setQ_qs]; rfl) (by rw [setQ_qs]; simp [withFp_fp]) (by rw [setQ_qs]; simp [withFp_fp]) (by rw [setQ_qs]; exact HT.out) htl (by rw [setQ_qs]; simp [withFp_fp, HC.out.2]; exact hp0) (by rw [setQ_qs]; simp [withFp_fp, HC.out.2]; exact hp1) (by show s.ol.length ≤ 8; rw [HNN.out]; exact hn8)
  rw [setQ_setQ, setQ_qs, withFp_fp, withFp_withFp] at hnx
  have HNX := Lib.hid hnx
  have HK6 := Lib.hid K6
  have hlt6 : w.heap.size + 1 < w3.heap.size := (Array.getElem?_eq_some_iff.1 HG4'.out).1
  unfold ptrOf rpV clV at HNX
  clear K3 K4 K5 K6 hA6 hok6 hnx hst1
  go_upto_region 16 with fail
  generalize ((w3.setCell ⟨lay (.F i), 3, none⟩ (.bool true)).setCell ⟨lay (.F i), 2, none⟩ (.int .i64 (k : Int))).setCell ⟨lay (.F i), 5, none⟩ (.int .i64 1) = w4 at *
  have hM6 : ¬ Owns ((s.setQ i ((s.qs i).withFp { p with step := 1, child := true, at_ := (k : Int) })).obj lay) lay (w.heap.size + 1) := wx_notown (q' := (s.qs i).withFp { p with step := st + 1 }) rfl HM.out
  have hM7 : ¬ Owns ((s.setQ i ((s.qs i).withFp { p with step := 2, child := true, at_ := (k : Int) })).obj lay) lay (w.heap.size + 1) := wx_notown (q' := (s.qs i).withFp { p with step := st + 1 }) rfl HM.out
  have HM6 := Lib.hid hM6
  have HM7 := Lib.hid hM7
  clear hM6 hM7 d2 d3 d5 e2 e3 e5 y0 y1 y2 y3 y4 y5 y6 y7
  go_wp2_with (go_at_call 296; refine HNX.out.mono ?_; rintro e w5 ⟨rfl, hws⟩; have hb5 := hws.g.heap HG6.out HM6.out; have HB5 := Lib.hid hb5; obtain ⟨z0, z1, z2, z3, z4, zf⟩ := cells5 hb5; have HW := Lib.hid hws; clear hws hb5)
  obtain ⟨w9, hw9, hA9, hc9⟩ := five_set HB5.out (.int .i64 (askK t)) (.int .i64 (askF (k : Int) t)) (.int .i64 0) (.string ByteArray.empty) (.string ⟨(askD p.pieces t).toArray⟩)
  rw [hw9]
  obtain ⟨x0, x1, x2, x3, x4, _⟩ := cells5 hc9
  have HW2 : WStep (s.setQ i ((s.qs i).withFp { p with step := 1, child := true, at_ := (k : Int) })) lay w4 (s.setQ i ((s.qs i).withFp { p with step := 2, child := true, at_ := (k : Int) })) lay w5 := HW.out
  have KF := (HK6.out.trans HW2.g).aside hA9 (by omega) HM7.out
  have hcd : askD p.pieces t = askD pc t := by rw [HC.out.2]
  refine bodyPost_ret (v := .agg #[.int .i64 (askK t), .int .i64 (askF (k : Int) t), .int .i64 0, .string ByteArray.empty, .string ⟨(askD p.pieces t).toArray⟩]) ?_ rfl ⟨by rw [hcd], KF, HW2.ok, rfl⟩
  clear KF hw9 hA9 hc9 HW2 hcd
  simp [results, Tryz.results296, go_sem, x0, x1, x2, x3, x4]
  try rfl
end Go.Proofs.YtelohloaoocoaaaGreatDoor
/- family.Copy; world.ready. -/
namespace Go.Proofs.YtelohloaoocoaaaGreatDoor
open Go.RowKit IntWalk
set_option linter.unusedVariables false
set_option linter.unusedSimpArgs false
set_option linter.unnecessarySimpa false

theorem copy_any {s lay} (i : Int) (w : World) (h : WxIs s lay w) (hi : i ∈ s.m.keys) : Calls Tryz.prog 295 #[ptrOf (lay (.F i))] w fun e w' =>
    e = .returned (.iface 64 (ptrOf w.heap.size)) ∧ w.alloc (.cells (fpV (s.tv lay i) (s.qs i).fp) 66 (0, 0)) = w' := by
  obtain ⟨ad, cap, htv⟩ := wx_tv_any s lay i h.ok.x
  have c0 := wx_f h.lies hi (k := 0) (v := s.tv lay i) rfl
  have c1 := wx_f h.lies hi (k := 1) (v := .int .i64 (s.qs i).fp.pieces) rfl
  have c2 := wx_f h.lies hi (k := 2) (v := .int .i64 (s.qs i).fp.at_) rfl
  have c3 := wx_f h.lies hi (k := 3) (v := .bool (s.qs i).fp.child) rfl
  have c4 := wx_f h.lies hi (k := 4) (v := .int .i64 (s.qs i).fp.sum) rfl
  have c5 := wx_f h.lies hi (k := 5) (v := .int .i64 (s.qs i).fp.step) rfl
  rw [htv] at c0 ⊢
  have hfl := wx_fl h.lies hi
  unfold fpV ptrOf at *
  generalize s.ol.length = n at *
  clear h htv
  go_enter Tryz.func295, Tryz.ntmps295
  go_wp2
  go_ret
  exact ⟨rfl, rfl⟩
theorem kready_any {s l} (w : World) (h : KsIs s l w) (hlen : s.t.m.es.length ≤ 1000000) :
    Calls Tryz.prog 10 #[ptrOf (l.k .K)] w fun e w' => ∃ v, e = .returned v ∧ Below w.heap.size w w' ∧ OwnI w' w.heap.size v s.t.ready ∧ (s.t.ready = [] → v = .slice none 0 0) := by
  have k2 := h.k2
  have HR := Lib.hid (ready_tab w h.tab hlen)
  unfold ptrOf at *
  clear h
  go_enter Tryz.func10, Tryz.ntmps10
  go_wp2_with (go_at_call 23; refine HR.out.mono ?_; rintro e w' ⟨v, rfl, hB, hO, hn⟩; have HV := Lib.hid (And.intro hB (And.intro hO hn)); clear hB hO hn)
  go_ret
  exact ⟨_, rfl, HV.out⟩
theorem OwnI.at {w : World} {base : Nat} {v : Value} {L : List Int} (h : OwnI w base v L) : (v = .slice none 0 0 ∧ L = []) ∨ ∃ g cap, v = .slice (some ⟨g, 0, none⟩) L.length cap ∧ base ≤ g ∧ g < w.heap.size ∧ L.length ≤ cap ∧ ∀ (j : Nat) (x : Int), L[j]? = some x → w.cell? ⟨g, j, none⟩ = some (.int .i64 x) := by
  obtain ⟨hxs, hr⟩ := h
  rcases hr with ⟨rfl, hn⟩ | ⟨g, cap, cur, rfl, hb, hg, hnc, hcm, hcs, htk⟩
  · exact .inl ⟨rfl, List.eq_nil_of_length_eq_zero hn⟩
  · refine .inr ⟨g, cap, rfl, hb, (Array.getElem?_eq_some_iff.1 hg).1, hnc, fun j x hj => ?_⟩
    have hjl : j < L.length := (List.getElem?_eq_some_iff.1 hj).1
    have h1 : (cur.toList.take (L.length * 1))[j]? = some (.int .i64 x) := by rw [htk, List.getElem?_map, hj]; rfl
    rw [List.getElem?_take_of_lt (by omega), Array.getElem?_toList] at h1
    simp [World.cell?, hg, h1]
theorem OwnI.slice {w : World} {base : Nat} {v : Value} {L : List Int} (h : OwnI w base v L) : ∃ a cap, v = .slice a L.length cap := by
  rcases h.at with ⟨rfl, rfl⟩ | ⟨g, cap, rfl, _⟩
  · exact ⟨none, 0, rfl⟩
  · exact ⟨_, cap, rfl⟩
theorem OwnI.kept {w w' : World} {base : Nat} {v : Value} {L : List Int} (h : OwnI w base v L) (hb : ∀ k, k < w.heap.size → w'.heap[k]? = w.heap[k]?) : OwnI w' base v L := by
  obtain ⟨hxs, hr⟩ := h
  refine ⟨hxs, ?_⟩
  rcases hr with ⟨rfl, hn⟩ | ⟨g, cap, cur, rfl, hbg, hg, hr⟩
  · exact .inl ⟨rfl, hn⟩
  · exact .inr ⟨g, cap, cur, rfl, hbg, (hb g (Array.getElem?_eq_some_iff.1 hg).1).trans hg, hr⟩
/-- the round's world -/
structure WrR (w1 : World) (L : List Int) (v : Value) (k : Nat) (W : World) : Prop where
  own : OwnI W w1.heap.size v (L.take k)
  below : Below w1.heap.size w1 W
set_option maxHeartbeats 1000000 in
set_option maxRecDepth 100000 in
theorem wready_any {s l x lw} (w : World) (h : KsIs s l w) (hx : WxIs x lw w) (hkb : x.kb = l.k .K) (hlen : s.t.m.es.length ≤ 1000000) (hl : s.t.ready.length ≤ 1000000) (hin : ∀ i ∈ s.t.ready, i ∈ x.m.keys) :
    Calls Tryz.prog 24 #[ptrOf (lw .W)] w fun e w' => ∃ v, e = .returned v ∧ Below w.heap.size w w' ∧ OwnI w' w.heap.size v s.t.ready := by
  have c0 := wx_w0 hx.lies
  rw [hkb] at c0
  have HR := Lib.hid (kready_any w h hlen)
  have HX := Lib.hid hx
  have HIN := Lib.hid hin
  generalize s.t.ready = L at *
  have hll : (L.length : Int) ≤ 1000000 := by omega
  unfold ptrOf at *
  clear h hx hin hkb
  go_enter Tryz.func24, Tryz.ntmps24
  go_wp2_with (go_at_call 10; refine HR.out.mono ?_; rintro e w1 ⟨v, rfl, hB, hO, hnil⟩; obtain ⟨ad, cap, hv⟩ := hO.slice; have HO := Lib.hid hO; have HB := Lib.hid hB; have HV := Lib.hid hv; clear hO hB hnil; subst hv)
  go_loopw [3, 12] (fun u i W => ∃ k : Nat, i = .int .i64 k ∧ k ≤ L.length ∧ WrR w1 L u k W) (fun _ i _ => L.length - (intOf i).toNat)
  case atStart => exact ⟨0, rfl, by omega, ⟨by simpa using OwnI.nil _ _, Below.refl _ _⟩⟩
  case round =>
    obtain ⟨k, rfl, hk, hR⟩ := hrel
    by_cases hlt : k < L.length
    · obtain ⟨i, hi⟩ : ∃ i, L[k]? = some i := ⟨_, List.getElem?_eq_getElem hlt⟩
      have hk1 : (k : Int) < L.length := by omega
      have Hx := HX.out.below (HB.out.trans (hR.below.mono HB.out.size))
      have w1c := wx_w1 Hx.lies
      have hlook := wx_look_in Hx.lies (HIN.out i (List.mem_of_getElem? hi))
      rcases HO.out.at with ⟨_, hn⟩ | ⟨g, cap', hv', hbg, hgl, hcap, hcells⟩
      · rw [hn] at hlt; simp at hlt
      · cases hv'
        have hci : wr.cell? ⟨g, k, none⟩ = some (.int .i64 i) := by
          rw [World.cell?_of_block (w := w1) (hR.below.block g hgl)]; exact hcells k i hi
        have HI := Lib.hid hi
        have HRR := Lib.hid hR
        have hsz := hR.below.size
        have ht : (L.take k).length = k := by rw [List.length_take]; omega
        have HTL := Lib.hid ht
        have hto : (L.take k).length + 1 ≤ 1000000000000 := by omega
        clear hcells hi hR Hx ht
        go_wp2_with (at_builtin; refine append_i rfl _ _ rfl w1.heap.size u3 (L.take k) rfl HRR.out.own i rfl hto hsz ?_; intro v3 w3 hO3 hg3)
        go_roundw
        case rel =>
          refine ⟨k + 1, by go_num, hlt, ⟨?_, HRR.out.below.grown hg3 hsz (fun b e => (HRR.out.own.lt b e).1)⟩⟩
          rw [List.take_add_one, HI.out]; exact hO3
        case measure => simp [intOf]; omega
    · have hkn : k = L.length := by omega
      subst hkn
      go_wp2_with fail
      go_ret
      have hO := hR.own
      rw [List.take_length] at hO
      refine ⟨_, rfl, HB.out.trans (hR.below.mono HB.out.size), ?_⟩
      obtain ⟨hxs, hr⟩ := hO
      refine ⟨hxs, ?_⟩
      rcases hr with q | ⟨g, cap, cur, e, hb, hr⟩
      · exact .inl q
      · exact .inr ⟨g, cap, cur, e, Nat.le_trans HB.out.size hb, hr⟩
end Go.Proofs.YtelohloaoocoaaaGreatDoor
/- A kernel and a world of families beside one another; what a call brings with it. -/
namespace Go.Proofs.YtelohloaoocoaaaGreatDoor
open Go.RowKit IntWalk
set_option linter.unusedVariables false
set_option linter.unusedSimpArgs false
set_option linter.unnecessarySimpa false

/-- the kernel and the world -/
structure Al (s : Ks) (l : Ly) (x : Wx) (lw : WId → Nat) (w : World) : Prop where
  lies : Lies (Sum.elim (s.obj l) (x.obj lw)) (Sum.elim l.all lw) w
  ok : s.Ok l
  xok : x.Ok
  kb : x.kb = l.k .K
structure AStep (s : Ks) (l : Ly) (x : Wx) (lw : WId → Nat) (w : World) (s' : Ks) (l' : Ly) (x' : Wx) (lw' : WId → Nat) (w' : World) : Prop where
  g : GStep (Sum.elim (s.obj l) (x.obj lw)) (Sum.elim l.all lw) w (Sum.elim (s'.obj l') (x'.obj lw')) (Sum.elim l'.all lw') w'
  ok : s'.Ok l'
  xok : x'.Ok
  kb : x'.kb = l'.k .K
  topK : l'.k .K = l.k .K
  topW : lw' .W = lw .W
section
variable {s s' s'' : Ks} {l l' l'' : Ly} {x x' x'' : Wx} {lw lw' lw'' : WId → Nat} {w w' w'' : World}
theorem Al.ks (h : Al s l x lw w) : KsIs s l w := ⟨h.lies.inl, h.ok⟩
theorem Al.wx (h : Al s l x lw w) : WxIs x lw w := ⟨h.lies.inr, h.xok⟩
theorem AStep.is (h : AStep s l x lw w s' l' x' lw' w') : Al s' l' x' lw' w' := ⟨h.g.lies, h.ok, h.xok, h.kb⟩
theorem AStep.refl (h : Al s l x lw w) : AStep s l x lw w s l x lw w := ⟨GStep.refl h.lies, h.ok, h.xok, h.kb, rfl, rfl⟩
theorem AStep.trans (h : AStep s l x lw w s' l' x' lw' w') (k : AStep s' l' x' lw' w' s'' l'' x'' lw'' w'') : AStep s l x lw w s'' l'' x'' lw'' w'' := ⟨h.g.trans k.g, k.ok, k.xok, k.kb, k.topK.trans h.topK, k.topW.trans h.topW⟩
theorem AStep.below (h : AStep s l x lw w s' l' x' lw' w') (hb : Below w'.heap.size w' w'') : AStep s l x lw w s' l' x' lw' w'' := ⟨h.g.below hb, h.ok, h.xok, h.kb, h.topK, h.topW⟩
theorem AStep.drew (h : AStep s l x lw w s' l' x' lw' w') : AStep s l x lw w s' l' x' lw' w'.drew := ⟨h.g.drew, h.ok, h.xok, h.kb, h.topK, h.topW⟩
theorem AStep.drewN (h : AStep s l x lw w s' l' x' lw' w') (n : Nat) : AStep s l x lw w s' l' x' lw' (w'.drewN n) := ⟨h.g.drewN n, h.ok, h.xok, h.kb, h.topK, h.topW⟩
theorem AStep.aside (h : AStep s l x lw w s' l' x' lw' w') {b : Nat} (ha : Aside b w' w'') (hn : w.heap.size ≤ b) (ho : ¬ Owns (Sum.elim (s'.obj l') (x'.obj lw')) (Sum.elim l'.all lw') b) : AStep s l x lw w s' l' x' lw' w'' := ⟨h.g.aside ha hn ho, h.ok, h.xok, h.kb, h.topK, h.topW⟩
theorem AStep.ke (h : Al s l x lw w) (K : KStep s l w s' l' w') : AStep s l x lw w s' l' x lw w' := ⟨GStep.left h.lies K.g, K.ok, h.xok, h.kb.trans K.top.symm, K.top, rfl⟩
theorem AStep.wo (h : Al s l x lw w) (W : GStep (x.obj lw) lw w (x'.obj lw') lw' w') (hok : x'.Ok) (hkb : x'.kb = x.kb) (ht : lw' .W = lw .W) : AStep s l x lw w s l x' lw' w' := ⟨GStep.right h.lies W, h.ok, hok, hkb.trans h.kb, rfl, ht⟩
theorem Al.below (h : Al s l x lw w) (hb : Below w.heap.size w w') : Al s l x lw w' := ((AStep.refl h).below hb).is
theorem Al.fresh (h : Al s l x lw w) {b : Nat} (hb : w.heap.size ≤ b) : ¬ Owns (Sum.elim (s.obj l) (x.obj lw)) (Sum.elim l.all lw) b := h.lies.fresh hb
end
/-- a new process that stands where another one does -/
def zeroQ (p : Fp) : Qs := ⟨p, 0, 0, 0, 0, 0, [], false⟩
def Wx.forkQ (x : Wx) (i q : Int) : Wx := { x with m := x.m.add q, qs := fun j => if j = q then zeroQ (x.qs i).fp else x.qs j }
def Wx.delQ (x : Wx) (i : Int) : Wx := { x with m := x.m.del i }
theorem Wx.Ok.forkQ {x : Wx} (h : x.Ok) {i q : Int} (hi : i ∈ x.m.keys) (hq : q ∉ x.m.keys) (ho : (x.qs i).fp.own = none) : (x.forkQ i q).Ok := by
  refine ⟨h.m.add hq, h.x, fun j hj => ?_⟩
  by_cases e : j = q
  · subst e
    simp only [Wx.forkQ, if_pos, zeroQ]
    exact ⟨(h.a i hi).1, (h.a i hi).2.1, fun q0 => absurd ho q0⟩
  · simp only [Wx.forkQ, if_neg e]
    rcases PMap.mem_add.1 hj with q1 | q1
    · exact h.a j q1
    · exact absurd q1 e
theorem Wx.Ok.delQ {x : Wx} (h : x.Ok) (i : Int) : (x.delQ i).Ok := ⟨h.m.del i, h.x, fun j hj => h.a j (PMap.mem_del.1 hj).1⟩
theorem wx_forkQ {x : Wx} {lw lw' : WId → Nat} {w : World} {i q : Int} (h : Lies (x.obj lw) lw w) (hi : i ∈ x.m.keys) (hq : q ∉ x.m.keys) (hqi : q ≠ i) (ho : (x.qs i).fp.own = none)
    (hl : ∀ j, lw' j = if j = .Q q then w.heap.size + 1 else if j = .F q then w.heap.size else lw j) :
    GStep (x.obj lw) lw w ((x.forkQ i q).obj lw') lw' { ((w.alloc (.cells (fpV (x.tv lw i) (x.qs i).fp) 66 (0, 0))).alloc (.cells (qsV w.heap.size (zeroQ (x.qs i).fp)) 82 (0, 0))) with heap := ((w.alloc (.cells (fpV (x.tv lw i) (x.qs i).fp) 66 (0, 0))).alloc (.cells (qsV w.heap.size (zeroQ (x.qs i).fp)) 82 (0, 0))).heap.setIfInBounds (lw .M) ((x.m.gm fun i => lw (.Q i)).put (.int q) (ptrOf (w.heap.size + 1))).obj } := by
  have hM : lw' .M = lw .M := by rw [hl]; simp
  have hW : lw' .W = lw .W := by rw [hl]; simp
  have hX : lw' .X = lw .X := by rw [hl]; simp
  have hF : ∀ j, j ≠ q → lw' (.F j) = lw (.F j) := fun j hj => by rw [hl]; simp [hj]
  have hQ : ∀ j, j ≠ q → lw' (.Q j) = lw (.Q j) := fun j hj => by rw [hl]; simp [hj]
  have hA : ∀ j, lw' (.A j) = lw (.A j) := fun j => by rw [hl]; simp
  have hFq : lw' (.F q) = w.heap.size := by rw [hl]; simp
  have hQq : lw' (.Q q) = w.heap.size + 1 := by rw [hl]; simp
  have hput := PMap.put_gm (m := x.m) (lay := fun i => lw (.Q i)) (lay' := fun i => lw' (.Q i)) (b := w.heap.size + 1) hq (fun j hj => hQ j (by rintro rfl; exact hq hj)) hQq
  rw [hput, ← hM]
  have hov : x.ov lw' = x.ov lw := by unfold Wx.ov; rw [hX]
  have htv : ∀ j, j ≠ q → (x.forkQ i q).tv lw' j = x.tv lw j := fun j hj => by
    unfold Wx.tv
    simp only [Wx.forkQ, if_neg hj]
    cases (x.qs j).fp.own with
    | none => exact hov
    | some p => simp only [hA]
  have htq : (x.forkQ i q).tv lw' q = x.tv lw i := by
    unfold Wx.tv
    simp only [Wx.forkQ, if_pos, zeroQ, ho]
    exact hov
  have h1 := (GStep.refl h).new (c3 := fun j => if j = .F q then some (.cells (fpV (x.tv lw i) (x.qs i).fp) 66 (0, 0)) else x.obj lw j) (lay3 := fun j => if j = .F q then w.heap.size else lw j) (.F q) (.cells (fpV (x.tv lw i) (x.qs i).fp) 66 (0, 0)) (fun j => rfl) (fun j => rfl)
  have h2 := h1.new (c3 := fun j => if j = .Q q then some (.cells (qsV w.heap.size (zeroQ (x.qs i).fp)) 82 (0, 0)) else if j = .F q then some (.cells (fpV (x.tv lw i) (x.qs i).fp) 66 (0, 0)) else x.obj lw j) (lay3 := lw') (.Q q) (.cells (qsV w.heap.size (zeroQ (x.qs i).fp)) 82 (0, 0)) (fun j => rfl) (fun j => by rw [hl]; simp)
  refine h2.put (i := .M) (o := (x.m.gm fun i => lw (.Q i)).obj) (by simp [Wx.obj]) (fun j => ?_)
  cases j with
  | W => simp [Wx.obj, Wx.forkQ, hM]
  | M => simp [Wx.obj, Wx.forkQ]
  | X => simp [Wx.obj, Wx.forkQ]
  | Q a =>
    by_cases e : a = q
    · subst e; simp [Wx.obj, Wx.forkQ, PMap.mem_add, hFq]
    · simp [Wx.obj, Wx.forkQ, PMap.mem_add, e, hF a e]
  | F a =>
    by_cases e : a = q
    · subst e
      simp only [Wx.obj, reduceCtorEq, if_false, if_true]
      rw [if_pos (show a ∈ (x.forkQ i a).m.keys from PMap.mem_add.2 (.inr rfl)), htq]
      simp [Wx.forkQ, zeroQ]
    · simp only [Wx.obj, reduceCtorEq, if_false, WId.F.injEq, e]
      rw [htv a e]
      by_cases ha : a ∈ x.m.keys
      · rw [if_pos (show a ∈ (x.forkQ i q).m.keys from PMap.mem_add.2 (.inl ha)), if_pos ha]; simp [Wx.forkQ, e]
      · rw [if_neg (show a ∉ (x.forkQ i q).m.keys from fun q1 => (PMap.mem_add.1 q1).elim ha e), if_neg ha]
  | A a =>
    by_cases e : a = q
    · subst e; simp [Wx.obj, Wx.forkQ, zeroQ, ho, hq]
    · simp [Wx.obj, Wx.forkQ, PMap.mem_add, e]
theorem wx_delQ {x : Wx} {lw : WId → Nat} {w : World} (h : Lies (x.obj lw) lw w) (hok : x.m.Ok) (i : Int) : GStep (x.obj lw) lw w ((x.delQ i).obj lw) lw { w with heap := w.heap.setIfInBounds (lw .M) ((x.m.gm fun i => lw (.Q i)).del (.int i)).obj } := by
  rw [PMap.del_gm hok]
  refine ((GStep.refl h).put (i := .M) (c3 := fun j => if j = .M then some ((x.m.del i).gm fun i => lw (.Q i)).obj else x.obj lw j) rfl (fun j => rfl)).less (fun j o hj => ?_)
  have hkey : ∀ k, k ∈ (x.delQ i).m.keys → k ∈ x.m.keys := fun k hk => (PMap.mem_del.1 hk).1
  cases j with
  | W => simpa [Wx.obj, Wx.delQ] using hj
  | M => simpa [Wx.obj, Wx.delQ] using hj
  | X => simpa [Wx.obj, Wx.delQ] using hj
  | Q k =>
    by_cases e : k ∈ (x.delQ i).m.keys
    · simp only [Wx.obj, if_pos e] at hj
      simp only [reduceCtorEq, if_false, Wx.obj, if_pos (hkey k e)]
      exact hj
    · simp only [Wx.obj, if_neg e] at hj; cases hj
  | F k =>
    by_cases e : k ∈ (x.delQ i).m.keys
    · simp only [Wx.obj, if_pos e] at hj
      simp only [reduceCtorEq, if_false, Wx.obj, if_pos (hkey k e)]
      exact hj
    · simp only [Wx.obj, if_neg e] at hj; cases hj
  | A k =>
    by_cases e : k ∈ (x.delQ i).m.keys
    · simp only [Wx.obj, if_pos e] at hj
      simp only [reduceCtorEq, if_false, Wx.obj, if_pos (hkey k e)]
      exact hj
    · simp only [Wx.obj, if_neg e] at hj; cases hj
end Go.Proofs.YtelohloaoocoaaaGreatDoor
