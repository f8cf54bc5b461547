/- Texts of one proof, packed: UtK, UtL -/
import Derived.Test.YtbecmcjibpamoaaGreatDoorU08
import Derived.Test.YtbecmcjibpamoaaGreatDoorU07
import Derived.Test.YtbecmcjibpamoaaGreatDoorU12
set_option linter.unusedVariables false
set_option linter.unusedSimpArgs false
set_option linter.deprecated false
set_option linter.unnecessarySimpa false
/- UtilsCp, plain: the trees that the law goes through. No program's text. -/
namespace Go.Proofs.YtbecmcjibpamoaaGreatDoor
open Go.RowKit IntWalk
set_option linter.unusedVariables false
set_option linter.unusedSimpArgs false

theorem gen_begin : Gen beginS := by
  unfold beginS
  exact (((((((Gen.new0.mkdirS 1 _).slinkS 1 _ _).slinkS 1 _ _).makeS 1 _).nputS _ _ (by decide)).makeS 1 _).nputS _ _ (by decide) |>.makeS 1 _).nputS _ _ (by decide)
def nA : List UInt8 := [97]
def nB : List UInt8 := [98]
def nC : List UInt8 := [99]
def nNew : List UInt8 := [110, 101, 119]
theorem un_a : UN nA := ⟨by decide, by decide, by decide, by decide, by decide, by kernel_rfl, by kernel_rfl⟩
theorem un_b : UN nB := ⟨by decide, by decide, by decide, by decide, by decide, by kernel_rfl, by kernel_rfl⟩
theorem un_c : UN nC := ⟨by decide, by decide, by decide, by decide, by decide, by kernel_rfl, by kernel_rfl⟩
theorem un_new : UN nNew := ⟨by decide, by decide, by decide, by decide, by decide, by kernel_rfl, by kernel_rfl⟩
/-- what is asked of the beginning -/
def begB : Bool := beginS.fld Nd.kind 1 == 2 && beginS.fld Nd.names 1 != 0 && (match beginS.dr 1 with
    | some d => (d.name nA).isNone && (d.name nB).isNone && (d.name nC).isNone && (d.name nNew).isNone
    | none => false) && ((List.range 7).all fun j => match beginS.nodes[j]? with
    | some (some _) => true
    | _ => false) && (match beginS.nodes[7]? with
    | some none => true
    | _ => false) && (match beginS.nodes[8]? with
    | some none => true
    | _ => false) && beginS.bs.length == 200 && ((List.range 200).all fun p => match beginS.bs[p]? with
    | some (t, _) => t == decide (p < 5)
    | none => false)
theorem begB_ok : begB = true := by kernel_rfl
structure Beg (d : Dr) : Prop where
  root : RootAt beginS d
  a : d.name nA = none
  b : d.name nB = none
  c : d.name nC = none
  new : d.name nNew = none
  low : ∀ j, j < 7 → ∃ x, beginS.nodes[j]? = some (some x)
  g7 : beginS.nodes[7]? = some none
  g8 : beginS.nodes[8]? = some none
  room : Room 5 beginS
theorem beg : ∃ d, Beg d := by
  have h := begB_ok
  unfold begB at h
  simp only [Bool.and_eq_true, List.all_eq_true] at h
  obtain ⟨⟨⟨⟨⟨⟨⟨h1, h2⟩, h3⟩, h4⟩, h5⟩, h6⟩, h7⟩, h8⟩ := h
  cases hd : beginS.dr 1 with
  | none => rw [hd] at h3; cases h3
  | some d =>
    rw [hd] at h3
    simp only [Bool.and_eq_true] at h3
    obtain ⟨⟨⟨q1, q2⟩, q3⟩, q4⟩ := h3
    have hbl : beginS.bs.length = 200 := by simpa using h7
    refine ⟨d, ⟨by simpa using h1, hd, by simpa using h2⟩, by simpa using q1, by simpa using q2, by simpa using q3, by simpa using q4, fun j hj => ?_, ?_, ?_, hbl, fun p hp => ?_, fun p hp hp2 => ?_⟩
    · have := h4 j (List.mem_range.2 hj)
      cases hn : beginS.nodes[j]? with
      | none => rw [hn] at this; cases this
      | some o => cases o with
        | none => rw [hn] at this; cases this
        | some x => exact ⟨x, rfl⟩
    · cases hn : beginS.nodes[7]? with
      | none => rw [hn] at h5; cases h5
      | some o => cases o with
        | none => rfl
        | some x => rw [hn] at h5; cases h5
    · cases hn : beginS.nodes[8]? with
      | none => rw [hn] at h6; cases h6
      | some o => cases o with
        | none => rfl
        | some x => rw [hn] at h6; cases h6
    · have := h8 p (List.mem_range.2 (by omega))
      cases hn : beginS.bs[p]? with
      | none => rw [hn] at this; cases this
      | some o =>
        rw [hn] at this
        obtain ⟨t, l⟩ := o
        rw [decide_eq_true hp] at this
        have ht : t = true := by simpa using this
        exact ⟨l, by rw [ht]⟩
    · have := h8 p (List.mem_range.2 hp2)
      cases hn : beginS.bs[p]? with
      | none => rw [hn] at this; cases this
      | some o =>
        rw [hn] at this
        obtain ⟨t, l⟩ := o
        rw [decide_eq_false (by omega)] at this
        have ht : t = false := by simpa using this
        exact ⟨l, by rw [ht]⟩
/-- what is saved to a name that is not there, as save_new asks it -/
structure SavedAt (s : Fs) (t : List UInt8) (k : Nat) (g : List UInt8) (s3 : Fs) : Prop where
  ex : ∃ s' yn s2, s.openS 1 t 26 = (some ((k : Int) + 1), 0, s') ∧ s'.nd ((k : Int) + 1) = some yn ∧ fileE (s'.fld Nd.kind ((k : Int) + 1)) = 0 ∧ yn.taken s' ∧ yn.size = 0 ∧ s'.writeS k yn 0 g = (g.length, s2) ∧ s2.looseS ((k : Int) + 1) = (0, s3)
theorem save_at {s : Fs} {d : Dr} {t : List UInt8} {k o : Nat} (hG : Gen s) (h : RootAt s d) (ht : UN t) (hn : d.name t = none) (hg : gapAt s.nodes = some k) (hk0 : k ≠ 0) (hR : Room o s) (g : List UInt8) (hle : o + manyB g.length ≤ 200) (hgl : g.length ≤ 4096) :
    ∃ s3, SavedAt s t k g s3 ∧ Gen s3 ∧ FileAt s3 ⟨d.names.put (.str t) (.int .i64 ((k : Int) + 1)), d.parent⟩ t k g ∧ Room (o + manyB g.length) s3 ∧ But k s s3 ∧ (∀ p, p < o → s3.bs[p]? = s.bs[p]?) := by
  obtain ⟨s', y, e1, hO⟩ := open_new hG h ht hn hg
  obtain ⟨s2, y2, w1, w2, w3, w4, w5, w6, s3, l1, l2, l3, l4, l5, l6⟩ := write_new hO hR (by omega) h hk0 g hle hgl
  refine ⟨s3, ⟨s', y, s2, e1, nd_at hO.at_, by rw [fld_at hO.at_, hO.kind]; rfl, ?_, hO.size, w1, l1⟩, l2, l3, l4, l5, l6⟩
  intro p b hx
  have : y.part p = none := by unfold Nd.part GMap.get; rw [hO.parts]; rfl
  rw [this] at hx; cases hx
/-- the trees of the law -/
structure CpS (a b data : List UInt8) (d : Dr) (s1 s3 : Fs) (d1 d3 : Dr) : Prop where
  made : beginS.makeS 1 a = (8, 0, beginS.newS 7 d a)
  nd : (beginS.newS 7 d a).nd 8 = some (freshNd 1)
  wr : (beginS.newS 7 d a).writeS 7 (freshNd 1) 0 data = (data.length, s1)
  g0 : Gen (beginS.newS 7 d a)
  g1 : Gen s1
  f1 : FileAt s1 d1 a 7 data
  n1 : d1.name b = none
  sv : SavedAt s1 b 8 data s3
  g3 : Gen s3
  fa : FileAt s3 d3 a 7 data
  fb : FileAt s3 d3 b 8 data
  nw : d3.name nNew = none
theorem cp_plan (a b data : List UInt8) (ha : a ∈ [nA, nB, nC]) (hb : b ∈ [nA, nB, nC]) (hab : a ≠ b) (hl : data.length ≤ 2000) : ∃ d s1 s3 d1 d3, CpS a b data d s1 s3 d1 d3 := by
  obtain ⟨d, hB⟩ := beg
  have hua : UN a := by
    simp only [List.mem_cons, List.not_mem_nil, or_false] at ha
    rcases ha with rfl | rfl | rfl
    · exact un_a
    · exact un_b
    · exact un_c
  have hub : UN b := by
    simp only [List.mem_cons, List.not_mem_nil, or_false] at hb
    rcases hb with rfl | rfl | rfl
    · exact un_a
    · exact un_b
    · exact un_c
  have hna : d.name a = none := by
    simp only [List.mem_cons, List.not_mem_nil, or_false] at ha
    rcases ha with rfl | rfl | rfl
    · exact hB.a
    · exact hB.b
    · exact hB.c
  have hnb : d.name b = none := by
    simp only [List.mem_cons, List.not_mem_nil, or_false] at hb
    rcases hb with rfl | rfl | rfl
    · exact hB.a
    · exact hB.b
    · exact hB.c
  have hnew : nNew ≠ a ∧ nNew ≠ b := by
    simp only [List.mem_cons, List.not_mem_nil, or_false] at ha hb
    constructor
    · rcases ha with rfl | rfl | rfl <;> decide
    · rcases hb with rfl | rfl | rfl <;> decide
  have hg7 : gapAt beginS.nodes = some 7 := gapAt_at _ _ hB.g7 hB.low
  obtain ⟨n1, n2, n3, n4, n5⟩ := new_facts (t := a) gen_begin hB.root hg7
  have hmk := make_un hB.root hua hna hg7
  have hroot : RootAt (beginS.newS 7 d a) ⟨d.names.put (.str a) (.int .i64 (((7 : Nat) : Int) + 1)), d.parent⟩ := root_but hB.root n2 (by decide) n4
  have hF0 : Filed 5 (beginS.newS 7 d a) 7 (freshNd 1) [] := (hB.room.same n3).filed (by decide) n5 rfl rfl
  have hm : manyB data.length ≤ 32 := by unfold manyB; omega
  obtain ⟨s1, x1, w1, w2, w3, w4, w5, w6⟩ := hF0.write data (by simp; omega)
  have w1' : (beginS.newS 7 d a).writeS 7 (freshNd 1) 0 data = (data.length, s1) := w1
  rw [List.nil_append] at w2
  have hsame := writeS_same (beginS.newS 7 d a) 7 (freshNd 1) 0 data
  have hgen := n1.writeAny n5 data (by omega)
  rw [w1'] at hsame hgen
  have hlen : s1.nodes.length = (beginS.newS 7 d a).nodes.length := by
    have h1 := writeL_nodes (k := 7) (at_ := 0) (d := data) (data.length + 1) 0 (beginS.newS 7 d a) (freshNd 1)
    have h2 : ((beginS.newS 7 d a).writeS 7 (freshNd 1) 0 data).2.nodes.length = (beginS.newS 7 d a).nodes.length := by
      unfold Fs.writeS
      by_cases h0 : 0 < (Fs.writeL 7 0 data (data.length + 1) 0 (beginS.newS 7 d a) (freshNd 1)).1
      · simp only [if_pos h0]
        show (List.set _ _ _).length = _
        rw [List.length_set]; exact h1
      · simp only [if_neg h0]
        exact h1
    rw [w1'] at h2; exact h2
  have hbut : But 7 (beginS.newS 7 d a) s1 := ⟨hsame.2, hlen⟩
  have hdr1 : s1.dr 1 = some ⟨d.names.put (.str a) (.int .i64 (((7 : Nat) : Int) + 1)), d.parent⟩ := by
    show dirE 1 s1.dirs = _
    rw [hsame.1]; exact n4
  have hroot1 := root_but hroot hbut (by decide) hdr1
  have hf1 : FileAt s1 ⟨d.names.put (.str a) (.int .i64 (((7 : Nat) : Int) + 1)), d.parent⟩ a 7 data := ⟨hroot1, by rw [name_put1 (p := d.parent), if_pos rfl], x1, w2.node, by rw [w4]; rfl, by rw [w5]; rfl, by rw [w6]; rfl, w2.has⟩
  have hnb1 : (Dr.mk (d.names.put (.str a) (.int .i64 (((7 : Nat) : Int) + 1))) d.parent).name b = none := by rw [name_put1 (p := d.parent), if_neg (Ne.symm hab)]; exact hnb
  have hbut1 : But 7 beginS s1 := n2.trans hbut
  have hg8 : gapAt s1.nodes = some 8 := by
    refine gapAt_at _ _ (by rw [hbut1.nodes 8 (by decide)]; exact hB.g8) (fun j hj => ?_)
    by_cases e : j = 7
    · subst e; exact ⟨x1, w2.node⟩
    · obtain ⟨x, hx⟩ := hB.low j (by omega)
      exact ⟨x, by rw [hbut1.nodes j e]; exact hx⟩
  obtain ⟨s3, v1, v2, v3, v4, v5, v6⟩ := save_at hgen hroot1 hub hnb1 hg8 (by decide) w2.room data (by omega) (by omega)
  refine ⟨d, s1, s3, _, _, ⟨hmk, nd_at n5, w1', n1, hgen, hf1, hnb1, v1, v2, hf1.keep v3.root ?_ w2.room v6 (by decide) v5, v3, ?_⟩⟩
  · rw [name_put1 (p := d.parent), if_neg hab]; exact hf1.nm
  · rw [name_put1 (p := d.parent), if_neg hnew.2, name_put1 (p := d.parent), if_neg hnew.1]; exact hB.new
end Go.Proofs.YtbecmcjibpamoaaGreatDoor
/- UtilsCp: each of the law's calls, over the tree and what the law itself holds. -/
namespace Go.Proofs.YtbecmcjibpamoaaGreatDoor
open Go.RowKit IntWalk
set_option linter.unusedVariables false
set_option linter.unusedSimpArgs false

/-- blocks of the law's own -/
def Held (s : Fs) (lay : FId → Nat) (w : World) (H : List (Nat × Obj)) : Prop := ∀ p ∈ H, w.heap[p.1]? = some p.2 ∧ ¬ Owns (s.obj lay) lay p.1
def LS (W0 : World) (F : Nat) (s : Fs) (H : List (Nat × Obj)) (w : World) : Prop := ∃ lay, lay .F = F ∧ FsIn W0 s lay w ∧ Held s lay w H
section
variable {W0 : World} {F : Nat} {s s' : Fs} {H : List (Nat × Obj)} {w w' : World}
theorem held_lt {b : Nat} {o : Obj} (h : w.heap[b]? = some o) : b < w.heap.size := (Array.getElem?_eq_some_iff.1 h).1
theorem LS.get (h : LS W0 F s H w) {b : Nat} {o : Obj} (hm : (b, o) ∈ H) : w.heap[b]? = some o := by
  obtain ⟨lay, _, _, h3⟩ := h
  exact (h3 _ hm).1
theorem LS.base (h : LS W0 F s H w) : Below W0.heap.size W0 w := by
  obtain ⟨lay, _, h2, _⟩ := h
  exact h2.below
theorem LS.below (h : LS W0 F s H w) (hb : Below w.heap.size w w') : LS W0 F s H w' := by
  obtain ⟨lay, h1, h2, h3⟩ := h
  exact ⟨lay, h1, h2.kept1 hb, fun p hp => ⟨(hb.block _ (held_lt (h3 p hp).1)).trans (h3 p hp).1, (h3 p hp).2⟩⟩
theorem LS.alloc (h : LS W0 F s H w) (o : Obj) : LS W0 F s ((w.heap.size, o) :: H) (w.alloc o) := by
  have hb := (Below.refl w.heap.size w).alloc (Nat.le_refl _) o
  obtain ⟨lay, h1, h2, h3⟩ := h
  refine ⟨lay, h1, h2.kept1 hb, fun p hp => ?_⟩
  rcases List.mem_cons.1 hp with rfl | hp
  · exact ⟨alloc_at w o, fun q => by have := h2.is.lies.owns_lt q; omega⟩
  · exact ⟨(hb.block _ (held_lt (h3 p hp).1)).trans (h3 p hp).1, (h3 p hp).2⟩
theorem LS.step {lay lay' : FId → Nat} (h1 : lay .F = F) (h2 : FsIn W0 s lay w) (h3 : Held s lay w H) (hk : FK none s lay w s' lay' w') (hG : Gen s') : LS W0 F s' H w' :=
  ⟨lay', hk.F.trans h1, hk.fsIn h2 hG.whole, fun p hp => ⟨(hk.heap (held_lt (h3 p hp).1) (h3 p hp).2 (by simp)).trans (h3 p hp).1, hk.out (held_lt (h3 p hp).1) (h3 p hp).2⟩⟩
def argsO (l : List (List UInt8)) : Obj := .cells (l.map fun y => Value.string ⟨y.toArray⟩).toArray 9
theorem args_row {g : Nat} {l : List (List UInt8)} (h : w.heap[g]? = some (argsO l)) : RowAt w g 0 l := fun i y hi => by
  unfold World.cell?
  dsimp only
  rw [h]
  simp [argsO, hi]
variable {d : Dr} {k : Nat} {g y z : List UInt8}
theorem make_ls (hE : EnvG W0) (h : LS W0 F s H w) {t : List UInt8} {n : Int} (ht : t.length ≤ 32) (hm : s.makeS 1 t = (n, 0, s')) (hG : Gen s') :
    Calls Tryz.prog 7 #[ptrTo F, .int .i64 1, .string ⟨t.toArray⟩] w fun e w' => e = .returned (.tuple #[.int .i64 n, .int .i64 0]) ∧ LS W0 F s' H w' := by
  obtain ⟨lay, rfl, h2, h3⟩ := h
  have := make_any hE 1 t (by omega) w h2
  rw [hm] at this
  refine this.mono ?_
  rintro e w' ⟨rfl, lay', hF, hst⟩
  exact ⟨rfl, LS.step rfl h2 h3 (FK.of hst hF) hG⟩
theorem put_ls (h : LS W0 F s H w) {i : Int} {x : Nd} (hn : s.nd i = some x) (hk : fileE (s.fld Nd.kind i) = 0) (ht : x.taken s) (hs : 0 ≤ x.size ∧ x.size ≤ 4096) (hg : g.length ≤ 4096) (hw : s.writeS (slotOf i) x 0 g = (g.length, s')) (hG : Gen s') :
    Calls Tryz.prog 8 #[ptrTo F, .int .i64 i, .int .i64 0, .string ⟨g.toArray⟩] w fun e w' => (∃ v, e = .returned v) ∧ LS W0 F s' H w' := by
  obtain ⟨lay, rfl, h2, h3⟩ := h
  refine (nwrite_all w h2.is hn hk ht hs hg hw).mono ?_
  rintro e w' ⟨rfl, hst⟩
  exact ⟨⟨_, rfl⟩, LS.step rfl h2 h3 (FK.of hst rfl) hG⟩
theorem walk_ls (hE : EnvG W0) (h : LS W0 F s H w) {t : List UInt8} {n e1 : Int} (hw : s.walkS 1 t true = (n, e1)) (hG : Gen s) :
    Calls Tryz.prog 10 #[ptrTo F, .int .i64 1, .string ⟨t.toArray⟩, .bool true] w fun e w' => e = .returned (.tuple #[.int .i64 n, .int .i64 e1]) ∧ LS W0 F s H w' := by
  obtain ⟨lay, rfl, h2, h3⟩ := h
  have := walk_any hE 1 t true w h2
  rw [hw] at this
  refine this.mono ?_
  rintro e w' ⟨rfl, hst⟩
  exact ⟨rfl, LS.step rfl h2 h3 (FK.of hst rfl) hG⟩
theorem cat_ls (hE : EnvG W0) (h : LS W0 F s H w) {ga : Nat} (hga : (ga, argsO [catN, y]) ∈ H) (hG : Gen s) (hA : FileAt s d y k g) (hy : UN y) (hyd : y ≠ [45]) (hy2 : y.length ≠ 2) (hg : g.length ≤ 4096) :
    Calls Tryz.prog 9 #[ptrTo F, .int .i64 1, .string ⟨#[]⟩, .slice (some ⟨ga, 0, none⟩) 2 2] w fun e w' => e = .returned (.agg #[.string ⟨g.toArray⟩, .string ⟨#[]⟩, .int .i64 0]) ∧ LS W0 F s H w' := by
  obtain ⟨lay, rfl, h2, h3⟩ := h
  have hr := args_row (h3 _ hga).1
  refine (direct_any (x := catN) (y := y) (L := []) (out := g) (s' := s) (by simp) h2 hr (held_lt (h3 _ hga).1) (ca := 2) (by simp) hy2 (by have := hy.len; omega) (fun q => absurd rfl q) (by simp) (fun V D gr c hV hD hDo hc hR hgl hgo => ?_)).mono ?_
  · have h0 := hR 0 y rfl
    simp only [Nat.zero_add] at h0
    exact runs_cat hE hV hD hDo h0 hG hA hy hyd hg
  · rintro e w' ⟨rfl, lay', hk⟩
    exact ⟨rfl, LS.step rfl h2 h3 hk hG⟩
theorem cp_ls (hE : EnvG W0) (h : LS W0 F s H w) {ga k0 : Nat} (hga : (ga, argsO [cpN, y, z]) ∈ H) (hG : Gen s) (hA : FileAt s d y k0 g) (hy : UN y) (hyd : y ≠ [45]) (hy2 : y.length ≠ 2) (hz : UN z) (hnz : d.name z = none) (hg : g.length ≤ 4096) (hS : SavedAt s z k g s') (hG' : Gen s') :
    Calls Tryz.prog 9 #[ptrTo F, .int .i64 1, .string ⟨#[]⟩, .slice (some ⟨ga, 0, none⟩) 3 3] w fun e w' => e = .returned (.agg #[.string ⟨#[]⟩, .string ⟨#[]⟩, .int .i64 0]) ∧ LS W0 F s' H w' := by
  obtain ⟨lay, rfl, h2, h3⟩ := h
  obtain ⟨s1, yn, s2, q1, q2, q3, q4, q5, q6, q7⟩ := hS.ex
  have hr := args_row (h3 _ hga).1
  refine (direct_any (x := cpN) (y := y) (L := [z]) (out := []) (s' := s') (by simp) h2 hr (held_lt (h3 _ hga).1) (ca := 3) (by simp) hy2 (by have := hy.len; omega) (fun _ => rfl) (by simp) (fun V D gr c hV hD hDo hc hR hgl hgo => ?_)).mono ?_
  · have h0 := hR 0 y rfl
    have h1 := hR 1 z rfl
    simp only [Nat.zero_add] at h0 h1
    exact runs_cp hE hV (by simpa using hc) hD hDo h0 h1 hgl hgo hG hA hy hyd hz hnz hg q1 q2 q3 q4 q5 q6 q7
  · rintro e w' ⟨rfl, lay', hk⟩
    exact ⟨rfl, LS.step rfl h2 h3 hk hG'⟩
theorem mv_ls (hE : EnvG W0) (h : LS W0 F s H w) {ga : Nat} (hga : (ga, argsO [mvN, y, z]) ∈ H) (hG : Gen s) (hA : FileAt s d y k g) (hy : UN y) (hy2 : y.length ≠ 2) (hz : UN z) (hnz : d.name z = none) :
    Calls Tryz.prog 9 #[ptrTo F, .int .i64 1, .string ⟨#[]⟩, .slice (some ⟨ga, 0, none⟩) 3 3] w fun e w' => e = .returned (.agg #[.string ⟨#[]⟩, .string ⟨#[]⟩, .int .i64 0]) ∧ LS W0 F (s.renS d y z k) H w' := by
  obtain ⟨lay, rfl, h2, h3⟩ := h
  obtain ⟨x, hx, hk, _⟩ := hA.node
  have hdo : s.dirOf ((k : Int) + 1) = none := by
    unfold Fs.dirOf
    rw [if_neg (by rw [fld_at hx, hk]; decide)]
  have hr := args_row (h3 _ hga).1
  refine (direct_any (x := mvN) (y := y) (L := [z]) (out := []) (s' := s.renS d y z k) (by simp) h2 hr (held_lt (h3 _ hga).1) (ca := 3) (by simp) hy2 (by have := hy.len; omega) (fun _ => rfl) (by simp) (fun V D gr c hV hD hDo hc hR hgl hgo => ?_)).mono ?_
  · have h0 := hR 0 y rfl
    have h1 := hR 1 z rfl
    simp only [Nat.zero_add] at h0 h1
    exact runs_mv hE hV hD hDo h0 h1 hgl hgo hA.root hy hz hA.nm hnz hdo
  · rintro e w' ⟨rfl, lay', hk⟩
    exact ⟨rfl, LS.step rfl h2 h3 hk (hG.setDr _ _)⟩
end
end Go.Proofs.YtbecmcjibpamoaaGreatDoor
