/- Texts of one proof, packed: PtI -/
import Derived.Test.YtggdedihfhibfaaGreatDoorR40
import Derived.Test.YtggdedihfhibfaaGreatDoorR41
import Derived.Test.YtggdedihfhibfaaGreatDoorR38
import Derived.Test.YtggdedihfhibfaaGreatDoorR43
import Derived.Maps.OwnIn
set_option linter.unusedVariables false
set_option linter.unusedSimpArgs false
set_option linter.deprecated false
set_option linter.unnecessarySimpa false
/- paths.Expand: a field with special parts. -/
namespace Go.Proofs.YtggdedihfhibfaaGreatDoor
open Go.RowKit IntWalk Go.Shelf
set_option linter.unusedVariables false
set_option linter.unusedSimpArgs false
attribute [local go_sem] Oper.semAt_some

def SameAct (a b : Act) : Prop := a = b
/-- what holds from the loops on -/
structure ExW (W0 : World) (s : Fs) (lay : FId → Nat) (dir : Int) (x : List UInt8) (ps : List PartS) (w : World) (tb pg pc : Nat) (wp : World) : Prop where
  fs : FsIn W0 s lay wp
  f : wp.cell? ⟨w.heap.size, 0, none⟩ = some (.pointer (some ⟨lay .F, 0, none⟩))
  d : wp.cell? ⟨w.heap.size + 1, 0, none⟩ = some (.int .i64 dir)
  x : wp.cell? ⟨w.heap.size + 1 + 1, 0, none⟩ = some (.string ⟨x.toArray⟩)
  t : wp.heap[tb]? = some (.cells #[.pointer (some ⟨lay .F, 0, none⟩), .int .i64 dir] 68 (0, 0))
  parts : PartsIn wp (.slice (some ⟨pg, 0, none⟩) ps.length pc) ps
  below : Below w.heap.size w wp
/-- what lies between two parts -/
structure OutI (s : Fs) (dir : Int) (ps : List PartS) (w wp : World) (i : Nat) (bv : Value) (ds : List Deferred) (W : World) : Prop where
  below : Below wp.heap.size wp W
  ex : ∃ bs : List (List UInt8), s.beginsS dir (i == 0) (ps.drop i) bs = s.beginsS dir true ps [[]] ∧ bs.length ≤ 256 ∧ (∀ b ∈ bs, b.length ≤ 100100 * i) ∧ W.ownsRow wp.heap.size 9 1 bv bs.length (bs.map encB) ∧ DsOk w.heap.size ds W
theorem cell_one (w : World) (u : Value) (t : TypeId) : ∀ j y, [u][j]? = some y → (w.alloc (.cells #[u] t)).cell? ((⟨w.heap.size, 0, none⟩ : Addr).add j) = some y := by
  intro j y hj
  match j, hj with
  | 0, hj => simp at hj; subst hj; simp [Addr.add]
theorem Kb.app {B ob : Nat} {W w1 : World} {t e : TypeId} {base n size m : Nat} {v v' : Value} {xs ys : List Value} {tmp : Obj} (hv : Boxed W ob t v) (hte : t ≠ e) (hrow : W.ownsRow base e size v n xs)
    (hg : (W.alloc tmp).grownBy w1 v.ownBlock) (hown : w1.ownsRow base e size v' m ys) (hb : v'.ownBlock = v.ownBlock ∨ v'.ownBlock = some (W.alloc tmp).heap.size) : Kb B ob W (w1.setCell ⟨ob, 0, none⟩ v') := by
  rw [World.size_alloc] at hb
  refine Kb.append hv hte hrow hg hb ?_
  rcases hb with q | q
  · exact .inr q
  · exact .inl (World.ownsRow.lt hown _ q).2
theorem fit_in {s : Fs} (hT : Tr s) (dir : Int) (L : List GTok) (b : List UInt8) : (s.fitS dir L b).length ≤ 100 ∧ ∀ y ∈ s.fitS dir L b, y.length ≤ 32 := by
  unfold Fs.fitS
  split
  · have := list_len hT (s.walkS dir (lookS b) true).1
    exact ⟨Nat.le_trans (List.length_filter_le _ _) this.1, fun y hy => (this.2 y (List.mem_filter.1 hy).1).2⟩
  · exact ⟨by simp, fun y hy => by simp at hy⟩
theorem more_in {s : Fs} (hT : Tr s) (dir : Int) (p : PartS) (hp : p.text.length ≤ 100000) (b : List UInt8) : (s.moreS dir p b).length ≤ 100 ∧ ∀ y ∈ s.moreS dir p b, y.length ≤ b.length + 100000 := by
  unfold Fs.moreS
  split
  · have := fit_in hT dir p.toks b
    refine ⟨by rw [List.length_map]; exact this.1, fun y hy => ?_⟩
    obtain ⟨z, hz, rfl⟩ := List.mem_map.1 hy
    have := this.2 z hz
    rw [List.length_append]; omega
  · refine ⟨by simp, fun y hy => ?_⟩
    simp at hy
    subst hy
    rw [List.length_append]; omega
theorem on_len (first : Bool) (b : List UInt8) : (onS first b).length ≤ b.length + 1 := by
  unfold onS
  split
  · omega
  · simp
theorem some_in {s : Fs} (hT : Tr s) (dir : Int) (p : PartS) (hp : p.text.length ≤ 100000) (first : Bool) (bs : List (List UInt8)) {N : Nat} (hb : ∀ b ∈ bs, b.length ≤ N) :
    (bs.flatMap fun b => s.moreS dir p (onS first b)).length ≤ 100 * bs.length ∧ ∀ y ∈ bs.flatMap (fun b => s.moreS dir p (onS first b)), y.length ≤ N + 100001 := by
  induction bs with
  | nil => exact ⟨by simp, fun y hy => by simp at hy⟩
  | cons b bs ih =>
    have h1 := more_in hT dir p hp (onS first b)
    have h2 := ih (fun c hc => hb c (List.mem_cons_of_mem _ hc))
    refine ⟨by rw [List.flatMap_cons, List.length_append, List.length_cons]; have := h1.1; have := h2.1; omega, fun y hy => ?_⟩
    rw [List.flatMap_cons] at hy
    rcases List.mem_append.1 hy with hy | hy
    · have := h1.2 y hy
      have := on_len first b
      have := hb b (by simp)
      omega
    · exact h2.2 y hy
/-- what lies between two begins -/
structure InI (s : Fs) (dir : Int) (w wp : World) (ob : Nat) (first : Bool) (p : PartS) (bs : List (List UInt8)) (Ws : World) (k : Nat) (ds : List Deferred) (V : World) : Prop where
  kb : Kb Ws.heap.size ob Ws V
  row : ∃ v, Boxed V ob 32 v ∧ V.ownsRow wp.heap.size 9 1 v ((bs.take k).flatMap fun b => s.moreS dir p (onS first b)).length (((bs.take k).flatMap fun b => s.moreS dir p (onS first b)).map encB)
  ds : DsOk w.heap.size ds V
set_option maxRecDepth 100000 in
set_option maxHeartbeats 4000000 in
theorem expand_some {W0 : World} {s : Fs} {lay : FId → Nat} (hE : EnvG W0) (hT : Tr s) (dir : Int) (x : List UInt8) (q : List Bool) (qv : Value) (w : World) (h : FsIn W0 s lay w) (hq : BoolsC w qv q) (hx : x.length ≤ 1000) (hql : q.length ≤ 9223372036854775807) (hsp : anyS (piecesS (cutP x) q) = true) :
    Calls Tryz.prog 11 #[ptrTo (lay .F), .int .i64 dir, fieldV x qv] w (Gives w (s.expandS dir x q)) := by
  obtain ⟨m, hm⟩ := hE.at_ h.below
  obtain ⟨a0, cap0, rfl, _⟩ := id hq.1
  obtain ⟨w3, hw3⟩ : ∃ w3, ((w.alloc (.cells #[ptrTo (lay .F)] 25)).alloc (.cells #[.int .i64 dir] 3)).alloc (.cells #[.string ⟨x.toArray⟩, .slice a0 q.length cap0] 31) = w3 := ⟨_, rfl⟩
  have hb3 : Below w.heap.size w w3 := by rw [← hw3]; exact ((((Below.refl _ w).alloc (Nat.le_refl _) _).alloc (by simp) _).alloc (by simp; omega) _)
  have hP := parts_any x q _ w3 ⟨hq.1.below hb3, hq.2⟩ (by omega) hql m ((hb3.cell (cell_lt hm)).trans hm)
  have HP := Lib.hid hP
  have HB := Lib.hid hb3
  have hx3 := box3 w (.cells #[ptrTo (lay .F)] 25) (.cells #[.int .i64 dir] 3) (.cells #[.string ⟨x.toArray⟩, .slice a0 q.length cap0] 31)
  rw [hw3] at hx3
  obtain ⟨e0, e1, e2⟩ := hx3
  have HE := Lib.hid (show w3.cell? ⟨w.heap.size, 0, none⟩ = some (ptrTo (lay .F)) ∧ w3.cell? ⟨w.heap.size + 1, 0, none⟩ = some (.int .i64 dir) ∧ w3.cell? ⟨w.heap.size + 2, 0, none⟩ = some (.string ⟨x.toArray⟩) from ⟨cell0 e0, cell0 e1, (cell01 e2).1⟩)
  have hpl : (piecesS (cutP x) q).length ≤ 100000 := by rw [piecesS_len]; have := cutP_count x; omega
  have HK := Lib.hid (pieces_ok (x := x) (by omega) (cutP x) q (fun y hy => cutP_mem hy))
  have HF := Lib.hid (h.kept hb3)
  have hps0 : 0 < (piecesS (cutP x) q).length := by rw [piecesS_len]; exact List.length_pos_iff.2 (cutP_ne x)
  unfold ptrTo at hw3 HE ⊢
  have HW3 := Lib.hid hw3
  clear hw3 hb3 hP hm hq e0 e1 e2 h
  have HXP := Lib.hid (show s.expandS dir x q = (match s.beginsS dir true (piecesS (cutP x) q) [[]] with
    | none => [x]
    | some bs => endsS x (bs.filter (s.isS dir))) by unfold Fs.expandS; rw [hsp]; rfl)
  generalize s.expandS dir x q = RES at HXP ⊢
  unfold fieldV
  refine (callsIn_wide (n := 5)).1 ?_
  refine callsIn_of_wp_marks Tryz.func11 rfl trivial ?_ rfl
  simp only [Tryz.ntmps11, List.size_toArray, List.length_cons, List.length_nil, Nat.reduceAdd, Nat.reduceSub, Array.replicate_succ, Array.replicate_zero, List.push_toArray, List.append_toArray, List.nil_append, List.cons_append]
  gi_wp2_with first
    | (refine ⟨trivial, ?_⟩; gi_at_call 30; (refine (callsIn_wide.2 (parthas_any _ _ w4 HPV.out hpl HK.out)).mono ?_); rw [hsp]; rintro e w5 ⟨rfl, hb5⟩; have d0 := (hb5.cell (cell_lt c0)).trans c0; have d1 := (hb5.cell (cell_lt c1)).trans c1; have d2 := (hb5.cell (cell_lt c2)).trans c2; have HB5 := Lib.hid (HB4.out.trans (hb5.mono HB4.out.size)); have HPV5 := Lib.hid (HPV.out.below hb5); clear hb5)
    | (refine ⟨trivial, ?_⟩; gi_at_call 29; rw [HW3.out]; (with_reducible refine (callsIn_wide.2 HP.out).mono ?_); rintro e w4 ⟨⟨pv, rfl, hpv⟩, hb4⟩; have c0 := (hb4.cell (cell_lt HE.out.1)).trans HE.out.1; have c1 := (hb4.cell (cell_lt HE.out.2.1)).trans HE.out.2.1; have c2 := (hb4.cell (cell_lt HE.out.2.2)).trans HE.out.2.2; have HB4 := Lib.hid hb4; have HPV := Lib.hid hpv.inn; obtain ⟨pa, pc, rfl, hpa⟩ := id hpv.inn; obtain ⟨pg, rfl, _, _⟩ := hpa hps0; clear hpa hb4 hpv)
  obtain ⟨wp, hwp⟩ : ∃ wp, w5.alloc (.cells #[.pointer (some ⟨lay .F, 0, none⟩), .int .i64 dir] 68) = wp := ⟨_, rfl⟩
  have hb6 : Below w5.heap.size w5 wp := by rw [← hwp]; exact (Below.refl _ w5).alloc (Nat.le_refl _) _
  have htb : wp.heap[w5.heap.size]? = some (.cells #[.pointer (some ⟨lay .F, 0, none⟩), .int .i64 dir] 68 (0, 0)) := by rw [← hwp]; exact r_alloc_at _ _
  have hws : wp.heap.size = w5.heap.size + 1 := by rw [← hwp]; simp
  have HX := Lib.hid (show ExW W0 s lay dir x (piecesS (cutP x) q) w w5.heap.size pg pc wp from
    ⟨(HF.out.kept (HB5.out.trans (hb6.mono HB5.out.size))), (hb6.cell (cell_lt d0)).trans d0, (hb6.cell (cell_lt d1)).trans d1, (hb6.cell (cell_lt d2)).trans d2, htb, HPV5.out.below hb6, (HB.out.trans (HB5.out.mono HB.out.size)).trans (hb6.mono (Nat.le_trans HB.out.size HB5.out.size))⟩)
  rw [hwp]
  have HOI := Lib.hid (show OutI s dir (piecesS (cutP x) q) w wp 0 (.slice (some ⟨w5.heap.size + 1, 0, none⟩) 1 1) [] (wp.alloc (.cells #[.string ⟨#[]⟩] 9)) from
    ⟨(Below.refl _ _).alloc (Nat.le_refl _) _, [[]], rfl, by simp, fun b hb => by simp at hb; subst hb; simp, by have := one_row wp [] wp.heap.size (Nat.le_refl _); rw [hws] at this ⊢; exact this, DsOk.nil _ _⟩)
  have hwsz : w.heap.size ≤ wp.heap.size := HX.out.below.size
  have hps := HPV5.out
  have HPO := HK
  have hplen : (piecesS (cutP x) q).length ≤ 1001 := by rw [piecesS_len]; have := cutP_count x; omega
  clear hps htb hb6 hwp d0 d1 d2 c0 c1 c2 HPV5 HPV HB4 HB5 HP HE HW3 HB HF hsp hws
  refine wpIn_loop (fun a' W => ∃ (i : Nat) (bv u10 u11 u12 u13 u14 u15 u35 u36 u37 u38 u39 u40 u41 u42 u43 u44 u45 u46 u47 u48 u49 u50 u51 u52 u53 u54 u55 u56 u57 u58 u59 u60 u61 u62 u63 u64 u65 u66 u67 u68 u69 u70 u71 u72 u73 u74 u75 u76 u77 u78 u79 : Value) (ds : List Deferred), SameAct a' { tmps := List.toArray ((.pointer (some ⟨lay .F, 0, none⟩)) :: (.int .i64 dir) :: (.agg #[.string ⟨x.toArray⟩, .slice a0 q.length cap0]) :: (.pointer (some ⟨w.heap.size, 0, none⟩)) :: (.pointer (some ⟨w.heap.size + 1, 0, none⟩)) :: (.pointer (some ⟨w.heap.size + 1 + 1, 0, none⟩)) :: (.slice none 0 0) :: (.slice (some ⟨pg, 0, none⟩) (piecesS (cutP x) q).length pc) :: (.pointer (some ⟨w5.heap.size, 0, none⟩)) :: bv :: u10 :: u11 :: u12 :: u13 :: u14 :: u15 :: (.agg #[.string ⟨x.toArray⟩, .slice a0 q.length cap0]) :: (.slice (some ⟨pg, 0, none⟩) (piecesS (cutP x) q).length pc) :: (.pointer (some ⟨lay .F, 0, none⟩)) :: (.bool false) :: (.bool false) :: (.slice (some ⟨pg, 0, none⟩) (piecesS (cutP x) q).length pc) :: (.bool true) :: (.bool false) :: (.bool false) :: undef :: undef :: undef :: (.pointer (some ⟨lay .F, 0, none⟩)) :: (.int .i64 dir) :: (.agg #[.pointer (some ⟨lay .F, 0, none⟩), .int .i64 dir]) :: (.slice (some ⟨w5.heap.size + 1, 0, none⟩) 1 1) :: (.slice (some ⟨pg, 0, none⟩) (piecesS (cutP x) q).length pc) :: (.int .i64 (piecesS (cutP x) q).length) :: (.int .i64 i) :: u35 :: u36 :: u37 :: u38 :: u39 :: u40 :: u41 :: u42 :: u43 :: u44 :: u45 :: u46 :: u47 :: u48 :: u49 :: u50 :: u51 :: u52 :: u53 :: u54 :: u55 :: u56 :: u57 :: u58 :: u59 :: u60 :: u61 :: u62 :: u63 :: u64 :: u65 :: u66 :: u67 :: u68 :: u69 :: u70 :: u71 :: u72 :: u73 :: u74 :: u75 :: u76 :: u77 :: u78 :: u79 :: undef :: undef :: undef :: undef :: undef :: undef :: undef :: undef :: undef :: undef :: undef :: undef :: ([] : List Value)), defers := ds } ∧ i ≤ (piecesS (cutP x) q).length ∧ OutI s dir (piecesS (cutP x) q) w wp i bv ds W)
    (fun a' _ => (piecesS (cutP x) q).length - (intOf (a'.tmps.getD 34 undef)).toNat) ⟨0, _, _, _, _, _, _, _, _, _, _, _, _, _, _, _, _, _, _, _, _, _, _, _, _, _, _, _, _, _, _, _, _, _, _, _, _, _, _, _, _, _, _, _, _, _, _, _, _, _, _, _, _, [], rfl, Nat.zero_le _, HOI.out⟩ ?round
  case round =>
    rintro a W ⟨i, bv, u10, u11, u12, u13, u14, u15, u35, u36, u37, u38, u39, u40, u41, u42, u43, u44, u45, u46, u47, u48, u49, u50, u51, u52, u53, u54, u55, u56, u57, u58, u59, u60, u61, u62, u63, u64, u65, u66, u67, u68, u69, u70, u71, u72, u73, u74, u75, u76, u77, u78, u79, ds, hsame, hi, hI⟩
    unfold SameAct at hsame
    subst hsame
    by_cases hlt : i < (piecesS (cutP x) q).length
    · obtain ⟨hbel, bs, hbeq, hb256, hbl, hrow, hds⟩ := hI
      obtain ⟨p, hp⟩ : ∃ p, (piecesS (cutP x) q)[i]? = some p := ⟨_, List.getElem?_eq_getElem hlt⟩
      obtain ⟨_, _, e', hs'⟩ := HX.out.parts
      cases e'
      obtain ⟨g', e'', hg', hcells⟩ := hs' hps0
      cases e''
      obtain ⟨tv, q0, q1, ptok⟩ := hcells i p hp
      have p0 := (hbel.cell (p := ⟨pg, i * 2, none⟩) hg').trans q0
      have p1 := (hbel.cell (p := ⟨pg, i * 2 + 1, none⟩) hg').trans q1
      obtain ⟨a3, n3, rfl, _⟩ := id ptok
      have HPK := Lib.hid (HPO.out p (List.mem_of_getElem? hp))
      have HPT := Lib.hid ptok
      have HBQ := Lib.hid (show s.beginsS dir (i == 0) (p :: (piecesS (cutP x) q).drop (i + 1)) bs = s.beginsS dir true (piecesS (cutP x) q) [[]] by
        rw [← hbeq, List.drop_eq_getElem_cons hlt]
        rw [List.getElem?_eq_getElem hlt] at hp
        cases hp; rfl)
      have HRW := Lib.hid hrow
      have HDS := Lib.hid hds
      have HBE := Lib.hid hbel
      have HBL := Lib.hid hbl
      have hilt : (i : Int) < ((piecesS (cutP x) q).length : Int) := by omega
      obtain ⟨a7, c7, rfl⟩ := row_form hrow
      clear hbeq hrow hds hbel hbl hs' hcells hg' ptok hp q0 q1
      gi_wp2
      -- INNER
      obtain ⟨Ws, hWs⟩ : ∃ Ws, (W.alloc (.cells #[.string ⟨p.text.toArray⟩, .slice a3 p.toks.length n3] 65)).alloc (.cells #[.slice none 0 0] 32) = Ws := ⟨_, rfl⟩
      have hWsz : Ws.heap.size = W.heap.size + 2 := by rw [← hWs]; simp
      have HWB := Lib.hid (show Below W.heap.size W Ws by rw [← hWs]; exact ((Below.refl _ W).alloc (Nat.le_refl _) _).alloc (by simp) _)
      have HPB := Lib.hid (show Ws.heap[W.heap.size]? = some (.cells #[.string ⟨p.text.toArray⟩, .slice a3 p.toks.length n3] 65 (0, 0)) by rw [← hWs]; exact (Below.heap_alloc _ _ _ (by simp)).trans (r_alloc_at _ _))
      have HOB := Lib.hid (show Boxed Ws (W.heap.size + 1) 32 (.slice none 0 0) by rw [← hWs]; have := Boxed.new (W.alloc (.cells #[.string ⟨p.text.toArray⟩, .slice a3 p.toks.length n3] 65)) 32 (.slice none 0 0); simpa using this)
      have HNR := Lib.hid (fun (k : Nat) (h : RowOf (W.heap.size + 1) Ws k) => (show False by have := (RowOf.boxed HOB.out).1 h; cases this))
      have HLB := Lib.hid (row_lst (ob := W.heap.size + 1) (HRW.out.kept (grown_none HWB.out) (by cases (Value.slice a7 bs.length c7).ownBlock <;> simp)) HOB.out (by decide))
      rw [hWs]
      have HII := Lib.hid (show InI s dir w wp (W.heap.size + 1) (i == 0) p bs Ws 0 ds Ws from ⟨Kb.refl _ _ _, ⟨_, HOB.out, World.ownsRow_nil _ _ _ _⟩, HDS.out.below HWB.out⟩)
      have hwW : wp.heap.size ≤ W.heap.size := HBE.out.size
      clear hWs
      refine wpIn_loop (fun a' V => ∃ (k : Nat) (y13 y14 y15 y42 y43 y44 y45 y46 y47 y48 y49 y50 y51 y52 y53 y54 y55 y56 y57 y58 y59 y60 y61 y62 y63 y64 y65 y66 y67 y68 y69 y70 y71 : Value) (ds : List Deferred), SameAct a' { tmps := List.toArray ((.pointer (some ⟨lay .F, 0, none⟩)) :: (.int .i64 dir) :: (.agg #[.string ⟨x.toArray⟩, .slice a0 q.length cap0]) :: (.pointer (some ⟨w.heap.size, 0, none⟩)) :: (.pointer (some ⟨w.heap.size + 1, 0, none⟩)) :: (.pointer (some ⟨w.heap.size + 1 + 1, 0, none⟩)) :: (.slice none 0 0) :: (.slice (some ⟨pg, 0, none⟩) (piecesS (cutP x) q).length pc) :: (.pointer (some ⟨w5.heap.size, 0, none⟩)) :: (.slice a7 bs.length c7) :: (.int .i64 i) :: (.pointer (some ⟨W.heap.size, 0, none⟩)) :: (.pointer (some ⟨W.heap.size + 1, 0, none⟩)) :: y13 :: y14 :: y15 :: (.agg #[.string ⟨x.toArray⟩, .slice a0 q.length cap0]) :: (.slice (some ⟨pg, 0, none⟩) (piecesS (cutP x) q).length pc) :: (.pointer (some ⟨lay .F, 0, none⟩)) :: (.bool false) :: (.bool false) :: (.slice (some ⟨pg, 0, none⟩) (piecesS (cutP x) q).length pc) :: (.bool true) :: (.bool false) :: (.bool false) :: undef :: undef :: undef :: (.pointer (some ⟨lay .F, 0, none⟩)) :: (.int .i64 dir) :: (.agg #[.pointer (some ⟨lay .F, 0, none⟩), .int .i64 dir]) :: (.slice (some ⟨w5.heap.size + 1, 0, none⟩) 1 1) :: (.slice (some ⟨pg, 0, none⟩) (piecesS (cutP x) q).length pc) :: (.int .i64 (piecesS (cutP x) q).length) :: (.int .i64 i) :: (.bool true) :: (.int .i64 i) :: (.pointer (some ⟨pg, i * 2, none⟩)) :: (.agg #[.string ⟨p.text.toArray⟩, .slice a3 p.toks.length n3]) :: (.slice a7 bs.length c7) :: (.int .i64 bs.length) :: (.int .i64 k) :: y42 :: y43 :: y44 :: y45 :: y46 :: y47 :: y48 :: y49 :: y50 :: y51 :: y52 :: y53 :: y54 :: y55 :: y56 :: y57 :: y58 :: y59 :: y60 :: y61 :: y62 :: y63 :: y64 :: y65 :: y66 :: y67 :: y68 :: y69 :: y70 :: y71 :: u72 :: u73 :: u74 :: u75 :: u76 :: u77 :: u78 :: u79 :: undef :: undef :: undef :: undef :: undef :: undef :: undef :: undef :: undef :: undef :: undef :: undef :: ([] : List Value)), defers := ds } ∧ k ≤ bs.length ∧ InI s dir w wp (W.heap.size + 1) (i == 0) p bs Ws k ds V)
        (fun a' _ => bs.length - (intOf (a'.tmps.getD 41 undef)).toNat) ⟨0, _, _, _, _, _, _, _, _, _, _, _, _, _, _, _, _, _, _, _, _, _, _, _, _, _, _, _, _, _, _, _, _, _, ds, rfl, Nat.zero_le _, HII.out⟩ ?round2
      case round2 =>
        rintro a V ⟨k, y13, y14, y15, y42, y43, y44, y45, y46, y47, y48, y49, y50, y51, y52, y53, y54, y55, y56, y57, y58, y59, y60, y61, y62, y63, y64, y65, y66, y67, y68, y69, y70, y71, ds2, hsame, hk, hJ⟩
        unfold SameAct at hsame
        subst hsame
        by_cases hlt2 : k < bs.length
        · -- ROUND
          obtain ⟨hkb, ⟨v, hv, hrow⟩, hds⟩ := hJ
          obtain ⟨b, hb⟩ : ∃ b, bs[k]? = some b := ⟨_, List.getElem?_eq_getElem hlt2⟩
          have HVB := Lib.hid (show Below wp.heap.size wp V from HBE.out.trans ((HWB.out.mono hwW).trans (hkb.below (by omega) (by omega) (by omega) (fun j hj => (HNR.out j hj).elim))))
          obtain ⟨_, _, e7, hs7⟩ := HLB.out.kb hkb
          cases e7
          obtain ⟨g7, cu7, ty7, rfl, hg7, _, _, hcu7⟩ := hs7 (by omega)
          have hbc : V.cell? ⟨g7, k, none⟩ = some (.string ⟨b.toArray⟩) := by simp [World.cell?, hg7, hcu7 k b hb]
          have HPV := Lib.hid (show V.heap[W.heap.size]? = some (.cells #[.string ⟨p.text.toArray⟩, .slice a3 p.toks.length n3] 65 (0, 0)) from (hkb.cells _ _ _ _ HPB.out (by omega) (fun r => HNR.out _ r)).trans HPB.out)
          have HTV := Lib.hid (show V.heap[w5.heap.size]? = some (.cells #[.pointer (some ⟨lay .F, 0, none⟩), .int .i64 dir] 68 (0, 0)) from (HVB.out.block _ (blk_lt HX.out.t)).trans HX.out.t)
          have HSP := Lib.hid (fun (V' : World) (h : Below V.heap.size V V') => special_any p.toks (.slice a3 p.toks.length n3) V' (HPT.out.below (HVB.out.trans (h.mono HVB.out.size))) HPK.out.1 HPK.out.2.1.k)
          have hblen := HBL.out b (List.mem_of_getElem? hb)
          have htake : (bs.take (k + 1)).flatMap (fun b => s.moreS dir p (onS (i == 0) b)) = (bs.take k).flatMap (fun b => s.moreS dir p (onS (i == 0) b)) ++ s.moreS dir p (onS (i == 0) b) := by
            rw [List.take_add_one, hb]; simp
          have hsm := some_in hT dir p HPK.out.2.2 (i == 0) (bs.take k) (N := 100100 * i) (fun c hc => HBL.out c (List.mem_of_mem_take hc))
          have hnl : ((bs.take k).flatMap fun b => s.moreS dir p (onS (i == 0) b)).length ≤ 25600 := by have := hsm.1; have := List.length_take_le k bs; omega
          clear hsm
          generalize (bs.take k).flatMap (fun b => s.moreS dir p (onS (i == 0) b)) = zs at hrow hnl htake
          have HTK := Lib.hid htake
          have hcell := hv.cell
          have HV := Lib.hid hv
          have HRV := Lib.hid hrow
          have HDV := Lib.hid hds
          have HKB := Lib.hid hkb
          have hVs := hkb.size
          obtain ⟨a6, c6, rfl⟩ := row_form hrow
          have hkz : (k : Int) < (bs.length : Int) := by omega
          clear hkb hv hrow hds hs7 hcu7 hg7 hb htake
          have HINF := Lib.hid (info_parts info_str)
          have hptl := HPK.out.2.2
          by_cases hi0 : i = 0
          · have hgt : ¬ (0 : Int) < (i : Int) := by omega
            have HI0 := Lib.hid hi0
            clear hi0
            gi_upto_region 15 with (fail)
            have HFI := Lib.hid (fun (V' : World) => fitting_any (lay .F) dir p (.slice a3 p.toks.length n3) b V' ⟨_, _, _, rfl⟩)
            unfold partV ptrTo at HFI
            have HON := Lib.hid (show onS (i == 0) b = b by rw [HI0.out]; rfl)
            have HW1 := Lib.hid (show Below V.heap.size V (V.alloc (.cells #[.string ⟨b.toArray⟩] 9)) from (Below.refl _ V).alloc (Nat.le_refl _) _)
            have HS := Lib.hid (HSP.out _ HW1.out)
            obtain ⟨zp0, zp1⟩ := cell01 ((HW1.out.block _ (blk_lt HPV.out)).trans HPV.out)
            have HBX := Lib.hid (Boxed.new V 9 (.string ⟨b.toArray⟩))
            cases hspi : specialS p.toks
            · rw [hspi] at HS
              have HMO := Lib.hid (show s.moreS dir p (onS (i == 0) b) = [b ++ p.text] by rw [HON.out]; unfold Fs.moreS; rw [hspi]; rfl)
              gi_wp2_with first
                | (gi_at_builtin; obtain ⟨i0, hi0', hz0, hz1, hz2⟩ := HINF.out; refine wpListIn_append_own_at _ rfl _ _ 32 rfl wp.heap.size 9 i0 (.string ByteArray.empty) 1 16 (by kernel_rfl) hi0' hz0 hz1 hz2 rfl (by decide) _ _ _ rfl (HR2.out.alloc _) ⟨V2.heap.size, 0, none⟩ 1 1 [.string ⟨(b ++ p.text).toArray⟩] rfl rfl (cell_one _ _ _) (by simp [Value.oneCell']) (by simp only [maxLen]; omega) (by omega) (by simp only [World.size_alloc]; omega) ?_; intro v' w1 hown' hgrow _ hblk; obtain ⟨av', cv', rfl⟩ := row_form hown'; obtain ⟨hv1, hv2', hr2', _, _⟩ := HV2.out.appended (by decide) HR2.out (by omega) (by omega) hown' hgrow; have HKA := Lib.hid (Kb.app (B := V2.heap.size) HV2.out (by decide) HR2.out hgrow hown' hblk); have HV3 := Lib.hid hv2'; have HR3 := Lib.hid hr2'; clear hv2' hr2'; have hc1 := hv1.cell; have hf1 := hv1.frozen; clear hi0' hz0 hz1 hz2)
                | (refine ⟨trivial, ?_⟩; gi_at_call 17; (with_reducible refine (callsIn_wide.2 HS.out).mono ?_); rintro e V2 ⟨rfl, hb2⟩; have HB2 := Lib.hid (HW1.out.trans (hb2.mono HW1.out.size)); have hs2 := HB2.out.size; have HV2 := Lib.hid (show Boxed V2 (W.heap.size + 1) 32 _ from (HB2.out.block _ HV.out.lt).trans HV.out); have z12 := HV2.out.cell; have z14 := cell0 ((hb2.block _ HBX.out.lt).trans HBX.out); have z11 := (cell01 ((HB2.out.block _ (blk_lt HPV.out)).trans HPV.out)).1; have HR2 := Lib.hid (HRV.out.kept (grown_none HB2.out) (by cases (Value.slice a6 zs.length c6).ownBlock <;> simp)); clear hb2)
              refine ⟨⟨k + 1, _, _, _, _, _, _, _, _, _, _, _, _, _, _, _, _, _, _, _, _, _, _, _, _, _, _, _, _, _, _, _, _, _, ds2, rfl, by omega, ⟨HKB.out.trans ((Kb.of_below HB2.out HV.out.lt).trans (HKA.out.mono (by omega))), ⟨_, HV3.out, ?_⟩, (HDV.out.below HB2.out).kb HV2.out HR2.out (Nat.le_refl _) HKA.out⟩⟩, ?_⟩
              · rw [HTK.out, HMO.out]
                have := HR3.out
                simpa [encB] using this
              · show _ - (intOf (.int .i64 ((k : Int) + 1))).toNat < _ - (intOf (.int .i64 (k : Int))).toNat
                simp [intOf]; omega
            · rw [hspi] at HS
              gi_wp2_with first
                | (refine ⟨trivial, ?_⟩; gi_at_call 32; (with_reducible refine (callsIn_wide.2 (HFI.out V2)).mono ?_); rintro e w6 ⟨rfl, hw6⟩)
                | (refine ⟨trivial, ?_⟩; gi_at_call 17; (with_reducible refine (callsIn_wide.2 HS.out).mono ?_); rintro e V2 ⟨rfl, hb2⟩; have HB2 := Lib.hid (HW1.out.trans (hb2.mono HW1.out.size)); have hs2 := HB2.out.size; have HV2 := Lib.hid (show Boxed V2 (W.heap.size + 1) 32 _ from (HB2.out.block _ HV.out.lt).trans HV.out); have z12 := HV2.out.cell; have z14 := cell0 ((hb2.block _ HBX.out.lt).trans HBX.out); have HBV := Lib.hid ((hb2.block _ HBX.out.lt).trans HBX.out); have HR2 := Lib.hid (HRV.out.kept (grown_none HB2.out) (by cases (Value.slice a6 zs.length c6).ownBlock <;> simp)); obtain ⟨z110, z111⟩ := cell01 ((HB2.out.block _ (blk_lt HPV.out)).trans HPV.out); obtain ⟨z80, z81⟩ := cell01 ((HB2.out.block _ (blk_lt HTV.out)).trans HTV.out); clear hb2)
              have HMO2 := Lib.hid (show s.moreS dir p (onS (i == 0) b) = (s.fitS dir p.toks b).map (b ++ ·) by rw [HON.out]; unfold Fs.moreS; rw [hspi]; rfl)
              have HFA := Lib.hid (fit_at (dir := dir) (p := p) (tv := .slice a3 p.toks.length n3) (B := b) HX.out.fs HPT.out (HVB.out.trans (HB2.out.mono HVB.out.size)) (ob := W.heap.size + 1) (by omega) HV2.out HR2.out)
              clear hw6
              obtain ⟨Wr, hWr⟩ : ∃ Wr, fitW V2 (lay .F) dir p (.slice a3 p.toks.length n3) b = Wr := ⟨_, rfl⟩
              rw [hWr] at HFA ⊢
              have HI0R := Lib.hid (show RngI wp Wr (W.heap.size + 1) zs b [] Wr from RngI.start HFA.out.2 HV2.out HR2.out)
              have hrs := HFA.out.2.size
              have hobr : W.heap.size + 1 < Wr.heap.size := by omega
              have HBB := Lib.hid (show Wr.heap[V.heap.size]? = some (.cells #[.string ⟨b.toArray⟩] 9 (0, 0)) from (HFA.out.2.block _ (blk_lt HBV.out)).trans HBV.out)
              have HNRB := Lib.hid (show ¬ RowOf (W.heap.size + 1) Wr V.heap.size from fun r => by
                have h1 := (RowOf.boxed HV2.out).1 ((RowOf.block (HFA.out.2.block _ HV2.out.lt)).1 r)
                have h2 := (World.ownsRow.lt HRV.out _ h1).2
                omega)
              have hobn : V.heap.size ≠ W.heap.size + 1 := by omega
              clear hWr
              refine range_U (F := Fence.wide) rfl (by omega) (gf := 61) (lb := fitF V2.heap.size) rfl trivial (enters_of Tryz.func61 (by kernel_rfl) rfl)
                (fitting_seq 4 hE hT Wr HFA.out.1 (special_ne hspi) HPK.out.1 HPK.out.2.1) ?hKt ?hKb (Below.refl _ _) (fun _ => rfl)
                (RngI wp Wr (W.heap.size + 1) zs b) (RngI.own _ _ _ _ _) (fun _ _ _ _ h _ _ => h) HI0R.out (fun nm a' _ => a' = { tmps := List.toArray ((.pointer (some ⟨lay .F, 0, none⟩)) :: (.int .i64 dir) :: (.agg #[.string ⟨x.toArray⟩, .slice a0 q.length cap0]) :: (.pointer (some ⟨w.heap.size, 0, none⟩)) :: (.pointer (some ⟨w.heap.size + 1, 0, none⟩)) :: (.pointer (some ⟨w.heap.size + 1 + 1, 0, none⟩)) :: (.slice none 0 0) :: (.slice (some ⟨pg, 0, none⟩) (piecesS (cutP x) q).length pc) :: (.pointer (some ⟨w5.heap.size, 0, none⟩)) :: (.slice (some ⟨g7, 0, none⟩) bs.length c7) :: (.int .i64 i) :: (.pointer (some ⟨W.heap.size, 0, none⟩)) :: (.pointer (some ⟨W.heap.size + 1, 0, none⟩)) :: y13 :: (.pointer (some ⟨V.heap.size, 0, none⟩)) :: (.string ⟨nm.toArray⟩) :: (.agg #[.string ⟨x.toArray⟩, .slice a0 q.length cap0]) :: (.slice (some ⟨pg, 0, none⟩) (piecesS (cutP x) q).length pc) :: (.pointer (some ⟨lay .F, 0, none⟩)) :: (.bool false) :: (.bool false) :: (.slice (some ⟨pg, 0, none⟩) (piecesS (cutP x) q).length pc) :: (.bool true) :: (.bool false) :: (.bool false) :: undef :: undef :: undef :: (.pointer (some ⟨lay .F, 0, none⟩)) :: (.int .i64 dir) :: (.agg #[.pointer (some ⟨lay .F, 0, none⟩), .int .i64 dir]) :: (.slice (some ⟨w5.heap.size + 1, 0, none⟩) 1 1) :: (.slice (some ⟨pg, 0, none⟩) (piecesS (cutP x) q).length pc) :: (.int .i64 (piecesS (cutP x) q).length) :: (.int .i64 i) :: (.bool true) :: (.int .i64 i) :: (.pointer (some ⟨pg, i * 2, none⟩)) :: (.agg #[.string ⟨p.text.toArray⟩, .slice a3 p.toks.length n3]) :: (.slice (some ⟨g7, 0, none⟩) bs.length c7) :: (.int .i64 bs.length) :: (.int .i64 k) :: (.bool true) :: (.pointer (some ⟨g7, k, none⟩)) :: (.string ⟨b.toArray⟩) :: (.int .i64 i) :: (.bool false) :: y47 :: y48 :: (.pointer (some ⟨W.heap.size, 1, none⟩)) :: (.slice a3 p.toks.length n3) :: (.bool true) :: (.bool false) :: y53 :: y54 :: y55 :: y56 :: y57 :: y58 :: y59 :: (.agg #[.pointer (some ⟨lay .F, 0, none⟩), .int .i64 dir]) :: (.agg #[.string ⟨p.text.toArray⟩, .slice a3 p.toks.length n3]) :: (.string ⟨b.toArray⟩) :: (.func (.func 61) #[] (fitF V2.heap.size)) :: (.string ⟨nm.toArray⟩) :: y65 :: y66 :: y67 :: y68 :: y69 :: y70 :: y71 :: u72 :: u73 :: u74 :: u75 :: u76 :: u77 :: u78 :: u79 :: undef :: undef :: undef :: undef :: undef :: undef :: undef :: undef :: undef :: undef :: undef :: undef :: ([] : List Value)), defers := [] }) ?hAx ?hassign ?hbody ?hdone
              case hKt => exact fun h k => h.trans k
              case hKb =>
                intro R l o o' hl ho h1 h2
                exact Kb.put R l o o' hl ho h1 (by omega)
              case hAx =>
                rintro nm a' R R' row h hg hr
                exact h
              case hassign =>
                rintro l pre nm R K hI hT hK
                simp only [encN]
                gi_wp2
                exact hK _ _ (KeepsOthers.refl _) (Kb.refl _ _ _) hI hT rfl
              case hbody =>
                rintro l pre nm a' R hI hT2 hax hlt3
                subst hax
                obtain ⟨hkbR, v, hvR, hrowR⟩ := hI
                have hcR := hvR.cell
                have hbbR := cell0 ((hkbR.cells _ _ _ _ HBB.out hobn HNRB.out).trans HBB.out)
                have h63 : ¬ 9223372036854775807 < b.length + nm.length := by omega
                have hyl : (zs ++ pre.map (b ++ ·)).length ≤ 25800 := by rw [List.length_append, List.length_map]; omega
                have HSN := Lib.hid (show (zs ++ (pre ++ [nm]).map (b ++ ·)) = (zs ++ pre.map (b ++ ·)) ++ [b ++ nm] by simp)
                generalize (zs ++ pre.map (b ++ ·)) = ys at hrowR hyl HSN
                have HKR := Lib.hid hkbR
                have HVR := Lib.hid hvR
                have HRR := Lib.hid hrowR
                have hRs := hkbR.size
                obtain ⟨av, cv, rfl⟩ := row_form hrowR
                clear hkbR hvR hrowR hlt3
                gi_wp2_with (gi_at_builtin; obtain ⟨i0, hi0', hz0, hz1, hz2⟩ := HINF.out; refine wpListIn_append_own_at _ rfl _ _ 32 rfl wp.heap.size 9 i0 (.string ByteArray.empty) 1 16 (by kernel_rfl) hi0' hz0 hz1 hz2 rfl (by decide) _ _ _ rfl (HRR.out.alloc _) ⟨R.heap.size, 0, none⟩ 1 1 [.string ⟨(b ++ nm).toArray⟩] rfl rfl (cell_one _ _ _) (by simp [Value.oneCell']) (by simp only [maxLen]; omega) (by omega) (by simp only [World.size_alloc]; omega) ?_; intro v' w1 hown' hgrow _ hblk; obtain ⟨av', cv', rfl⟩ := row_form hown'; obtain ⟨hv1, hv2', hr2', hk2, _⟩ := HVR.out.appended (by decide) HRR.out (by omega) (by omega) hown' hgrow; have HKA := Lib.hid (Kb.app (B := Wr.heap.size) HVR.out (by decide) HRR.out hgrow hown' hblk); have HV3 := Lib.hid hv2'; have HR3 := Lib.hid hr2'; have HK2 := Lib.hid hk2; clear hv2' hr2' hk2; have hc1 := hv1.cell; have hf1 := hv1.frozen; clear hi0' hz0 hz1 hz2)
                refine ⟨HK2.out, HKA.out, ⟨HKR.out.trans HKA.out, _, HV3.out, ?_⟩⟩
                rw [HSN.out]
                have := HR3.out
                simpa [encB] using this
              case hdone =>
                intro D xs R hD hS hI hK
                obtain ⟨vR, hvR, hrowR⟩ := hI.row
                have HIR := Lib.hid hI
                have HVR := Lib.hid hvR
                have HRR := Lib.hid (show R.ownsRow wp.heap.size 9 1 vR ((bs.take (k + 1)).flatMap fun b => s.moreS dir p (onS (i == 0) b)).length (((bs.take (k + 1)).flatMap fun b => s.moreS dir p (onS (i == 0) b)).map encB) by
                  rw [HTK.out, HMO2.out, ← hS]; exact hrowR)
                have HDR := Lib.hid (hI.ds HI0R.out ((HDV.out.below HB2.out).below HFA.out.2) (by have := HX.out.below.size; have := HVB.out.size; omega) hD hK)
                clear hI hvR hrowR hS hK
                gi_wp2
                refine ⟨⟨k + 1, _, _, _, _, _, _, _, _, _, _, _, _, _, _, _, _, _, _, _, _, _, _, _, _, _, _, _, _, _, _, _, _, _, _, rfl, by omega, ⟨HKB.out.trans ((Kb.of_below (HB2.out.trans (HFA.out.2.mono hs2)) HV.out.lt).trans (HIR.out.kb.mono (by omega))), ⟨vR, HVR.out, HRR.out⟩, HDR.out⟩⟩, ?_⟩
                show _ - (intOf (.int .i64 ((k : Int) + 1))).toNat < _ - (intOf (.int .i64 (k : Int))).toNat
                simp [intOf]; omega
          · have hgt : (0 : Int) < (i : Int) := by omega
            have HI0 := Lib.hid hi0
            clear hi0
            gi_upto_region 15 with (fail)
            generalize hB2 : b ++ [47] = B2
            have hB2l : B2.length ≤ 100100 * i + 1 := by rw [← hB2]; simp; omega
            have HON := Lib.hid (show onS (i == 0) b = B2 by rw [← hB2]; unfold onS; rw [if_neg (by simpa using HI0.out)])
            clear hB2
            have HFI := Lib.hid (fun (V' : World) => fitting_any (lay .F) dir p (.slice a3 p.toks.length n3) B2 V' ⟨_, _, _, rfl⟩)
            unfold partV ptrTo at HFI
            have HW1 := Lib.hid (show Below V.heap.size V (V.alloc (.cells #[.string ⟨B2.toArray⟩] 9)) from (Below.refl _ V).alloc (Nat.le_refl _) _)
            have HS := Lib.hid (HSP.out _ HW1.out)
            obtain ⟨zp0, zp1⟩ := cell01 ((HW1.out.block _ (blk_lt HPV.out)).trans HPV.out)
            have HBX := Lib.hid (Boxed.new V 9 (.string ⟨B2.toArray⟩))
            cases hspi : specialS p.toks
            · rw [hspi] at HS
              have HMO := Lib.hid (show s.moreS dir p (onS (i == 0) b) = [B2 ++ p.text] by rw [HON.out]; unfold Fs.moreS; rw [hspi]; rfl)
              gi_wp2_with first
                | (gi_at_builtin; obtain ⟨i0, hi0', hz0, hz1, hz2⟩ := HINF.out; refine wpListIn_append_own_at _ rfl _ _ 32 rfl wp.heap.size 9 i0 (.string ByteArray.empty) 1 16 (by kernel_rfl) hi0' hz0 hz1 hz2 rfl (by decide) _ _ _ rfl (HR2.out.alloc _) ⟨V2.heap.size, 0, none⟩ 1 1 [.string ⟨(B2 ++ p.text).toArray⟩] rfl rfl (cell_one _ _ _) (by simp [Value.oneCell']) (by simp only [maxLen]; omega) (by omega) (by simp only [World.size_alloc]; omega) ?_; intro v' w1 hown' hgrow _ hblk; obtain ⟨av', cv', rfl⟩ := row_form hown'; obtain ⟨hv1, hv2', hr2', _, _⟩ := HV2.out.appended (by decide) HR2.out (by omega) (by omega) hown' hgrow; have HKA := Lib.hid (Kb.app (B := V2.heap.size) HV2.out (by decide) HR2.out hgrow hown' hblk); have HV3 := Lib.hid hv2'; have HR3 := Lib.hid hr2'; clear hv2' hr2'; have hc1 := hv1.cell; have hf1 := hv1.frozen; clear hi0' hz0 hz1 hz2)
                | (refine ⟨trivial, ?_⟩; gi_at_call 17; (with_reducible refine (callsIn_wide.2 HS.out).mono ?_); rintro e V2 ⟨rfl, hb2⟩; have HB2 := Lib.hid (HW1.out.trans (hb2.mono HW1.out.size)); have hs2 := HB2.out.size; have HV2 := Lib.hid (show Boxed V2 (W.heap.size + 1) 32 _ from (HB2.out.block _ HV.out.lt).trans HV.out); have z12 := HV2.out.cell; have z14 := cell0 ((hb2.block _ HBX.out.lt).trans HBX.out); have z11 := (cell01 ((HB2.out.block _ (blk_lt HPV.out)).trans HPV.out)).1; have HR2 := Lib.hid (HRV.out.kept (grown_none HB2.out) (by cases (Value.slice a6 zs.length c6).ownBlock <;> simp)); clear hb2)
              refine ⟨⟨k + 1, _, _, _, _, _, _, _, _, _, _, _, _, _, _, _, _, _, _, _, _, _, _, _, _, _, _, _, _, _, _, _, _, _, ds2, rfl, by omega, ⟨HKB.out.trans ((Kb.of_below HB2.out HV.out.lt).trans (HKA.out.mono (by omega))), ⟨_, HV3.out, ?_⟩, (HDV.out.below HB2.out).kb HV2.out HR2.out (Nat.le_refl _) HKA.out⟩⟩, ?_⟩
              · rw [HTK.out, HMO.out]
                have := HR3.out
                simpa [encB] using this
              · show _ - (intOf (.int .i64 ((k : Int) + 1))).toNat < _ - (intOf (.int .i64 (k : Int))).toNat
                simp [intOf]; omega
            · rw [hspi] at HS
              gi_wp2_with first
                | (refine ⟨trivial, ?_⟩; gi_at_call 32; (with_reducible refine (callsIn_wide.2 (HFI.out V2)).mono ?_); rintro e w6 ⟨rfl, hw6⟩)
                | (refine ⟨trivial, ?_⟩; gi_at_call 17; (with_reducible refine (callsIn_wide.2 HS.out).mono ?_); rintro e V2 ⟨rfl, hb2⟩; have HB2 := Lib.hid (HW1.out.trans (hb2.mono HW1.out.size)); have hs2 := HB2.out.size; have HV2 := Lib.hid (show Boxed V2 (W.heap.size + 1) 32 _ from (HB2.out.block _ HV.out.lt).trans HV.out); have z12 := HV2.out.cell; have z14 := cell0 ((hb2.block _ HBX.out.lt).trans HBX.out); have HBV := Lib.hid ((hb2.block _ HBX.out.lt).trans HBX.out); have HR2 := Lib.hid (HRV.out.kept (grown_none HB2.out) (by cases (Value.slice a6 zs.length c6).ownBlock <;> simp)); obtain ⟨z110, z111⟩ := cell01 ((HB2.out.block _ (blk_lt HPV.out)).trans HPV.out); obtain ⟨z80, z81⟩ := cell01 ((HB2.out.block _ (blk_lt HTV.out)).trans HTV.out); clear hb2)
              have HMO2 := Lib.hid (show s.moreS dir p (onS (i == 0) b) = (s.fitS dir p.toks B2).map (B2 ++ ·) by rw [HON.out]; unfold Fs.moreS; rw [hspi]; rfl)
              have HFA := Lib.hid (fit_at (dir := dir) (p := p) (tv := .slice a3 p.toks.length n3) (B := B2) HX.out.fs HPT.out (HVB.out.trans (HB2.out.mono HVB.out.size)) (ob := W.heap.size + 1) (by omega) HV2.out HR2.out)
              clear hw6
              obtain ⟨Wr, hWr⟩ : ∃ Wr, fitW V2 (lay .F) dir p (.slice a3 p.toks.length n3) B2 = Wr := ⟨_, rfl⟩
              rw [hWr] at HFA ⊢
              have HI0R := Lib.hid (show RngI wp Wr (W.heap.size + 1) zs B2 [] Wr from RngI.start HFA.out.2 HV2.out HR2.out)
              have hrs := HFA.out.2.size
              have hobr : W.heap.size + 1 < Wr.heap.size := by omega
              have HBB := Lib.hid (show Wr.heap[V.heap.size]? = some (.cells #[.string ⟨B2.toArray⟩] 9 (0, 0)) from (HFA.out.2.block _ (blk_lt HBV.out)).trans HBV.out)
              have HNRB := Lib.hid (show ¬ RowOf (W.heap.size + 1) Wr V.heap.size from fun r => by
                have h1 := (RowOf.boxed HV2.out).1 ((RowOf.block (HFA.out.2.block _ HV2.out.lt)).1 r)
                have h2 := (World.ownsRow.lt HRV.out _ h1).2
                omega)
              have hobn : V.heap.size ≠ W.heap.size + 1 := by omega
              clear hWr
              refine range_U (F := Fence.wide) rfl (by omega) (gf := 61) (lb := fitF V2.heap.size) rfl trivial (enters_of Tryz.func61 (by kernel_rfl) rfl)
                (fitting_seq 4 hE hT Wr HFA.out.1 (special_ne hspi) HPK.out.1 HPK.out.2.1) ?hKt ?hKb (Below.refl _ _) (fun _ => rfl)
                (RngI wp Wr (W.heap.size + 1) zs B2) (RngI.own _ _ _ _ _) (fun _ _ _ _ h _ _ => h) HI0R.out (fun nm a' _ => a' = { tmps := List.toArray ((.pointer (some ⟨lay .F, 0, none⟩)) :: (.int .i64 dir) :: (.agg #[.string ⟨x.toArray⟩, .slice a0 q.length cap0]) :: (.pointer (some ⟨w.heap.size, 0, none⟩)) :: (.pointer (some ⟨w.heap.size + 1, 0, none⟩)) :: (.pointer (some ⟨w.heap.size + 1 + 1, 0, none⟩)) :: (.slice none 0 0) :: (.slice (some ⟨pg, 0, none⟩) (piecesS (cutP x) q).length pc) :: (.pointer (some ⟨w5.heap.size, 0, none⟩)) :: (.slice (some ⟨g7, 0, none⟩) bs.length c7) :: (.int .i64 i) :: (.pointer (some ⟨W.heap.size, 0, none⟩)) :: (.pointer (some ⟨W.heap.size + 1, 0, none⟩)) :: y13 :: (.pointer (some ⟨V.heap.size, 0, none⟩)) :: (.string ⟨nm.toArray⟩) :: (.agg #[.string ⟨x.toArray⟩, .slice a0 q.length cap0]) :: (.slice (some ⟨pg, 0, none⟩) (piecesS (cutP x) q).length pc) :: (.pointer (some ⟨lay .F, 0, none⟩)) :: (.bool false) :: (.bool false) :: (.slice (some ⟨pg, 0, none⟩) (piecesS (cutP x) q).length pc) :: (.bool true) :: (.bool false) :: (.bool false) :: undef :: undef :: undef :: (.pointer (some ⟨lay .F, 0, none⟩)) :: (.int .i64 dir) :: (.agg #[.pointer (some ⟨lay .F, 0, none⟩), .int .i64 dir]) :: (.slice (some ⟨w5.heap.size + 1, 0, none⟩) 1 1) :: (.slice (some ⟨pg, 0, none⟩) (piecesS (cutP x) q).length pc) :: (.int .i64 (piecesS (cutP x) q).length) :: (.int .i64 i) :: (.bool true) :: (.int .i64 i) :: (.pointer (some ⟨pg, i * 2, none⟩)) :: (.agg #[.string ⟨p.text.toArray⟩, .slice a3 p.toks.length n3]) :: (.slice (some ⟨g7, 0, none⟩) bs.length c7) :: (.int .i64 bs.length) :: (.int .i64 k) :: (.bool true) :: (.pointer (some ⟨g7, k, none⟩)) :: (.string ⟨b.toArray⟩) :: (.int .i64 i) :: (.bool true) :: (.string ⟨b.toArray⟩) :: (.string ⟨B2.toArray⟩) :: (.pointer (some ⟨W.heap.size, 1, none⟩)) :: (.slice a3 p.toks.length n3) :: (.bool true) :: (.bool false) :: y53 :: y54 :: y55 :: y56 :: y57 :: y58 :: y59 :: (.agg #[.pointer (some ⟨lay .F, 0, none⟩), .int .i64 dir]) :: (.agg #[.string ⟨p.text.toArray⟩, .slice a3 p.toks.length n3]) :: (.string ⟨B2.toArray⟩) :: (.func (.func 61) #[] (fitF V2.heap.size)) :: (.string ⟨nm.toArray⟩) :: y65 :: y66 :: y67 :: y68 :: y69 :: y70 :: y71 :: u72 :: u73 :: u74 :: u75 :: u76 :: u77 :: u78 :: u79 :: undef :: undef :: undef :: undef :: undef :: undef :: undef :: undef :: undef :: undef :: undef :: undef :: ([] : List Value)), defers := [] }) ?hAx ?hassign ?hbody ?hdone
              case hKt => exact fun h k => h.trans k
              case hKb =>
                intro R l o o' hl ho h1 h2
                exact Kb.put R l o o' hl ho h1 (by omega)
              case hAx =>
                rintro nm a' R R' row h hg hr
                exact h
              case hassign =>
                rintro l pre nm R K hI hT hK
                simp only [encN]
                gi_wp2
                exact hK _ _ (KeepsOthers.refl _) (Kb.refl _ _ _) hI hT rfl
              case hbody =>
                rintro l pre nm a' R hI hT2 hax hlt3
                subst hax
                obtain ⟨hkbR, v, hvR, hrowR⟩ := hI
                have hcR := hvR.cell
                have hbbR := cell0 ((hkbR.cells _ _ _ _ HBB.out hobn HNRB.out).trans HBB.out)
                have h63 : ¬ 9223372036854775807 < B2.length + nm.length := by omega
                have hyl : (zs ++ pre.map (B2 ++ ·)).length ≤ 25800 := by rw [List.length_append, List.length_map]; omega
                have HSN := Lib.hid (show (zs ++ (pre ++ [nm]).map (B2 ++ ·)) = (zs ++ pre.map (B2 ++ ·)) ++ [B2 ++ nm] by simp)
                generalize (zs ++ pre.map (B2 ++ ·)) = ys at hrowR hyl HSN
                have HKR := Lib.hid hkbR
                have HVR := Lib.hid hvR
                have HRR := Lib.hid hrowR
                have hRs := hkbR.size
                obtain ⟨av, cv, rfl⟩ := row_form hrowR
                clear hkbR hvR hrowR hlt3
                gi_wp2_with (gi_at_builtin; obtain ⟨i0, hi0', hz0, hz1, hz2⟩ := HINF.out; refine wpListIn_append_own_at _ rfl _ _ 32 rfl wp.heap.size 9 i0 (.string ByteArray.empty) 1 16 (by kernel_rfl) hi0' hz0 hz1 hz2 rfl (by decide) _ _ _ rfl (HRR.out.alloc _) ⟨R.heap.size, 0, none⟩ 1 1 [.string ⟨(B2 ++ nm).toArray⟩] rfl rfl (cell_one _ _ _) (by simp [Value.oneCell']) (by simp only [maxLen]; omega) (by omega) (by simp only [World.size_alloc]; omega) ?_; intro v' w1 hown' hgrow _ hblk; obtain ⟨av', cv', rfl⟩ := row_form hown'; obtain ⟨hv1, hv2', hr2', hk2, _⟩ := HVR.out.appended (by decide) HRR.out (by omega) (by omega) hown' hgrow; have HKA := Lib.hid (Kb.app (B := Wr.heap.size) HVR.out (by decide) HRR.out hgrow hown' hblk); have HV3 := Lib.hid hv2'; have HR3 := Lib.hid hr2'; have HK2 := Lib.hid hk2; clear hv2' hr2' hk2; have hc1 := hv1.cell; have hf1 := hv1.frozen; clear hi0' hz0 hz1 hz2)
                refine ⟨HK2.out, HKA.out, ⟨HKR.out.trans HKA.out, _, HV3.out, ?_⟩⟩
                rw [HSN.out]
                have := HR3.out
                simpa [encB] using this
              case hdone =>
                intro D xs R hD hS hI hK
                obtain ⟨vR, hvR, hrowR⟩ := hI.row
                have HIR := Lib.hid hI
                have HVR := Lib.hid hvR
                have HRR := Lib.hid (show R.ownsRow wp.heap.size 9 1 vR ((bs.take (k + 1)).flatMap fun b => s.moreS dir p (onS (i == 0) b)).length (((bs.take (k + 1)).flatMap fun b => s.moreS dir p (onS (i == 0) b)).map encB) by
                  rw [HTK.out, HMO2.out, ← hS]; exact hrowR)
                have HDR := Lib.hid (hI.ds HI0R.out ((HDV.out.below HB2.out).below HFA.out.2) (by have := HX.out.below.size; have := HVB.out.size; omega) hD hK)
                clear hI hvR hrowR hS hK
                gi_wp2
                refine ⟨⟨k + 1, _, _, _, _, _, _, _, _, _, _, _, _, _, _, _, _, _, _, _, _, _, _, _, _, _, _, _, _, _, _, _, _, _, _, rfl, by omega, ⟨HKB.out.trans ((Kb.of_below (HB2.out.trans (HFA.out.2.mono hs2)) HV.out.lt).trans (HIR.out.kb.mono (by omega))), ⟨vR, HVR.out, HRR.out⟩, HDR.out⟩⟩, ?_⟩
                show _ - (intOf (.int .i64 ((k : Int) + 1))).toNat < _ - (intOf (.int .i64 (k : Int))).toNat
                simp [intOf]; omega
          -- END ROUND
        · obtain rfl : k = bs.length := by omega
          obtain ⟨hkb, ⟨v, hv, hrow⟩, hds⟩ := hJ
          rw [List.take_length] at hrow
          have hcell := hv.cell
          have HVB := Lib.hid (show Below wp.heap.size wp V from HBE.out.trans ((HWB.out.mono hwW).trans (hkb.below (by omega) (by omega) (by omega) (fun j hj => (HNR.out j hj).elim))))
          have x2 := (HVB.out.cell (cell_lt HX.out.x)).trans HX.out.x
          have HNX := Lib.hid (some_in hT dir p HPK.out.2.2 (i == 0) bs HBL.out)
          have HBE2 := Lib.hid (show (if 256 < (bs.flatMap fun b => s.moreS dir p (onS (i == 0) b)).length then none else s.beginsS dir false ((piecesS (cutP x) q).drop (i + 1)) (bs.flatMap fun b => s.moreS dir p (onS (i == 0) b))) = s.beginsS dir true (piecesS (cutP x) q) [[]] from HBQ.out)
          generalize (bs.flatMap fun b => s.moreS dir p (onS (i == 0) b)) = ys at hrow HBE2 HNX
          have HRV := Lib.hid hrow
          have HDV := Lib.hid hds
          obtain ⟨a6, c6, rfl⟩ := row_form hrow
          clear hrow hds
          have hkz : ¬ (bs.length : Int) < (bs.length : Int) := by omega
          have hwip : IntKind.i64.wrap ((i : Int) + 1) = (i : Int) + 1 := i64_in _ (by omega)
          by_cases h256 : 256 < ys.length
          · have h25z : (256 : Int) < (ys.length : Int) := by omega
            have hres := Lib.hid (show RES = [x] by rw [HXP.out, ← HBE2.out, if_pos h256])
            have hwV := HX.out.below.trans (HVB.out.mono hwsz)
            gi_wp2
            refine leaves_all w.heap.size ds2 _ (HDV.out.below ((Below.refl _ V).alloc (Nat.le_refl _) _)) (fun W' hs => ?_)
            refine ⟨_, results_tmp rfl _ _ _, ⟨_, rfl, ?_⟩, hs.below (hwV.alloc hwV.size _)⟩
            rw [hres.out]
            exact hs.row (one_row V x w.heap.size hwV.size)
          · have h25z : ¬ (256 : Int) < (ys.length : Int) := by omega
            gi_wp2
            refine ⟨⟨i + 1, _, _, _, _, _, _, _, _, _, _, _, _, _, _, _, _, _, _, _, _, _, _, _, _, _, _, _, _, _, _, _, _, _, _, _, _, _, _, _, _, _, _, _, _, _, _, _, _, _, _, _, _, ds2, rfl, by omega, ⟨HVB.out, ys, ?_, by omega, fun y hy => ?_, HRV.out, HDV.out⟩⟩, ?_⟩
            · rw [show (i + 1 == 0) = false from rfl, ← HBE2.out, if_neg h256]
            · have := HNX.out.2 y hy; omega
            · show _ - (intOf (.int .i64 ((i : Int) + 1))).toNat < _ - (intOf (.int .i64 (i : Int))).toNat
              simp [intOf]; omega
      -- END INNER
    · obtain rfl : i = (piecesS (cutP x) q).length := by omega
      obtain ⟨hbel, bs, hbeq, hb256, hbl, hrow, hds⟩ := hI
      rw [List.drop_length] at hbeq
      have hres := Lib.hid (show RES = endsS x (bs.filter (s.isS dir)) by rw [HXP.out, ← hbeq]; rfl)
      have HDel := Lib.hid (delete_any hE W HX.out.fs HX.out.f HX.out.d hbel bv bs hrow (by omega))
      have HG8 := Lib.hid (fun (w8 : World) (hg : W.grownBy w8 bv.ownBlock) => (show Below wp.heap.size wp w8 from hbel.grown hg hbel.size (fun k e => (World.ownsRow.lt hrow k e).1)))
      have HD8 := Lib.hid (fun (w8 : World) (hg : W.grownBy w8 bv.ownBlock) => hds.grown hrow hg)
      have hfl : (bs.filter (s.isS dir)).length ≤ 256 := Nat.le_trans (List.length_filter_le _ _) hb256
      obtain ⟨a7, c7, rfl⟩ := row_form hrow
      clear hrow hds hbeq
      generalize bs.filter (s.isS dir) = l at HDel hres hfl
      have hkz : ¬ ((piecesS (cutP x) q).length : Int) < ((piecesS (cutP x) q).length : Int) := by omega
      by_cases hl0 : l = []
      · subst hl0
        gi_wp2_with (refine ⟨trivial, ?_⟩; gi_at_call 33; (with_reducible refine (callsIn_wide.2 HDel.out).mono ?_); rintro e w8 ⟨v8, rfl, hr8, hg8⟩; obtain ⟨a8, c8, rfl⟩ := row_form hr8; have HB8 := Lib.hid (HG8.out w8 hg8); have x2 := (HB8.out.cell (cell_lt HX.out.x)).trans HX.out.x)
        have hw8 := HX.out.below.trans (HB8.out.mono hwsz)
        refine leaves_all w.heap.size ds _ ((HD8.out w8 hg8).below ((Below.refl _ w8).alloc (Nat.le_refl _) _)) (fun W' hs => ?_)
        refine ⟨_, results_tmp rfl _ _ _, ⟨_, rfl, ?_⟩, hs.below (hw8.alloc hw8.size _)⟩
        rw [hres.out]
        exact hs.row (one_row w8 x w.heap.size hw8.size)
      · have hl1 : ((l.length : Int) == 0) = false := by
          rw [beq_eq_false_iff_ne]
          have := List.length_pos_iff.2 hl0
          omega
        gi_wp2_with first
          | (refine ⟨trivial, ?_⟩; gi_at_call 35; (refine (callsIn_wide.2 (sort_any w8 wp.heap.size (.slice a8 l.length c8) l hr8 (by omega))).mono ?_); rintro e w9 ⟨rfl, hr9, hg9⟩)
          | (refine ⟨trivial, ?_⟩; gi_at_call 33; (with_reducible refine (callsIn_wide.2 HDel.out).mono ?_); rintro e w8 ⟨v8, rfl, hr8, hg8⟩; obtain ⟨a8, c8, rfl⟩ := row_form hr8; have HB8 := Lib.hid (HG8.out w8 hg8))
        have hb9 : Below wp.heap.size wp w9 := HB8.out.grown hg9 HB8.out.size (fun k e => (World.ownsRow.lt hr8 k e).1)
        refine leaves_all w.heap.size ds _ ((HD8.out w8 hg8).grown hr8 hg9) (fun W' hs => ?_)
        refine ⟨_, results_tmp rfl _ _ _, ⟨_, rfl, ?_⟩, hs.below (HX.out.below.trans (hb9.mono hwsz))⟩
        have he : endsS x l = sortS l := by unfold endsS; rw [if_neg hl0]
        rw [hres.out, he]
        exact row_mono (hs.row hr9) hwsz
end Go.Proofs.YtggdedihfhibfaaGreatDoor
