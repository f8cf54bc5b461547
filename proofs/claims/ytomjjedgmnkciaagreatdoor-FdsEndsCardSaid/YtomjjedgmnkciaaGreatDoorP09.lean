/- Texts of one proof, packed: FeM, FeN, FeO, FeP -/
import Derived.Test.YtomjjedgmnkciaaGreatDoorP08
import Derived.Maps.AppendAt
import Derived.Deep.RegionLaw
set_option linter.unusedVariables false
set_option linter.unusedSimpArgs false
set_option linter.deprecated false
set_option linter.unnecessarySimpa false
/- fds: a number is read from and written to, whatever it is open for. -/
namespace Go.Proofs.YtomjjedgmnkciaaGreatDoor
open Go.RowKit IntWalk
set_option linter.unusedVariables false
set_option linter.unusedSimpArgs false

section
variable {W0 : World} {zp : List Nat} {xp fp N : Nat} {H : List (Nat × Obj)} {g : Gh} {s : Fs} {fl : FId → Nat} {x : Fx} {xl : XId → Nat} {pl : Nat → Option Po} {ns : Nat} {w w' : World}
theorem turn_st (h : St0 W0 zp xp fp N H g s fl x xl pl ns w) {b : Nat} {o o' : Po} (hb : pl b = some o) (hnr : ∀ c, o ≠ .row c) (hnp : o ≠ .prow) (hnh : ∀ q, o ≠ .held q) (hk : SameK o o') (hs : ∀ y r, o' = .sink y r → y.out.length ≤ 500 * N) (ht : Turned (fun k => k = b) w w') (hp : PoIs (fl .F) (updP pl b o') w' b o') :
    St0 W0 zp xp fp N H g s fl x xl (updP pl b o') ns w' :=
  ⟨h.al.turnP hb hnr hnp ht hp, h.lk.turn (fun p hp => (h.lk.things p hp).sameK hb hk) h.lk.tidy, h.fF, h.xX, h.zn, h.zl, h.so.upd hs (fun q => by rw [hb]; intro e; cases e; exact hnh q rfl), h.ns⟩
/-- a file is at another place, the tree another one -/
theorem file_st (h : St0 W0 zp xp fp N H g s fl x xl pl ns w) {b : Nat} {node a flags : Int} (hb : pl b = some (.file node a flags false)) (ht : FileTo b node flags (users g.live) s fl w w') : St W0 zp xp fp N H w' := by
  obtain ⟨w0, w1, s', a0, a1, ⟨h1, h2⟩, t0, p0, hst, hT, t1, p1⟩ := ht
  have k0 := turn_st h hb (by simp) (by simp) (by simp) (o' := .file node a0 flags false) ⟨rfl, by omega, by omega⟩ (by simp) t0 p0
  have hA := k0.al.stepF hst hT.whole rfl
  have k1 : St0 W0 zp xp fp N H g s' fl x xl (updP pl b (.file node a0 flags false)) ns w1 := ⟨hA, k0.lk.turn k0.lk.things hT, k0.fF, k0.xX, k0.zn, k0.zl, k0.so, k0.ns⟩
  exact ⟨_, _, _, _, _, _, _, turn_st k1 (updP_same _ _ _) (by simp) (by simp) (by simp) (o' := .file node a1 flags false) ⟨rfl, by omega, by omega⟩ (by simp) t1 p1⟩
/-- a sink has other bytes -/
theorem sink_st (h : St0 W0 zp xp fp N H g s fl x xl pl ns w) {b gb : Nat} {y : Sx} (hb : pl b = some (.sink y gb)) {d : List UInt8} (hd : d.length ≤ 500) (hw : SxW y (slay b gb) d w w') : St W0 zp xp fp (N + 1) H w' := by
  obtain ⟨y', lay', h1, h2, h3, hg⟩ := hw
  obtain ⟨p1, p2, p3⟩ := h.al.po b _ hb
  have h3' : lay' .S = b := h3
  have hlay : lay' = slay b (lay' .B) := funext fun i => by cases i; exact h3; rfl
  have hout := h.so.1 b y gb hb
  have hbs : b < w.heap.size := h.al.po.lt (b := b) (by rw [hb]; simp)
  have hown : ∀ k, Owns (y.obj (slay b gb)) (slay b gb) k → k = b ∨ (k = gb ∧ y.cur ≠ none) := fun k hk => by
    obtain ⟨i, hi, rfl⟩ := hk
    cases i with
    | S => exact .inl rfl
    | B => exact .inr ⟨rfl, fun q => hi (by simp [Sx.obj, q])⟩
  have hownp : ∀ k, Owns (y.obj (slay b gb)) (slay b gb) k → k = b ∨ pl k = some (.row b) := fun k hk => by
    rcases hown k hk with q | ⟨rfl, q⟩
    · exact .inl q
    · exact .inr (p3 q)
  -- where the bytes lie now
  have hB : y'.cur ≠ none → lay' .B ≠ b ∧ (pl (lay' .B) = some (.row b) ∨ (pl (lay' .B) = none ∧ lay' .B < w'.heap.size)) := fun hc => by
    have hob : y'.obj lay' .B ≠ none := by
      cases hcur : y'.cur with
      | none => exact absurd hcur hc
      | some p => simp [Sx.obj, hcur]
    obtain ⟨o, ho⟩ := Option.ne_none_iff_exists'.1 hob
    have hne : lay' .B ≠ lay' .S := hg.lies.ne ho (show y'.obj lay' .S = some _ from rfl) (by simp)
    rw [h3'] at hne
    refine ⟨hne, ?_⟩
    rcases hg.own (lay' .B) ⟨.B, hob, rfl⟩ with q | q
    · rcases hownp _ q with z | z
      · exact absurd z hne
      · exact .inl z
    · right
      refine ⟨?_, hg.lies.lt ho⟩
      exact h.al.fresh q
  let pl' : Nat → Option Po := fun c => if c = b then some (.sink y' (lay' .B)) else if c = lay' .B ∧ y'.cur ≠ none then some (.row b) else pl c
  have hplb : pl' b = some (.sink y' (lay' .B)) := by simp [pl']
  have hplo : ∀ c, c ≠ b → pl' c = pl c ∨ (pl c = none ∧ pl' c = some (.row b) ∧ c < w'.heap.size) := fun c hc => by
    by_cases q : c = lay' .B ∧ y'.cur ≠ none
    · obtain ⟨q1, q2⟩ := q
      have hp : pl' c = some (.row b) := by
        show (if c = b then _ else if c = lay' .B ∧ y'.cur ≠ none then some (.row b) else pl c) = _
        rw [if_neg hc, if_pos ⟨q1, q2⟩]
      rcases (hB q2).2 with z | ⟨z1, z2⟩
      · left; rw [hp, q1, z]
      · right; exact ⟨by rw [q1, z1], hp, by rw [q1]; exact z2⟩
    · left
      show (if c = b then _ else if c = lay' .B ∧ y'.cur ≠ none then some (.row b) else pl c) = _
      rw [if_neg hc, if_neg q]
  have hkeepP : ∀ c p, pl c = some p → c ≠ b → pl' c = some p := fun c p hc hcb => by
    rcases hplo c hcb with q | ⟨q, _⟩
    · rw [q, hc]
    · rw [hc] at q; cases q
  have hT : Turned (fun k => k = b ∨ pl k = some (.row b)) w w' := hg.turned.mono fun k hk _ => hownp k hk
  have hpo : PoolIs (fl .F) pl' w' := h.al.po.turn hT.size b (.sink y' (lay' .B)) (fun c hc h1 h2 => hT.block c (h.al.po.lt hc) (fun q => q.elim h1 h2)) (fun c => by rw [hb]; simp) hplo hplb (by
    refine ⟨?_, h2, fun hc => ?_⟩
    · have := hg.lies
      rw [hlay] at this
      exact this
    · have hc' := hB hc
      show (if lay' .B = b then _ else if lay' .B = lay' .B ∧ y'.cur ≠ none then some (.row b) else pl (lay' .B)) = _
      rw [if_neg hc'.1, if_pos ⟨rfl, hc⟩])
  have hA : Al W0 s fl x xl pl' ns w' := by
    refine h.al.stepP (hT.mono fun k hk _ => ?_) hpo (fun k hk => ?_) (h.al.sv.keep hT h.al.po (fun c hc q => ?_) (fun c hc => ?_))
    · rcases hk with rfl | q
      · rw [hb]; simp
      · rw [q]; simp
    · by_cases e : k = b
      · left; rw [e, hb]; simp
      · rcases hplo k e with q | ⟨q1, q2, q3⟩
        · rw [q] at hk; exact .inl hk
        · right
          have : ¬ k < w.heap.size ∨ k < w.heap.size := by omega
          rcases Nat.lt_or_ge k w.heap.size with z | z
          · exfalso
            -- a block that is the sink's, below the size, is one of the pool
            have hkB : k = lay' .B ∧ y'.cur ≠ none := by
              rcases Classical.em (k = lay' .B ∧ y'.cur ≠ none) with u | u
              · exact u
              · have : pl' k = pl k := by
                  show (if k = b then _ else if k = lay' .B ∧ y'.cur ≠ none then some (.row b) else pl k) = _
                  rw [if_neg e, if_neg u]
                rw [this, q1] at q2
                cases q2
            have hob : y'.obj lay' .B ≠ none := by
              cases hcur : y'.cur with
              | none => exact absurd hcur hkB.2
              | some p => simp [Sx.obj, hcur]
            rcases hg.own (lay' .B) ⟨.B, hob, rfl⟩ with u | u
            · rcases hownp _ u with v | v
              · exact e (hkB.1.trans v)
              · rw [← hkB.1, q1] at v; cases v
            · rw [← hkB.1] at u; omega
          · exact z
    · rcases q with rfl | q
      · rw [hb] at hc; cases hc
      · rw [hc] at q; cases q
    · exact hkeepP c _ hc (by rintro rfl; rw [hb] at hc; cases hc)
  refine ⟨g, s, fl, x, xl, pl', ns, hA, h.lk.turn (fun p hp => ?_) h.lk.tidy, h.fF, h.xX, h.zn, h.zl, ⟨fun c z r hc => ?_, fun p hp => ?_⟩, Nat.le_trans h.ns (Nat.le_succ _)⟩
  · have hthp := h.lk.things p hp
    obtain ⟨pk, pt⟩ := p
    cases pt with
    | tape c => obtain ⟨z, hz⟩ := hthp; exact ⟨z, hkeepP c _ hz (by rintro rfl; rw [hb] at hz; cases hz)⟩
    | sink c =>
      obtain ⟨z, r, hz⟩ := hthp
      by_cases e : c = b
      · exact ⟨y', lay' .B, by rw [e]; exact hplb⟩
      · exact ⟨z, r, hkeepP c _ hz e⟩
    | pend c wr => obtain ⟨z, r, q, hz⟩ := hthp; exact ⟨z, r, q, hkeepP c _ hz (by rintro rfl; rw [hb] at hz; cases hz)⟩
    | file c m =>
      obtain ⟨a', f', k1, k2, hz, k4⟩ := hthp
      exact ⟨a', f', k1, k2, hkeepP c _ hz (by rintro rfl; rw [hb] at hz; cases hz), k4⟩
  · by_cases e : c = b
    · rw [e, hplb] at hc
      cases hc
      rw [h1, List.length_append]
      omega
    · rcases hplo c e with q | ⟨_, q, _⟩
      · rw [q] at hc
        have := h.so.1 c z r hc
        omega
      · rw [q] at hc; cases hc
  · have := h.so.2 p hp
    exact hkeepP p.1 _ this (by intro e; rw [e, hb] at this; cases this)
end
end Go.Proofs.YtomjjedgmnkciaaGreatDoor
/- fds: Read and Write of a set. -/
namespace Go.Proofs.YtomjjedgmnkciaaGreatDoor
open Go.RowKit IntWalk
set_option linter.unusedVariables false
set_option linter.unusedSimpArgs false

section
variable {W0 : World} {zp : List Nat} {xp fp N : Nat} {H : List (Nat × Obj)} {w : World}
theorem sread_st (j zb : Nat) (hz : zp[j]? = some zb) (fd m : Int) (hm : m ≤ 9223372036854775807) (h : St W0 zp xp fp N H w) :
    Calls Tryz.prog 20 #[ptrOf zb, .int .i64 fd, .int .i64 m] w fun e w' => SaysR e ∧ St W0 zp xp fp N H w' := by
  rcases far_or fd with hf | ⟨n, rfl, hn16⟩
  · refine (sread_far zb fd m hf w).mono ?_
    rintro e w' ⟨h1, rfl⟩
    exact ⟨h1, h⟩
  obtain ⟨g, s, fl, x, xl, pl, ns, h⟩ := h
  obtain ⟨l, hl1, hl2, hl3, hl4⟩ := h.set hz
  obtain ⟨o, ho⟩ : ∃ o, l[n]? = some o := ⟨_, List.getElem?_eq_getElem (by omega)⟩
  cases o with
  | none =>
    have := sread_none (j : Int) l n m w h.al.fx hl3 ho
    rw [hl4] at this
    refine this.mono ?_
    rintro e w' ⟨h1, rfl⟩
    exact ⟨h1, ⟨g, s, fl, x, xl, pl, ns, h⟩⟩
  | some k =>
    obtain ⟨t, hkt⟩ := h.lk.used l (List.mem_of_getElem? hl1) k (List.mem_of_getElem? ho)
    obtain ⟨hop, hpos⟩ := h.lk.live _ hkt
    dsimp only at hop hpos
    have hth := h.lk.things _ hkt
    cases t with
    | tape b =>
      obtain ⟨rest, hpl⟩ := hth
      have hp := h.al.po b _ hpl
      have := sread_by (j : Int) l n k 108 (ptrOf b) _ m w h.al.fx hl3 ho hop 161 (ptrOf b) (fun _ => by unfold ptrOf; kernel_rfl) (enters_of Tryz.func161 (by kernel_rfl) rfl) (St W0 zp xp fp N H) ((taperead_any b rest m w hp.1 hp.2).mono (by
        rintro e w' ⟨h1, s', h2, h3, h4⟩
        exact ⟨h1, _, _, _, _, _, _, _, turn_st h hpl (by simp) (by simp) (by simp) (o' := .tape s') trivial (by simp) h3 ⟨h4, h2⟩⟩))
      rwa [hl4] at this
    | sink b =>
      have := sread_by (j : Int) l n k 111 (ptrOf b) _ m w h.al.fx hl3 ho hop 164 (ptrOf b) (fun _ => by unfold ptrOf; kernel_rfl) (enters_of Tryz.func164 (by kernel_rfl) rfl) (St W0 zp xp fp N H) ((sinkread_any (ptrOf b) m w).mono (by
        rintro e w' ⟨h1, rfl⟩
        exact ⟨h1, ⟨g, s, fl, x, xl, pl, ns, h⟩⟩))
      rwa [hl4] at this
    | pend b wr =>
      obtain ⟨pp, r, q, hpl⟩ := hth
      obtain ⟨p1, p2, p3⟩ := h.al.po b _ hpl
      have := sread_by (j : Int) l n k 99 (.agg #[ptrOf b, .bool wr]) _ m w h.al.fx hl3 ho hop 156 (.agg #[ptrOf b, .bool wr]) (fun _ => by unfold ptrOf; kernel_rfl) (enters_of Tryz.func156 (by kernel_rfl) rfl) (St W0 zp xp fp N H) ((endread_any b wr pp r q m w p1).mono (by
        rintro e w' ⟨h1, l', h2, h3⟩
        exact ⟨h1, _, _, _, _, _, _, _, turn_st h hpl (by simp) (by simp) (by simp) (o' := .pipe l' r q) trivial (by simp) (turned_grown h3) ⟨h2, p2, p3⟩⟩))
      rwa [hl4] at this
    | file b node =>
      obtain ⟨a, f, ha0, ha1, hpl, hn2⟩ := hth
      have hp := h.al.po b _ hpl
      have hpn : pl b ≠ none := by rw [hpl]; simp
      obtain ⟨a', rfl⟩ : ∃ a' : Nat, a = a' := ⟨a.toNat, by omega⟩
      have hus : 0 < users g.live node := List.length_pos_of_mem (a := (k, Th.file b node)) (List.mem_filter.2 ⟨hkt, by simp [Th.isAt]⟩)
      have := sread_by (j : Int) l n k 115 (ptrOf b) _ m w h.al.fx hl3 ho hop 168 (ptrOf b) (fun _ => by unfold ptrOf; kernel_rfl) (enters_of Tryz.func168 (by kernel_rfl) rfl) (St W0 zp xp fp N H) ((fread_any b node f m a' w h.al.fs.is h.lk.tidy hus (h.al.ap2 b hpn) hp (by omega) hm).mono (by
        rintro e w' ⟨h1, h2⟩
        exact ⟨h1, file_st h hpl h2⟩))
      rwa [hl4] at this
theorem swrite_st (j zb : Nat) (hz : zp[j]? = some zb) (fd : Int) (d : List UInt8) (hd : d.length ≤ 500) (hN : N ≤ 1000) (h : St W0 zp xp fp N H w) :
    Calls Tryz.prog 19 #[ptrOf zb, .int .i64 fd, .string ⟨d.toArray⟩] w fun e w' => SaysW e ∧ St W0 zp xp fp (N + 1) H w' := by
  have hN1 : N ≤ N + 1 := Nat.le_succ _
  rcases far_or fd with hf | ⟨n, rfl, hn16⟩
  · refine (swrite_far zb fd _ hf w).mono ?_
    rintro e w' ⟨h1, rfl⟩
    exact ⟨h1, h.mono hN1⟩
  obtain ⟨g, s, fl, x, xl, pl, ns, h⟩ := h
  have hS : St W0 zp xp fp N H w := ⟨g, s, fl, x, xl, pl, ns, h⟩
  obtain ⟨l, hl1, hl2, hl3, hl4⟩ := h.set hz
  obtain ⟨o, ho⟩ : ∃ o, l[n]? = some o := ⟨_, List.getElem?_eq_getElem (by omega)⟩
  cases o with
  | none =>
    have := swrite_none (j : Int) l n ⟨d.toArray⟩ w h.al.fx hl3 ho
    rw [hl4] at this
    refine this.mono ?_
    rintro e w' ⟨h1, rfl⟩
    exact ⟨h1, hS.mono hN1⟩
  | some k =>
    obtain ⟨t, hkt⟩ := h.lk.used l (List.mem_of_getElem? hl1) k (List.mem_of_getElem? ho)
    obtain ⟨hop, hpos⟩ := h.lk.live _ hkt
    dsimp only at hop hpos
    have hth := h.lk.things _ hkt
    cases t with
    | tape b =>
      have := swrite_by (j : Int) l n k 108 (ptrOf b) _ ⟨d.toArray⟩ w h.al.fx hl3 ho hop 162 (ptrOf b) (fun _ => by unfold ptrOf; kernel_rfl) (enters_of Tryz.func162 (by kernel_rfl) rfl) (St W0 zp xp fp (N + 1) H) ((tapewrite_any (ptrOf b) _ w).mono (by
        rintro e w' ⟨h1, rfl⟩
        exact ⟨h1, hS.mono hN1⟩))
      rwa [hl4] at this
    | sink b =>
      obtain ⟨y, gb, hpl⟩ := hth
      obtain ⟨p1, p2, p3⟩ := h.al.po b _ hpl
      have hout := h.so.1 b y gb hpl
      have := swrite_by (j : Int) l n k 111 (ptrOf b) _ ⟨d.toArray⟩ w h.al.fx hl3 ho hop 165 (ptrOf b) (fun _ => by unfold ptrOf; kernel_rfl) (enters_of Tryz.func165 (by kernel_rfl) rfl) (St W0 zp xp fp (N + 1) H) ((sinkwrite_any d w p1 p2 (by omega)).mono (by
        rintro e w' ⟨rfl, h2⟩
        exact ⟨⟨_, _, rfl⟩, sink_st h hpl hd h2⟩))
      rwa [hl4] at this
    | pend b wr =>
      obtain ⟨pp, r, q, hpl⟩ := hth
      obtain ⟨p1, p2, p3⟩ := h.al.po b _ hpl
      have := swrite_by (j : Int) l n k 99 (.agg #[ptrOf b, .bool wr]) _ ⟨d.toArray⟩ w h.al.fx hl3 ho hop 157 (.agg #[ptrOf b, .bool wr]) (fun _ => by unfold ptrOf; kernel_rfl) (enters_of Tryz.func157 (by kernel_rfl) rfl) (St W0 zp xp fp (N + 1) H) ((endwrite_any b wr pp r q d (by omega) w p1).mono (by
        rintro e w' ⟨h1, l', h2, h3⟩
        exact ⟨h1, St.mono ⟨_, _, _, _, _, _, _, turn_st h hpl (by simp) (by simp) (by simp) (o' := .pipe l' r q) trivial (by simp) (turned_grown h3) ⟨h2, p2, p3⟩⟩ hN1⟩))
      rwa [hl4] at this
    | file b node =>
      obtain ⟨a, f, ha0, ha1, hpl, hn2⟩ := hth
      have hp := h.al.po b _ hpl
      have hpn : pl b ≠ none := by rw [hpl]; simp
      obtain ⟨a', rfl⟩ : ∃ a' : Nat, a = a' := ⟨a.toNat, by omega⟩
      have hus : 0 < users g.live node := List.length_pos_of_mem (a := (k, Th.file b node)) (List.mem_filter.2 ⟨hkt, by simp [Th.isAt]⟩)
      have := swrite_by (j : Int) l n k 115 (ptrOf b) _ ⟨d.toArray⟩ w h.al.fx hl3 ho hop 169 (ptrOf b) (fun _ => by unfold ptrOf; kernel_rfl) (enters_of Tryz.func169 (by kernel_rfl) rfl) (St W0 zp xp fp (N + 1) H) ((fwrite_any b node f a' d w h.al.fs.is h.lk.tidy hus (h.al.ap2 b hpn) hp (by omega)).mono (by
        rintro e w' ⟨h1, h2⟩
        exact ⟨h1, (file_st h hpl h2).mono hN1⟩))
      rwa [hl4] at this
end
end Go.Proofs.YtomjjedgmnkciaaGreatDoor
/- fds: the row of sinks grows. -/
namespace Go.Proofs.YtomjjedgmnkciaaGreatDoor
open Go.RowKit IntWalk
set_option linter.unusedVariables false
set_option linter.unusedSimpArgs false

def Fx.setSv (s : Fx) (v : Value) : Fx := { s with sv := v }
theorem Fx.setSv_obj (s : Fx) (lay : XId → Nat) (v : Value) (j : XId) : (s.setSv v).obj lay j = if j = .X then some (.cells #[ptrOf s.fs, .int .i64 s.many, v] 72 (0, 0)) else s.obj lay j := by
  cases j <;> simp [Fx.obj, Fx.setSv]
theorem XStep.setSv {s0 : Fx} {lay0 : XId → Nat} {w0 : World} {s : Fx} {lay : XId → Nat} {w : World} (h : XStep s0 lay0 w0 s lay w) (v : Value) : XStep s0 lay0 w0 (s.setSv v) lay (w.setCell ⟨lay .X, 2, none⟩ v) :=
  ⟨h.g.set (i := .X) rfl 2 _ (fun j => by rw [Fx.setSv_obj]; rfl), ⟨h.ok.len, h.ok.live⟩, h.top⟩
theorem ThOk.sub {pl pl' : Nat → Option Po} {t : Th} (h : ThOk pl t) (hs : ∀ b o, pl b = some o → pl' b = some o) : ThOk pl' t := by
  cases t with
  | tape c => obtain ⟨s, h1⟩ := h; exact ⟨s, hs _ _ h1⟩
  | sink c => obtain ⟨s, r, h1⟩ := h; exact ⟨s, r, hs _ _ h1⟩
  | file c n => obtain ⟨a, f, h1, h2, h3, h4⟩ := h; exact ⟨a, f, h1, h2, hs _ _ h3, h4⟩
  | pend c wr => obtain ⟨l, r, q, h1⟩ := h; exact ⟨l, r, q, hs _ _ h1⟩
theorem own_form {w : World} {base : Nat} {T : TypeId} {v : Value} {n : Nat} {xs : List Value} (h : w.ownsRow base T 1 v (n + 1) xs) : ∃ G c, v = .slice (some ⟨G, 0, none⟩) (n + 1) c ∧ base ≤ G ∧ G < w.heap.size := by
  obtain ⟨hxs, hr⟩ := h
  rcases hr with ⟨_, hn⟩ | ⟨g, cap, cur, rfl, hb, hg, _⟩
  · omega
  · exact ⟨g, cap, rfl, hb, (Array.getElem?_eq_some_iff.1 hg).1⟩
section
variable {W0 : World} {s : Fs} {fl : FId → Nat} {x : Fx} {xl : XId → Nat} {pl : Nat → Option Po} {ns : Nat} {w w6 : World}
theorem Al.row (h : Al W0 s fl x xl pl ns w) {v' : Value} {xs' : List Value} (hg : w.grownBy w6 x.sv.ownBlock) (hown : w6.ownsRow W0.heap.size 111 1 v' (ns + 1) xs') (hat : v'.ownBlock = x.sv.ownBlock ∨ v'.ownBlock = some w.heap.size) :
    ∃ pl', (∀ b o, pl b = some o → pl' b = some o) ∧ (∀ b o, pl' b = some o → pl b = some o ∨ o = .prow) ∧ Al W0 s fl (x.setSv v') xl pl' (ns + 1) (w6.setCell ⟨xl .X, 2, none⟩ v') := by
  obtain ⟨xs, hx1, hx2⟩ := h.sv
  obtain ⟨G, c, rfl, hG1, hG2⟩ := own_form hown
  have hGp : pl G = some .prow ∨ (pl G = none ∧ G = w.heap.size) := by
    rcases hat with q | q
    · exact .inl (hx2 G q.symm)
    · have : G = w.heap.size := by simpa [Value.ownBlock] using q
      exact .inr ⟨h.fresh (by omega), this⟩
  have hFs : ∀ k, Owns (s.obj fl) fl k → k < w.heap.size := fun k hk => h.fs.is.lies.owns_lt hk
  have hfx : ∀ k, Owns (x.obj xl) xl k → k < w.heap.size := fun k hk => h.fx.lies.owns_lt hk
  have hXo : Owns (x.obj xl) xl (xl .X) := ⟨.X, by simp [Fx.obj], rfl⟩
  have hT6 : Turned (fun k => x.sv.ownBlock = some k) w w6 := ⟨hg.os, hg.tape, hg.output, hg.size, fun k hk hn => hg.block k hk (fun e => hn e.symm)⟩
  have hT8 : Turned (fun k => k = xl .X ∨ x.sv.ownBlock = some k) w (w6.setCell ⟨xl .X, 2, none⟩ (.slice (some ⟨G, 0, none⟩) (ns + 1) c)) := (hT6.mono fun k q _ => .inr q).set _ _ (fun _ => .inl rfl)
  have hx6 : FxIs x xl w6 := ⟨h.fx.lies.turned hT6 (fun k hk q => h.ap3 k (by rw [hx2 k q]; simp) hk), h.fx.ok⟩
  have hxs := (XStep.refl hx6).setSv (.slice (some ⟨G, 0, none⟩) (ns + 1) c)
  have hlow8 : ∀ k, (k = xl .X ∨ x.sv.ownBlock = some k) → W0.heap.size ≤ k := fun k q => by
    rcases q with rfl | q
    · exact h.fxlow _ hXo
    · exact h.polow k (by rw [hx2 k q]; simp)
  have hpoS : ∀ k, pl k ≠ none → k ≠ xl .X := fun k hk q => h.ap3 k hk (by rw [q]; exact hXo)
  -- the pool, its row turned
  have hp1 : PoolIs (fl .F) pl (w6.setCell ⟨xl .X, 2, none⟩ (.slice (some ⟨G, 0, none⟩) (ns + 1) c)) := by
    cases hb : x.sv.ownBlock with
    | none => exact h.po.keep hT8.size (fun b hb' => hT8.block b (h.po.lt hb') (fun q => by
        rcases q with q | q
        · exact hpoS b hb' q
        · rw [hb] at q; cases q))
    | some g0 =>
      have hg0 := hx2 g0 hb
      have hlt := h.po.lt (b := g0) (by rw [hg0]; simp)
      exact h.po.turn hT8.size g0 .prow (fun b hb' hne _ => hT8.block b (h.po.lt hb') (fun q => by
        rcases q with q | q
        · exact hpoS b hb' q
        · rw [hb] at q; cases q; exact hne rfl)) (fun b => by rw [hg0]; simp) (fun b _ => .inl rfl) hg0 (Nat.lt_of_lt_of_le hlt hT8.size)
  have hsz8 : (w6.setCell ⟨xl .X, 2, none⟩ (.slice (some ⟨G, 0, none⟩) (ns + 1) c)).heap.size = w6.heap.size := by simp
  have hp2 : PoolIs (fl .F) (updP pl G .prow) (w6.setCell ⟨xl .X, 2, none⟩ (.slice (some ⟨G, 0, none⟩) (ns + 1) c)) :=
    hp1.turn (Nat.le_refl _) G .prow (fun _ _ _ _ => rfl) (fun b => by rcases hGp with q | ⟨q, _⟩ <;> rw [q] <;> simp) (fun b hb => .inl (updP_other hb)) (updP_same _ _ _) (by show G < _; rw [hsz8]; exact hG2)
  have hnew : ∀ k, updP pl G .prow k ≠ none → pl k ≠ none ∨ k = w.heap.size := fun k hk => by
    by_cases e : k = G
    · rcases hGp with q | ⟨_, q⟩
      · left; rw [e, q]; simp
      · right; rw [e, q]
    · rw [updP_other e] at hk; exact .inl hk
  refine ⟨updP pl G .prow, fun b o hb => ?_, fun b o hb => ?_, ⟨⟨⟨h.fs.is.lies.turned hT8 (fun k hk q => ?_), h.fs.is.ok⟩, h.fs.low, below_turned h.fs.below hT8 hlow8, h.fs.whole⟩, hxs.is, hp2, fun k hk => ?_, fun k hk => ?_, fun k hk hq => ?_, fun k hk hq => ?_, fun k hk hq => ?_, h.top, xs', ?_, fun g hg' => ?_⟩⟩
  · by_cases e : b = G
    · rcases hGp with q | ⟨q, _⟩
      · rw [e, q] at hb; cases hb; rw [e]; exact updP_same _ _ _
      · rw [e, q] at hb; cases hb
    · rw [updP_other e]; exact hb
  · by_cases e : b = G
    · rw [e, updP_same] at hb; cases hb; exact .inr rfl
    · rw [updP_other e] at hb; exact .inl hb
  · rcases q with q | q
    · exact h.ap1 k hk (by rw [q]; exact hXo)
    · exact h.ap2 k (by rw [hx2 k q]; simp) hk
  · have : Owns (x.obj xl) xl k := by
      rcases hxs.g.own k hk with z | z
      · exact z
      · have := hxs.is.lies.owns_lt hk
        rw [hsz8] at this; omega
    exact h.fxlow k this
  · rcases hnew k hk with z | z
    · exact h.polow k z
    · have := h.fs.below.size; omega
  · have : Owns (x.obj xl) xl k := by
      rcases hxs.g.own k hq with z | z
      · exact z
      · have := hxs.is.lies.owns_lt hq
        rw [hsz8] at this; omega
    exact h.ap1 k hk this
  · rcases hnew k hk with z | z
    · exact h.ap2 k z hq
    · have := hFs k hq; omega
  · have : Owns (x.obj xl) xl k := by
      rcases hxs.g.own k hq with z | z
      · exact z
      · have := hxs.is.lies.owns_lt hq
        rw [hsz8] at this; omega
    rcases hnew k hk with z | z
    · exact h.ap3 k z this
    · have := hfx k this; omega
  · have hne : xl .X ≠ G := fun q => by
      rcases hGp with z | ⟨_, z⟩
      · exact h.ap3 G (by rw [z]; simp) (by rw [← q]; exact hXo)
      · have := hfx _ hXo; omega
    exact ownsRow_keep hown rfl rfl rfl (fun g hg' => by
      have : g = G := by
        have h' : (some G : Option Nat) = some g := hg'
        cases h'; rfl
      rw [this]
      exact Below.heap_setCell _ _ _ _ (Ne.symm hne))
  · have : g = G := by
      have h' : (some G : Option Nat) = some g := hg'
      cases h'; rfl
    rw [this]; exact updP_same _ _ _
end
/-- 'append(sinks, x)', by what is known of the row, and where the new one lies -/
theorem step_app_at {ops : Array Oper} {o : Oper} {a : Act} {w : World} {K : Act → World → Prop} {Q : Exit → Act → World → Prop} {E : Prop}
    (hg : o.guard = none) (s x : Operand) (hop : o.op = Op.call { callee := Callee.builtin Builtin.append, args := #[s, x], argTypes := #[70, 70] })
    (base : Nat) (v : Value) (n : Nat) (cs : List Value) (hs : a.eval s = v) (hown : w.ownsRow base 111 1 v n cs) (u : Value) (hu : u.oneCell' = true) (g : Nat) (hx : a.eval x = .slice (some ⟨g, 0, none⟩) 1 1) (hc : w.cell? ⟨g, 0, none⟩ = some u)
    (hlen : n + 1 ≤ 1000000000000) (hbase : base ≤ w.heap.size)
    (hK : ∀ v' w', w'.ownsRow base 111 1 v' (n + 1) (cs ++ [u]) → w.grownBy w' v.ownBlock → (v'.ownBlock = v.ownBlock ∨ v'.ownBlock = some w.heap.size) → K (a.put o.dst v') w') :
    if Region.wanted o (yielded ops a.tmps) = true then Oper.wp Tryz.prog o a w K Q else E := by
  have hw : Region.wanted o (yielded ops a.tmps) = true := by simp [Region.wanted, hg]
  rw [if_pos hw]
  have info : (Tryz.prog.info? 111).map (fun i => (i.zero, i.size, i.bytes)) = some (some (.pointer none), 1, 8) := by kernel_rfl
  obtain ⟨i0, hi, hz0, hz1, hz2⟩ := info_parts info
  obtain ⟨v', w', hrun, h1, h2, _, h4⟩ := run_append_own_at (P := Tryz.prog) (w := w) base 70 o.type 111 i0 (.pointer none) 1 8 (by kernel_rfl) hi hz0 hz1 hz2 rfl (by omega) v n cs hown ⟨g, 0, none⟩ 1 1 [u] rfl
    (by intro j y hj; match j, hj with | 0, hj => simp at hj; subst hj; simpa [Addr.add] using hc) (by intro y hy; simp at hy; subst hy; exact hu) (by simp only [maxLen]; omega) (by omega) hbase
  unfold Oper.wp
  simp [execOp, hop, resolve, invoke, builtin, hs, hx, hrun, Result.andThen]
  exact hK v' w' h1 h2 h4
end Go.Proofs.YtomjjedgmnkciaaGreatDoor
/- fds: a sink is opened. -/
namespace Go.Proofs.YtomjjedgmnkciaaGreatDoor
open Go.RowKit IntWalk
set_option linter.unusedVariables false
set_option linter.unusedSimpArgs false

section
variable {W0 : World} {zp : List Nat} {xp fp N : Nat} {H : List (Nat × Obj)} {w : World}
def sinkO : Obj := .cells #[.slice none 0 0] 114 (0, 0)
def sinkRowO (K : Nat) : Obj := .cells #[.pointer (some ⟨K, 0, none⟩)] 111 (0, 0)
def sinkW (w : World) : World := ((w.alloc sinkO).alloc (sinkRowO w.heap.size)).drew
theorem sinkW_below (w : World) : Below w.heap.size w (sinkW w) := by
  have h1 := (Below.refl w.heap.size w).alloc (Nat.le_refl _) sinkO
  have h2 := h1.alloc (by simp) (sinkRowO w.heap.size)
  exact ⟨h2.os, h2.tape, h2.output, h2.size, h2.block⟩
theorem sinkW_size (w : World) : (sinkW w).heap.size = w.heap.size + 2 := by
  show ((w.alloc sinkO).alloc (sinkRowO w.heap.size)).heap.size = _
  simp
theorem sinkW_at (w : World) : (sinkW w).heap[w.heap.size]? = some sinkO := by
  show ((w.alloc sinkO).alloc (sinkRowO w.heap.size)).heap[w.heap.size]? = _
  rw [Below.heap_alloc _ _ _ (by simp), alloc_at]
theorem sinkW_row (w : World) : (sinkW w).cell? ⟨w.heap.size + 1, 0, none⟩ = some (.pointer (some ⟨w.heap.size, 0, none⟩)) := by
  have h : (sinkW w).heap[w.heap.size + 1]? = some (sinkRowO w.heap.size) := by
    show ((w.alloc sinkO).alloc (sinkRowO w.heap.size)).heap[w.heap.size + 1]? = _
    have h1 : (w.alloc sinkO).heap.size = w.heap.size + 1 := by simp
    rw [← h1, alloc_at]
  exact cell_of_row _ _ 0 _ _ _ h
theorem sinkW_lies (w : World) : Lies ((Sx.mk [] none).obj (slay w.heap.size 0)) (slay w.heap.size 0) (sinkW w) := by
  constructor
  · intro i o hi
    cases i with
    | S =>
      have : o = sinkO := by simpa [Sx.obj, Sx.val, sinkO] using hi.symm
      rw [this]
      exact sinkW_at w
    | B => simp [Sx.obj] at hi
  · intro i j hi hj _
    cases i with
    | S => cases j with
      | S => rfl
      | B => exact absurd rfl hj
    | B => exact absurd rfl hi
/-- what is open, with a sink that is new, and a row for it -/
theorem sink_al {s : Fs} {fl : FId → Nat} {x : Fx} {xl : XId → Nat} {pl : Nat → Option Po} {ns : Nat} (h : Al W0 s fl x xl pl ns w) : Al W0 s fl x xl (updP pl w.heap.size (.sink ⟨[], none⟩ 0)) ns (sinkW w) :=
  h.newP (sinkW_below w) w.heap.size (Nat.le_refl _) _ ⟨sinkW_lies w, rfl, fun hc => absurd rfl hc⟩
structure RowOk (W0 : World) (sv : Value) (ns : Nat) (w w6 : World) (v' : Value) : Prop where
  grown : (sinkW w).grownBy w6 sv.ownBlock
  own : ∃ xs', w6.ownsRow W0.heap.size 111 1 v' (ns + 1) xs'
  at_ : v'.ownBlock = sv.ownBlock ∨ v'.ownBlock = some (sinkW w).heap.size
theorem row_after {s : Fs} {fl : FId → Nat} {x : Fx} {xl : XId → Nat} {pl : Nat → Option Po} {ns : Nat} {w6 : World} {v' : Value} (h : Al W0 s fl x xl pl ns w) (hr : RowOk W0 x.sv ns w w6 v') : FxIs x xl w6 := by
  have h6 := sink_al h
  obtain ⟨xs, _, hx2⟩ := h6.sv
  have hT : Turned (fun k => x.sv.ownBlock = some k) (sinkW w) w6 := ⟨hr.grown.os, hr.grown.tape, hr.grown.output, hr.grown.size, fun k hk hn => hr.grown.block k hk (fun e => hn e.symm)⟩
  exact ⟨h6.fx.lies.turned hT (fun k hk q => h6.ap3 k (by rw [hx2 k q]; simp) hk), h6.fx.ok⟩
theorem put_sink {g : Gh} {s : Fs} {fl : FId → Nat} {x : Fx} {xl : XId → Nat} {pl : Nat → Option Po} {ns : Nat} (h : St0 W0 zp xp fp N H g s fl x xl pl ns w) {j zb n : Nat} {l : List (Option Nat)} (hz : zp[j]? = some zb) (hl : g.sets[j]? = some l) (hn : l[n]? = some none) {w6 : World} {v' : Value} (hr : RowOk W0 x.sv ns w w6 v') :
    Calls Tryz.prog 39 #[ptrOf zb, .int .i64 n, .iface 111 (ptrOf w.heap.size)] (w6.setCell ⟨xp, 2, none⟩ v') fun e w9 => e = .returned (.tuple #[]) ∧ (w9.cell? ⟨zb, 0, none⟩ = some (ptrOf xp) ∧ w9.cell? ⟨xp, 2, none⟩ = some v') ∧ St W0 zp xp fp (N + 1) H w9 := by
  obtain ⟨xs', hown⟩ := hr.own
  have hfr : pl w.heap.size = none := h.al.fresh (Nat.le_refl _)
  obtain ⟨pl', hs1, hs2, hA⟩ := (sink_al h.al).row hr.grown hown hr.at_
  have hXX := h.xX
  rw [hXX] at hA
  have hso : SoOk N H (updP pl w.heap.size (.sink ⟨[], none⟩ 0)) := h.so.upd (fun y r q => by cases q; simp) (by rw [hfr]; simp)
  have hso' : SoOk (N + 1) H pl' := SoOk.mono ⟨fun b y r hb => (hs2 b _ hb).elim (fun q => hso.1 b y r q) (fun q => by cases q), fun p hp => hs1 _ _ (hso.2 p hp)⟩ (Nat.le_succ _)
  have hns : ns + 1 ≤ N + 1 := Nat.succ_le_succ h.ns
  refine (put_st (N := N + 1) (x := x.setSv v') (pl0 := pl) (s0 := s) hA ⟨h.lk.zs, h.lk.l16, h.lk.live, h.lk.nope, h.lk.used, h.lk.keys, h.lk.files, h.lk.things, h.lk.many, h.lk.tidy, h.lk.sets⟩ h.fF h.xX h.zn h.zl hso' hns (.sink w.heap.size) _ _ rfl (fun p hp => ((h.lk.things p hp).upd hfr).sub hs1) ⟨_, _, hs1 _ _ (updP_same _ _ _)⟩ (fun b hb => by cases hb) (by rw [users_same (fun _ => rfl)]; exact h.lk.tidy) hz hl hn).mono ?_
  rintro e w9 ⟨rfl, _, xl', _, h9⟩
  have hj : (g.put j l n (.sink w.heap.size)).sets[j]? = some (l.set n (some g.nk)) := by
    show (g.sets.set j _)[j]? = _
    rw [List.getElem?_set, if_pos rfl, if_pos (List.getElem?_eq_some_iff.1 hl).1]
  have hz9 := h9.lk.z hj
  have e1 := h9.al.fx.z0 hz9
  rw [h9.zl j zb hz, h9.xX] at e1
  have e2 := h9.al.fx.x2
  rw [h9.xX] at e2
  exact ⟨rfl, ⟨e1, e2⟩, _, _, _, _, _, _, _, h9⟩
set_option maxHeartbeats 3200000 in
theorem sinkopen_st (j zb : Nat) (hz : zp[j]? = some zb) (fd : Int) (hN : N ≤ 1000) (h : St W0 zp xp fp N H w) :
    Calls Tryz.prog 23 #[ptrOf zb, .int .i64 fd] w fun e w' => SaysW e ∧ St W0 zp xp fp (N + 1) H w' := by
  have hN1 : N ≤ N + 1 := Nat.le_succ _
  rcases far_or fd with hf | ⟨n, rfl, hn⟩
  · have HM := Lib.hid (may_far zb fd w hf)
    have HS := Lib.hid (h.mono hN1)
    clear h hf
    unfold ptrOf at *
    go_enter Tryz.func23, Tryz.ntmps23
    go_wp2_with (go_at_call 41; refine HM.out.mono ?_; rintro e w' ⟨rfl, rfl⟩)
    go_ret2
    exact ⟨⟨_, _, rfl⟩, HS.out⟩
  obtain ⟨g, s, fl, x, xl, pl, ns, h⟩ := h
  have HS := Lib.hid (St.mono (⟨g, s, fl, x, xl, pl, ns, h⟩ : St W0 zp xp fp N H w) hN1)
  obtain ⟨l, hl1, hl2, hl3, hl4⟩ := h.set hz
  obtain ⟨o, ho⟩ : ∃ o, l[n]? = some o := ⟨_, List.getElem?_eq_getElem (by omega)⟩
  cases o with
  | some k =>
    have HM := Lib.hid (may_taken (j : Int) l n k w h.al.fx hl3 ho)
    rw [hl4] at HM
    clear h ho hl1 hl2 hl3 hl4
    unfold ptrOf at *
    go_enter Tryz.func23, Tryz.ntmps23
    go_wp2_with (go_at_call 41; refine HM.out.mono ?_; rintro e w' ⟨rfl, rfl⟩)
    go_ret2
    exact ⟨⟨_, _, rfl⟩, HS.out⟩
  | none =>
    have HM := Lib.hid (may_open (j : Int) l n w h.al.fx hl3 ho)
    rw [hl4] at HM
    have h6 := sink_al h.al
    have g1 := h6.fx.z0 hl3
    rw [hl4, h.xX] at g1
    have g4 := h6.fx.x2
    rw [h.xX] at g4
    have g5 := h6.fx.xf 2
    rw [h.xX] at g5
    obtain ⟨xs, hown0, _⟩ := h6.sv
    have HOWN := Lib.hid hown0
    have hns := h.ns
    have hbase : W0.heap.size ≤ (sinkW w).heap.size := h6.fs.below.size
    have HPUT := Lib.hid (fun (w6 : World) (v' : Value) (hr : RowOk W0 x.sv ns w w6 v') => put_sink h hz hl1 ho hr)
    have HAFT := Lib.hid (fun (w6 : World) (v' : Value) (hr : RowOk W0 x.sv ns w w6 v') => (⟨by have := (row_after h.al hr).z0 hl3; rwa [hl4, h.xX] at this, by have := (row_after h.al hr).xf 2; rwa [h.xX] at this, by have := (row_after h.al hr).x2; rwa [h.xX] at this⟩ : w6.cell? ⟨zb, 0, none⟩ = some (ptrOf xp) ∧ w6.frozen? ⟨xp, 2, none⟩ = false ∧ w6.cell? ⟨xp, 2, none⟩ = some x.sv))
    have hrow := sinkW_row w
    have hwsz := sinkW_size w
    have c0 : w.cell? ⟨zb, 0, none⟩ = some (ptrOf xp) := by rw [← hl4, ← h.xX]; exact h.al.fx.z0 hl3
    obtain ⟨W5, hW5⟩ : ∃ W5, W5 = w.alloc sinkO := ⟨_, rfl⟩
    have hWW : (W5.alloc (.cells #[.pointer (some ⟨w.heap.size, 0, none⟩)] 111)).drew = sinkW w := by rw [hW5]; rfl
    have hs5 : W5.heap.size = w.heap.size + 1 := by rw [hW5]; simp
    have h5 : Al W0 s fl x xl pl ns W5 := by rw [hW5]; exact h.al.below ((Below.refl w.heap.size w).alloc (Nat.le_refl _) sinkO)
    have k1 := h5.fx.z0 hl3
    rw [hl4, h.xX] at k1
    have k4 := h5.fx.x2
    rw [h.xX] at k4
    have k5 := h5.fx.xf 2
    rw [h.xX] at k5
    clear h5
    clear h h6 ho hl1 hl2 hl3 hl4
    generalize x.sv = sv at *
    unfold ptrOf at *
    go_enter Tryz.func23, Tryz.ntmps23
    go_wp2_with (go_at_call 41; refine HM.out.mono ?_; rintro e w' ⟨rfl, rfl⟩)
    rw [show w.alloc (.cells #[.slice none 0 0] 114) = W5 from hW5.symm]
    clear hW5
    go_region_law (refine step_app_at rfl _ _ rfl W0.heap.size sv ns xs rfl hown0 _ rfl (w.heap.size + 1) rfl hrow (by omega) hbase ?_; intro v6 w6 hown6 hg6 hat6; obtain ⟨G, c, rfl, hbG, hlG⟩ := own_form hown6; have HR := Lib.hid (⟨hg6, ⟨_, hown6⟩, hat6⟩ : RowOk W0 sv ns w w6 _); obtain ⟨f1, f5, f4⟩ := HAFT.out _ _ HR.out; clear hown6 hg6 hat6)
    all_goals
      have HP := Lib.hid (HPUT.out _ _ HR.out)
      clear HPUT HAFT HR HOWN hown0 k1 k4 k5 g1 g4 g5 f1 f4 f5 hWW hrow hs5 hwsz hbase hbG hlG
      go_wp2_with (go_at_call 39; refine HP.out.mono ?_; rintro e w9 ⟨rfl, ⟨e1, e2⟩, h9⟩)
      go_ret2
      exact ⟨⟨_, _, rfl⟩, h9⟩
end
end Go.Proofs.YtomjjedgmnkciaaGreatDoor
