/- Texts of one proof, packed: WxE, WxF, WxG, ExA, ExM, ExB -/
import Derived.Test.YtelohloaoocoaaaGreatDoorM06
import Derived.Orders
import Derived.Scope
import Derived.KernelRfl
set_option linter.unusedVariables false
set_option linter.unusedSimpArgs false
set_option linter.deprecated false
set_option linter.unnecessarySimpa false
/- the family behind the other steps. -/
namespace Go.Proofs.YtelohloaoocoaaaGreatDoor
open Go.RowKit IntWalk
set_option linter.unusedVariables false
set_option linter.unusedSimpArgs false

section
variable {p : Par} {f : Fam} {s : Ks} {x : Wx}
theorem Inv.kn1 (h : Inv p f s x) : 1 ∈ x.m.keys ↔ f.gone = false := by
  rw [h.xk]
  unfold alivePid
  constructor
  · rintro (⟨_, q⟩ | ⟨c, q, _⟩)
    · exact q
    · unfold pidC at q; omega
  · exact fun q => .inl ⟨rfl, q⟩
/-- a child that was not taken up, where all are born -/
theorem Inv.left (h : Inv p f s x) (ht : f.t = p.n) (hk : f.k < p.n) : ∃ c, f.cs c = .live ∨ f.cs c = .zombie := by
  apply Classical.byContradiction
  intro hn
  have : ∀ c, c < p.n → f.cs c = .taken := fun c hc => by
    have h1 : f.cs c ≠ .unborn := fun q => by have := (h.born c).1 q; omega
    have h2 : f.cs c ≠ .live := fun q => hn ⟨c, .inl q⟩
    have h3 : f.cs c ≠ .zombie := fun q => hn ⟨c, .inr q⟩
    cases q : f.cs c <;> simp_all
  have hf : takenN p.n f.cs = p.n := by
    unfold takenN
    rw [sumN_congr (g := fun _ => 1) (fun a ha => if_pos (this a ha))]
    generalize p.n = n
    induction n with
    | zero => rfl
    | succ n ih => rw [sumN, ih]
  rw [← h.kn] at hf
  omega
theorem Inv.full (h : Inv p f s x) (hk : f.k = p.n) : (∀ c, f.cs c ≠ .live) ∧ (∀ c, f.cs c ≠ .zombie) := by
  have := sumN_full (n := p.n) (cs := f.cs) (by rw [h.kn] at hk; unfold takenN at hk; omega)
  refine ⟨fun c hc => ?_, fun c hc => ?_⟩
  · have := this c (h.cn (by rw [hc]; simp)); rw [hc] at this; cases this
  · have := this c (h.cn (by rw [hc]; simp)); rw [hc] at this; cases this
theorem Inv.least (h : Inv p f s x) (hz : ∃ c, f.cs c = .zombie) : ∃ c, f.cs c = .zombie ∧ ∀ c', f.cs c' = .zombie → c ≤ c' := by
  obtain ⟨c0, h0⟩ := hz
  induction c0 using Nat.strongRecOn with
  | ind c0 ih =>
    by_cases q : ∃ c, c < c0 ∧ f.cs c = .zombie
    · obtain ⟨c, hc, hz⟩ := q
      exact ih c hc hz
    · exact ⟨c0, h0, fun c' hc' => by
        rcases Nat.lt_or_ge c' c0 with r | r
        · exact absurd ⟨c', r, hc'⟩ q
        · exact r⟩
/-- the parent waits: what it asked is p1 -/
def Asked (p : Par) (f : Fam) (q : Qs) (p1 : Fp) : Prop :=
  p1.child = false ∧ p1.own = none ∧ p1.tl = p.tl ∧ p1.pieces = p.pieces ∧ p1.step = q.fp.step + 1 ∧ p1.sum = takenS p.n f.cs
def Fam.sleep (f : Fam) : Fam := { f with st := true, blk := true }
theorem Inv.sleep (h : Inv p f s x) (hg : f.gone = false) (hs : f.st = false) (ht : f.t = p.n) (hk : f.k < p.n) (hz : ∀ c, f.cs c ≠ .zombie) (p1 : Fp) (hp1 : Asked p f (x.qs 1) p1) :
    Inv p f.sleep { s.awoke 1 true with t := (s.awoke 1 true).t.turnS 1 2 } (x.setQ 1 ((((x.qs 1).withFp p1).asks 9 0 []).stood true)) := by
  have hc1 : ∀ c, pidC c ≠ 1 := fun c => by unfold pidC; omega
  have P := h.par hg
  have hF := h.F
  rw [hg, h.awake hs] at hF
  obtain ⟨a1, a2, a3, a4, a5, a6⟩ := hp1
  exact
   { F := by rw [show f.sleep.gone = false from hg]; exact hF.slept
     tn := h.tn
     born := h.born
     kn := h.kn
     late := fun _ => ht
     stand := fun _ => ⟨hk, .inl ⟨rfl, hz⟩⟩
     awake := fun q => by cases q
     done := fun q => by rw [show f.sleep.gone = f.gone from rfl, hg] at q; cases q
     xk := h.xk
     ol := h.ol
     par := fun _ => by
       have e1 : (x.setQ 1 ((((x.qs 1).withFp p1).asks 9 0 []).stood true)).qs 1 = (((x.qs 1).withFp p1).asks 9 0 []).stood true := by simp [Wx.setQ]
       rw [e1]
       exact { re := P.re, rm0 := P.rm0, rn := P.rn, child := a1, own := a2, tl := a3, pieces := a4,
               step := by
                 show p1.step = _
                 rw [a5, P.step, hs]; rfl
               s0 := by show 0 ≤ p1.sum; rw [a6]; omega
               sum := fun q => by cases q
               sumS := fun _ => a6
               st := rfl
               call := fun _ => ⟨rfl, rfl, rfl⟩ }
     kid := fun c hc => by
       have e1 : (x.setQ 1 ((((x.qs 1).withFp p1).asks 9 0 []).stood true)).qs (pidC c) = x.qs (pidC c) := by simp [Wx.setQ, hc1]
       rw [e1]; exact h.kid c hc
     unb := h.unb
     dead := h.dead
     out := h.out
     outl := h.outl
     gs := h.gs }
/-- a child is taken up -/
def Fam.take (f : Fam) (c : Nat) : Fam := { f with k := f.k + 1, st := false, blk := false, cs := updC f.cs c .taken }
theorem Inv.take (h : Inv p f s x) (hg : f.gone = false) (ht : f.t = p.n) (hk : f.k < p.n) (c : Nat) (hc : f.cs c = .zombie) (p1 : Fp) (hp1 : p1.child = false ∧ p1.own = none ∧ p1.tl = p.tl ∧ p1.pieces = p.pieces ∧ p1.step = (f.t : Int) + f.k + 1 ∧ p1.sum = takenS p.n f.cs) (q : Qs)
    (hq : q.re = 0 ∧ q.rn = pidC c ∧ q.rm = ((s.awoke 1 true).t.pr (pidC c)).status ∧ q.fp = p1 ∧ q.st = false) :
    Inv p (f.take c) { s.awoke 1 true with t := (s.awoke 1 true).t.delP (pidC c) } (x.setQ 1 q) := by
  have hc1 : ∀ c, pidC c ≠ 1 := fun c => by unfold pidC; omega
  have hcn : c < p.n := h.cn (by rw [hc]; simp)
  have hF := h.F
  rw [hg] at hF
  have TS := taken_more (n := p.n) (cs := f.cs) hcn (by rw [hc]; simp)
  obtain ⟨a1, a2, a3, a4, a5, a6⟩ := hp1
  obtain ⟨b1, b2, b3, rfl, b5⟩ := hq
  have hst := hF.status c hc
  refine
   { F := by rw [show (f.take c).gone = false from hg]; exact hF.takes c hc hcn
     tn := h.tn
     born := fun a => ?_
     kn := by show f.k + 1 = _; rw [h.kn]; exact TS.1.symm
     late := fun _ => ht
     stand := fun q => by cases q
     awake := fun _ => rfl
     done := fun q => by rw [show (f.take c).gone = f.gone from rfl, hg] at q; cases q
     xk := fun i => by
       show i ∈ x.m.keys ↔ _
       rw [h.xk]; exact (alive_taken hc i).symm
     ol := h.ol
     par := fun _ => ?_
     kid := fun a ha => ?_
     unb := fun a ha hn => ?_
     dead := fun a ha => ?_
     out := h.out
     outl := h.outl
     gs := h.gs }
  · show updC f.cs c .taken a = _ ↔ f.t ≤ a
    by_cases e : a = c
    · subst e; rw [updC_at, ← h.born, hc]; simp
    · rw [updC_ne _ _ e, h.born]
  · have e1 : (x.setQ 1 q).qs 1 = q := by simp [Wx.setQ]
    rw [e1]
    exact { re := b1, rm0 := by rw [b3, hst]; omega, rn := fun q => by simp [Fam.take] at q, child := a1, own := a2, tl := a3, pieces := a4,
            step := by rw [a5]; show _ = (f.t : Int) + ((f.k + 1 : Nat) : Int) + 0; omega
            s0 := by rw [a6]; omega
            sum := fun _ => by
              rw [a6, b3, hst]
              show _ = ((takenS p.n (updC f.cs c .taken) : Nat) : Int)
              rw [TS.2]; omega
            sumS := fun q => by cases q
            st := b5
            call := fun q => by cases q }
  · have e : a ≠ c := fun e => by subst e; have : updC f.cs a .taken a = .live := ha; rw [updC_at] at this; cases this
    have ha' : updC f.cs c .taken a = .live := ha
    rw [updC_ne _ _ e] at ha'
    have e1 : (x.setQ 1 q).qs (pidC a) = x.qs (pidC a) := by simp [Wx.setQ, hc1]
    rw [e1]; exact h.kid a ha'
  · have e : a ≠ c := fun e => by subst e; have : updC f.cs a .taken a = .unborn := ha; rw [updC_at] at this; cases this
    have ha' : updC f.cs c .taken a = .unborn := ha
    rw [updC_ne _ _ e] at ha'
    exact h.unb a ha' hn
  · show f.rem a = []
    by_cases e : a = c
    · subst e; exact h.dead a (.inl hc)
    · have ha' : updC f.cs c .taken a = .zombie ∨ updC f.cs c .taken a = .taken := ha
      rw [updC_ne _ _ e] at ha'
      exact h.dead a ha'
/-- a child has written -/
def Fam.say (f : Fam) (c : Nat) (r : List UInt8) : Fam := { f with rem := fun a => if a = c then r else f.rem a }
/-- what a child comes to by its Next -/
def KidAsked (p : Par) (c : Nat) (rem : List UInt8) (p1 : Fp) : Prop :=
  p1.child = true ∧ p1.at_ = (c : Int) ∧ p1.pieces = p.pieces ∧ p1.tl[c]? = some rem ∧ 2 ≤ p1.step ∧ (p1.step = 2 ∨ p1.step + rem.length ≤ 201)
theorem Inv.say (h : Inv p f s x) (hp : p.Ok) (hg : f.gone = false) (c : Nat) (hc : f.cs c = .live) (hr : f.rem c ≠ []) (p1 : Fp) (hp1 : KidAsked p c (f.rem c) p1) (h' : Hx)
    (ho : h'.out = s.h.out ++ (f.rem c).take p.pieces.toNat) (hgs : h'.gs = s.h.gs) :
    Inv p (f.say c ((f.rem c).drop p.pieces.toNat)) { s.awoke (pidC c) false with h := h' } (x.setQ (pidC c) (((((x.qs (pidC c)).withFp p1).asks 2 1 ((f.rem c).take p.pieces.toNat)).stood false).told 0 ((f.rem c).take p.pieces.toNat).length 0)) := by
  have hc1 : ∀ c, pidC c ≠ 1 := fun c => by unfold pidC; omega
  have hne : ∀ a c, a ≠ c → pidC a ≠ pidC c := fun a c h e => h (pidC_inj e)
  have hcn : c < p.n := h.cn (by rw [hc]; simp)
  have hF := h.F
  rw [hg] at hF
  have K := h.kid c hc
  obtain ⟨a1, a2, a3, a4, a5, a6⟩ := hp1
  have hp0 := hp.p0
  have hpn : 1 ≤ p.pieces.toNat := by omega
  have hlen := K.len
  have hl0 : 0 < (f.rem c).length := List.length_pos_iff.2 hr
  generalize hrem : f.rem c = r at *
  have hsplit : r.take p.pieces.toNat ++ r.drop p.pieces.toNat = r := List.take_append_drop _ _
  refine
   { F := by rw [show (f.say c (r.drop p.pieces.toNat)).gone = false from hg]; exact hF.wrote c hc h'
     tn := h.tn
     born := h.born
     kn := h.kn
     late := h.late
     stand := h.stand
     awake := h.awake
     done := fun q => by rw [show (f.say c (r.drop p.pieces.toNat)).gone = f.gone from rfl, hg] at q; cases q
     xk := h.xk
     ol := h.ol
     par := fun q => ?_
     kid := fun a ha => ?_
     unb := fun a ha hn => ?_
     dead := fun a ha => ?_
     out := fun b => ?_
     outl := ?_
     gs := hgs.trans h.gs }
  · have e1 : (x.setQ (pidC c) (((((x.qs (pidC c)).withFp p1).asks 2 1 (r.take p.pieces.toNat)).stood false).told 0 (r.take p.pieces.toNat).length 0)).qs 1 = x.qs 1 := by simp [Wx.setQ, Ne.symm (hc1 c)]
    rw [e1]
    exact ⟨(h.par q).re, (h.par q).rm0, (h.par q).rn, (h.par q).child, (h.par q).own, (h.par q).tl, (h.par q).pieces, (h.par q).step, (h.par q).s0, (h.par q).sum, (h.par q).sumS, (h.par q).st, (h.par q).call⟩
  · by_cases e : a = c
    · subst e
      have e1 : (x.setQ (pidC a) (((((x.qs (pidC a)).withFp p1).asks 2 1 (r.take p.pieces.toNat)).stood false).told 0 (r.take p.pieces.toNat).length 0)).qs (pidC a) = ((((x.qs (pidC a)).withFp p1).asks 2 1 (r.take p.pieces.toNat)).stood false).told 0 (r.take p.pieces.toNat).length 0 := by simp [Wx.setQ]
      rw [e1]
      have e2 : (f.say a (r.drop p.pieces.toNat)).rem a = r.drop p.pieces.toNat := by simp [Fam.say]
      rw [e2]
      have hdl : (r.drop p.pieces.toNat).length = r.length - p.pieces.toNat := List.length_drop
      have htl : (r.take p.pieces.toNat).length = min p.pieces.toNat r.length := List.length_take
      refine { re := rfl, st := rfl, pieces := a3, len := by omega, how := .inr ⟨r, (r.take p.pieces.toNat).length, rfl, a1, a2, a5, ?_, a4, by omega, hlen, ?_⟩ }
      · show p1.step + _ ≤ 200
        rcases a6 with q | q <;> omega
      · rw [htl]
        rcases Nat.le_total p.pieces.toNat r.length with q | q
        · rw [Nat.min_eq_left q]
        · rw [Nat.min_eq_right q, List.drop_eq_nil_of_le q, List.drop_eq_nil_of_le (Nat.le_refl _)]
    · have e1 : (x.setQ (pidC c) (((((x.qs (pidC c)).withFp p1).asks 2 1 (r.take p.pieces.toNat)).stood false).told 0 (r.take p.pieces.toNat).length 0)).qs (pidC a) = x.qs (pidC a) := by simp [Wx.setQ, hne _ _ e]
      rw [e1]
      have e2 : (f.say c (r.drop p.pieces.toNat)).rem a = f.rem a := by simp [Fam.say, e]
      rw [e2]
      exact h.kid a ha
  · have e : a ≠ c := fun e => by subst e; have : f.cs a = .unborn := ha; rw [this] at hc; cases hc
    have e2 : (f.say c (r.drop p.pieces.toNat)).rem a = f.rem a := by simp [Fam.say, e]
    rw [e2]; exact h.unb a ha hn
  · have e : a ≠ c := fun e => by subst e; have : f.cs a = .zombie ∨ f.cs a = .taken := ha; rw [hc] at this; rcases this with q | q <;> cases q
    have e2 : (f.say c (r.drop p.pieces.toNat)).rem a = f.rem a := by simp [Fam.say, e]
    rw [e2]; exact h.dead a ha
  · have := h.out b
    show h'.out.count b + _ = _
    rw [ho, List.count_append]
    have hu := sumN_upd (n := p.n) (c := c) (g := fun a => (f.rem a).count b) (g' := fun a => ((f.say c (r.drop p.pieces.toNat)).rem a).count b) hcn (fun a q => by simp [Fam.say, q])
    have e2 : (f.say c (r.drop p.pieces.toNat)).rem c = r.drop p.pieces.toNat := by simp [Fam.say]
    simp only [e2, hrem] at hu
    have hct : r.count b = (r.take p.pieces.toNat).count b + (r.drop p.pieces.toNat).count b := by rw [← List.count_append, hsplit]
    omega
  · have := h.outl
    show h'.out.length + _ ≤ _
    rw [ho, List.length_append]
    have hu := sumN_upd (n := p.n) (c := c) (g := fun a => (f.rem a).length) (g' := fun a => ((f.say c (r.drop p.pieces.toNat)).rem a).length) hcn (fun a q => by simp [Fam.say, q])
    have e2 : (f.say c (r.drop p.pieces.toNat)).rem c = r.drop p.pieces.toNat := by simp [Fam.say]
    simp only [e2, hrem] at hu
    have hct : r.length = (r.take p.pieces.toNat).length + (r.drop p.pieces.toNat).length := by rw [← List.length_append, hsplit]
    omega
/-- a child has ended -/
def Fam.quit (f : Fam) (c : Nat) : Fam := { f with blk := false, cs := updC f.cs c .zombie }
theorem Inv.quit (h : Inv p f s x) (hg : f.gone = false) (c : Nat) (hc : f.cs c = .live) (hr : f.rem c = []) (q : Qs) :
    Inv p (f.quit c) ((s.awoke (pidC c) false).endedK (pidC c) 1 ((c : Int) + 1) stdSlots) ((x.setQ (pidC c) q).delQ (pidC c)) := by
  have hc1 : ∀ c, pidC c ≠ 1 := fun c => by unfold pidC; omega
  have hne : ∀ a c, a ≠ c → pidC a ≠ pidC c := fun a c h e => h (pidC_inj e)
  have hcn : c < p.n := h.cn (by rw [hc]; simp)
  have hF := h.F
  rw [hg] at hF
  have TS := taken_same (n := p.n) (t := c) (cs := f.cs) (k := .zombie) (by rw [hc]; simp) (by simp)
  refine
   { F := by rw [show (f.quit c).gone = false from hg]; exact hF.gone_kid c hc hcn
     tn := h.tn
     born := fun a => ?_
     kn := h.kn.trans TS.1.symm
     late := h.late
     stand := fun q => ⟨(h.stand q).1, .inr ⟨rfl, c, updC_at _ _ _⟩⟩
     awake := fun _ => rfl
     done := fun q => by rw [show (f.quit c).gone = f.gone from rfl, hg] at q; cases q
     xk := fun i => by
       show i ∈ (x.m.del (pidC c)).keys ↔ _
       rw [PMap.mem_del, h.xk]; exact (alive_del (by simp) i).symm
     ol := h.ol
     par := fun q2 => ?_
     kid := fun a ha => ?_
     unb := fun a ha hn => ?_
     dead := fun a ha => ?_
     out := h.out
     outl := h.outl
     gs := h.gs }
  · show updC f.cs c .zombie a = _ ↔ f.t ≤ a
    by_cases e : a = c
    · subst e; rw [updC_at, ← h.born, hc]; simp
    · rw [updC_ne _ _ e, h.born]
  · have e1 : ((x.setQ (pidC c) q).delQ (pidC c)).qs 1 = x.qs 1 := by simp [Wx.setQ, Wx.delQ, Ne.symm (hc1 c)]
    rw [e1]
    have P := h.par q2
    exact ⟨P.re, P.rm0, P.rn, P.child, P.own, P.tl, P.pieces, P.step, P.s0, fun q => by rw [P.sum q]; exact congrArg Int.ofNat TS.2.symm, fun q => by rw [P.sumS q]; exact congrArg Int.ofNat TS.2.symm, P.st, P.call⟩
  · have e : a ≠ c := fun e => by subst e; have : updC f.cs a .zombie a = .live := ha; rw [updC_at] at this; cases this
    have ha' : updC f.cs c .zombie a = .live := ha
    rw [updC_ne _ _ e] at ha'
    have e1 : ((x.setQ (pidC c) q).delQ (pidC c)).qs (pidC a) = x.qs (pidC a) := by simp [Wx.setQ, Wx.delQ, hne _ _ e]
    rw [e1]; exact h.kid a ha'
  · have e : a ≠ c := fun e => by subst e; have : updC f.cs a .zombie a = .unborn := ha; rw [updC_at] at this; cases this
    have ha' : updC f.cs c .zombie a = .unborn := ha
    rw [updC_ne _ _ e] at ha'
    exact h.unb a ha' hn
  · show f.rem a = []
    by_cases e : a = c
    · subst e; exact hr
    · have ha' : updC f.cs c .zombie a = .zombie ∨ updC f.cs c .zombie a = .taken := ha
      rw [updC_ne _ _ e] at ha'
      exact h.dead a ha'
/-- the parent has ended -/
def Fam.last (f : Fam) : Fam := { f with gone := true }
theorem Inv.last (h : Inv p f s x) (hg : f.gone = false) (hs : f.st = false) (ht : f.t = p.n) (hk : f.k = p.n) (q : Qs) :
    Inv p f.last ((s.awoke 1 false).ended1 (takenS p.n f.cs)) ((x.setQ 1 q).delQ 1) := by
  have hc1 : ∀ c, pidC c ≠ 1 := fun c => by unfold pidC; omega
  obtain ⟨hl, hz⟩ := h.full hk
  have hb := h.awake hs
  have hF := h.F
  rw [hg, hb] at hF
  exact
   { F := by show FamK p.n p.base true f.blk f.cs _ _ _ _; rw [hb]; exact hF.last _ hl hz
     tn := h.tn
     born := h.born
     kn := h.kn
     late := fun _ => ht
     stand := fun q => by rw [show f.last.st = f.st from rfl, hs] at q; cases q
     awake := fun _ => hb
     done := fun _ => ⟨hs, hk, rfl, rfl, by
       show s.x.many - ((min 16 3 : Nat) : Int) = 0
       rw [hF.many rfl]; rfl⟩
     xk := fun i => by
       show i ∈ (x.m.del 1).keys ↔ _
       rw [PMap.mem_del, h.xk, hg]
       unfold alivePid
       constructor
       · rintro ⟨⟨q, _⟩ | ⟨c, _, q⟩, hn⟩
         · exact absurd q hn
         · exact absurd q (hl c)
       · rintro (⟨_, q⟩ | ⟨c, _, q⟩)
         · cases q
         · exact absurd q (hl c)
     ol := h.ol
     par := fun q => by cases q
     kid := fun c hc => absurd hc (hl c)
     unb := h.unb
     dead := h.dead
     out := h.out
     outl := h.outl
     gs := h.gs }
end
end Go.Proofs.YtelohloaoocoaaaGreatDoor
/- the family's measure, and what each child will yet do. -/
namespace Go.Proofs.YtelohloaoocoaaaGreatDoor
open Go.RowKit IntWalk
set_option linter.unusedVariables false
set_option linter.unusedSimpArgs false

/-- what a child does that has so much to write, by pieces -/
def evs (pc c : Nat) : Nat → List UInt8 → List (Array Value)
  | 0, _ => [dnV (pidC c) 8 ((c : Int) + 1) [] 0 0 0]
  | k + 1, r => if r = [] then [dnV (pidC c) 8 ((c : Int) + 1) [] 0 0 0] else dnV (pidC c) 2 1 (r.take pc) 0 (r.take pc).length 0 :: evs pc c k (r.drop pc)
theorem evs_fuel {pc c : Nat} (hp : 1 ≤ pc) : ∀ (k : Nat) (r : List UInt8), r.length ≤ k → evs pc c (k + 1) r = evs pc c k r
  | 0, r, h => by
    have : r = [] := List.length_eq_zero_iff.1 (by omega)
    subst this; rfl
  | k + 1, r, h => by
    show (if r = [] then _ else _ :: evs pc c (k + 1) (r.drop pc)) = (if r = [] then _ else _ :: evs pc c k (r.drop pc))
    by_cases q : r = []
    · rw [if_pos q, if_pos q]
    · rw [if_neg q, if_neg q]
      have hl : 0 < r.length := List.length_pos_iff.2 q
      rw [evs_fuel hp k (r.drop pc) (by rw [List.length_drop]; omega)]
def Fam.fut (p : Par) (f : Fam) (c : Nat) : List (Array Value) := match f.cs c with
  | .unborn => evs p.pieces.toNat c 101 (f.rem c)
  | .live => evs p.pieces.toNat c 101 (f.rem c)
  | _ => []
theorem wOf_live (r : List UInt8) : wOf .live r = r.length + 1 := rfl
theorem wOf_zombie (r : List UInt8) : wOf .zombie r = 0 := rfl
section
variable {p : Par} {f : Fam} {s : Ks} {x : Wx}
theorem Fam.sleep_mu (hs : f.st = false) (hk : f.k < p.n) : f.sleep.mu p.n < f.mu p.n := by
  unfold Fam.mu
  rw [show f.sleep.t = f.t from rfl, show f.sleep.k = f.k from rfl, show f.sleep.gone = f.gone from rfl, show f.sleep.cs = f.cs from rfl, show f.sleep.rem = f.rem from rfl, show f.sleep.st = true from rfl, hs]
  simp; omega
theorem Fam.take_mu {c : Nat} (hk : f.k < p.n) (hc : f.cs c = .zombie) : (f.take c).mu p.n < f.mu p.n := by
  unfold Fam.mu
  have : sumN p.n (fun a => wOf ((f.take c).cs a) ((f.take c).rem a)) = sumN p.n (fun a => wOf (f.cs a) (f.rem a)) := sumN_congr fun a _ => by
    show wOf (updC f.cs c .taken a) (f.rem a) = _
    by_cases q : a = c
    · subst q; rw [updC_at, hc]; rfl
    · rw [updC_ne _ _ q]
  rw [this, show (f.take c).t = f.t from rfl, show (f.take c).k = f.k + 1 from rfl, show (f.take c).gone = f.gone from rfl, show (f.take c).st = false from rfl]
  cases f.st <;> simp <;> omega
theorem Fam.say_mu {c : Nat} {r : List UInt8} (hcn : c < p.n) (hc : f.cs c = .live) (hr : r.length < (f.rem c).length) : (f.say c r).mu p.n < f.mu p.n := by
  unfold Fam.mu
  have hu := sumN_upd (n := p.n) (c := c) (g := fun a => wOf (f.cs a) (f.rem a)) (g' := fun a => wOf (f.cs a) ((f.say c r).rem a)) hcn (fun a q => by simp [Fam.say, q])
  have e2 : (f.say c r).rem c = r := by simp [Fam.say]
  simp only [e2, hc, wOf_live] at hu
  rw [show (f.say c r).t = f.t from rfl, show (f.say c r).k = f.k from rfl, show (f.say c r).gone = f.gone from rfl, show (f.say c r).st = f.st from rfl, show (f.say c r).cs = f.cs from rfl]
  omega
theorem Fam.quit_mu {c : Nat} (hcn : c < p.n) (hc : f.cs c = .live) : (f.quit c).mu p.n < f.mu p.n := by
  unfold Fam.mu
  have hu := sumN_upd (n := p.n) (c := c) (g := fun a => wOf (f.cs a) (f.rem a)) (g' := fun a => wOf ((f.quit c).cs a) (f.rem a)) hcn (fun a q => by simp [Fam.quit, updC_ne _ _ q])
  have e2 : (f.quit c).cs c = .zombie := updC_at _ _ _
  simp only [e2, hc, wOf_live, wOf_zombie] at hu
  rw [show (f.quit c).t = f.t from rfl, show (f.quit c).k = f.k from rfl, show (f.quit c).gone = f.gone from rfl, show (f.quit c).st = f.st from rfl, show (f.quit c).rem = f.rem from rfl]
  omega
theorem Fam.last_mu (hg : f.gone = false) : f.last.mu p.n < f.mu p.n := by
  unfold Fam.mu
  rw [show f.last.t = f.t from rfl, show f.last.k = f.k from rfl, show f.last.gone = true from rfl, show f.last.cs = f.cs from rfl, show f.last.rem = f.rem from rfl, show f.last.st = f.st from rfl, hg]
  simp
theorem Fam.fork_fut (h : Inv p f s x) (c : Nat) : f.fork.fut p c = f.fut p c := by
  have hu : f.cs f.t = .unborn := (h.born _).2 (Nat.le_refl _)
  unfold Fam.fut
  rw [show f.fork.rem = f.rem from rfl, show f.fork.cs = updC f.cs f.t .live from rfl]
  by_cases q : c = f.t
  · subst q; rw [updC_at, hu]
  · rw [updC_ne _ _ q]
theorem Fam.take_fut {a : Nat} (ha : f.cs a = .zombie) (c : Nat) : (f.take a).fut p c = f.fut p c := by
  unfold Fam.fut
  rw [show (f.take a).rem = f.rem from rfl, show (f.take a).cs = updC f.cs a .taken from rfl]
  by_cases q : c = a
  · subst q; rw [updC_at, ha]
  · rw [updC_ne _ _ q]
theorem Fam.say_fut (hp : p.Ok) {a : Nat} (ha : f.cs a = .live) (hr : f.rem a ≠ []) (hl : (f.rem a).length ≤ 100) (c : Nat) :
    f.fut p c = (if pidC a = pidC c then [dnV (pidC a) 2 1 ((f.rem a).take p.pieces.toNat) 0 ((f.rem a).take p.pieces.toNat).length 0] else []) ++ (f.say a ((f.rem a).drop p.pieces.toNat)).fut p c := by
  have hp0 := hp.p0
  unfold Fam.fut
  rw [show (f.say a ((f.rem a).drop p.pieces.toNat)).cs = f.cs from rfl]
  by_cases q : c = a
  · subst q
    rw [ha, if_pos rfl]
    simp only
    rw [show (f.say c ((f.rem c).drop p.pieces.toNat)).rem c = (f.rem c).drop p.pieces.toNat from by simp [Fam.say]]
    rw [evs, if_neg hr, evs_fuel (by omega) 100 _ (by rw [List.length_drop]; omega)]
    rfl
  · rw [if_neg (fun e => q (pidC_inj e).symm), show (f.say a ((f.rem a).drop p.pieces.toNat)).rem c = f.rem c from by simp [Fam.say, q]]
    rfl
theorem Fam.quit_fut {a : Nat} (ha : f.cs a = .live) (hr : f.rem a = []) (c : Nat) :
    f.fut p c = (if pidC a = pidC c then [dnV (pidC a) 8 ((a : Int) + 1) [] 0 0 0] else []) ++ (f.quit a).fut p c := by
  unfold Fam.fut
  rw [show (f.quit a).cs = updC f.cs a .zombie from rfl, show (f.quit a).rem = f.rem from rfl]
  by_cases q : c = a
  · subst q
    rw [ha, if_pos rfl, updC_at, hr]
    rfl
  · rw [if_neg (fun e => q (pidC_inj e).symm), updC_ne _ _ q]
    rfl
/-- where none is ready all is done -/
theorem Inv.rest (h : Inv p f s x) (hr : s.t.ready = []) : f.gone = true ∧ f.k = p.n := by
  have hn : ∀ i, i ∉ s.t.ready := by rw [hr]; simp
  have hl : ∀ c, f.cs c ≠ .live := fun c hc => hn _ ((h.F.ready_iff _).2 (.inr ⟨c, rfl, hc⟩))
  have hg : f.gone = true := by
    cases hg : f.gone
    · have hb : f.blk = true := by
        cases hb : f.blk
        · exact absurd ((h.F.ready_iff 1).2 (.inl ⟨rfl, hg, hb⟩)) (hn 1)
        · rfl
      cases hs : f.st
      · rw [h.awake hs] at hb; cases hb
      · obtain ⟨hk, ⟨_, hz⟩ | ⟨hb2, _⟩⟩ := h.stand hs
        · obtain ⟨c, hc | hc⟩ := h.left (h.late (.inr (.inl hs))) hk
          · exact absurd hc (hl c)
          · exact absurd hc (hz c)
        · rw [hb] at hb2; cases hb2
    · rfl
  exact ⟨hg, (h.done hg).2.1⟩
theorem Inv.es (h : Inv p f s x) (hp : p.Ok) (hk : s.t.m.Ok) : s.t.m.es.length ≤ 20 ∧ s.t.ready.length ≤ 20 := by
  have hb : ∀ i ∈ s.t.m.keys, 0 ≤ i ∧ i < ((20 : Nat) : Int) := fun i hi => by
    have hn := hp.n8
    rcases (h.F.tk i).1 hi with (⟨rfl, _⟩ | ⟨c, rfl, hc⟩) | ⟨c, rfl, hc⟩
    · omega
    · have := h.cn (c := c) (by rw [hc]; simp)
      unfold pidC; omega
    · have := h.cn (c := c) (by rw [hc]; simp)
      unfold pidC; omega
  have h1 : s.t.m.keys.length ≤ 20 := nodup_bounded 20 hk.keys hb
  refine ⟨by simpa [PMap.keys] using h1, ?_⟩
  unfold Tab.ready
  rw [List.length_mergeSort]
  exact Nat.le_trans (List.length_filter_le _ _) h1
end
end Go.Proofs.YtelohloaoocoaaaGreatDoor
/- world.Step over a family: what each step is, and what it leaves. -/
namespace Go.Proofs.YtelohloaoocoaaaGreatDoor
open Go.RowKit IntWalk
set_option linter.unusedVariables false
set_option linter.unusedSimpArgs false

theorem pick_at (pick : Int) (n : Nat) (hn : 0 < n) : ∃ j r0, PickAt pick n j r0 := by
  have hn' : (0 : Int) < n := by omega
  have h1 := Int.lt_tmod_of_pos pick hn'
  have h2 := Int.tmod_lt_of_pos pick hn'
  have h3 := Int.tmod_lt_of_pos (pick.tmod n + n) hn'
  have h4 := Int.tmod_nonneg (a := pick.tmod n + n) (n : Int) (by omega)
  exact ⟨((pick.tmod n + n).tmod n).toNat, pick.tmod n, rfl, h1, h2, by omega, by omega⟩
/-- what a step of the process i leaves -/
def Went (p : Par) (f : Fam) (s : Ks) (l : Ly) (x : Wx) (lw : WId → Nat) (w : World) (i : Int) (e : Ending) (w' : World) : Prop :=
  ∃ (k fd : Int) (d : List UInt8) (er n m : Int), e = .returned (.tuple #[.agg (dnV i k fd d er n m), .bool true]) ∧
    ∃ (f' : Fam) (s' : Ks) (l' : Ly) (x' : Wx) (lw' : WId → Nat), Inv p f' s' x' ∧ AStep s l x lw w s' l' x' lw' w' ∧ f'.mu p.n < f.mu p.n ∧ (d.length ≤ 100 ∧ 0 ≤ fd ∧ fd ≤ 1000) ∧
      ∀ c, c < p.n → f.fut p c = (if i = pidC c then [dnV i k fd d er n m] else []) ++ f'.fut p c
section
variable {p : Par} {f : Fam} {s : Ks} {x : Wx} {l : Ly} {lw : WId → Nat} {w : World} {pick : Int} {j : Nat} {r0 : Int}
theorem not_one (c : Nat) : (1 : Int) ≠ pidC c := by unfold pidC; omega
theorem went_back (hp : p.Ok) (hI : Inv p f s x) (h : MayStep s l x lw w pick j r0 1) (hg : f.gone = false) (hb : f.blk = false) (hs : f.st = true) :
    Calls Tryz.prog 11 #[ptrOf (lw .W), .int .i64 pick] w (Went p f s l x lw w 1) := by
  have P := hI.par hg
  obtain ⟨hk, ⟨hb2, _⟩ | ⟨_, hz⟩⟩ := hI.stand hs
  · rw [hb] at hb2; cases hb2
  obtain ⟨c, hc, hm⟩ := hI.least hz
  have hF := hI.F
  rw [hg, hb] at hF
  have ht := hI.late (.inr (.inl hs))
  refine (step_back (pidC c) h (by rw [P.st, hs]) (P.call hs) (hF.wait _ (.inr ⟨c, rfl, hc, hm⟩) ⟨c, .inr hc⟩) (by unfold pidC; omega) (by rw [(hF.one rfl).2]; decide)).mono ?_
  rintro e w' ⟨rfl, l', lw', hA⟩
  refine ⟨9, 0, [], 0, _, _, rfl, f.take c, _, l', _, lw', ?_, hA, Fam.take_mu hk hc, by simp, fun a _ => ?_⟩
  · exact hI.take hg ht hk c hc (x.qs 1).fp ⟨P.child, P.own, P.tl, P.pieces, by rw [P.step, hs]; rfl, P.sumS hs⟩ _ ⟨rfl, rfl, rfl, rfl, rfl⟩
  rw [if_neg (not_one a), Fam.take_fut hc]; rfl
theorem went_fork (hp : p.Ok) (hI : Inv p f s x) (h : MayStep s l x lw w pick j r0 1) (hg : f.gone = false) (hb : f.blk = false) (hs : f.st = false) (ht : f.t < p.n) :
    Calls Tryz.prog 11 #[ptrOf (lw .W), .int .i64 pick] w (Went p f s l x lw w 1) := by
  have P := hI.par hg
  have hn := hp.n8
  have hb0 := hp.base0
  have hb1 := hp.base1
  have hF := hI.F
  rw [hg, hb] at hF
  have hu : f.cs f.t = .unborn := (hI.born _).2 (Nat.le_refl _)
  have hk0 : f.k = 0 := by
    rcases Nat.eq_zero_or_pos f.k with q | q
    · exact q
    · have := hI.late (.inl (by omega)); omega
  have hnt : ∀ c, f.cs c ≠ .taken := fun c hc => by
    have hcn := hI.cn (c := c) (by rw [hc]; simp)
    have := (taken_more (n := p.n) (cs := updC f.cs c .zombie) (t := c) hcn (by rw [updC_at]; simp)).1
    have e : updC (updC f.cs c .zombie) c .taken = f.cs := by
      funext a
      by_cases q : a = c
      · subst q; rw [updC_at, hc]
      · rw [updC_ne _ _ q, updC_ne _ _ q]
    rw [e, ← hI.kn] at this
    omega
  have hl : ∀ c, c < f.t → f.cs c = .live ∨ f.cs c = .zombie := fun c hc => by
    have h1 : f.cs c ≠ .unborn := fun q => by have := (hI.born c).1 q; omega
    have h3 := hnt c
    cases q : f.cs c <;> simp_all
  have hst := P.step
  rw [hs, hk0] at hst
  simp only [Bool.false_eq_true, if_false] at hst
  have hsum := P.sum hs
  have hT := takenS_le f.cs hn
  have hs0 := P.s0
  have hr0 := P.rm0
  have hol : x.ol.length = p.n := by rw [hI.ol]
  have hLn := liveN_le p.n f.cs
  refine (step_fork (pidC f.t) stdSlots h (by rw [P.st, hs]) P.re P.child (by omega) (by omega) (by rw [hol]; exact hn) hs0 (by omega) hr0 (by omega) (by rw [hol]; omega) ?_ ((hF.tk 1).2 (.inl (.inl ⟨rfl, rfl⟩))) (by rw [(hF.one rfl).2]; decide)
    (hF.fork hn (by omega) hb1 f.t ht hu hl (by omega)) ?_ P.own).mono ?_
  · rcases Nat.eq_zero_or_pos f.t with q | q
    · left; omega
    · right; exact P.rn hk0 q
  · intro q
    rcases (hI.xk _).1 q with ⟨q, _⟩ | ⟨c, q, hc⟩
    · exact not_one _ q.symm
    · rw [pidC_inj q] at hu; rw [hu] at hc; cases hc
  rintro e w' ⟨rfl, z, l', lw', hA⟩
  refine ⟨7, 0, [], 0, _, 0, rfl, f.fork, _, l', _, lw', hI.fork hp hg hs ht z, hA, Fam.fork_mu hI ht, by simp, fun a _ => ?_⟩
  rw [if_neg (not_one a), Fam.fork_fut hI]; rfl
theorem small_of (hp : p.Ok) (hI : Inv p f s x) (hg : f.gone = false) (hs : f.st = false) : Small x 1 := by
  have P := hI.par hg
  have hn := hp.n8
  have hst := P.step
  have hk := takenN_le p.n f.cs
  have hkn := hI.kn
  have htn := hI.tn
  rw [hs] at hst
  simp only [Bool.false_eq_true, if_false] at hst
  have hsum := P.sum hs
  have hT := takenS_le f.cs hn
  have hs0 := P.s0
  have hr0 := P.rm0
  exact ⟨hI.kn1.2 hg, P.re, P.child, by omega, by omega, by rw [hI.ol]; exact hn, hs0, by omega, hr0, by omega⟩
theorem asks_wait (hp : p.Ok) (hI : Inv p f s x) (hg : f.gone = false) (hs : f.st = false) (ht : f.t = p.n) (hk : f.k < p.n) :
    NextIs x lw 1 9 0 [] (Asked p f (x.qs 1)) := by
  have P := hI.par hg
  have hst := P.step
  rw [hs] at hst
  simp only [Bool.false_eq_true, if_false] at hst
  have hol : x.ol.length = p.n := by rw [hI.ol]
  have hsum := P.sum hs
  have hs0 := P.s0
  have hr0 := P.rm0
  by_cases hk0 : f.k = 0
  · have hN := asks_wait0 (lw := lw) (small_of hp hI hg hs) (by rw [hol]; omega) (by rw [hol]; omega) (P.rn hk0 (by omega))
    intro W hW
    refine (hN W hW).mono ?_
    rintro e w' ⟨rfl, p1, lw1, rfl, hS⟩
    refine ⟨rfl, _, lw1, ?_, hS⟩
    refine ⟨P.child, P.own, P.tl, P.pieces, rfl, ?_⟩
    show (x.qs 1).fp.sum = _
    have h0 : takenS p.n f.cs = 0 := by
      have hz : ∀ c, f.cs c ≠ .taken := fun c hc => by
        have hcn := hI.cn (c := c) (by rw [hc]; simp)
        have := (taken_more (n := p.n) (cs := updC f.cs c .zombie) (t := c) hcn (by rw [updC_at]; simp)).1
        have e : updC (updC f.cs c .zombie) c .taken = f.cs := by
          funext a
          by_cases q : a = c
          · subst q; rw [updC_at, hc]
          · rw [updC_ne _ _ q, updC_ne _ _ q]
        rw [e, ← hI.kn] at this
        omega
      unfold takenS
      rw [sumN_congr (g := fun _ => 0) (fun a _ => if_neg (hz a))]
      have := sumN_le (n := p.n) (K := 0) (g := fun _ => 0) (fun _ _ => Nat.le_refl _)
      omega
    omega
  · have hN := asks_waitS (lw := lw) (small_of hp hI hg hs) (by rw [hol]; omega) (by rw [hol]; omega)
    intro W hW
    refine (hN W hW).mono ?_
    rintro e w' ⟨rfl, p1, lw1, rfl, hS⟩
    refine ⟨rfl, _, lw1, ?_, hS⟩
    exact ⟨P.child, P.own, P.tl, P.pieces, rfl, hsum⟩
theorem went_wait (hp : p.Ok) (hI : Inv p f s x) (h : MayStep s l x lw w pick j r0 1) (hg : f.gone = false) (hb : f.blk = false) (hs : f.st = false) (ht : f.t = p.n) (hk : f.k < p.n) :
    Calls Tryz.prog 11 #[ptrOf (lw .W), .int .i64 pick] w (Went p f s l x lw w 1) := by
  have P := hI.par hg
  have hF := hI.F
  rw [hg, hb] at hF
  have hst := P.step
  rw [hs] at hst
  simp only [Bool.false_eq_true, if_false] at hst
  by_cases hz : ∃ c, f.cs c = .zombie
  · obtain ⟨c, hc, hm⟩ := hI.least hz
    refine (step_takes (pidC c) (Asked p f (x.qs 1)) h (by rw [P.st, hs]) (asks_wait hp hI hg hs ht hk) (hF.wait _ (.inr ⟨c, rfl, hc, hm⟩) ⟨c, .inr hc⟩) (by unfold pidC; omega) (by rw [(hF.one rfl).2]; decide)).mono ?_
    rintro e w' ⟨rfl, p1, l', lw', ⟨a1, a2, a3, a4, a5, a6⟩, hA⟩
    refine ⟨9, 0, [], 0, _, _, rfl, f.take c, _, l', _, lw', hI.take hg ht hk c hc p1 ⟨a1, a2, a3, a4, by rw [a5, hst]; omega, a6⟩ _ ⟨rfl, rfl, rfl, rfl, rfl⟩, hA, Fam.take_mu hk hc, by simp, fun a _ => ?_⟩
    rw [if_neg (not_one a), Fam.take_fut hc]; rfl
  · have hz' : ∀ c, f.cs c ≠ .zombie := fun c hc => hz ⟨c, hc⟩
    refine (step_waits (Asked p f (x.qs 1)) h (by rw [P.st, hs]) (asks_wait hp hI hg hs ht hk) (hF.wait 0 (.inl ⟨rfl, hz'⟩) (hI.left ht hk)) (by rw [(hF.one rfl).2]; decide)).mono ?_
    rintro e w' ⟨rfl, p1, l', lw', ha, hA⟩
    refine ⟨9, 0, [], 30, 0, 0, rfl, f.sleep, _, l', _, lw', hI.sleep hg hs ht hk hz' p1 ha, hA, Fam.sleep_mu hs hk, by simp, fun a _ => ?_⟩
    rw [if_neg (not_one a)]; rfl
theorem went_last (hp : p.Ok) (hI : Inv p f s x) (h : MayStep s l x lw w pick j r0 1) (hg : f.gone = false) (hb : f.blk = false) (hs : f.st = false) (ht : f.t = p.n) (hk : f.k = p.n) :
    Calls Tryz.prog 11 #[ptrOf (lw .W), .int .i64 pick] w (Went p f s l x lw w 1) := by
  have P := hI.par hg
  have hF := hI.F
  rw [hg, hb] at hF
  have hst := P.step
  rw [hs] at hst
  simp only [Bool.false_eq_true, if_false] at hst
  have hol : x.ol.length = p.n := by rw [hI.ol]
  have hsum := P.sum hs
  have hs0 := P.s0
  have hr0 := P.rm0
  have hT := takenS_le f.cs hp.n8
  obtain ⟨hl, hz⟩ := hI.full hk
  have hN : NextIs x lw 1 8 (takenS p.n f.cs) [] (fun _ => True) := by
    by_cases hn0 : p.n = 0
    · have hN := asks_exit0 (lw := lw) (small_of hp hI hg hs) (by omega) (by omega)
      have h0 : takenS p.n f.cs = 0 := by rw [hn0]; rfl
      have e : (x.qs 1).fp.sum = takenS p.n f.cs := by omega
      rw [e] at hN
      intro W hW
      refine (hN W hW).mono ?_
      rintro e w' ⟨rfl, p1, lw1, _, hS⟩
      exact ⟨rfl, p1, lw1, trivial, hS⟩
    · have hN := asks_exitS (lw := lw) (small_of hp hI hg hs) (by omega) (by omega)
      rw [hsum] at hN
      intro W hW
      refine (hN W hW).mono ?_
      rintro e w' ⟨rfl, p1, lw1, _, hS⟩
      exact ⟨rfl, p1, lw1, trivial, hS⟩
  refine (step_last (takenS p.n f.cs) p.b0 p.b1 p.b2 (fun _ => True) h (by rw [P.st, hs]) hN (hF.last_may hp.base0 hp.base1 hl hz) (by rw [(hF.one rfl).2]; decide) (by omega) (by omega) (hF.last_hno _ hl hz)).mono ?_
  rintro e w' ⟨rfl, p1, l', lw', _, hA⟩
  refine ⟨8, _, [], 0, 0, 0, rfl, f.last, _, l', _, lw', hI.last hg hs ht hk _, hA, Fam.last_mu hg, ⟨by simp, by omega, by omega⟩, fun a _ => ?_⟩
  rw [if_neg (not_one a)]; rfl
theorem asks_kid (hp : p.Ok) (hI : Inv p f s x) (c : Nat) (hc : f.cs c = .live) :
    NextIs x lw (pidC c) (askK (f.rem c)) (askF (c : Int) (f.rem c)) (askD p.pieces (f.rem c)) (KidAsked p c (f.rem c)) := by
  have K := hI.kid c hc
  have hi : pidC c ∈ x.m.keys := (hI.xk _).2 (.inr ⟨c, rfl, hc⟩)
  have hn8 : x.ol.length ≤ 8 := by rw [hI.ol]; exact hp.n8
  have hp0 := hp.p0
  have hp1 := hp.p1
  have hlen := K.len
  rcases K.how with ⟨h1, h2, h3, h4⟩ | ⟨tt, rn, h1, h2, h3, h4, h5, h6, h7, h8, h9⟩
  · have hN := asks_new (lw := lw) c (f.rem c) hi K.re h1 h2 h3 h4 (by omega) (by rw [K.pieces]; exact hp0) (by rw [K.pieces]; omega) hn8
    rw [K.pieces] at hN
    intro W hW
    refine (hN W hW).mono ?_
    rintro e w' ⟨rfl, p1, lw1, rfl, hS⟩
    refine ⟨rfl, _, lw1, ?_, hS⟩
    exact ⟨rfl, rfl, K.pieces, h4, Int.le_refl _, .inl rfl⟩
  · have hN := asks_more (lw := lw) c rn tt hi h1 h2 h3 h4 (by omega) h6 h7 (by omega) (by rw [K.pieces]; exact hp0) (by rw [K.pieces]; omega) hn8
    rw [← h9, K.pieces] at hN
    intro W hW
    refine (hN W hW).mono ?_
    rintro e w' ⟨rfl, p1, lw1, ⟨own, rfl⟩, hS⟩
    refine ⟨rfl, _, lw1, ?_, hS⟩
    refine ⟨h2, h3, K.pieces, ?_, by show 2 ≤ (x.qs (pidC c)).fp.step + 1; omega, .inr ?_⟩
    · show ((x.qs (pidC c)).fp.tl.set c (f.rem c))[c]? = _
      rw [List.getElem?_set_self (List.getElem?_eq_some_iff.1 h6).1]
    · show (x.qs (pidC c)).fp.step + 1 + _ ≤ 201
      omega
theorem went_kid (hp : p.Ok) (hI : Inv p f s x) (c : Nat) (hc : f.cs c = .live) (h : MayStep s l x lw w pick j r0 (pidC c)) (hg : f.gone = false) :
    Calls Tryz.prog 11 #[ptrOf (lw .W), .int .i64 pick] w (Went p f s l x lw w (pidC c)) := by
  have K := hI.kid c hc
  have hn := hp.n8
  have hb0 := hp.base0
  have hb1 := hp.base1
  have hp0 := hp.p0
  have hlen := K.len
  have hcn := hI.cn (c := c) (by rw [hc]; simp)
  have hF := hI.F
  rw [hg] at hF
  have hLn := liveN_le p.n f.cs
  have hN := asks_kid (lw := lw) hp hI c hc
  by_cases hr : f.rem c = []
  · have hN2 := hN
    unfold askK askF askD at hN2
    rw [if_pos hr, if_pos hr, if_pos hr] at hN2
    refine (step_goes 1 ((c : Int) + 1) stdSlots _ h K.st hN2 (hF.ends (by omega) hb1 c hc (by omega)) (by rw [(hF.live c hc).2]; decide) (by omega) (by omega) (hF.gone_hno c hc hcn)).mono ?_
    rintro e w' ⟨rfl, p1, l', lw', _, hA⟩
    refine ⟨8, _, [], 0, 0, 0, rfl, f.quit c, _, l', _, lw', hI.quit hg c hc hr _, hA, Fam.quit_mu hcn hc, ⟨by simp, by omega, by omega⟩, fun a _ => ?_⟩
    exact Fam.quit_fut hc hr a
  · have hN2 := hN
    unfold askK askF askD at hN2
    rw [if_neg hr, if_neg hr, if_neg hr] at hN2
    have hl0 : 0 < (f.rem c).length := List.length_pos_iff.2 hr
    have htl : ((f.rem c).take p.pieces.toNat).length = min p.pieces.toNat (f.rem c).length := List.length_take
    have hout := hI.outl
    refine (step_says stdSlots ((f.rem c).take p.pieces.toNat) _ h K.st hN2 ((hF.kk _).2 (.inr ⟨c, rfl, hc⟩)) ((hF.tk _).2 (.inl (.inr ⟨c, rfl, hc⟩))) (by rw [(hF.live c hc).2]; decide) (hF.zl c hc) (by decide) (by omega) (hF.no_sleep c hc)).mono ?_
    rintro e w' ⟨rfl, p1, h', l', lw', ha, ho, hgs, hA⟩
    refine ⟨2, 1, _, 0, _, 0, rfl, f.say c ((f.rem c).drop p.pieces.toNat), _, l', _, lw', hI.say hp hg c hc hr p1 ha h' ho hgs, hA, Fam.say_mu hcn hc (by rw [List.length_drop]; omega), ⟨by omega, by omega, by omega⟩, fun a _ => ?_⟩
    exact Fam.say_fut hp hc hr hlen a
theorem step_any (hp : p.Ok) (hA : Al s l x lw w) (hI : Inv p f s x) (pick : Int) {j : Nat} {r0 i : Int} (hpk : PickAt pick s.t.ready.length j r0) (hj : s.t.ready[j]? = some i) :
    Calls Tryz.prog 11 #[ptrOf (lw .W), .int .i64 pick] w (Went p f s l x lw w i) := by
  obtain ⟨he, hrl⟩ := hI.es hp hA.ok.t
  have hM : MayStep s l x lw w pick j r0 i := ⟨hA, by omega, by omega, fun a ha => by
    rw [hI.xk]
    rcases (hI.F.ready_iff a).1 ha with ⟨h1, h2, _⟩ | h1
    · exact .inl ⟨h1, h2⟩
    · exact .inr h1, hpk, hj⟩
  rcases (hI.F.ready_iff i).1 (List.mem_of_getElem? hj) with ⟨rfl, hg, hb⟩ | ⟨c, rfl, hc⟩
  · cases hs : f.st
    · rcases Nat.lt_or_ge f.t p.n with ht | ht
      · exact went_fork hp hI hM hg hb hs ht
      · have ht' : f.t = p.n := by have := hI.tn; omega
        have hk := takenN_le p.n f.cs
        rw [← hI.kn] at hk
        rcases Nat.lt_or_ge f.k p.n with q | q
        · exact went_wait hp hI hM hg hb hs ht' q
        · exact went_last hp hI hM hg hb hs ht' (by omega)
    · exact went_back hp hI hM hg hb hs
  · have hg : f.gone = false := by
      cases hg : f.gone
      · rfl
      · have := (hI.full (hI.done hg).2.1).1 c hc
        exact this.elim
    exact went_kid hp hI c hc hM hg
end
end Go.Proofs.YtelohloaoocoaaaGreatDoor
/- The executor: what a closed call computes, whatever the world around it. Data and definitions. -/
set_option linter.unusedVariables false
set_option linter.unusedSimpArgs false
set_option linter.deprecated false
namespace Go.Proofs.YtelohloaoocoaaaGreatDoor.Zz
open Go

/-- a table by numbers -/
inductive Tr (α : Type) where
  | lf
  | nd (v : Option α) (l r : Tr α)
def Tr.get {α : Type} : Tr α → Nat → Option α
  | .lf, _ => none
  | .nd v l r, n => bif Nat.beq n 0 then v else bif Nat.beq (n % 2) 1 then l.get (n / 2) else r.get (n / 2 - 1)
def Tr.ins {α : Type} (x : α) : Nat → Tr α → Nat → Tr α
  | 0, t, _ => t
  | f + 1, .lf, n => bif Nat.beq n 0 then .nd (some x) .lf .lf else bif Nat.beq (n % 2) 1 then .nd none (Tr.ins x f .lf (n / 2)) .lf else .nd none .lf (Tr.ins x f .lf (n / 2 - 1))
  | f + 1, .nd v l r, n => bif Nat.beq n 0 then .nd (some x) l r else bif Nat.beq (n % 2) 1 then .nd v (Tr.ins x f l (n / 2)) r else .nd v l (Tr.ins x f r (n / 2 - 1))
def Tr.put {α : Type} (t : Tr α) (n : Nat) (x : α) : Tr α := Tr.ins x (n + 1) t n

/-- what a value is, with places by the executor's own numbers -/
inductive AV where
  | int (k : IntKind) (n : Int)
  | bool (b : Bool)
  | str (s : List UInt8)
  | ptr0
  | ptr (A i : Nat)
  | sl0
  | sl (A i len cap sz : Nat) (ex : Bool)
  | map0
  | map (A : Nat)
  | fn (f : Fn) (first cap : List AV)
  | fn0
  | ifc (t : TypeId) (v : AV)
  | ifc0
  | agg (l : List AV)
  | tup (l : List AV)
  | opq (k : Nat)
  | pan (v : AV)
/-- cells: those that were written, and, of the first n others, a row that comes again and again -/
structure CT where
  t : Tr AV
  d : List AV
  z : Nat
  n : Nat
def nthL : List AV → Nat → Option AV
  | [], _ => none
  | a :: l, i => bif Nat.beq i 0 then some a else nthL l (i - 1)
def CT.get (c : CT) (k : Nat) : Option AV := match c.t.get k with
  | some v => some v
  | none => bif Nat.blt k c.n then nthL c.d (k % c.z) else none
def CT.put (c : CT) (k : Nat) (x : AV) : CT := ⟨c.t.put k x, c.d, c.z, c.n⟩
def CT.lf : CT := ⟨.lf, [], 0, 0⟩
/-- a block -/
inductive ABlk where
  | cells (c : CT) (n : Nat) (e : TypeId) (frz : Nat) (odd : Bool)
  | map (es : List (AV × AV × Nat)) (clk : Nat)
  | siter (s : List UInt8) (pos : Nat)
  | miter (a : Option Nat) (since : Nat) (seen : List Nat) (last : Nat)
  | mforce (a : Option Nat) (since : Nat) (seen : List Nat) (last : Nat) (c : Option (AV × AV × Nat)) (clk : Nat)
  | dead
  | abs (k : Nat)
structure ASt where
  heap : Tr ABlk
  next : Nat
  log : List Nat
/-- a step of the executor; 'none': it does not know -/
abbrev M (α : Type) := ASt → Option (α × ASt)
def fail {α : Type} : M α := fun _ => none
def ret {α : Type} (a : α) : M α := fun s => some (a, s)
def bnd {α β : Type} (x : M α) (f : α → M β) : M β := fun s => match x s with
  | none => none
  | some (a, s') => f a s'
def opt {α : Type} : Option α → M α
  | none => fail
  | some a => ret a
def rd (A : Nat) : M ABlk := fun s => match s.heap.get A with
  | some b => some (b, ⟨s.heap, s.next, (2 * A) :: s.log⟩)
  | none => none
def wr (A : Nat) (b : ABlk) : M Unit := fun s => match s.heap.get A with
  | some _ => some ((), ⟨s.heap.put A b, s.next, (2 * A + 1) :: s.log⟩)
  | none => none
def nw (b : ABlk) : M Nat := fun s => some (s.next, ⟨s.heap.put s.next b, s.next + 1, (2 * s.next + 1) :: s.log⟩)

/-! ### values -/
def ofCell : Value → Option AV
  | .int k n => some (.int k n)
  | .bool b => some (.bool b)
  | .string s => some (.str s.data.toList)
  | .pointer none => some .ptr0
  | .slice none 0 0 => some .sl0
  | .map none => some .map0
  | .nilFunc => some .fn0
  | .nilIface => some .ifc0
  | _ => none
def ofCells : List Value → Option (List AV)
  | [] => some []
  | v :: l => match ofCell v with
    | some a => match ofCells l with
      | some r => some (a :: r)
      | none => none
    | none => none
def ofV : Value → Option AV
  | .agg l => match ofCells l.toList with
    | some r => some (.agg r)
    | none => none
  | .tuple l => match ofCells l.toList with
    | some r => some (.tup r)
    | none => none
  | v => ofCell v
def cellsA : AV → List AV
  | .agg l => l
  | v => [v]
def oneA : AV → Bool
  | .agg _ | .tup _ => false
  | _ => true
def allOne : List AV → Bool
  | [] => true
  | v :: l => oneA v && allOne l
def getN (c : CT) : Nat → Nat → Option (List AV)
  | _, 0 => some []
  | i, k + 1 => match c.get i with
    | some v => match getN c (i + 1) k with
      | some l => some (v :: l)
      | none => none
    | none => none
def putL (c : CT) : Nat → List AV → CT
  | _, [] => c
  | i, v :: l => putL (c.put i v) (i + 1) l
def undefA : AV := .tup []
/-- the temporaries ('some none': one that is not known), what is deferred (the last one first), what was panicked with -/
structure Tm where
  t : Tr (Option AV)
  d : List AV
  p : Option AV
def Tm.get (tm : Tm) (n : Nat) : Option (Option AV) := tm.t.get n
def Tm.put (tm : Tm) (n : Nat) (x : Option AV) : Tm := ⟨tm.t.put n x, tm.d, tm.p⟩
/-- no temporary is written, nothing deferred, no panic -/
def Tm.nil : Tm := ⟨.lf, [], none⟩
def aval (tm : Tm) : Operand → Option AV
  | .tmp t => match tm.get t with
    | some x => x
    | none => some undefA
  | .const v => ofV v
  | .global _ => none
  | .func f => some (.fn (.func f) [] [])
def avals (tm : Tm) : List Operand → Option (List AV)
  | [] => some []
  | x :: l => match aval tm x with
    | some a => match avals tm l with
      | some r => some (a :: r)
      | none => none
    | none => none

/-! ### memory -/
def loadC (A i k : Nat) : M (List AV) := bnd (rd A) fun b => match b with
  | .cells c _ _ _ _ => opt (getN c i k)
  | _ => fail
def load1 (A i : Nat) : M AV := bnd (rd A) fun b => match b with
  | .cells c _ _ _ _ => opt (c.get i)
  | _ => fail
def storeC (A i : Nat) (l : List AV) : M Unit := bnd (rd A) fun b => match b with
  | .cells c n e frz odd => bif Nat.ble frz i && Nat.ble (i + l.length) n && allOne l then wr A (.cells (putL c i l) n e frz odd) else fail
  | _ => fail
def newC (e : TypeId) (l : List AV) : M Nat := bif allOne l then nw (.cells (putL .lf 0 l) l.length e 0 false) else fail
/-- so many times the same row -/
def newR (e : TypeId) (d : List AV) (k : Nat) : M Nat := bif allOne d then nw (.cells ⟨.lf, d, d.length, k * d.length⟩ (k * d.length) e 0 false) else fail
def newS (e : TypeId) (l : List AV) : M Nat := bif allOne l then nw (.cells (putL .lf 0 l) l.length e 0 true) else fail
def isAggT (P : Program) (t : TypeId) : Option Bool := match P.underlying t with
  | some (.struct _) | some (.array _ _) => some true
  | some _ => some false
  | none => none
def sizeT (P : Program) (t : TypeId) : Option Nat := match P.info? t with
  | some i => some i.size
  | none => none
def zeroT (P : Program) (t : TypeId) : Option AV := match P.info? t with
  | some i => match i.zero with
    | some v => ofV v
    | none => none
  | none => none
def loadT (P : Program) (t : TypeId) (A i : Nat) : M AV := match isAggT P t with
  | some true => bnd (opt (sizeT P t)) fun n => bnd (loadC A i n) fun l => ret (.agg l)
  | some false => load1 A i
  | none => fail
def storeT (P : Program) (t : TypeId) (A i : Nat) (v : AV) : M Unit := bnd (opt (sizeT P t)) fun n =>
  bif Nat.beq (cellsA v).length n then storeC A i (cellsA v) else fail
def partT (P : Program) (t : TypeId) (l : List AV) (off : Nat) : M AV := match isAggT P t with
  | some true => bnd (opt (sizeT P t)) fun n => ret (.agg ((l.drop off).take n))
  | some false => opt (l[off]?)
  | none => fail

/-! ### arithmetic -/
def inK (k : IntKind) (n : Int) : Bool := match k, n with
  | .i64, .ofNat m => Nat.blt m 9223372036854775808
  | .i64, .negSucc m => Nat.blt m 9223372036854775808
  | .u8, .ofNat m => Nat.blt m 256
  | .i32, .ofNat m => Nat.blt m 2147483648
  | .u64, .ofNat m => Nat.blt m 18446744073709551616
  | .u32, .ofNat m => Nat.blt m 4294967296
  | _, _ => false
def wrapA (k : IntKind) (n : Int) : Int := bif inK k n then n else k.wrap n
def eqB : List UInt8 → List UInt8 → Bool
  | [], [] => true
  | a :: l, b :: r => Nat.beq a.toNat b.toNat && eqB l r
  | _, _ => false
def eqInt : Int → Int → Bool
  | .ofNat a, .ofNat b => Nat.beq a b
  | .negSucc a, .negSucc b => Nat.beq a b
  | _, _ => false
def intA (op : BinOp) (k : IntKind) (x y : Int) : Option AV := match op with
  | .add => some (.int k (wrapA k (x + y)))
  | .sub => some (.int k (wrapA k (x - y)))
  | .mul => some (.int k (wrapA k (x * y)))
  | .quo => bif eqInt y 0 then none else some (.int k (wrapA k (x.tdiv y)))
  | .rem => bif eqInt y 0 then none else some (.int k (x.tmod y))
  | .and => some (.int k (k.wrap (BitVec.ofInt k.bits x &&& BitVec.ofInt k.bits y).toNat))
  | .or => some (.int k (k.wrap (BitVec.ofInt k.bits x ||| BitVec.ofInt k.bits y).toNat))
  | .xor => some (.int k (k.wrap (BitVec.ofInt k.bits x ^^^ BitVec.ofInt k.bits y).toNat))
  | .andNot => some (.int k (k.wrap (BitVec.ofInt k.bits x &&& ~~~ BitVec.ofInt k.bits y).toNat))
  | .eql => some (.bool (x == y))
  | .neq => some (.bool (x != y))
  | .lss => some (.bool (decide (x < y)))
  | .leq => some (.bool (decide (x ≤ y)))
  | .gtr => some (.bool (decide (x > y)))
  | .geq => some (.bool (decide (x ≥ y)))
  | _ => none
def shiftA (op : BinOp) (k : IntKind) (x y : Int) : Option AV := bif decide (y < 0) then none else match op with
  | .shl => some (.int k (k.wrap (x * 2 ^ min y.toNat k.bits)))
  | .shr => some (.int k (x.fdiv (2 ^ min y.toNat k.bits)))
  | _ => none
def strA (op : BinOp) (a b : List UInt8) : Option AV := match op with
  | .add => bif Nat.ble (a.length + b.length) 1000000000 then some (.str (a ++ b)) else none
  | .eql => some (.bool (eqB a b))
  | .neq => some (.bool (!eqB a b))
  | .lss => some (.bool (Op.bytesLess a b))
  | .leq => some (.bool (Op.bytesLess a b || eqB a b))
  | .gtr => some (.bool (!(Op.bytesLess a b || eqB a b)))
  | .geq => some (.bool (!Op.bytesLess a b))
  | _ => none
/-- two blocks of cells that are there and not marked -/
def aliveC (A : Nat) : M Unit := bnd (rd A) fun b => match b with
  | .cells _ _ _ 0 false => ret ()
  | _ => fail
/-- '==' of two values of a type; the places of structs are told by their fields -/
def eqA (P : Program) : Nat → TypeId → AV → AV → M Bool
  | 0, _, _, _ => fail
  | d + 1, t, x, y => match P.underlying t, x, y with
    | some .bool, .bool a, .bool b => ret (a == b)
    | some (.int _), .int k a, .int k' b => bif k == k' then ret (eqInt a b) else fail
    | some .string, .str a, .str b => ret (eqB a b)
    | some (.pointer _), .ptr0, .ptr0 => ret true
    | some (.pointer _), .ptr0, .ptr _ _ => ret false
    | some (.pointer _), .ptr _ _, .ptr0 => ret false
    | some (.pointer e), .ptr A i, .ptr B j => match sizeT P e with
      | some (_ + 1) => bif Nat.beq A B then ret (Nat.beq i j) else bnd (aliveC A) fun _ => bnd (aliveC B) fun _ => ret false
      | _ => fail
    | some (.interface _), .ifc0, .ifc0 => ret true
    | some (.interface _), .ifc0, .ifc _ _ => ret false
    | some (.interface _), .ifc _ _, .ifc0 => ret false
    | some (.interface _), .ifc tx vx, .ifc ty vy => bif Nat.beq tx ty then (match P.info? tx with
        | some i => bif i.comparable then eqA P d tx vx vy else fail
        | none => fail) else ret false
    | some (.struct fs), .agg xs, .agg ys => bif P.stoodInHeld t then fail else
        fs.toList.foldr (fun f k => bif f.name == "_" then fail else
          bnd (partT P f.type xs f.offset) fun a => bnd (partT P f.type ys f.offset) fun b => bnd (eqA P d f.type a b) fun r => bif r then k else ret false) (ret true)
    | some (.slice _), .sl0, .sl0 => ret true
    | some (.slice _), .sl0, .sl .. => ret false
    | some (.slice _), .sl .., .sl0 => ret false
    | some (.map _ _), .map0, .map0 => ret true
    | some (.map _ _), .map0, .map _ => ret false
    | some (.map _ _), .map _, .map0 => ret false
    | some (.func _ _ _), .fn0, .fn0 => ret true
    | some (.func _ _ _), .fn0, .fn .. => ret false
    | some (.func _ _ _), .fn .., .fn0 => ret false
    | _, _, _ => fail
def isConstO : Operand → Bool
  | .const _ => true
  | _ => false
/-- the guard ahead of '==': nothing where no two nil interface values of a type with methods meet -/
def guardB (P : Program) (t : TypeId) (x y : Operand) (a b : AV) : Bool := match a, b with
  | .ifc0, .ifc0 => isConstO x || isConstO y
  | .agg _, .agg _ => !P.eqGuardType P.depth t
  | .opq _, _ => false
  | _, .opq _ => false
  | _, _ => true
def guardA (P : Program) (op : BinOp) (t : TypeId) (x y : Operand) (a b : AV) : Bool := match op with
  | .eql | .neq => guardB P t x y a b
  | _ => true
def binA (P : Program) (op : BinOp) (t : TypeId) (a b : AV) : M AV := match op, a, b with
  | .shl, .int k x, .int _ y => opt (shiftA .shl k x y)
  | .shr, .int k x, .int _ y => opt (shiftA .shr k x y)
  | op, .int k x, .int k' y => bif k == k' then opt (intA op k x y) else fail
  | op, .str x, .str y => opt (strA op x y)
  | .eql, x, y => bnd (eqA P 10000 t x y) fun r => ret (.bool r)
  | .neq, x, y => bnd (eqA P 10000 t x y) fun r => ret (.bool (!r))
  | _, _, _ => fail
def unA (op : UnOp) (x : AV) : M AV := match op, x with
  | .neg, .int k n => ret (.int k (wrapA k (0 - n)))
  | .not, .bool b => ret (.bool (!b))
  | .xor, .int k n => opt (intA .xor k (if k.signed then -1 else k.max) n)
  | _, _ => fail
end Go.Proofs.YtelohloaoocoaaaGreatDoor.Zz
/- The executor: whether two states are one, and what two states have in common. -/
set_option linter.unusedVariables false
set_option linter.unusedSimpArgs false
set_option linter.deprecated false
namespace Go.Proofs.YtelohloaoocoaaaGreatDoor.Zz
open Go

mutual
def eqAV : AV → AV → Bool
  | .int k n, .int k' n' => decide (k = k') && decide (n = n')
  | .bool b, .bool b' => decide (b = b')
  | .str s, .str s' => decide (s = s')
  | .ptr0, .ptr0 => true
  | .ptr A i, .ptr A' i' => Nat.beq A A' && Nat.beq i i'
  | .sl0, .sl0 => true
  | .sl A i l c z e, .sl A' i' l' c' z' e' => Nat.beq A A' && Nat.beq i i' && Nat.beq l l' && Nat.beq c c' && Nat.beq z z' && decide (e = e')
  | .map0, .map0 => true
  | .map A, .map A' => Nat.beq A A'
  | .fn f x y, .fn f' x' y' => decide (f = f') && eqAVs x x' && eqAVs y y'
  | .fn0, .fn0 => true
  | .ifc t v, .ifc t' v' => Nat.beq t t' && eqAV v v'
  | .ifc0, .ifc0 => true
  | .agg l, .agg l' => eqAVs l l'
  | .tup l, .tup l' => eqAVs l l'
  | .opq k, .opq k' => Nat.beq k k'
  | .pan v, .pan v' => eqAV v v'
  | _, _ => false
def eqAVs : List AV → List AV → Bool
  | [], [] => true
  | a :: l, b :: r => eqAV a b && eqAVs l r
  | _, _ => false
end
mutual
theorem eqAV_eq : ∀ {a b : AV}, eqAV a b = true → a = b
  | .int k n, b, h => by cases b <;> simp [eqAV] at h; simp [h]
  | .bool b0, b, h => by cases b <;> simp [eqAV] at h; simp [h]
  | .str s, b, h => by cases b <;> simp [eqAV] at h; simp [h]
  | .ptr0, b, h => by cases b <;> simp [eqAV] at h; rfl
  | .ptr A i, b, h => by cases b <;> simp [eqAV] at h; simp [h]
  | .sl0, b, h => by cases b <;> simp [eqAV] at h; rfl
  | .sl A i l c z e, b, h => by cases b <;> simp [eqAV] at h; simp [h]
  | .map0, b, h => by cases b <;> simp [eqAV] at h; rfl
  | .map A, b, h => by cases b <;> simp [eqAV] at h; simp [h]
  | .fn f x y, b, h => by
    cases b <;> simp [eqAV] at h
    obtain ⟨⟨h1, h2⟩, h3⟩ := h
    rw [h1, eqAVs_eq h2, eqAVs_eq h3]
  | .fn0, b, h => by cases b <;> simp [eqAV] at h; rfl
  | .ifc t v, b, h => by
    cases b <;> simp [eqAV] at h
    rw [h.1, eqAV_eq h.2]
  | .ifc0, b, h => by cases b <;> simp [eqAV] at h; rfl
  | .agg l, b, h => by cases b <;> simp [eqAV] at h; rw [eqAVs_eq h]
  | .tup l, b, h => by cases b <;> simp [eqAV] at h; rw [eqAVs_eq h]
  | .opq k, b, h => by cases b <;> simp [eqAV] at h; simp [h]
  | .pan v, b, h => by
    cases b <;> simp [eqAV] at h
    rw [eqAV_eq h]
theorem eqAVs_eq : ∀ {l r : List AV}, eqAVs l r = true → l = r
  | [], r, h => by cases r with | nil => rfl | cons _ _ => simp [eqAVs] at h
  | a :: l, r, h => by
    cases r with
    | nil => simp [eqAVs] at h
    | cons b r =>
      simp [eqAVs] at h
      rw [eqAV_eq h.1, eqAVs_eq h.2]
end
mutual
theorem eqAV_refl : ∀ a : AV, eqAV a a = true
  | .int k n => by simp [eqAV]
  | .bool b0 => by simp [eqAV]
  | .str s => by simp [eqAV]
  | .ptr0 => by simp [eqAV]
  | .ptr A i => by simp [eqAV]
  | .sl0 => by simp [eqAV]
  | .sl A i l c z e => by simp [eqAV]
  | .map0 => by simp [eqAV]
  | .map A => by simp [eqAV]
  | .fn f x y => by simp [eqAV, eqAVs_refl x, eqAVs_refl y]
  | .fn0 => by simp [eqAV]
  | .ifc t v => by simp [eqAV, eqAV_refl v]
  | .ifc0 => by simp [eqAV]
  | .agg l => by simp [eqAV, eqAVs_refl l]
  | .tup l => by simp [eqAV, eqAVs_refl l]
  | .opq k => by simp [eqAV]
  | .pan v => by simp [eqAV, eqAV_refl v]
theorem eqAVs_refl : ∀ l : List AV, eqAVs l l = true
  | [] => by simp [eqAVs]
  | a :: l => by simp [eqAVs, eqAV_refl a, eqAVs_refl l]
end
def eqO {α : Type} (q : α → α → Bool) : Option α → Option α → Bool
  | none, none => true
  | some a, some b => q a b
  | _, _ => false
def eqTr {α : Type} (q : α → α → Bool) : Tr α → Tr α → Bool
  | .lf, .lf => true
  | .nd v l r, .nd v' l' r' => eqO q v v' && eqTr q l l' && eqTr q r r'
  | _, _ => false
theorem eqO_eq {α : Type} {q : α → α → Bool} (h : ∀ a b, q a b = true → a = b) {x y : Option α} (e : eqO q x y = true) : x = y := by
  cases x <;> cases y <;> first | rfl | (simp [eqO] at e; done) | (simp [eqO] at e; rw [h _ _ e])
theorem eqTr_eq {α : Type} {q : α → α → Bool} (h : ∀ a b, q a b = true → a = b) : ∀ {t u : Tr α}, eqTr q t u = true → t = u
  | .lf, .lf, _ => rfl
  | .lf, .nd _ _ _, e => by simp [eqTr] at e
  | .nd _ _ _, .lf, e => by simp [eqTr] at e
  | .nd v l r, .nd v' l' r', e => by
    simp [eqTr] at e
    rw [eqO_eq h e.1.1, eqTr_eq h e.1.2, eqTr_eq h e.2]
theorem eqTr_refl {α : Type} {q : α → α → Bool} (h : ∀ a, q a a = true) : ∀ t : Tr α, eqTr q t t = true
  | .lf => rfl
  | .nd v l r => by
    have : eqO q v v = true := by cases v <;> simp [eqO, h]
    simp [eqTr, this, eqTr_refl h l, eqTr_refl h r]
def eqEnt (a b : AV × AV × Nat) : Bool := eqAV a.1 b.1 && eqAV a.2.1 b.2.1 && Nat.beq a.2.2 b.2.2
theorem eqEnt_eq {a b : AV × AV × Nat} (h : eqEnt a b = true) : a = b := by
  obtain ⟨x, y, n⟩ := a
  obtain ⟨x', y', n'⟩ := b
  simp [eqEnt] at h
  rw [eqAV_eq h.1.1, eqAV_eq h.1.2, h.2]
theorem eqEnt_refl (a : AV × AV × Nat) : eqEnt a a = true := by simp [eqEnt, eqAV_refl]
def eqEnts : List (AV × AV × Nat) → List (AV × AV × Nat) → Bool
  | [], [] => true
  | a :: l, b :: r => eqEnt a b && eqEnts l r
  | _, _ => false
theorem eqEnts_eq : ∀ {l r : List (AV × AV × Nat)}, eqEnts l r = true → l = r
  | [], [], _ => rfl
  | [], _ :: _, h => by simp [eqEnts] at h
  | _ :: _, [], h => by simp [eqEnts] at h
  | a :: l, b :: r, h => by
    simp [eqEnts] at h
    rw [eqEnt_eq h.1, eqEnts_eq h.2]
theorem eqEnts_refl : ∀ l, eqEnts l l = true
  | [] => rfl
  | a :: l => by simp [eqEnts, eqEnt_refl, eqEnts_refl l]
def eqCT (a b : CT) : Bool := eqTr eqAV a.t b.t && (eqAVs a.d b.d && (Nat.beq a.z b.z && Nat.beq a.n b.n))
theorem eqCT_eq {a b : CT} (h : eqCT a b = true) : a = b := by
  obtain ⟨t, d, z, n⟩ := a
  obtain ⟨t', d', z', n'⟩ := b
  simp only [eqCT, Bool.and_eq_true, Nat.beq_eq] at h
  rw [eqTr_eq (fun _ _ => eqAV_eq) h.1, eqAVs_eq h.2.1, h.2.2.1, h.2.2.2]
theorem eqCT_refl (a : CT) : eqCT a a = true := by simp [eqCT, eqTr_refl eqAV_refl, eqAVs_refl]
def eqBlk : ABlk → ABlk → Bool
  | .cells c n e f o, .cells c' n' e' f' o' => eqCT c c' && Nat.beq n n' && Nat.beq e e' && Nat.beq f f' && decide (o = o')
  | .map es k, .map es' k' => eqEnts es es' && Nat.beq k k'
  | .siter s p, .siter s' p' => decide (s = s') && Nat.beq p p'
  | .miter a s l k, .miter a' s' l' k' => decide (a = a') && Nat.beq s s' && decide (l = l') && Nat.beq k k'
  | .mforce a s l k c q, .mforce a' s' l' k' c' q' => decide (a = a') && Nat.beq s s' && decide (l = l') && Nat.beq k k' && eqO eqEnt c c' && Nat.beq q q'
  | .dead, .dead => true
  | .abs k, .abs k' => Nat.beq k k'
  | _, _ => false
theorem eqBlk_eq {a b : ABlk} (h : eqBlk a b = true) : a = b := by
  cases a <;> cases b <;> simp [eqBlk] at h
  case cells.cells => rw [eqCT_eq h.1.1.1.1, h.1.1.1.2, h.1.1.2, h.1.2, h.2]
  case map.map => rw [eqEnts_eq h.1, h.2]
  case siter.siter => rw [h.1, h.2]
  case miter.miter => rw [h.1.1.1, h.1.1.2, h.1.2, h.2]
  case mforce.mforce => rw [h.1.1.1.1.1, h.1.1.1.1.2, h.1.1.1.2, h.1.1.2, eqO_eq (fun _ _ => eqEnt_eq) h.1.2, h.2]
  case dead.dead => rfl
  case abs.abs => rw [h]
theorem eqBlk_refl (a : ABlk) : eqBlk a a = true := by
  cases a with
  | cells c n e f o => simp [eqBlk, eqCT_refl]
  | map es k => simp [eqBlk, eqEnts_refl]
  | siter s p => simp [eqBlk]
  | miter a s l k => simp [eqBlk]
  | mforce a s l k c q =>
    have : eqO eqEnt c c = true := by cases c <;> simp [eqO, eqEnt_refl]
    simp [eqBlk, this]
  | dead => rfl
  | abs k => simp [eqBlk]

/-- two tables, one number at a time -/
def Tr.right {α : Type} (f : Option α → Option α → Option α) : Tr α → Tr α
  | .lf => .lf
  | .nd v l r => .nd (f none v) (Tr.right f l) (Tr.right f r)
def Tr.left {α : Type} (f : Option α → Option α → Option α) : Tr α → Tr α
  | .lf => .lf
  | .nd v l r => .nd (f v none) (Tr.left f l) (Tr.left f r)
def Tr.zip {α : Type} (f : Option α → Option α → Option α) : Tr α → Tr α → Tr α
  | .lf, u => Tr.right f u
  | .nd v l r, .lf => Tr.left f (.nd v l r)
  | .nd v l r, .nd v' l' r' => .nd (f v v') (Tr.zip f l l') (Tr.zip f r r')
theorem Tr.get_right {α : Type} {f : Option α → Option α → Option α} (hf : f none none = none) : ∀ (u : Tr α) (k : Nat), (Tr.right f u).get k = f none (u.get k)
  | .lf, k => by simp [Tr.right, Tr.get, hf]
  | .nd v l r, k => by
    simp only [Tr.right, Tr.get]
    cases Nat.beq k 0 with
    | true => rfl
    | false =>
      simp only [cond_false]
      cases Nat.beq (k % 2) 1 with
      | true => exact Tr.get_right hf l _
      | false => exact Tr.get_right hf r _
theorem Tr.get_left {α : Type} {f : Option α → Option α → Option α} (hf : f none none = none) : ∀ (u : Tr α) (k : Nat), (Tr.left f u).get k = f (u.get k) none
  | .lf, k => by simp [Tr.left, Tr.get, hf]
  | .nd v l r, k => by
    simp only [Tr.left, Tr.get]
    cases Nat.beq k 0 with
    | true => rfl
    | false =>
      simp only [cond_false]
      cases Nat.beq (k % 2) 1 with
      | true => exact Tr.get_left hf l _
      | false => exact Tr.get_left hf r _
theorem Tr.get_zip {α : Type} {f : Option α → Option α → Option α} (hf : f none none = none) : ∀ (t u : Tr α) (k : Nat), (Tr.zip f t u).get k = f (t.get k) (u.get k)
  | .lf, u, k => by rw [Tr.zip, Tr.get_right hf]; rfl
  | .nd v l r, .lf, k => by rw [Tr.zip, Tr.get_left hf]; rfl
  | .nd v l r, .nd v' l' r', k => by
    simp only [Tr.zip, Tr.get]
    cases Nat.beq k 0 with
    | true => rfl
    | false =>
      simp only [cond_false]
      cases Nat.beq (k % 2) 1 with
      | true => exact Tr.get_zip hf l l' _
      | false => exact Tr.get_zip hf r r' _
/-- a block that is the same in both -/
def bothB : Option ABlk → Option ABlk → Option ABlk
  | some a, some b => bif eqBlk a b then some a else none
  | _, _ => none
/-- a temporary: what it is in both, or that it is not known -/
def bothT : Option (Option AV) → Option (Option AV) → Option (Option AV)
  | none, none => none
  | some (some a), some (some b) => bif eqAV a b then some (some a) else some none
  | _, _ => some none
def exEq : Exit → Exit → Bool
  | .normal, .normal => true
  | .ret, .ret => true
  | .exit i, .exit j => Nat.beq i j
  | _, _ => false
theorem exEq_eq {x y : Exit} (h : exEq x y = true) : x = y := by
  cases x <;> cases y <;> simp [exEq] at h <;> first | rfl | rw [h]
/-- two runs from one state: what both come to -/
def join2 (x y : M (Exit × Tm)) : M (Exit × Tm) := fun s => match x s with
  | none => none
  | some ((ex, t), s1) => match y ⟨s.heap, s.next, s1.log⟩ with
    | none => none
    | some ((ex2, t2), s2) => bif exEq ex ex2 && eqAVs t.d t2.d && (t.p.isNone && t2.p.isNone) then some ((ex, ⟨Tr.zip bothT t.t t2.t, t.d, none⟩), ⟨Tr.zip bothB s1.heap s2.heap, bif Nat.ble s1.next s2.next then s2.next else s1.next, s2.log⟩) else none
def joinAll (x : M (Exit × Tm)) : List (M (Exit × Tm)) → M (Exit × Tm)
  | [] => x
  | y :: l => join2 x (joinAll y l)
end Go.Proofs.YtelohloaoocoaaaGreatDoor.Zz
/- The executor: operations, regions, code, calls. -/
set_option linter.unusedVariables false
set_option linter.unusedSimpArgs false
set_option linter.deprecated false
namespace Go.Proofs.YtelohloaoocoaaaGreatDoor.Zz
open Go

/-- what is asked of a value that is not known -/
inductive Q where
  | len (t : TypeId) (k : Nat)
  | bin (op : BinOp) (a b : AV)
  | idx (t : TypeId) (k j : Nat)
  | load (t : TypeId) (k : Nat)
structure Hooks where
  fn : FuncId → Option (List AV → M AV)
  ora : Q → Option AV
/-- how a frame stands while a deferred call of it runs -/
inductive MA where
  | rtn
  | pan (v : AV) (rec : Bool)
structure Ex where
  call : FuncId → List AV → M AV
  loop : Nat → Code → Tm → M (Exit × Tm)
  callD : FuncId → List AV → MA → M MA

def asInt : AV → M Int
  | .int _ n => ret n
  | _ => fail
def asNat : AV → M Nat
  | .int _ (.ofNat n) => ret n
  | _ => fail
def ints (l : List UInt8) : List AV := l.map fun b => .int .u8 b.toNat
def bytesOf : List AV → Option (List UInt8)
  | [] => some []
  | .int .u8 n :: l => match bytesOf l with
    | some r => some (UInt8.ofNat n.toNat :: r)
    | none => none
  | _ => none
def natOf : AV → Option Nat
  | .int _ (.ofNat n) => some n
  | _ => none
def boundP (v : Option AV) (y d : Nat) : Option Nat := match v with
  | none => some d
  | some a => match natOf a with
    | some n => bif Nat.ble n y then some n else none
    | none => none
/-- [low:high:max] within (length, capacity) -/
def boundsP (len cap : Nat) (lo hi mx : Option AV) : Option (Nat × Nat × Nat) := bif mx.isSome && hi.isNone then none else
  (boundP mx cap cap).bind fun m => (boundP hi m len).bind fun h => (boundP lo h 0).bind fun l => some (l, h, m)
def oAval (tm : Tm) : Option Operand → Option (Option AV)
  | none => some none
  | some x => match aval tm x with
    | some a => some (some a)
    | none => none
def sliceA (P : Program) (t : TypeId) (x : AV) (lo hi mx : Option AV) : M AV := match P.underlying t, x with
  | some .string, .str s => (match mx with
    | some _ => fail
    | none => bnd (opt (boundsP s.length s.length lo hi none)) fun (l, h, _) => ret (.str ((s.drop l).take (h - l))))
  | some (.slice e), .sl A i len cap sz ex => bnd (opt (boundsP len cap lo hi mx)) fun (l, h, m) =>
      bnd (opt (sizeT P e)) fun n => bif Nat.beq n sz then ret (.sl A (i + l * sz) (h - l) (m - l) sz (ex || mx.isSome)) else fail
  | some (.slice e), .sl0 => bnd (opt (boundsP 0 0 lo hi mx)) fun _ => bnd (opt (sizeT P e)) fun _ => ret .sl0
  | some (.array n e), .ptr A i => bnd (opt (boundsP n n lo hi mx)) fun (l, h, m) => bnd (opt (sizeT P e)) fun z =>
      bnd (rd A) fun b => match b with
        | .cells _ k _ _ _ => bif Nat.ble (i + n * z) k then ret (.sl A (i + l * z) (h - l) (m - l) z true) else fail
        | _ => fail
  | _, _ => fail
/-- the slice is made anew, with more room; what lies in its old block is forgotten, where the new one may be the old one -/
def growA (A j len sz k : Nat) (ex : Bool) (cap : Nat) (e : TypeId) (new : List AV) : M AV := bnd (rd A) fun b => match b with
  | .cells c _ e' frz odd => bnd (opt (getN c j (len * sz))) fun old =>
      bif allOne old && (bif Nat.beq cap 0 then Nat.beq frz 0 else Nat.ble frz (j + len * sz)) && Nat.beq e' e then
        bnd (bif ex then ret () else wr A .dead) fun _ =>
        bnd (nw (.cells (putL .lf 0 (old ++ new)) (old ++ new).length e (bif ex then 0 else (frz - j)) true)) fun B => ret (.sl B 0 (len + k) (len + k) sz false)
      else fail
  | _ => fail
/-- 'append(s, ..)' of cells that have been read -/
def appendA (P : Program) (e : TypeId) (s : AV) (k : Nat) (new : List AV) : M AV := match P.info? e with
  | none => fail
  | some i => match i.zero with
    | none => fail
    | some z => bif Nat.ble i.bytes 4096 && Nat.ble 1 i.bytes && Nat.ble 1 i.size && Nat.beq new.length (k * i.size) && allOne new && Nat.beq z.cells.size i.size then
      (match s with
      | .sl0 => bif Nat.beq k 0 then ret .sl0 else bif Nat.ble k 1000000 then bnd (newS e new) fun A => ret (.sl A 0 k k i.size false) else fail
      | .sl A j len cap sz ex =>
        bif Nat.beq k 0 then ret (.sl A j len cap sz ex) else
        bif Nat.beq sz i.size && Nat.ble (len + k) 1000000 then
          (bif Nat.ble (len + k) cap then bnd (storeC A (j + len * sz) new) fun _ => ret (.sl A j (len + k) cap sz ex)
          else growA A j len sz k ex cap e new)
        else fail
      | _ => fail)
    else fail
/-- the cells of a slice, or of a string's bytes -/
def cellsIn (size : Nat) : AV → M (Nat × List AV)
  | .sl0 => ret (0, [])
  | .sl A i len _ sz _ => bif Nat.beq sz size then (bif Nat.beq len 0 then ret (0, []) else bnd (loadC A i (len * sz)) fun l => ret (len, l)) else fail
  | .str s => bif Nat.beq size 1 then ret (s.length, ints s) else fail
  | _ => fail
def fillA : List AV → List (Nat × List AV) → Option (List AV)
  | cs, [] => some cs
  | cs, (off, l) :: r => bif Nat.ble (off + l.length) cs.length then fillA (cs.take off ++ l ++ cs.drop (off + l.length)) r else none
def sameKey : AV → AV → Option Bool
  | .int k a, .int k' b => bif k == k' then some (eqInt a b) else none
  | .str a, .str b => some (eqB a b)
  | .bool a, .bool b => some (a == b)
  | _, _ => none
def findA (k : AV) : List (AV × AV × Nat) → Nat → Option (Option (Nat × AV))
  | [], _ => some none
  | (k', v, _) :: l, i => match sameKey k k' with
    | some true => some (some (i, v))
    | some false => findA k l (i + 1)
    | none => none
def keyOk (P : Program) (t : TypeId) (k : AV) : Bool := match P.underlying t, k with
  | some (.int _), .int _ _ => true
  | some .string, .str _ => true
  | some .bool, .bool _ => true
  | _, _ => false
def setAt {α : Type} : List α → Nat → α → List α
  | [], _, _ => []
  | _ :: l, 0, x => x :: l
  | y :: l, i + 1, x => y :: setAt l i x
def lookFin (P : Program) (et : TypeId) (k : AV) (ok : Bool) (es : List (AV × AV × Nat)) : M AV := match findA k es 0 with
  | none => fail
  | some (some (_, v)) => ret (if ok then .tup [v, .bool true] else v)
  | some none => match zeroT P et with
    | none => fail
    | some z => ret (if ok then .tup [z, .bool false] else z)
def lookA (P : Program) (t : TypeId) (x k : AV) (ok : Bool) : M AV := match P.underlying t, x with
  | some (.map kt et), .map0 => bif keyOk P kt k then lookFin P et k ok [] else fail
  | some (.map kt et), .map A => bif keyOk P kt k then bnd (rd A) fun b => (match b with
      | .map es _ => lookFin P et k ok es
      | _ => fail) else fail
  | _, _ => fail
def mapUpA (P : Program) (t : TypeId) (x k v : AV) : M Unit := match P.underlying t, x with
  | some (.map kt _), .map A => bif keyOk P kt k then bnd (rd A) fun b => match b with
      | .map es clk => bnd (opt (findA k es 0)) fun r => (match r with
        | some (i, _) => (match es[i]? with
          | some (k', _, b) => wr A (.map (setAt es i (k', v, b)) clk)
          | none => fail)
        | none => wr A (.map (es ++ [(k, v, clk)]) (clk + 1)))
      | _ => fail
    else fail
  | _, _ => fail
def assertA (P : Program) (x : AV) (asserted : TypeId) (ok : Bool) : M AV := match P.underlying asserted, x with
  | some (.interface want), .ifc t v => (match P.info? t with
    | some i => (match Instr.missingMethod want i.methods with
      | none => ret (if ok then .tup [.ifc t v, .bool true] else .ifc t v)
      | some _ => bif ok then bnd (opt (zeroT P asserted)) fun z => ret (.tup [z, .bool false]) else fail)
    | none => fail)
  | some (.interface _), .ifc0 => bif ok then bnd (opt (zeroT P asserted)) fun z => ret (.tup [z, .bool false]) else fail
  | some _, .ifc0 => bif ok then bnd (opt (zeroT P asserted)) fun z => ret (.tup [z, .bool false]) else fail
  | some _, .ifc t v => bif Nat.beq t asserted then ret (if ok then .tup [v, .bool true] else v) else bif ok then bnd (opt (zeroT P asserted)) fun z => ret (.tup [z, .bool false]) else fail
  | _, _ => fail
/-- the method of a dynamic type, and its receiver -/
inductive Pl where
  | val (v : AV)
  | var (A i : Nat)
def getP (P : Program) (t : TypeId) : Pl → M AV
  | .val v => ret v
  | .var A i => loadT P t A i
def followA (P : Program) : List FieldStep → TypeId → Pl → M (TypeId × Pl)
  | [], t, x => ret (t, x)
  | s :: r, t, x => match P.underlying s.struct with
    | some (.struct fs) => (match fs[s.index]? with
      | some f => (match sizeT P f.type with
        | some (_ + 1) => bif s.deref then bnd (getP P t x) fun v => (match v with
            | .ptr A i => followA P r f.type (.var A (i + f.offset))
            | _ => fail)
          else (match x with
            | .var A i => followA P r f.type (.var A (i + f.offset))
            | .val (.agg l) => bnd (partT P f.type l f.offset) fun v => followA P r f.type (.val v)
            | _ => fail)
        | _ => fail)
      | none => fail)
    | _ => fail
def recvA (P : Program) (t : TypeId) (x : Pl) (pr : Bool) : M AV := match P.underlying t, pr with
  | some (.pointer _), true => getP P t x
  | some (.pointer e), false => bnd (getP P t x) fun v => (match v with
    | .ptr A i => loadT P e A i
    | _ => fail)
  | some _, true => (match x with
    | .var A i => ret (.ptr A i)
    | _ => fail)
  | some _, false => getP P t x
  | none, _ => fail
def methN (P : Program) : Nat → TypeId → AV → String → M (FuncId × AV)
  | 0, _, _, _ => fail
  | n + 1, t, v, name => match P.info? t with
    | none => fail
    | some i => match i.methods.find? (·.name == name) with
      | none => fail
      | some m => bnd (followA P m.path.toList t (.val v)) fun (xt, x) => (match m.func with
        | none => bnd (getP P xt x) fun y => (match y with
          | .ifc t' v' => methN P n t' v' name
          | _ => fail)
        | some (f, pr) => bnd (recvA P xt x pr) fun r => ret (f, r))
def methA (P : Program) (t : TypeId) (v : AV) (name : String) : M (FuncId × AV) := methN P 4 t v name
def funcA (P : Program) (H : Hooks) (e : Ex) (f : FuncId) (args : List AV) : M AV := match H.fn f with
  | some h => h args
  | none => match P.funcs[f]? with
    | some fn => bif fn.name == "runtime.NumGoroutine" || fn.body.isNone then fail else e.call f args
    | none => fail
def copyFin (d : AV) (n : Nat) (p : Nat × List AV) : M AV := match d with
  | .sl0 => ret (.int .i64 0)
  | .sl A i len _ sz _ => bif Nat.beq len 0 then ret (.int .i64 0) else bif Nat.beq sz n then bnd (storeC A i (p.2.take (min p.1 len * n))) fun _ => ret (.int .i64 (min p.1 len : Nat)) else fail
  | _ => fail
def copyA (P : Program) (t : TypeId) (d x : AV) : M AV := match P.underlying t with
  | some (.slice e) => bnd (opt (sizeT P e)) fun n => bnd (cellsIn n x) fun p => copyFin d n p
  | _ => fail
def deleteA (P : Program) (t : TypeId) (x k : AV) : M AV := match P.underlying t, x with
  | some (.map kt _), .map A => bif keyOk P kt k then bnd (rd A) fun b => (match b with
    | .map es clk => bnd (opt (findA k es 0)) fun r => (match r with
      | some (i, _) => bnd (wr A (.map (es.eraseIdx i) clk)) fun _ => ret undefA
      | none => bnd (wr A (.map es clk)) fun _ => ret undefA)
    | _ => fail) else fail
  | _, _ => fail
def builtA (P : Program) (b : Builtin) (ts : List TypeId) (args : List AV) : M AV := match b, ts, args with
  | .append, t :: t' :: [], [s, x] => (match P.underlying t, P.underlying t' with
    | some (.slice e), some (.slice _) => bnd (opt (sizeT P e)) fun n => bnd (cellsIn n x) fun p => appendA P e s p.1 p.2
    | some (.slice e), some .string => bnd (opt (sizeT P e)) fun n => bnd (cellsIn n x) fun p => appendA P e s p.1 p.2
    | _, _ => fail)
  | .len, t :: _, [x] => (match P.underlying t, x with
    | some .string, .str s => ret (.int .i64 s.length)
    | some (.array n _), _ => ret (.int .i64 n)
    | some (.pointer a), _ => (match P.underlying a with | some (.array n _) => ret (.int .i64 n) | _ => fail)
    | some (.slice _), .sl0 => ret (.int .i64 0)
    | some (.slice _), .sl _ _ n _ _ _ => ret (.int .i64 n)
    | some (.map _ _), .map0 => ret (.int .i64 0)
    | some (.map _ _), .map A => bnd (rd A) fun b => (match b with | .map es _ => ret (.int .i64 es.length) | _ => fail)
    | _, _ => fail)
  | .copy, t :: _, [d, x] => copyA P t d x
  | .delete, t :: _, [x, k] => deleteA P t x k
  | .min, _, [.int k a, .int k' b] => bif k == k' then ret (.int k (if b < a then b else a)) else fail
  | .max, _, [.int k a, .int k' b] => bif k == k' then ret (.int k (if b > a then b else a)) else fail
  | _, _, _ => fail
def placesA (pls : List (Nat × Nat)) : List (Nat × Operand) → Option (List (Nat × Nat × Operand))
  | [] => some []
  | (i, x) :: r => match pls[i]? with
    | some (off, z) => match placesA pls r with
      | some l => some ((off, z, x) :: l)
      | none => none
    | none => none
def arrPlaces (n : Nat) : List (Nat × Operand) → List (Nat × Nat × Operand)
  | [] => []
  | (i, x) :: r => (i * n, n, x) :: arrPlaces n r
def partsA (tm : Tm) : List (Nat × Nat × Operand) → Option (List (Nat × List AV))
  | [] => some []
  | (off, z, x) :: r => match aval tm x with
    | some v => bif Nat.beq (cellsA v).length z then (match partsA tm r with
      | some l => some ((off, cellsA v) :: l)
      | none => none) else none
    | none => none
def repeatL (z : List AV) : Nat → List AV
  | 0 => []
  | n + 1 => z ++ repeatL z n
def cvtA (P : Program) (src dst : TypeId) (x : AV) : M AV := match P.underlying src, P.underlying dst, x with
  | some _, some (.int k), .int _ n => ret (.int k (wrapA k n))
  | some _, some .string, .str s => ret (.str s)
  | some _, some .string, .int _ n => ret (.str (Utf8.encode n).data.toList)
  | some _, some (.slice e), .str s => (match P.underlying e with
    | some (.int .u8) => bnd (nw (.cells (putL .lf 0 (ints s)) (ints s).length e 0 true)) fun A => ret (.sl A 0 s.length s.length 1 false)
    | _ => fail)
  | some (.slice e), some .string, .sl0 => (match P.underlying e with
    | some (.int .u8) => ret (.str [])
    | _ => fail)
  | some (.slice e), some .string, .sl A i len cap sz ex => (match P.underlying e with
    | some (.int .u8) => bnd (cellsIn 1 (.sl A i len cap sz ex)) fun p => bnd (opt (bytesOf p.2)) fun s => ret (.str s)
    | _ => fail)
  | _, _, _ => fail
/-- one operation that stands in a region -/
def lastN : List Nat → Option Nat
  | [] => none
  | [x] => some x
  | _ :: l => lastN l
def bornA (n : Option Nat) (es : List (AV × AV × Nat)) : Option (AV × AV) := match n with
  | none => none
  | some n => match es with
    | [] => none
    | (k, u, b) :: l => bif Nat.beq b n then some (k, u) else bornA (some n) l
def elemN (x : Nat) : List Nat → Bool
  | [] => false
  | y :: l => Nat.beq x y || elemN x l
/-- the entries that have not come yet -/
def leftA (seen : List Nat) : List (AV × AV × Nat) → List (AV × AV × Nat)
  | [] => []
  | (k, u, b) :: l => bif elemN b seen then leftA seen l else (k, u, b) :: leftA seen l
def allBefore (since : Nat) : List (AV × AV × Nat) → Bool
  | [] => true
  | (_, _, b) :: l => Nat.blt b since && allBefore since l
def opA (P : Program) (H : Hooks) (e : Ex) (o : Oper) (tm : Tm) : M AV := match o.op with
  | .move x | .assign x => opt (aval tm x)
  | .pick c a b => bnd (opt (aval tm c)) fun c => (match c with
    | .bool true => opt (aval tm a)
    | .bool false => opt (aval tm b)
    | _ => fail)
  | .alloc t => bnd (opt (zeroT P t)) fun z => bnd (newC t (cellsA z)) fun A => ret (.ptr A 0)
  | .box t x => bnd (opt (aval tm x)) fun v => bnd (newC t (cellsA v)) fun A => ret (.ptr A 0)
  | .build t ps => bnd (opt (zeroT P t)) fun z => (match P.underlying t with
    | some (.struct fs) => bnd (opt (fs.toList.mapM fun f => (P.info? f.type).map fun i => (f.offset, i.size))) fun pls => bnd (opt (placesA pls ps.toList)) fun pl => bnd (opt (partsA tm pl)) fun l => bnd (opt (fillA (cellsA z) l)) fun cs => ret (.agg cs)
    | some (.array _ el) => bnd (opt (sizeT P el)) fun n => bnd (opt (partsA tm (arrPlaces n ps.toList))) fun l => bnd (opt (fillA (cellsA z) l)) fun cs => ret (.agg cs)
    | _ => fail)
  | .buildSlice t len ps => (match P.underlying t with
    | some (.slice el) => bnd (opt (sizeT P el)) fun n => bnd (opt (zeroT P el)) fun z =>
        bif Nat.ble 1 n && Nat.beq (cellsA z).length n && Nat.ble (len * n) 16777216 then
          bnd (opt (partsA tm (arrPlaces n ps.toList))) fun l => bnd (opt (fillA (repeatL (cellsA z) len) l)) fun cs =>
          bnd (newC el cs) fun A => ret (.sl A 0 len len n true)
        else fail
    | _ => fail)
  | .load t x => bnd (opt (aval tm x)) fun v => (match v with
    | .ptr A i => loadT P t A i
    | _ => fail)
  | .store t x y => bnd (opt (aval tm x)) fun v => bnd (opt (aval tm y)) fun u => (match v with
    | .ptr A i => bnd (storeT P t A i u) fun _ => ret undefA
    | _ => fail)
  | .nilCheck x => bnd (opt (aval tm x)) fun v => (match v with
    | .ptr A i => ret (.ptr A i)
    | .ifc t u => ret (.ifc t u)
    | .fn (.func f) a b => ret (.fn (.func f) a b)
    | _ => fail)
  | .binOp op t x y _ => bnd (opt (aval tm x)) fun a => bnd (opt (aval tm y)) fun b => bif guardA P op t x y a b then binA P op t a b else fail
  | .unOp op _ x => bnd (opt (aval tm x)) fun a => unA op a
  | .convert src dst x => bnd (opt (aval tm x)) fun a => cvtA P src dst a
  | .makeInterface t x => bnd (opt (aval tm x)) fun a => (match P.underlying t with
    | some (.interface _) => fail
    | some _ => ret (.ifc t a)
    | none => fail)
  | .makeFunc f a b => bnd (opt (avals tm a.toList)) fun x => bnd (opt (avals tm b.toList)) fun y => ret (.fn f x y)
  | .makeMap t r => (match r with
    | none => bnd (nw (.map [] 0)) fun A => ret (.map A)
    | some x => bnd (opt (aval tm x)) fun v => (match P.underlying t, v with
      | some (.map _ _), .int _ _ => bnd (nw (.map [] 0)) fun A => ret (.map A)
      | _, _ => fail))
  | .makeSlice t l c => bnd (opt (aval tm l)) fun l => bnd (opt (aval tm c)) fun c => bnd (asNat l) fun l => bnd (asNat c) fun c => (match P.underlying t with
    | some (.slice el) => bnd (opt (sizeT P el)) fun n => bnd (opt (zeroT P el)) fun z =>
        bif Nat.ble 1 n && Nat.beq (cellsA z).length n && Nat.ble l c && Nat.ble c 65536 && Nat.ble (P.bytesOf el) 65536 then
          bnd (newR el (cellsA z) c) fun A => ret (.sl A 0 l c n true)
        else fail
    | _ => fail)
  | .slice t x lo hi mx => bnd (opt (aval tm x)) fun v => bnd (opt (oAval tm lo)) fun l => bnd (opt (oAval tm hi)) fun h => bnd (opt (oAval tm mx)) fun m => sliceA P t v l h m
  | .fieldAddr t x f => bnd (opt (aval tm x)) fun v => (match P.underlying t, v with
    | some (.struct fs), .ptr A i => (match fs[f]? with
      | some fd => (match sizeT P fd.type with
        | some (_ + 1) => ret (.ptr A (i + fd.offset))
        | _ => fail)
      | none => fail)
    | _, _ => fail)
  | .field t x f => bnd (opt (aval tm x)) fun v => (match P.underlying t, v with
    | some (.struct fs), .agg l => (match fs[f]? with
      | some fd => partT P fd.type l fd.offset
      | none => fail)
    | _, _ => fail)
  | .indexAddr t x y => bnd (opt (aval tm x)) fun v => bnd (opt (aval tm y)) fun j => bnd (asNat j) fun j => (match P.underlying t, v with
    | some (.array n el), .ptr A i => bnd (opt (sizeT P el)) fun z => bif Nat.blt j n then ret (.ptr A (i + j * z)) else fail
    | some (.slice el), .sl A i len _ sz _ => bnd (opt (sizeT P el)) fun z => bif Nat.blt j len && Nat.beq z sz then ret (.ptr A (i + j * sz)) else fail
    | _, _ => fail)
  | .index t x y => bnd (opt (aval tm x)) fun v => bnd (opt (aval tm y)) fun j => bnd (asNat j) fun j => (match P.underlying t, v with
    | some (.array n el), .agg l => bnd (opt (sizeT P el)) fun z => bif Nat.blt j n then partT P el l (j * z) else fail
    | some .string, .str s => (match s[j]? with
      | some b => ret (.int .u8 b.toNat)
      | none => fail)
    | _, _ => fail)
  | .lookup t x y ok => bnd (opt (aval tm x)) fun v => bnd (opt (aval tm y)) fun k => lookA P t v k ok
  | .mapUpdate t x y z | .insert t x y z => bnd (opt (aval tm x)) fun v => bnd (opt (aval tm y)) fun k => bnd (opt (aval tm z)) fun u => bnd (mapUpA P t v k u) fun _ => ret undefA
  | .range t x => bnd (opt (aval tm x)) fun v => (match P.underlying t, v with
    | some .string, .str s => bnd (nw (.siter s 0)) fun A => ret (.ptr A 0)
    | some (.map _ _), .map0 => bnd (nw (.miter none 0 [] 0)) fun A => ret (.ptr A 0)
    | some (.map _ _), .map mA => bnd (rd mA) fun b => (match b with
      | .map _ clk => bnd (nw (.miter (some mA) clk [] clk)) fun A => ret (.ptr A 0)
      | _ => fail)
    | _, _ => fail)
  | .next x true => bnd (opt (aval tm x)) fun v => (match v with
    | .ptr A 0 => bnd (rd A) fun b => (match b with
      | .siter s pos => (match s[pos]? with
        | some c => bif Nat.blt c.toNat 128 then bnd (wr A (.siter s (pos + 1))) fun _ => ret (.tup [.bool true, .int .i64 pos, .int .i32 c.toNat]) else fail
        | none => ret (.tup [.bool false]))
      | _ => fail)
    | _ => fail)
  | .next x false => bnd (opt (aval tm x)) fun v => (match v with
    | .ptr A 0 => bnd (rd A) fun b => (match b with
      | .mforce a since seen last c clk => (match c with
        | none => bnd (wr A (.miter a since seen last)) fun _ => ret (.tup [.bool false])
        | some (k, u, n) => bnd (wr A (.miter a since (seen ++ [n]) clk)) fun _ => ret (.tup [.bool true, k, u]))
      | _ => fail)
    | _ => fail)
  | .entry x => bnd (opt (aval tm x)) fun v => (match v with
    | .ptr A 0 => bnd (rd A) fun b => (match b with
      | .miter (some mA) _ seen last => bnd (rd mA) fun b => (match b with
        | .map es clk => bif Nat.beq clk last then bnd (opt (bornA (lastN seen) es)) fun (k, u) => ret (.tup [k, u]) else fail
        | _ => fail)
      | _ => fail)
    | _ => fail)
  | .typeAssert x _ t ok => bnd (opt (aval tm x)) fun v => assertA P v t ok
  | .extract x i => bnd (opt (aval tm x)) fun v => (match v with
    | .tup l => opt (l[i]?)
    | _ => fail)
  | .call c => bnd (opt (avals tm c.args.toList)) fun args => (match c.callee with
    | .builtin b => builtA P b c.argTypes.toList args
    | .invoke r name => bnd (opt (aval tm r)) fun v => (match v with
      | .ifc t u => bnd (methA P t u name) fun (f, rc) => funcA P H e f (rc :: args)
      | _ => fail)
    | .value f => bnd (opt (aval tm f)) fun v => (match v with
      | .fn (.func f) first cap => funcA P H e f (first ++ args ++ cap)
      | .fn (.method name) first cap => (match first ++ args, cap with
        | .ifc t u :: rest, _ => bnd (methA P t u name) fun (f, rc) => funcA P H e f (rc :: rest)
        | _, _ => fail)
      | _ => fail))
  | _ => fail
def isOpq : AV → Bool
  | .opq _ => true
  | _ => false
def oraKey (tm : Tm) (op : Op) : Option Q := match op with
  | .call c => (match c.callee, c.args.toList, c.argTypes.toList with
    | .builtin .len, [x], t :: _ => (match aval tm x with
      | some (.opq k) => some (.len t k)
      | _ => none)
    | _, _, _ => none)
  | .binOp op _ x y _ => (match aval tm x, aval tm y with
    | some a, some b => bif isOpq a || isOpq b then some (.bin op a b) else none
    | _, _ => none)
  | .indexAddr t x y => (match aval tm x, aval tm y with
    | some (.opq k), some (.int _ (.ofNat j)) => some (.idx t k j)
    | _, _ => none)
  | .load t x => (match aval tm x with
    | some (.opq k) => some (.load t k)
    | _ => none)
  | _ => none
/-- an operation on a value that is not known: what is said of it, if anything is -/
def askA (H : Hooks) (tm : Tm) (op : Op) (x : M AV) : M AV := match oraKey tm op with
  | none => x
  | some q => match H.ora q with
    | none => x
    | some r => ret r
/-- is the guarded operation wanted? -/
def wantA (ops : Array Oper) (o : Oper) (tm : Tm) : Option Bool := match o.guard with
  | none => some true
  | some (j, want) => match ops[j]? with
    | none => some false
    | some g => match g.dst with
      | none => some false
      | some d => match tm.get d with
        | some (some (.bool b)) => some (b == want)
        | some (some (.opq _)) => none
        | some none => none
        | _ => some false
def putA (N : Nat) (tm : Tm) (dst : Option Tmp) (v : AV) : M Tm := match dst with
  | none => ret tm
  | some d => bif Nat.blt d N then ret (tm.put d (some v)) else fail
def operA (P : Program) (H : Hooks) (e : Ex) (N : Nat) (ops : Array Oper) (o : Oper) (tm : Tm) : M Tm := match wantA ops o tm with
  | some true => bnd (askA H tm o.op (opA P H e o tm)) fun v => (match v with
    | .pan _ => fail
    | v => putA N tm o.dst v)
  | some false => putA N tm o.dst undefA
  | none => fail
/-- a call that is deferred -/
def deferA (P : Program) (tm : Tm) (c : Call) : M AV := bnd (opt (avals tm c.args.toList)) fun args => (match c.callee with
  | .value f => bnd (opt (aval tm f)) fun v => (match v with
    | .fn (.func g) first cap => (match P.funcs[g]? with
      | some fn => bif fn.name == "runtime.NumGoroutine" || fn.body.isNone then fail else ret (.fn (.func g) (first ++ args ++ cap) [])
      | none => fail)
    | _ => fail)
  | _ => fail)
/-- an operation of a region that is not drawn: it may defer, and panic -/
def operP (P : Program) (H : Hooks) (e : Ex) (N : Nat) (ops : Array Oper) (o : Oper) (tm : Tm) : M Tm := match o.op with
  | .defer c => (match wantA ops o tm with
    | some true => bnd (deferA P tm c) fun x => bnd (putA N tm o.dst undefA) fun tm' => ret ⟨tm'.t, x :: tm'.d, tm'.p⟩
    | some false => putA N tm o.dst undefA
    | none => fail)
  | .panic x => (match wantA ops o tm with
    | some true => bnd (opt (aval tm x)) fun v => (match v with
      | .ifc t u => ret ⟨tm.t, tm.d, some (.ifc t u)⟩
      | _ => fail)
    | some false => putA N tm o.dst undefA
    | none => fail)
  | .call _ => (match wantA ops o tm with
    | some true => bnd (askA H tm o.op (opA P H e o tm)) fun v => (match v with
      | .pan x => ret ⟨tm.t, tm.d, some x⟩
      | v => putA N tm o.dst v)
    | some false => putA N tm o.dst undefA
    | none => fail)
  | _ => operA P H e N ops o tm
def opsP (P : Program) (H : Hooks) (e : Ex) (N : Nat) (ops : Array Oper) : List Oper → Tm → M Tm
  | [], tm => ret tm
  | o :: r, tm => bnd (operP P H e N ops o tm) fun tm' => (match tm'.p with
    | some _ => ret tm'
    | none => opsP P H e N ops r tm')
/-- what a region comes to -/
def endP (tm : Tm) : M (Exit × Tm) := match tm.p with
  | some _ => ret (.panic [], tm)
  | none => ret (.normal, tm)
/-- ran, with what it touched -/
def capt {α : Type} (x : M α) : M (α × List Nat) := fun s => match x ⟨s.heap, s.next, []⟩ with
  | some (a, s') => some ((a, s'.log), ⟨s'.heap, s'.next, s'.log ++ s.log⟩)
  | none => none
def drawA (P : Program) (H : Hooks) (e : Ex) (N : Nat) (ops : Array Oper) : List Oper → Tm → M (Tm × List (List Nat))
  | [], tm => ret (tm, [])
  | o :: r, tm => bnd (capt (operA P H e N ops o tm)) fun (tm', l) => bnd (drawA P H e N ops r tm') fun (tm'', ls) => ret (tm'', l :: ls)
/-- the numbers of blocks that a log wrote -/
def wrote (l : List Nat) : Tr Unit := l.foldr (fun x t => bif Nat.beq (x % 2) 1 then t.put (x / 2) () else t) .lf
def meets (t : Tr Unit) : List Nat → Bool
  | [] => false
  | x :: l => (match t.get (x / 2) with | some _ => true | none => false) || meets t l
def hits (x : Nat) : List Nat → Bool
  | [] => false
  | y :: l => bif Nat.beq (x / 2) (y / 2) && (Nat.beq (x % 2) 1 || Nat.beq (y % 2) 1) then true else hits x l
def hitsAny : List Nat → List Nat → Bool
  | [], _ => false
  | x :: l, b => bif hits x b then true else hitsAny l b
def shortN : Nat → List Nat → Bool
  | _, [] => true
  | 0, _ :: _ => false
  | n + 1, _ :: l => shortN n l
/-- neither wrote what the other one touched -/
def noMeet (a b : List Nat) : Bool := bif shortN 6 b then !hitsAny b a else bif shortN 6 a then !hitsAny a b else !meets (wrote a) b && !meets (wrote b) a
/-- what comes ahead of number j, by its edges -/
def ancs (ops : List Oper) : List (List Nat) :=
  ops.foldl (fun acc o => acc ++ [o.after.toList.foldr (fun ed l => bif Region.binds .any ed then ed.on :: ((acc[ed.on]?).getD [] ++ l) else l) []]) []
def pairOk (ops : Array Oper) (i j : Nat) (x y : Oper) (ay : List Nat) (lx ly : List Nat) : Bool :=
  elemN i ay || (noMeet lx ly && Oper.apart ops x y)
/-- number j against all ahead of it -/
def rowOk (ops : Array Oper) (j : Nat) (y : Oper) (ay ly : List Nat) : Nat → List Oper → List (List Nat) → Bool
  | i, x :: r, lx :: ls => bif Nat.blt i j then pairOk ops i j x y ay lx ly && rowOk ops j y ay ly (i + 1) r ls else true
  | _, _, _ => true
/-- what it waits for stands ahead of it -/
def edgeOk (j : Nat) (y : Oper) : Bool := y.after.toList.all fun ed => !Region.binds .any ed || Nat.blt ed.on j
def allOk (ops : Array Oper) (all : List Oper) (logs : List (List Nat)) : Nat → List Oper → List (List Nat) → List (List Nat) → Bool
  | _, [], _, _ => true
  | j, y :: r, ay :: ays, ly :: ls => edgeOk j y && rowOk ops j y ay ly 0 all logs && allOk ops all logs (j + 1) r ays ls
  | _, _, _, _ => false
/-- does a loop's round begin with the next entry of a map? -/
def rangeOf : Code → Option Operand
  | .seq (.region _ ops false) _ => match ops.toList with
    | o :: _ => match o.op, o.guard with
      | .next x false, none => some x
      | _, _ => none
    | [] => none
  | _ => none
/-- a round of a loop; of one over a map: with each entry that has not come yet -/
def rangeA (r : Option Operand) (tm : Tm) (round : M Unit → M (Exit × Tm)) : M (Exit × Tm) := match r with
  | none => round (ret ())
  | some x => bnd (opt (aval tm x)) fun v => (match v with
    | .ptr A 0 => bnd (rd A) fun b => (match b with
      | .miter none since seen last => round (wr A (.mforce none since seen last none 0))
      | .miter (some mA) since seen last => bnd (rd mA) fun b => (match b with
        | .map es clk => bif allBefore since es && Nat.ble since last then (match leftA seen es with
          | [] => round (wr A (.mforce (some mA) since seen last none clk))
          | c :: l => joinAll (round (wr A (.mforce (some mA) since seen last (some c) clk))) (l.map fun c => round (wr A (.mforce (some mA) since seen last (some c) clk)))) else fail
        | _ => fail)
      | _ => fail)
    | _ => fail)
def codeA (P : Program) (H : Hooks) (e : Ex) (N : Nat) : Code → Tm → M (Exit × Tm)
  | .skip, tm => ret (.normal, tm)
  | .label _, tm => ret (.normal, tm)
  | .region _ ops false, tm => (match tm.p with
    | some _ => fail
    | none => bnd (opsP P H e N ops ops.toList tm) fun tm' => endP tm')
  | .region _ ops true, tm => bnd (drawA P H e N ops ops.toList tm) fun (tm', logs) => bif allOk ops ops.toList logs 0 ops.toList (ancs ops.toList) logs then ret (.normal, tm') else fail
  | .seq a b, tm => bnd (codeA P H e N a tm) fun (x, tm') => (match x with
    | .normal => codeA P H e N b tm'
    | x => ret (x, tm'))
  | .cond c a b, tm => bnd (opt (aval tm c)) fun v => (match v with
    | .bool true => codeA P H e N a tm
    | .bool false => codeA P H e N b tm
    | _ => fail)
  | .block id b, tm => bnd (codeA P H e N b tm) fun (x, tm') => (match x with
    | .exit id' => bif Nat.beq id' id then ret (.normal, tm') else ret (.exit id', tm')
    | x => ret (x, tm'))
  | .loop b, tm => rangeA (rangeOf b) tm (fun F => bnd F fun _ => bnd (codeA P H e N b tm) fun (x, tm') => (match x with
    | .normal => e.loop N b tm'
    | x => ret (x, tm')))
  | .scope b, tm => bnd (codeA P H e N b tm) fun (x, tm') => (match x with
    | .goto _ => fail
    | x => ret (x, tm'))
  | .exit id, tm => ret (.exit id, tm)
  | .ret, tm => ret (.ret, tm)
  | _, _ => fail
def resultA (P : Program) (tm : Tm) : List ResultVar → M (List AV)
  | [] => ret []
  | .tmp t :: r => bnd (opt (aval tm (.tmp t))) fun v => bnd (resultA P tm r) fun l => ret (v :: l)
  | .cell a t :: r => bnd (opt (aval tm (.tmp a))) fun v => (match v with
    | .ptr A i => bnd (loadT P t A i) fun x => bnd (resultA P tm r) fun l => ret (x :: l)
    | _ => fail)
def tmOf : Nat → List AV → Tm → Tm
  | _, [], tm => tm
  | i, v :: l, tm => tmOf (i + 1) l (tm.put i (some v))
/-- a panic that was recovered is none -/
def settleA : MA → MA
  | .pan _ true => .rtn
  | u => u
/-- the deferred calls, the last one first; then the results, or the panic -/
def leaveA (P : Program) (e : Ex) (fn : Func) (tm : Tm) : List AV → MA → M AV
  | [], .rtn => bnd (resultA P tm fn.results.toList) fun l => (match l with
    | [v] => ret v
    | l => ret (.tup l))
  | [], .pan v false => ret (.pan v)
  | [], .pan _ true => fail
  | .fn (.func f) l [] :: ds, u => bnd (e.callD f l u) fun u' => leaveA P e fn tm ds (settleA u')
  | _ :: _, _ => fail
def callA (P : Program) (H : Hooks) (e : Ex) (f : FuncId) (args : List AV) : M AV := match P.funcs[f]? with
  | none => fail
  | some fn => match fn.body with
    | none => fail
    | some c => bnd (codeA P H e (args.length + (fn.ntmps - args.length)) c (tmOf 0 args Tm.nil)) fun (x, tm) => (match x with
      | .normal | .ret => leaveA P e fn tm tm.d .rtn
      | .panic _ => (match tm.p with
        | some v => leaveA P e fn tm tm.d (.pan v false)
        | none => fail)
      | _ => fail)
/-- an operation of a deferred call: it may recover -/
def isRecover : Op → Bool
  | .call c => (match c.callee with
    | .builtin .recover => true
    | _ => false)
  | _ => false
def operS (P : Program) (H : Hooks) (e : Ex) (N : Nat) (ops : Array Oper) (o : Oper) (tm : Tm) (u : MA) : M (Tm × MA) := bif isRecover o.op then
    (match wantA ops o tm with
    | some true => (match u with
      | .pan v false => bnd (putA N tm o.dst v) fun tm' => ret (tm', .pan v true)
      | u => bnd (putA N tm o.dst .ifc0) fun tm' => ret (tm', u))
    | some false => bnd (putA N tm o.dst undefA) fun tm' => ret (tm', u)
    | none => fail)
  else bnd (operA P H e N ops o tm) fun tm' => ret (tm', u)
def opsS (P : Program) (H : Hooks) (e : Ex) (N : Nat) (ops : Array Oper) : List Oper → Tm → MA → M (Tm × MA)
  | [], tm, u => ret (tm, u)
  | o :: r, tm, u => bnd (operS P H e N ops o tm u) fun (tm', u') => opsS P H e N ops r tm' u'
def codeS (P : Program) (H : Hooks) (e : Ex) (N : Nat) : Code → Tm → MA → M (Exit × Tm × MA)
  | .seq a b, tm, u => bnd (codeS P H e N a tm u) fun (x, tm', u') => (match x with
    | .normal => codeS P H e N b tm' u'
    | x => ret (x, tm', u'))
  | .region _ ops false, tm, u => bnd (opsS P H e N ops ops.toList tm u) fun (tm', u') => ret (.normal, tm', u')
  | .cond c a b, tm, u => bnd (opt (aval tm c)) fun v => (match v with
    | .bool true => codeS P H e N a tm u
    | .bool false => codeS P H e N b tm u
    | _ => fail)
  | c, tm, u => bnd (codeA P H e N c tm) fun (x, tm') => (match x with
    | .panic _ => fail
    | x => ret (x, tm', u))
/-- a deferred call: how the frame below stands behind it -/
def callDA (P : Program) (H : Hooks) (e : Ex) (f : FuncId) (args : List AV) (u : MA) : M MA := match P.funcs[f]? with
  | none => fail
  | some fn => match fn.body with
    | none => fail
    | some c => bnd (codeS P H e (args.length + (fn.ntmps - args.length)) c (tmOf 0 args Tm.nil) u) fun (x, tm, u') => (match x with
      | .normal | .ret => (match tm.d with
        | [] => bnd (resultA P tm fn.results.toList) fun _ => ret u'
        | _ => fail)
      | _ => fail)
def exec (P : Program) (H : Hooks) : Nat → Ex
  | 0 => ⟨fun _ _ => fail, fun _ _ _ => fail, fun _ _ _ => fail⟩
  | n + 1 => ⟨callA P H (exec P H n), fun N b tm => codeA P H (exec P H n) N (.loop b) tm, callDA P H (exec P H n)⟩
end Go.Proofs.YtelohloaoocoaaaGreatDoor.Zz
