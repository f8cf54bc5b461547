/- Texts of one proof, packed: FeF, FeG, FeH, FeI -/
import Derived.Test.YtomjjedgmnkciaaGreatDoorP06
set_option linter.unusedVariables false
set_option linter.unusedSimpArgs false
set_option linter.deprecated false
set_option linter.unnecessarySimpa false
/- fds: a file is opened; a pipe is. -/
namespace Go.Proofs.YtomjjedgmnkciaaGreatDoor
open Go.RowKit IntWalk
set_option linter.unusedVariables false
set_option linter.unusedSimpArgs false

section
variable {W0 : World} {s : Fs} {fl : FId → Nat}
theorem openS_err {dir : Int} {path : List UInt8} {flags : Int} (h : (s.openS dir path flags).1 = none) : (s.openS dir path flags).2.1 ≠ 0 := by
  unfold Fs.openS at h ⊢
  by_cases hf : FlagsOk flags
  · rw [if_pos hf] at h ⊢
    dsimp only at h ⊢
    by_cases c1 : (s.findS dir path flags).2.1 ≠ 0
    · rw [if_pos c1]; exact c1
    · rw [if_neg c1] at h ⊢
      by_cases c2 : (s.findS dir path flags).2.2.fld Nd.kind (s.findS dir path flags).1 = 2
      · rw [if_pos c2]; simp
      · rw [if_neg c2] at h; cases h
  · rw [if_neg hf]; simp
theorem fopen_none (hE : EnvG W0) (path : List UInt8) (flags : Int) (hpl : path.length ≤ 100000) (w : World) (h : FsIn W0 s fl w) (ho : (s.openS 1 path flags).1 = none) :
    Calls Tryz.prog 42 #[ptrTo (fl .F), .int .i64 1, .string ⟨path.toArray⟩, .int .i64 flags] w fun e w' => ∃ fl', fl' .F = fl .F ∧ Step s fl w (s.openS 1 path flags).2.2 fl' w' ∧ e = .returned (.tuple #[.pointer none, .int .i64 (s.openS 1 path flags).2.1]) := by
  by_cases hf : FlagsOk flags
  · refine (open_any hE 1 path flags hpl w h hf).mono ?_
    rintro e w' ⟨fl', h1, h2, h3⟩
    rw [ho] at h3
    exact ⟨fl', h1, h2, h3⟩
  · refine (open_bad 1 path flags w h.is hf).mono ?_
    rintro e w' ⟨rfl, rfl⟩
    have : s.openS 1 path flags = (none, 1, s) := by unfold Fs.openS; rw [if_neg hf]
    rw [this]
    exact ⟨fl, rfl, Step.refl h.is, rfl⟩
theorem fopen_some (hE : EnvG W0) (path : List UInt8) (flags : Int) (hpl : path.length ≤ 100000) (w : World) (h : FsIn W0 s fl w) {i : Int} (ho : (s.openS 1 path flags).1 = some i) :
    Calls Tryz.prog 42 #[ptrTo (fl .F), .int .i64 1, .string ⟨path.toArray⟩, .int .i64 flags] w fun e w' => ∃ fl' b, fl' .F = fl .F ∧ Step s fl w (s.openS 1 path flags).2.2 fl' w' ∧ w.heap.size ≤ b ∧ ¬ Owns ((s.openS 1 path flags).2.2.obj fl') fl' b ∧ w'.heap[b]? = some (.cells (fileC (fl .F) i 0 flags false) 143 (0, 0)) ∧ e = .returned (.tuple #[ptrTo b, .int .i64 0]) := by
  have hf : FlagsOk flags := by
    by_cases q : FlagsOk flags
    · exact q
    · unfold Fs.openS at ho; rw [if_neg q] at ho; cases ho
  refine (open_any hE 1 path flags hpl w h hf).mono ?_
  rintro e w' ⟨fl', h1, h2, h3⟩
  rw [ho] at h3
  obtain ⟨b, a1, a2, a3, a4⟩ := h3
  refine ⟨fl', b, h1, h2, a1, a2, ?_, a4⟩
  rw [a3]
  simp only [fileV, fileC, h1]
end
theorem own_oneI {w : World} {base : Nat} {v : Value} {n : Int} (h : OwnI w base v [n]) : ∃ G c, v = .slice (some ⟨G, 0, none⟩) 1 c ∧ base ≤ G ∧ G < w.heap.size ∧ w.cell? ⟨G, 0, none⟩ = some (.int .i64 n) := by
  obtain ⟨hxs, hr⟩ := h
  rcases hr with ⟨rfl, hn⟩ | ⟨g, cap, cur, rfl, hb, hg, hnc, hcm, hcs, htk⟩
  · cases hn
  · refine ⟨g, cap, rfl, hb, (Array.getElem?_eq_some_iff.1 hg).1, ?_⟩
    have h1 : (cur.toList.take (1 * 1))[0]? = some (.int .i64 n) := by
      have : cur.toList.take (1 * 1) = [.int .i64 n] := htk
      rw [this]; rfl
    rw [List.getElem?_take_of_lt (by omega), Array.getElem?_toList] at h1
    simp [World.cell?, hg, h1]
theorem own_twoI {w : World} {base : Nat} {v : Value} {n m : Int} (h : OwnI w base v [n, m]) : ∃ G c, v = .slice (some ⟨G, 0, none⟩) 2 c ∧ base ≤ G ∧ G < w.heap.size ∧ w.cell? ⟨G, 0, none⟩ = some (.int .i64 n) ∧ w.cell? ⟨G, 1, none⟩ = some (.int .i64 m) := by
  obtain ⟨hxs, hr⟩ := h
  rcases hr with ⟨rfl, hn⟩ | ⟨g, cap, cur, rfl, hb, hg, hnc, hcm, hcs, htk⟩
  · cases hn
  · have h2 : cur.toList.take (2 * 1) = [.int .i64 n, .int .i64 m] := htk
    refine ⟨g, cap, rfl, hb, (Array.getElem?_eq_some_iff.1 hg).1, ?_, ?_⟩
    · have h1 : (cur.toList.take (2 * 1))[0]? = some (.int .i64 n) := by rw [h2]; rfl
      rw [List.getElem?_take_of_lt (by omega), Array.getElem?_toList] at h1
      simp [World.cell?, hg, h1]
    · have h1 : (cur.toList.take (2 * 1))[1]? = some (.int .i64 m) := by rw [h2]; rfl
      rw [List.getElem?_take_of_lt (by omega), Array.getElem?_toList] at h1
      simp [World.cell?, hg, h1]
theorem freeTo_m {l : List (Option Nat)} {m : Nat} : ∀ n : Nat, (freeTo l m n).length ≤ m
  | 0 => by simp [freeTo]
  | n + 1 => by
    have := freeTo_m (l := l) (m := m) n
    unfold freeTo
    split
    · rename_i hc; rw [List.length_append]; simp; omega
    · exact this
section
variable {W0 : World} {zp : List Nat} {xp fp N : Nat} {H : List (Nat × Obj)} {w : World}
theorem Al.addP {s : Fs} {fl : FId → Nat} {x : Fx} {xl : XId → Nat} {pl : Nat → Option Po} {ns : Nat} (h : Al W0 s fl x xl pl ns w) (b : Nat) (hn : pl b = none) (o : Po) (ho : PoIs (fl .F) (updP pl b o) w b o) (h0 : W0.heap.size ≤ b) (h1 : ¬ Owns (s.obj fl) fl b) (h2 : ¬ Owns (x.obj xl) xl b) : Al W0 s fl x xl (updP pl b o) ns w := by
  have hcase : ∀ k, updP pl b o k ≠ none → k = b ∨ pl k ≠ none := fun k hk => by
    by_cases e : k = b
    · exact .inl e
    · rw [updP_other e] at hk; exact .inr hk
  refine ⟨h.fs, h.fx, h.po.turn (Nat.le_refl _) b o (fun _ _ _ _ => rfl) (fun c => by rw [hn]; simp) (fun c hc => .inl (updP_other hc)) (updP_same _ _ _) ho, h.fxlow, fun k hk => ?_, h.ap1, fun k hk => ?_, fun k hk => ?_, h.top, h.sv.keep (Turned.refl (fun _ => False) w) h.po (fun _ _ q => q) (fun c hc => ?_)⟩
  · rcases hcase k hk with rfl | q
    · exact h0
    · exact h.polow k q
  · rcases hcase k hk with rfl | q
    · exact h1
    · exact h.ap2 k q
  · rcases hcase k hk with rfl | q
    · exact h2
    · exact h.ap3 k q
  · rw [updP_other (by rintro rfl; rw [hn] at hc; cases hc)]; exact hc
theorem put_file {g : Gh} {s s' : Fs} {fl fl' : FId → Nat} {x : Fx} {xl : XId → Nat} {pl : Nat → Option Po} {ns : Nat} {w1 w2 : World} (h : St0 W0 zp xp fp N H g s fl x xl pl ns w) (hb : Below w.heap.size w w1) {i flags : Int} {b : Nat} (hs : Tidy s' (fun j => if j = i then users g.live i + 1 else users g.live j)) (hF : fl' .F = fl .F) (hst : Step s fl w1 s' fl' w2) (hb1 : w1.heap.size ≤ b) (hb2 : ¬ Owns (s'.obj fl') fl' b) (hb3 : w2.heap[b]? = some (.cells (fileC (fl .F) i 0 flags false) 143 (0, 0))) (hi : 2 ≤ i)
    {j zb n : Nat} {l : List (Option Nat)} (hz : zp[j]? = some zb) (hl : g.sets[j]? = some l) (hn : l[n]? = some none) :
    Calls Tryz.prog 39 #[ptrOf zb, .int .i64 n, .iface 115 (ptrOf b)] w2 fun e w' => e = .returned (.tuple #[]) ∧ (∀ G, w.heap.size ≤ G → G < w1.heap.size → w'.heap[G]? = w2.heap[G]?) ∧ St W0 zp xp fp N H w' := by
  have hA0 := h.al.below hb
  have hA1 := hA0.stepF hst hs.whole hF
  have hx : ∀ k, Owns (x.obj xl) xl k → k < w.heap.size := fun k hk => h.al.fx.lies.owns_lt hk
  have hbs := hb.size
  have hfr : pl b = none := hA0.fresh hb1
  have hA2 := hA1.addP b hfr (.file i 0 flags false) (by rw [hF]; exact hb3) (by have := h.al.fs.below.size; omega) hb2 (fun q => by have := hx b q; omega)
  have hus : users (g.live ++ [(g.nk, Th.file b i)]) = fun j => if j = i then users g.live i + 1 else users g.live j := funext fun k => by
    rw [users_add]
    show _ + (if decide (i = k) = true then 1 else 0) = _
    by_cases e : k = i
    · subst e; simp
    · rw [if_neg (by simpa using Ne.symm e), if_neg e, Nat.add_zero]
  refine (put_st (N := N) hA2 h.lk (hF.trans h.fF) h.xX h.zn h.zl (h.so.upd (fun y r q => by cases q) (by rw [hfr]; simp)) h.ns (.file b i) _ _ rfl (fun p hp => (h.lk.things p hp).upd hfr) ⟨0, flags, by omega, by omega, updP_same _ _ _, hi⟩ (fun c hc p hp q => ?_) (by rw [hus]; exact hs) hz hl hn).mono ?_
  · cases hc
    have hth := h.lk.things p hp
    obtain ⟨k, t⟩ := p
    cases t with
    | file c m =>
      cases q
      obtain ⟨_, _, _, _, h3, _⟩ := hth
      rw [hfr] at h3
      cases h3
    | _ => cases q
  · rintro e w' ⟨rfl, h1, xl', _, h2⟩
    exact ⟨rfl, fun G hG1 hG2 => h1 G (Nat.lt_of_lt_of_le hG2 hst.turned.size) (fun q => by have := hx G q; omega), ⟨_, _, _, _, _, _, _, h2⟩⟩
theorem open_st (hE : EnvG W0) (j zb : Nat) (hz : zp[j]? = some zb) (path : List UInt8) (hpl : path.length ≤ 100000) (flags : Int) (h : St W0 zp xp fp N H w) :
    Calls Tryz.prog 24 #[ptrOf zb, .int .i64 1, .string ⟨path.toArray⟩, .int .i64 flags] w fun e w' => (∃ c d, e = .returned (.tuple #[.int .i64 c, .int .i64 d])) ∧ St W0 zp xp fp N H w' := by
  obtain ⟨g, s, fl, x, xl, pl, ns, h⟩ := h
  obtain ⟨l, hl1, hl2, hl3, hl4⟩ := h.set hz
  have HF := Lib.hid (setfree_any (j : Int) l 1 (by omega) w h.al.fx hl3)
  rw [hl4] at HF
  have hm := freeTo_m (l := l) (m := 1) 16
  have c0 : w.cell? ⟨zb, 0, none⟩ = some (ptrOf xp) := by rw [← hl4, ← h.xX]; exact h.al.fx.z0 hl3
  have c1 : w.cell? ⟨xp, 0, none⟩ = some (ptrOf fp) := by rw [← h.xX, ← h.fF, ← h.al.top]; exact h.al.fx.x0
  have zlt : zb < w.heap.size := World.block_lt_of_cell? w _ c0
  have xlt : xp < w.heap.size := World.block_lt_of_cell? w _ c1
  cases hfr : freeTo l 1 16 with
  | nil =>
    have HS := Lib.hid (⟨g, s, fl, x, xl, pl, ns, h⟩ : St W0 zp xp fp N H w)
    have HR := Lib.hid hfr
    clear h hl1 hl2 hl3 hl4 hm c0 c1 hfr
    unfold ptrOf at *
    go_enter Tryz.func24, Tryz.ntmps24
    go_wp2_with (go_at_call 37; refine HF.out.mono ?_; rintro e w1 ⟨v, rfl, hfr⟩; obtain ⟨p, c, rfl⟩ := hfr.own.slice; rw [HR.out]; have hb := Lib.hid hfr.below; clear hfr)
    go_ret2
    exact ⟨⟨_, _, rfl⟩, St.below HS.out hb.out⟩
  | cons a r =>
    obtain rfl : r = [] := by
      rw [hfr, List.length_cons] at hm
      exact List.eq_nil_of_length_eq_zero (by omega)
    obtain ⟨n, rfl, hn16, hn⟩ := freeTo_mem (l := l) (m := 1) (n := 16) (i := a) (by rw [hfr]; simp)
    have hus := h.lk.users_lt
    have hto := h.lk.tidy.open_ path flags hus
    have hown : ∀ k, Owns (s.obj fl) fl k → k < w.heap.size := fun k hk => h.al.fs.is.lies.owns_lt hk
    cases ho : (s.openS 1 path flags).1 with
    | none =>
      rw [ho] at hto
      have herr := openS_err ho
      have HO := Lib.hid (fun (w1 : World) (hb : Below w.heap.size w w1) => fopen_none hE path flags hpl w1 (h.al.below hb).fs ho)
      have HH := Lib.hid h
      have HT := Lib.hid hto
      rw [h.fF] at HO
      generalize hs' : (s.openS 1 path flags).2.2 = s' at *
      generalize (s.openS 1 path flags).2.1 = er at *
      have her : (er == 0) = false := by simpa using herr
      have her2 : (er != 0) = true := by simpa using herr
      have HR := Lib.hid hfr
      clear h hl1 hl2 hl3 hl4 hm hfr hto ho hs' hown hus
      unfold ptrOf ptrTo at *
      go_enter Tryz.func24, Tryz.ntmps24
      go_wp2_with first
        | (go_at_call 37; refine HF.out.mono ?_; rintro e w1 ⟨v, rfl, hfr⟩; obtain ⟨G, c, rfl, hG1, hG2, hG3⟩ := own_oneI (by have := hfr.own; rw [HR.out] at this; exact this); have hb := Lib.hid hfr.below; have d0 := (World.cell?_of_block (a := ⟨zb, 0, none⟩) (hfr.below.block zb zlt)).trans c0; have d1 := (World.cell?_of_block (a := ⟨xp, 0, none⟩) (hfr.below.block xp xlt)).trans c1; clear hfr)
        | (go_at_call 42; refine (HO.out _ hb.out).mono ?_; rintro e w2 ⟨fl', hF', hst, rfl⟩; have HST := Lib.hid hst; clear hst)
      go_ret2
      refine ⟨⟨_, _, rfl⟩, ⟨g, s', fl', x, xl, pl, ns, ⟨(HH.out.al.below hb.out).stepF HST.out HT.out.whole (hF'.trans HH.out.fF.symm), HH.out.lk.turn HH.out.lk.things HT.out, hF', HH.out.xX, HH.out.zn, HH.out.zl, HH.out.so, HH.out.ns⟩⟩⟩
    | some i =>
      rw [ho] at hto
      obtain ⟨hi2, hto⟩ := hto
      have HO := Lib.hid (fun (w1 : World) (hb : Below w.heap.size w w1) => fopen_some hE path flags hpl w1 (h.al.below hb).fs ho)
      have HH := Lib.hid h
      have HT := Lib.hid hto
      rw [h.fF] at HO
      generalize hs' : (s.openS 1 path flags).2.2 = s' at *
      have HR := Lib.hid hfr
      have HL1 := Lib.hid hl1
      have HN := Lib.hid hn
      have HOW := Lib.hid hown
      clear h hl1 hl2 hl3 hl4 hm hfr hto ho hs' hown hus hn
      unfold ptrOf ptrTo at *
      go_enter Tryz.func24, Tryz.ntmps24
      go_wp2_with first
        | (go_at_call 37; refine HF.out.mono ?_; rintro e w1 ⟨v, rfl, hfr⟩; obtain ⟨G, c, rfl, hG1, hG2, hG3⟩ := own_oneI (by have := hfr.own; rw [HR.out] at this; exact this); have hb := Lib.hid hfr.below; have d0 := (World.cell?_of_block (a := ⟨zb, 0, none⟩) (hfr.below.block zb zlt)).trans c0; have d1 := (World.cell?_of_block (a := ⟨xp, 0, none⟩) (hfr.below.block xp xlt)).trans c1; clear hfr)
        | (go_at_call 42; refine (HO.out _ hb.out).mono ?_; rintro e w2 ⟨fl', b, hF', hst, hb1, hb2, hb3, rfl⟩; have d2 := (World.cell?_of_block (a := ⟨G, 0, none⟩) (hst.turned.block G hG2 (fun q => by have := HOW.out _ q; omega))).trans hG3; have HPUT := Lib.hid (put_file HH.out hb.out HT.out (hF'.trans HH.out.fF.symm) hst hb1 hb2 (by rw [HH.out.fF]; exact hb3) hi2 hz HL1.out HN.out); clear hst hb3; unfold ptrOf at HPUT)
        | (go_at_call 39; refine HPUT.out.mono ?_; rintro e w3 ⟨rfl, hk, h3⟩; have d3 := (World.cell?_of_block (a := ⟨G, 0, none⟩) (hk G hG1 hG2)).trans d2; have HS := Lib.hid h3; clear h3 hk)
      go_ret2
      exact ⟨⟨_, _, rfl⟩, HS.out⟩
end
end Go.Proofs.YtomjjedgmnkciaaGreatDoor
/- fds: a pipe is opened. -/
namespace Go.Proofs.YtomjjedgmnkciaaGreatDoor
open Go.RowKit IntWalk
set_option linter.unusedVariables false
set_option linter.unusedSimpArgs false

section
variable {W0 : World} {zp : List Nat} {xp fp N : Nat} {H : List (Nat × Obj)} {w : World}
theorem put_pipe {g : Gh} {s : Fs} {fl : FId → Nat} {x : Fx} {xl : XId → Nat} {pl : Nat → Option Po} {ns : Nat} {w2 : World} (h : St0 W0 zp xp fp N H g s fl x xl pl ns w) (hb : Below w.heap.size w w2) {p : Nat} (hp1 : w.heap.size ≤ p) (hp : PipeSt w2 p [] 1 1) {j zb a b : Nat} {l : List (Option Nat)} (hz : zp[j]? = some zb) (hl : g.sets[j]? = some l) (ha : l[a]? = some none) (hab : a ≠ b) (hbn : l[b]? = some none) (hG : ∀ G, w.heap.size ≤ G → G < w2.heap.size → True) :
    Calls Tryz.prog 39 #[ptrOf zb, .int .i64 a, .iface 99 (.agg #[ptrOf p, .bool false])] w2 fun e w3 => e = .returned (.tuple #[]) ∧ (∀ G, w.heap.size ≤ G → G < w2.heap.size → w3.heap[G]? = w2.heap[G]?) ∧
      Calls Tryz.prog 39 #[ptrOf zb, .int .i64 b, .iface 99 (.agg #[ptrOf p, .bool true])] w3 fun e w4 => e = .returned (.tuple #[]) ∧ (∀ G, w.heap.size ≤ G → G < w2.heap.size → w4.heap[G]? = w2.heap[G]?) ∧ St W0 zp xp fp N H w4 := by
  have hx : ∀ k, Owns (x.obj xl) xl k → k < w.heap.size := fun k hk => h.al.fx.lies.owns_lt hk
  have hfr : pl p = none := h.al.fresh hp1
  have hA := h.al.newP hb p hp1 (.pipe [] 1 1) ⟨hp, by omega, by omega⟩
  have hso : SoOk N H (updP pl p (.pipe [] 1 1)) := h.so.upd (fun y r q => by cases q) (by rw [hfr]; simp)
  refine (put_st (N := N) hA h.lk h.fF h.xX h.zn h.zl hso h.ns (.pend p false) _ _ rfl (fun q hq => (h.lk.things q hq).upd hfr) ⟨[], 1, 1, updP_same _ _ _⟩ (fun c hc => by cases hc) (by rw [users_same (fun _ => rfl)]; exact h.lk.tidy) hz hl ha).mono ?_
  rintro e w3 ⟨rfl, hk3, xl3, ho3, h3⟩
  have hkeep3 : ∀ G, w.heap.size ≤ G → G < w2.heap.size → w3.heap[G]? = w2.heap[G]? := fun G hG1 hG2 => hk3 G hG2 (fun q => by have := hx G q; omega)
  refine ⟨rfl, hkeep3, ?_⟩
  have hlt := (List.getElem?_eq_some_iff.1 hl).1
  have hl3 : (g.put j l a (.pend p false)).sets[j]? = some (l.set a (some g.nk)) := by
    show (g.sets.set j _)[j]? = _
    rw [List.getElem?_set, if_pos rfl, if_pos hlt]
  have hb3 : (l.set a (some g.nk))[b]? = some none := by rw [List.getElem?_set, if_neg hab]; exact hbn
  have hw23 : w2.heap.size ≤ w3.heap.size := by
    rcases Nat.lt_or_ge w3.heap.size w2.heap.size with q | q
    · exfalso
      have := hkeep3 w3.heap.size (by
        rcases Nat.lt_or_ge w3.heap.size w.heap.size with z | z
        · have := h3.al.po.lt (b := p) (by rw [updP_same]; simp)
          omega
        · exact z) q
      rw [Array.getElem?_eq_none (Nat.le_refl _), Array.getElem?_eq_getElem q] at this
      cases this
    · exact q
  refine (put_st (N := N) h3.al h3.lk h3.fF h3.xX h3.zn h3.zl hso h3.ns (.pend p true) _ _ rfl (fun q hq => h3.lk.things q hq) ⟨[], 1, 1, updP_same _ _ _⟩ (fun c hc => by cases hc) (by rw [users_same (fun _ => rfl)]; exact h3.lk.tidy) hz hl3 hb3).mono ?_
  rintro e w4 ⟨rfl, hk4, xl4, _, h4⟩
  refine ⟨rfl, fun G hG1 hG2 => (hk4 G (by omega) (fun q => ?_)).trans (hkeep3 G hG1 hG2), ⟨_, _, _, _, _, _, _, h4⟩⟩
  rcases ho3 G q with z | z
  · have := hx G z; omega
  · omega
theorem pipe_st (j zb : Nat) (hz : zp[j]? = some zb) (h : St W0 zp xp fp N H w) :
    Calls Tryz.prog 18 #[ptrOf zb] w fun e w' => (∃ a b c, e = .returned (.tuple #[.int .i64 a, .int .i64 b, .int .i64 c])) ∧ St W0 zp xp fp N H w' := by
  obtain ⟨g, s, fl, x, xl, pl, ns, h⟩ := h
  obtain ⟨l, hl1, hl2, hl3, hl4⟩ := h.set hz
  have HF := Lib.hid (setfree_any (j : Int) l 2 (by omega) w h.al.fx hl3)
  rw [hl4] at HF
  have hm := freeTo_m (l := l) (m := 2) 16
  have c0 : w.cell? ⟨zb, 0, none⟩ = some (ptrOf xp) := by rw [← hl4, ← h.xX]; exact h.al.fx.z0 hl3
  by_cases hlen : (freeTo l 2 16).length < 2
  · have HS := Lib.hid (⟨g, s, fl, x, xl, pl, ns, h⟩ : St W0 zp xp fp N H w)
    have hlen1 : ((freeTo l 2 16).length : Int) < 2 := by omega
    clear h hl1 hl2 hl3 hl4 hm
    unfold ptrOf at *
    go_enter Tryz.func18, Tryz.ntmps18
    go_wp2_with (go_at_call 37; refine HF.out.mono ?_; rintro e w1 ⟨v, rfl, hfr⟩; obtain ⟨p, c, rfl⟩ := hfr.own.slice; have hb := Lib.hid hfr.below; clear hfr)
    go_ret3
    exact ⟨⟨_, _, _, rfl⟩, St.below HS.out hb.out⟩
  · obtain ⟨a, b, hfr⟩ : ∃ a b, freeTo l 2 16 = [a, b] := by
      match hq : freeTo l 2 16 with
      | [] => rw [hq] at hlen; simp at hlen
      | [_] => rw [hq] at hlen; simp at hlen
      | [a, b] => exact ⟨a, b, rfl⟩
      | _ :: _ :: _ :: _ => rw [hq] at hm; simp at hm
    have hnd := freeTo_nodup (l := l) (m := 2) 16
    rw [hfr] at hnd
    obtain ⟨n, rfl, hn16, hn⟩ := freeTo_mem (l := l) (m := 2) (n := 16) (i := a) (by rw [hfr]; simp)
    obtain ⟨m, rfl, hm16, hmn⟩ := freeTo_mem (l := l) (m := 2) (n := 16) (i := b) (by rw [hfr]; simp)
    have hne : n ≠ m := by rintro rfl; simp at hnd
    have HP := Lib.hid (fun (w2 : World) (p : Nat) (hb : Below w.heap.size w w2) (hp1 : w.heap.size ≤ p) (hp : PipeSt w2 p [] 1 1) => put_pipe h hb hp1 hp hz hl1 hn hne hmn (fun _ _ _ => trivial))
    have HR := Lib.hid hfr
    clear h hl1 hl2 hl3 hl4 hm hlen hfr hnd hn hmn
    unfold ptrOf at *
    go_enter Tryz.func18, Tryz.ntmps18
    go_wp2_with first
      | (go_at_call 37; refine HF.out.mono ?_; rintro e w1 ⟨v, rfl, hfr⟩; obtain ⟨G, c, rfl, hG1, hG2, hG3, hG4⟩ := own_twoI (by have := hfr.own; rw [HR.out] at this; exact this); have hb := Lib.hid hfr.below; have hsz := hfr.below.size; clear hfr)
      | (go_at_call 38; refine (new_st w1).mono ?_; rintro e w2 ⟨rfl, hb2, hp⟩; have d3 := (World.cell?_of_block (a := ⟨G, 0, none⟩) (hb2.block G hG2)).trans hG3; have d4 := (World.cell?_of_block (a := ⟨G, 1, none⟩) (hb2.block G hG2)).trans hG4; have hG2' := Nat.lt_of_lt_of_le hG2 hb2.size; have HPP := Lib.hid (HP.out w2 w1.heap.size (hb.out.trans (hb2.mono hsz)) hsz hp); clear hb2 hp)
      | (go_at_call 39; refine HPP.out.mono ?_; rintro e w3 ⟨rfl, hk, h3⟩; have e3 := (World.cell?_of_block (a := ⟨G, 0, none⟩) (hk G hG1 hG2')).trans d3; have e4 := (World.cell?_of_block (a := ⟨G, 1, none⟩) (hk G hG1 hG2')).trans d4; have HP3 := Lib.hid h3; clear h3 hk HPP)
      | (go_at_call 39; refine HP3.out.mono ?_; rintro e w4 ⟨rfl, hk, h4⟩; have i3 := (World.cell?_of_block (a := ⟨G, 0, none⟩) (hk G hG1 hG2')).trans d3; have i4 := (World.cell?_of_block (a := ⟨G, 1, none⟩) (hk G hG1 hG2')).trans d4; have HS := Lib.hid h4; clear h4 hk HP3)
      | (go_quiet (fail))
    go_ret3
    exact ⟨⟨_, _, _, rfl⟩, St.drewN HS.out _⟩
end
end Go.Proofs.YtomjjedgmnkciaaGreatDoor
/- fds: a number is shut. -/
namespace Go.Proofs.YtomjjedgmnkciaaGreatDoor
open Go.RowKit IntWalk
set_option linter.unusedVariables false
set_option linter.unusedSimpArgs false
set_option linter.unnecessarySimpa false

/-- sets and what is open, when a thing's last number is shut -/
def Fx.lastT (s : Fx) (i : Int) (l : List (Option Nat)) (n k : Nat) (v : Value) : Fx := ((s.setZ i (l.set n none)).setOp k v 0).setMany (s.many - 1)
set_option maxRecDepth 100000 in
/-- the last number of a thing, by what the thing's Close comes to -/
theorem shut_last {s lay} (i : Int) (l : List (Option Nat)) (n k : Nat) (vt : TypeId) (vu : Value) (w : World) (h : FxIs s lay w) (hi : s.zs i = some l) (hn : l[n]? = some (some k)) (hk : s.op k = some (.iface vt vu, 1)) (hm : 0 < s.many) (hm2 : s.many < 1000000)
    (f : FuncId) (rv : Value) (hmt : ∀ W : World, (method 332 vt vu "Close").run Tryz.prog W = .ok (f, rv) W) (hent : ∀ args W, (callFunc f args).run Tryz.prog W = .ok (.enter f args) W) (Q : World → Prop) (hc : ∀ w1, XStep s lay w (s.lastT i l n k (.iface vt vu)) lay w1 → Calls Tryz.prog f #[rv] w1 fun e w' => (∃ c, e = .returned (.int .i64 c)) ∧ Q w') :
    Calls Tryz.prog 26 #[ptrOf (lay (.Z i)), .int .i64 n] w fun e w' => e = .returned (.int .i64 0) ∧ Q w' := by
  have hl := h.ok.len i l hi
  have hlt := (List.getElem?_eq_some_iff.1 hn).1
  have hn1 : (n : Int) < 16 := by omega
  have c0 := h.o0 hk
  have c1 := h.o1 hk
  have f1 := h.of hk 1
  have c3 := h.slot hi hn
  have c4 := h.z0 hi
  have c5 := h.x1
  have f5 := h.xf 1
  have f2 := h.zf hi (1 + n)
  have hne : lay (.Z i) ≠ lay (.O k) := h.lies.ne (Fx.obj_z hi) (Fx.obj_o hk) (by simp)
  have hne2 : lay .X ≠ lay (.O k) := h.lies.ne (i := .X) rfl (Fx.obj_o hk) (by simp)
  have hne3 : lay .X ≠ lay (.Z i) := h.lies.ne (i := .X) rfl (Fx.obj_z hi) (by simp)
  have hst := (((XStep.refl h).setZ hi n none (by omega) (fun k hk => by cases hk)).setOp (k := k) (v := .iface vt vu) (m := 1) (by simpa [Fx.setZ] using hk) 0).setMany (s.many - 1)
  have HA := Lib.hid (at_open i l n k w h hi hn)
  have HC := Lib.hid (hc _ hst)
  simp only [slotV] at HC c3
  unfold ptrOf at *
  clear hst h hi hn hk hc
  go_enter Tryz.func26, Tryz.ntmps26
  go_wp2_with first
    | (go_at_call 40; refine HA.out.mono ?_; rintro e w' ⟨rfl, rfl⟩)
    | (refine HC.out.mono ?_; rintro e w' ⟨⟨c, rfl⟩, hq⟩)
  go_ret
  exact ⟨rfl, hq⟩
/-! ### what the Close of each thing comes to -/
theorem endclose_any (b : Nat) (wr : Bool) (l : List UInt8) (r q : Nat) (hr : r ≤ 9) (hq : q ≤ 9) (w : World) (h : PipeSt w b l r q) :
    Calls Tryz.prog 155 #[.agg #[ptrOf b, .bool wr]] w fun e w' => (∃ c, e = .returned (.int .i64 c)) ∧ (∃ l' r' q', PipeSt w' b l' r' q' ∧ r' ≤ 9 ∧ q' ≤ 9) ∧ w.grownBy w' (some b) := by
  have hL : ∀ w, PipeSt w b l r q → Calls Tryz.prog 158 #[.pointer (some ⟨b, 0, none⟩), .bool wr] w fun e w' => (∃ c, e = .returned (.int .i64 c)) ∧ (∃ l' r' q', PipeSt w' b l' r' q' ∧ r' ≤ 9 ∧ q' ≤ 9) ∧ w.grownBy w' (some b) := by
    intro w h
    cases wr with
    | true =>
      cases q with
      | zero =>
        refine (leave_w0_st b l r w h).mono ?_
        rintro e w' ⟨rfl, rfl⟩
        exact ⟨⟨_, rfl⟩, ⟨l, r, 0, h, hr, hq⟩, ⟨rfl, rfl, rfl, Nat.le_refl _, fun _ _ _ => rfl⟩⟩
      | succ q =>
        refine (leave_w_st b l r q w h (by omega)).mono ?_
        rintro e w' ⟨rfl, h1, h2⟩
        exact ⟨⟨_, rfl⟩, ⟨_, r, q, h1, hr, by omega⟩, h2⟩
    | false =>
      cases r with
      | zero =>
        refine (leave_r0_st b l q w h).mono ?_
        rintro e w' ⟨rfl, rfl⟩
        exact ⟨⟨_, rfl⟩, ⟨l, 0, q, h, hr, hq⟩, ⟨rfl, rfl, rfl, Nat.le_refl _, fun _ _ _ => rfl⟩⟩
      | succ r =>
        refine (leave_r_st b l r q w h (by omega)).mono ?_
        rintro e w' ⟨rfl, h1, h2⟩
        exact ⟨⟨_, rfl⟩, ⟨_, r, q, h1, by omega, hq⟩, h2⟩
  have hlt := PipeSt.lt h
  have HL := Lib.hid fun o => hL (w.alloc o) (PipeSt.keep h (Below.heap_alloc w o _ hlt))
  unfold ptrOf at *
  clear hL h hlt
  go_enter Tryz.func155, Tryz.ntmps155
  go_wp2_with (go_at_call 158; refine (HL.out _).mono ?_; rintro e w' ⟨⟨c, rfl⟩, h1, h2⟩)
  go_ret
  exact ⟨⟨_, rfl⟩, h1, ⟨h2.os, h2.tape, h2.output, by have := h2.size; simp at this; omega, fun k hk hne => (h2.block k (by simp; omega) hne).trans (Below.heap_alloc _ _ _ hk)⟩⟩
/-- a thing of the pool is another of its kind -/
def SameK : Po → Po → Prop
  | .tape _, .tape _ => True
  | .sink _ _, .sink _ _ => True
  | .pipe _ _ _, .pipe _ _ _ => True
  | .file n _ _ false, .file n' a' _ false => n = n' ∧ 0 ≤ a' ∧ a' ≤ 4096
  | _, _ => False
theorem ThOk.sameK {pl : Nat → Option Po} {t : Th} (h : ThOk pl t) {b : Nat} {o o' : Po} (hb : pl b = some o) (hk : SameK o o') : ThOk (updP pl b o') t := by
  have hne : ∀ c p, pl c = some p → c ≠ b → updP pl b o' c = some p := fun c p hc e => by rw [updP_other e]; exact hc
  cases t with
  | tape c =>
    obtain ⟨s, hs⟩ := h
    by_cases e : c = b
    · subst e; rw [hb] at hs; cases hs; cases o' <;> first | exact ⟨_, updP_same _ _ _⟩ | cases hk
    · exact ⟨s, hne _ _ hs e⟩
  | sink c =>
    obtain ⟨y, r, hs⟩ := h
    by_cases e : c = b
    · subst e; rw [hb] at hs; cases hs; cases o' <;> first | exact ⟨_, _, updP_same _ _ _⟩ | cases hk
    · exact ⟨y, r, hne _ _ hs e⟩
  | file c n =>
    obtain ⟨a, f, h1, h2, hs, h4⟩ := h
    by_cases e : c = b
    · subst e
      rw [hb] at hs
      cases hs
      cases o' with
      | file n' a' f' cl =>
        cases cl with
        | false => obtain ⟨rfl, k2, k3⟩ := hk; exact ⟨a', f', k2, k3, updP_same _ _ _, h4⟩
        | true => cases hk
      | _ => cases hk
    · exact ⟨a, f, h1, h2, hne _ _ hs e, h4⟩
  | pend c wr =>
    obtain ⟨l, r, q, hs⟩ := h
    by_cases e : c = b
    · subst e; rw [hb] at hs; cases hs; cases o' <;> first | exact ⟨_, _, _, updP_same _ _ _⟩ | cases hk
    · exact ⟨l, r, q, hne _ _ hs e⟩
theorem turned_grown {w w' : World} {b : Nat} (h : w.grownBy w' (some b)) : Turned (fun k => k = b) w w' := ⟨h.os, h.tape, h.output, h.size, fun k hk hn => h.block k hk (by intro e; cases e; exact hn rfl)⟩
/-- one thing of the pool is turned, its block alone -/
theorem Al.turnP {W0 : World} {s : Fs} {fl : FId → Nat} {x : Fx} {xl : XId → Nat} {pl : Nat → Option Po} {ns : Nat} {w w' : World} (h : Al W0 s fl x xl pl ns w) {b : Nat} {o o' : Po} (hb : pl b = some o) (hnr : ∀ c, o ≠ .row c) (hnp : o ≠ .prow) (ht : Turned (fun k => k = b) w w') (ho : PoIs (fl .F) (updP pl b o') w' b o') : Al W0 s fl x xl (updP pl b o') ns w' := by
  refine h.stepP (ht.mono fun k hk _ => by rw [hk, hb]; simp) (h.po.turn ht.size b o' (fun c hc e _ => ht.block c (h.po.lt hc) e) (fun c => by rw [hb]; intro e; cases e; exact hnr c rfl) (fun c hc => .inl (updP_other hc)) (updP_same _ _ _) ho) (fun k hk => ?_) (h.sv.keep ht h.po (fun c hc e => ?_) (fun c hc => ?_))
  · by_cases e : k = b
    · left; rw [e, hb]; simp
    · rw [updP_other e] at hk; exact .inl hk
  · rw [e, hb] at hc; cases hc; exact hnp rfl
  · rw [updP_other (by rintro rfl; rw [hb] at hc; cases hc; exact hnp rfl)]; exact hc
theorem blk_inj : ∀ {l : List (Nat × Th)}, (l.filterMap fun p => p.2.blk).Nodup → ∀ {k k' : Nat} {t t' : Th} {c : Nat}, (k, t) ∈ l → (k', t') ∈ l → t.blk = some c → t'.blk = some c → k = k'
  | [], _, _, _, _, _, _, h, _, _, _ => by cases h
  | a :: l, hn, k, k', t, t', c, h, h', e, e' => by
    rcases List.mem_cons.1 h with q | q <;> rcases List.mem_cons.1 h' with q' | q'
    · rw [← q'] at q; cases q; rfl
    · subst q
      rw [List.filterMap_cons, e] at hn
      exact absurd (List.mem_filterMap.2 ⟨_, q', e'⟩) (List.nodup_cons.1 hn).1
    · subst q'
      rw [List.filterMap_cons, e'] at hn
      exact absurd (List.mem_filterMap.2 ⟨_, q, e⟩) (List.nodup_cons.1 hn).1
    · refine blk_inj ?_ q q' e e'
      rw [List.filterMap_cons] at hn
      split at hn
      · exact hn
      · exact (List.nodup_cons.1 hn).2
section
variable {W0 : World} {zp : List Nat} {xp fp N : Nat} {H : List (Nat × Obj)} {w : World}
theorem users_gone {l : List (Nat × Th)} {k : Nat} {t : Th} (hn : (l.map (·.1)).Nodup) (hk : (k, t) ∈ l) (ht : ∀ i, t.isAt i = false) : users (l.filter fun p => decide (p.1 ≠ k)) = users l := funext fun i => by
  have := users_drop hn hk i
  rw [ht i] at this
  simpa using this
/-- all that is open, the sets and where it lies given -/
def StX (W0 : World) (zp : List Nat) (xp fp N : Nat) (H : List (Nat × Obj)) (sets : List (List (Option Nat))) (xl : XId → Nat) (w : World) : Prop := ∃ g s fl x pl ns, St0 W0 zp xp fp N H g s fl x xl pl ns w ∧ g.sets = sets
theorem StX.st {sets : List (List (Option Nat))} {xl : XId → Nat} (h : StX W0 zp xp fp N H sets xl w) : St W0 zp xp fp N H w := by
  obtain ⟨g, s, fl, x, pl, ns, h, _⟩ := h
  exact ⟨g, s, fl, x, xl, pl, ns, h⟩
theorem St.x (h : St W0 zp xp fp N H w) : ∃ sets xl, StX W0 zp xp fp N H sets xl w := by
  obtain ⟨g, s, fl, x, xl, pl, ns, h⟩ := h
  exact ⟨g.sets, xl, g, s, fl, x, pl, ns, h, rfl⟩
/-- what a shut slot leaves, when nothing of the tree and of the pool is turned -/
theorem last_plain {g : Gh} {s : Fs} {fl : FId → Nat} {x : Fx} {xl : XId → Nat} {pl pl' : Nat → Option Po} {ns : Nat} {w1 : World} (h : St0 W0 zp xp fp N H g s fl x xl pl ns w) {j n k : Nat} {l : List (Option Nat)} {t : Th} (hj : g.sets[j]? = some l) (hn : l[n]? = some (some k)) (hk : (k, t) ∈ g.live) (hc : cntS g.sets k = 1) (ht : ∀ i, t.isAt i = false)
    (hA : Al W0 s fl (x.lastT (j : Int) l n k t.val) xl pl' ns w1) (hth : ∀ p ∈ g.live, p.1 ≠ k → ThOk pl' p.2) (hso : SoOk N H pl') : StX W0 zp xp fp N H (g.sets.set j (l.set n none)) xl w1 :=
  ⟨g.last j l n k, s, fl, _, pl', ns, ⟨hA, h.lk.last hj hn hk hc hth (by rw [users_gone h.lk.keys hk ht]; exact h.lk.tidy), h.fF, h.xX, by show zp.length = (g.sets.set _ _).length; rw [List.length_set]; exact h.zn, h.zl, hso, h.ns⟩, rfl⟩
theorem set_self {α : Type} : ∀ {l : List α} {n : Nat} {a : α}, l[n]? = some a → l.set n a = l
  | [], n, a, h => by simp at h
  | b :: l, 0, a, h => by simp at h; rw [List.set_cons_zero, h]
  | b :: l, n + 1, a, h => by rw [List.set_cons_succ, set_self (by simpa using h)]
theorem set_self_none {l : List (Option Nat)} {n : Nat} (h : l[n]? = some none) : l.set n none = l := set_self h
theorem close_far (zb : Nat) (fd : Int) (hf : fd < 0 ∨ 16 ≤ fd) (w : World) :
    Calls Tryz.prog 26 #[ptrOf zb, .int .i64 fd] w fun e w' => (∃ c, e = .returned (.int .i64 c)) ∧ w = w' := by
  have HM := Lib.hid (at_far zb fd w hf)
  clear hf
  unfold ptrOf at *
  go_enter Tryz.func26, Tryz.ntmps26
  go_wp2_with (go_at_call 40; refine HM.out.mono ?_; rintro e w' ⟨rfl, rfl⟩)
  go_ret
  exact ⟨⟨_, rfl⟩, rfl⟩
theorem close_n (j zb n : Nat) (hz : zp[j]? = some zb) (hn16 : n < 16) {sets : List (List (Option Nat))} {xl : XId → Nat} {l0 : List (Option Nat)} (hl0 : sets[j]? = some l0) (h : StX W0 zp xp fp N H sets xl w) :
    Calls Tryz.prog 26 #[ptrOf zb, .int .i64 n] w fun e w' => (∃ c, e = .returned (.int .i64 c)) ∧ StX W0 zp xp fp N H (sets.set j (l0.set n none)) xl w' := by
  obtain ⟨g, s, fl, x, pl, ns, h, rfl⟩ := h
  obtain ⟨l, hl1, hl2, hl3, hl4⟩ := h.set hz
  obtain rfl : l = l0 := by rw [hl1] at hl0; exact Option.some.inj hl0
  obtain ⟨o, ho⟩ : ∃ o, l[n]? = some o := ⟨_, List.getElem?_eq_getElem (by omega)⟩
  cases o with
  | none =>
    have := shut_none (j : Int) l n w h.al.fx hl3 ho
    rw [hl4] at this
    refine this.mono ?_
    rintro e w' ⟨rfl, rfl⟩
    refine ⟨⟨_, rfl⟩, g, s, fl, x, pl, ns, h, ?_⟩
    rw [set_self_none ho, set_self hl1]
  | some k =>
    obtain ⟨t, hkt⟩ := h.lk.used l (List.mem_of_getElem? hl1) k (List.mem_of_getElem? ho)
    obtain ⟨hop, hpos⟩ := h.lk.live _ hkt
    dsimp only at hop hpos
    have hcl := h.lk.cnt_le k
    have hm := h.lk.many
    have hml := h.lk.many_le
    have hsl := h.lk.sets
    have hlp : 0 < g.live.length := List.length_pos_of_mem hkt
    by_cases hc1 : 1 < cntS g.sets k
    · have := shut_more (j : Int) l n k t.val (cntS g.sets k : Int) w h.al.fx hl3 ho hop (by omega) (by omega)
      rw [hl4] at this
      refine this.mono ?_
      rintro e w' ⟨rfl, hst⟩
      exact ⟨⟨_, rfl⟩, ⟨_, s, fl, _, pl, ns, ⟨h.al.stepX hst rfl rfl, h.lk.less hl1 ho hkt hc1, h.fF, h.xX, by show zp.length = (g.sets.set _ _).length; rw [List.length_set]; exact h.zn, h.zl, h.so, h.ns⟩, rfl⟩⟩
    · have hc : cntS g.sets k = 1 := by omega
      rw [hc] at hop
      have hth := h.lk.things _ hkt
      cases t with
      | tape b =>
        have := shut_last (j : Int) l n k 108 (ptrOf b) w h.al.fx hl3 ho hop (by omega) (by omega) 160 (ptrOf b) (fun _ => by unfold ptrOf; kernel_rfl) (enters_of Tryz.func160 (by kernel_rfl) rfl) (StX W0 zp xp fp N H (g.sets.set j (l.set n none)) xl) (fun w1 hst => (tapeclose_any (ptrOf b) w1).mono (by
          rintro e w' ⟨rfl, rfl⟩
          exact ⟨⟨_, rfl⟩, last_plain h hl1 ho hkt hc (fun _ => rfl) (h.al.stepX hst rfl rfl) (fun p hp _ => h.lk.things p hp) h.so⟩))
        rw [hl4] at this
        refine this.mono ?_
        rintro e w' ⟨rfl, h2⟩
        exact ⟨⟨_, rfl⟩, h2⟩
      | sink b =>
        have := shut_last (j : Int) l n k 111 (ptrOf b) w h.al.fx hl3 ho hop (by omega) (by omega) 163 (ptrOf b) (fun _ => by unfold ptrOf; kernel_rfl) (enters_of Tryz.func163 (by kernel_rfl) rfl) (StX W0 zp xp fp N H (g.sets.set j (l.set n none)) xl) (fun w1 hst => (sinkclose_any (ptrOf b) w1).mono (by
          rintro e w' ⟨rfl, rfl⟩
          exact ⟨⟨_, rfl⟩, last_plain h hl1 ho hkt hc (fun _ => rfl) (h.al.stepX hst rfl rfl) (fun p hp _ => h.lk.things p hp) h.so⟩))
        rw [hl4] at this
        refine this.mono ?_
        rintro e w' ⟨rfl, h2⟩
        exact ⟨⟨_, rfl⟩, h2⟩
      | pend b wr =>
        obtain ⟨pp, r, q, hpl⟩ := hth
        have := shut_last (j : Int) l n k 99 (.agg #[ptrOf b, .bool wr]) w h.al.fx hl3 ho hop (by omega) (by omega) 155 (.agg #[ptrOf b, .bool wr]) (fun _ => by unfold ptrOf; kernel_rfl) (enters_of Tryz.func155 (by kernel_rfl) rfl) (StX W0 zp xp fp N H (g.sets.set j (l.set n none)) xl) (fun w1 hst => by
          have hA1 := h.al.stepX hst rfl rfl
          obtain ⟨p1, p2, p3⟩ := hA1.po b _ hpl
          refine (endclose_any b wr pp r q p2 p3 w1 p1).mono ?_
          rintro e w' ⟨h1, ⟨l', r', q', h2, h3, h4⟩, h5⟩
          exact ⟨h1, last_plain h hl1 ho hkt hc (fun _ => rfl) (hA1.turnP hpl (by simp) (by simp) (turned_grown h5) (o' := .pipe l' r' q') ⟨h2, h3, h4⟩) (fun p hp _ => (h.lk.things p hp).sameK hpl trivial) (h.so.upd (by simp) (by rw [hpl]; simp))⟩)
        rw [hl4] at this
        refine this.mono ?_
        rintro e w' ⟨rfl, h2⟩
        exact ⟨⟨_, rfl⟩, h2⟩
      | file b node =>
        obtain ⟨a, f, ha0, ha1, hpl, hn2⟩ := hth
        have := shut_last (j : Int) l n k 115 (ptrOf b) w h.al.fx hl3 ho hop (by omega) (by omega) 167 (ptrOf b) (fun _ => by unfold ptrOf; kernel_rfl) (enters_of Tryz.func167 (by kernel_rfl) rfl) (StX W0 zp xp fp N H (g.sets.set j (l.set n none)) xl) (fun w1 hst => by
          have hA1 := h.al.stepX hst rfl rfl
          have hp1 := hA1.po b _ hpl
          have hpn : pl b ≠ none := by rw [hpl]; simp
          refine (fclose_open b node a f w1 hA1.fs.is (hA1.ap2 b hpn) hp1).mono ?_
          rintro e w' ⟨rfl, hst2, hb2⟩
          -- the file is closed, then its node let go
          have hA2 := hA1.turnP (w' := w1.setCell ⟨b, 4, none⟩ (.bool true)) hpl (by simp) (by simp) ((Turned.refl _ w1).set _ _ (fun _ => rfl)) (o' := .file node a f true) (by
            have := set_rowN (k := 4) (v := .bool true) hp1
            exact this)
          have hul := h.lk.users_lt node
          have hu := users_drop h.lk.keys hkt node
          have hself : (Th.file b node).isAt node = true := by simp [Th.isAt]
          rw [if_pos hself] at hu
          have htd := h.lk.tidy.loose hn2 (by omega) hul
          have hfun : users (g.live.filter fun p => decide (p.1 ≠ k)) = fun j => if j = node then users g.live node - 1 else users g.live j := funext fun i => by
            have hui := users_drop h.lk.keys hkt i
            by_cases e : i = node
            · subst e; rw [if_pos rfl]; omega
            · rw [if_neg e]
              rw [if_neg (by simp [Th.isAt]; exact fun q => e q.symm)] at hui
              omega
          have hA3 := hA2.stepF hst2 htd.whole rfl
          refine ⟨⟨_, rfl⟩, ⟨g.last j l n k, _, fl, _, _, ns, ⟨hA3, h.lk.last hl1 ho hkt hc (fun p hp hpk => ?_) (by rw [hfun]; exact htd), h.fF, h.xX, by show zp.length = (g.sets.set _ _).length; rw [List.length_set]; exact h.zn, h.zl, h.so.upd (by simp) (by rw [hpl]; simp), h.ns⟩, rfl⟩⟩
          have hthp := h.lk.things p hp
          have hkeep : ∀ c o, pl c = some o → c ≠ b → updP pl b (.file node a f true) c = some o := fun c o hc e => by rw [updP_other e]; exact hc
          obtain ⟨pk, pt⟩ := p
          cases pt with
          | tape c => obtain ⟨y, hy⟩ := hthp; exact ⟨y, hkeep c _ hy (by rintro rfl; rw [hpl] at hy; cases hy)⟩
          | sink c => obtain ⟨y, r, hy⟩ := hthp; exact ⟨y, r, hkeep c _ hy (by rintro rfl; rw [hpl] at hy; cases hy)⟩
          | pend c wr => obtain ⟨y, r, q, hy⟩ := hthp; exact ⟨y, r, q, hkeep c _ hy (by rintro rfl; rw [hpl] at hy; cases hy)⟩
          | file c m =>
            obtain ⟨a', f', h1, h2, hy, h4⟩ := hthp
            refine ⟨a', f', h1, h2, hkeep c _ hy ?_, h4⟩
            rintro rfl
            exact hpk (blk_inj h.lk.files hp hkt rfl rfl))
        rw [hl4] at this
        refine this.mono ?_
        rintro e w' ⟨rfl, h2⟩
        exact ⟨⟨_, rfl⟩, h2⟩
end
end Go.Proofs.YtomjjedgmnkciaaGreatDoor
/- fds: a number that is what another one is; sets; what is open. -/
namespace Go.Proofs.YtomjjedgmnkciaaGreatDoor
open Go.RowKit IntWalk
set_option linter.unusedVariables false
set_option linter.unusedSimpArgs false

theorem number_near (n : Nat) (w : World) (hn : n < 16) : Calls Tryz.prog 43 #[.int .i64 n] w fun e w' => e = .returned (.bool true) ∧ w = w' := by
  have h1 : (n : Int) < 16 := by omega
  clear hn
  go_enter Tryz.func43, Tryz.ntmps43
  go_wp2_with fail
  go_ret
  exact ⟨rfl, rfl⟩
section
variable {W0 : World} {zp : List Nat} {xp fp N : Nat} {H : List (Nat × Obj)} {w : World}
theorem StX.slots {sets : List (List (Option Nat))} {xl : XId → Nat} (h : StX W0 zp xp fp N H sets xl w) {j zb : Nat} (hz : zp[j]? = some zb) : ∃ l, sets[j]? = some l ∧ l.length = 16 := by
  obtain ⟨g, s, fl, x, pl, ns, h, rfl⟩ := h
  obtain ⟨l, h1, h2, _⟩ := h.set hz
  exact ⟨l, h1, h2⟩
theorem close_st (j zb : Nat) (hz : zp[j]? = some zb) (fd : Int) (h : St W0 zp xp fp N H w) :
    Calls Tryz.prog 26 #[ptrOf zb, .int .i64 fd] w fun e w' => (∃ c, e = .returned (.int .i64 c)) ∧ St W0 zp xp fp N H w' := by
  rcases far_or fd with hf | ⟨n, rfl, hn⟩
  · refine (close_far zb fd hf w).mono ?_
    rintro e w' ⟨h1, rfl⟩
    exact ⟨h1, h⟩
  · obtain ⟨sets, xl, h⟩ := h.x
    obtain ⟨l, h1, h2⟩ := h.slots hz
    refine (close_n j zb n hz hn h1 h).mono ?_
    rintro e w' ⟨h3, h4⟩
    exact ⟨h3, h4.st⟩
/-- a number is what another one is -/
theorem share_st (j zb n k : Nat) (hz : zp[j]? = some zb) (hn16 : n < 16) {sets : List (List (Option Nat))} {xl : XId → Nat} {l : List (Option Nat)} (hl : sets[j]? = some l) (hn : l[n]? = some none) (hk : some k ∈ l) (h : StX W0 zp xp fp N H sets xl w) :
    Calls Tryz.prog 21 #[ptrOf zb, .int .i64 n, ptrOf (xl (.O k))] w fun e w' => e = .returned (.tuple #[]) ∧ StX W0 zp xp fp N H (sets.set j (l.set n (some k))) xl w' := by
  obtain ⟨g, s, fl, x, pl, ns, h, rfl⟩ := h
  obtain ⟨l', hl1, hl2, hl3, hl4⟩ := h.set hz
  obtain rfl : l' = l := by rw [hl1] at hl; exact Option.some.inj hl
  obtain ⟨t, hkt⟩ := h.lk.used l' (List.mem_of_getElem? hl1) k hk
  obtain ⟨hop, hpos⟩ := h.lk.live _ hkt
  dsimp only at hop hpos
  have hcl := h.lk.cnt_le k
  have := share_more (j : Int) l' n k t.val (cntS g.sets k : Int) w h.al.fx hl3 hn16 hop (by omega) (by omega)
  rw [hl4] at this
  refine this.mono ?_
  rintro e w' ⟨rfl, hst⟩
  exact ⟨rfl, _, s, fl, _, pl, ns, ⟨h.al.stepX hst rfl rfl, h.lk.share hl1 hn hkt, h.fF, h.xX, by show zp.length = (g.sets.set _ _).length; rw [List.length_set]; exact h.zn, h.zl, h.so, h.ns⟩, rfl⟩
theorem dup_st (j zb : Nat) (hz : zp[j]? = some zb) (fd tt : Int) (h : St W0 zp xp fp N H w) :
    Calls Tryz.prog 25 #[ptrOf zb, .int .i64 fd, .int .i64 tt] w fun e w' => (∃ c, e = .returned (.int .i64 c)) ∧ St W0 zp xp fp N H w' := by
  rcases far_or fd with hf | ⟨n, rfl, hn⟩
  · have HM := Lib.hid (at_far zb fd w hf)
    have HS := Lib.hid h
    clear h hf
    unfold ptrOf at *
    go_enter Tryz.func25, Tryz.ntmps25
    go_wp2_with (go_at_call 40; refine HM.out.mono ?_; rintro e w' ⟨rfl, rfl⟩)
    go_ret
    exact ⟨⟨_, rfl⟩, HS.out⟩
  · obtain ⟨g, s, fl, x, xl, pl, ns, h⟩ := h
    obtain ⟨l, hl1, hl2, hl3, hl4⟩ := h.set hz
    obtain ⟨o, ho⟩ : ∃ o, l[n]? = some o := ⟨_, List.getElem?_eq_getElem (by omega)⟩
    have HS := Lib.hid (⟨g, s, fl, x, xl, pl, ns, h⟩ : St W0 zp xp fp N H w)
    cases o with
    | none =>
      have HM := Lib.hid (at_shut (j : Int) l n w h.al.fx hl3 ho)
      rw [hl4] at HM
      clear h ho hl1 hl2 hl3 hl4
      unfold ptrOf at *
      go_enter Tryz.func25, Tryz.ntmps25
      go_wp2_with (go_at_call 40; refine HM.out.mono ?_; rintro e w' ⟨rfl, rfl⟩)
      go_ret
      exact ⟨⟨_, rfl⟩, HS.out⟩
    | some k =>
      have HM := Lib.hid (at_open (j : Int) l n k w h.al.fx hl3 ho)
      rw [hl4] at HM
      rcases far_or tt with hf | ⟨m, rfl, hm⟩
      · have HN := Lib.hid (number_far tt w hf)
        clear h ho hl1 hl2 hl3 hl4 hf
        unfold ptrOf at *
        go_enter Tryz.func25, Tryz.ntmps25
        go_wp2_with first
          | (go_at_call 40; refine HM.out.mono ?_; rintro e w' ⟨rfl, rfl⟩)
          | (go_at_call 43; refine HN.out.mono ?_; rintro e w' ⟨rfl, rfl⟩)
        go_ret
        exact ⟨⟨_, rfl⟩, HS.out⟩
      · have HN := Lib.hid (number_near m w hm)
        by_cases hnm : n = m
        · subst hnm
          clear h ho hl1 hl2 hl3 hl4
          unfold ptrOf at *
          go_enter Tryz.func25, Tryz.ntmps25
          go_wp2_with first
            | (go_at_call 40; refine HM.out.mono ?_; rintro e w' ⟨rfl, rfl⟩)
            | (go_at_call 43; refine HN.out.mono ?_; rintro e w' ⟨rfl, rfl⟩)
          go_ret
          exact ⟨⟨_, rfl⟩, HS.out⟩
        · have hne : ((n : Int) == (m : Int)) = false := by simpa using (show (n : Int) ≠ m by omega)
          have HC := Lib.hid (close_n j zb m hz hm hl1 (⟨g, s, fl, x, pl, ns, h, rfl⟩ : StX W0 zp xp fp N H g.sets xl w))
          have hlt := (List.getElem?_eq_some_iff.1 hl1).1
          have hs1 : (g.sets.set j (l.set m none))[j]? = some (l.set m none) := by rw [List.getElem?_set, if_pos rfl, if_pos hlt]
          have hs2 : (l.set m none)[m]? = some none := by rw [List.getElem?_set, if_pos rfl, if_pos (by omega)]
          have hs3 : some k ∈ l.set m none := List.mem_of_getElem? (i := n) (by rw [List.getElem?_set, if_neg (Ne.symm hnm)]; exact ho)
          have HSH := Lib.hid (fun (w1 : World) (h1 : StX W0 zp xp fp N H (g.sets.set j (l.set m none)) xl w1) => share_st j zb m k hz hm hs1 hs2 hs3 h1)
          clear h ho hl1 hl2 hl3 hl4 hs1 hs2 hs3 hnm
          unfold ptrOf at *
          go_enter Tryz.func25, Tryz.ntmps25
          go_wp2_with first
            | (go_at_call 40; refine HM.out.mono ?_; rintro e w' ⟨rfl, rfl⟩)
            | (go_at_call 43; refine HN.out.mono ?_; rintro e w' ⟨rfl, rfl⟩)
            | (go_at_call 26; refine HC.out.mono ?_; rintro e w1 ⟨⟨c, rfl⟩, h1⟩; have HS2 := Lib.hid (HSH.out w1 h1); clear h1)
            | (go_at_call 21; refine HS2.out.mono ?_; rintro e w2 ⟨rfl, h2⟩)
          go_ret
          exact ⟨⟨_, rfl⟩, h2.st⟩
theorem fork_st (j zb : Nat) (hz : zp[j]? = some zb) (hlen : zp.length < 200) (h : St W0 zp xp fp N H w) :
    Calls Tryz.prog 7 #[ptrOf zb] w fun e w' => ∃ b, e = .returned (ptrOf b) ∧ St W0 (zp ++ [b]) xp fp N H w' := by
  obtain ⟨g, s, fl, x, xl, pl, ns, h⟩ := h
  obtain ⟨l, hl1, hl2, hl3, hl4⟩ := h.set hz
  have hzn := h.zn
  have hnone : x.zs (g.sets.length : Int) = none := by rw [h.lk.zs, if_pos (by omega), Int.toNat_natCast]; simp
  have := setfork_any (j : Int) (g.sets.length : Int) l (fun i => if i = .Z (g.sets.length : Int) then w.heap.size else xl i) w h.al.fx hl3 hnone (fun k hk => by
    obtain ⟨t, hkt⟩ := h.lk.used l (List.mem_of_getElem? hl1) k hk
    obtain ⟨hop, hpos⟩ := h.lk.live _ hkt
    dsimp only at hop hpos
    have hcl := h.lk.cnt_le k
    exact ⟨_, _, hop, by omega, by omega⟩) (fun i => rfl)
  rw [hl4, if_pos rfl] at this
  refine this.mono ?_
  rintro e w' ⟨rfl, hst⟩
  refine ⟨w.heap.size, rfl, _, s, fl, _, _, pl, ns, ⟨h.al.stepX hst rfl rfl, h.lk.fork hl1 (by omega), h.fF, ?_, by simp [hzn], fun i b hi => ?_, h.so, h.ns⟩⟩
  · show (if XId.X = .Z _ then _ else xl .X) = xp
    rw [if_neg (by simp)]; exact h.xX
  · show (if XId.Z (i : Int) = .Z (g.sets.length : Int) then w.heap.size else xl (.Z (i : Int))) = b
    rcases Nat.lt_or_ge i zp.length with q | q
    · rw [if_neg (by simp; omega)]
      rw [List.getElem?_append_left q] at hi
      exact h.zl i b hi
    · have hi2 : i = zp.length := by
        have := (List.getElem?_eq_some_iff.1 hi).1
        simp at this
        omega
      subst hi2
      rw [if_pos (by rw [hzn])]
      simpa using hi
/-- all of a set's numbers are shut -/
theorem end_st (j zb : Nat) (hz : zp[j]? = some zb) {sets : List (List (Option Nat))} {xl : XId → Nat} (h : StX W0 zp xp fp N H sets xl w) :
    Calls Tryz.prog 10 #[ptrOf zb] w fun e w' => e = .returned (.tuple #[]) ∧ StX W0 zp xp fp N H (sets.set j (List.replicate 16 none)) xl w' := by
  obtain ⟨l, h1, h2⟩ := h.slots hz
  have hlt := (List.getElem?_eq_some_iff.1 h1).1
  refine (setend_any zb (fun n W => StX W0 zp xp fp N H (sets.set j (List.replicate n none ++ l.drop n)) xl W) w (by simpa [set_self h1] using h) (fun n W hn hI => ?_)).mono ?_
  · have hs : (sets.set j (List.replicate n none ++ l.drop n))[j]? = some (List.replicate n none ++ l.drop n) := by rw [List.getElem?_set, if_pos rfl, if_pos hlt]
    obtain ⟨o, ho⟩ : ∃ o, l[n]? = some o := ⟨_, List.getElem?_eq_getElem (by omega)⟩
    refine (close_n j zb n hz hn hs hI).mono ?_
    rintro e w' ⟨⟨c, rfl⟩, h3⟩
    rw [List.set_set, (end_slots ho).2] at h3
    exact ⟨⟨c, rfl⟩, h3⟩
  · rintro e w' ⟨rfl, h3⟩
    rw [List.drop_eq_nil_of_le (by omega), List.append_nil] at h3
    exact ⟨rfl, h3⟩
theorem many_st (h : St W0 zp xp fp N H w) : ∃ m : Nat, m ≤ 16 * zp.length ∧ Calls Tryz.prog 9 #[ptrOf xp] w fun e w' => e = .returned (.int .i64 m) ∧ w = w' := by
  obtain ⟨g, s, fl, x, xl, pl, ns, h⟩ := h
  refine ⟨g.live.length, by rw [h.zn]; exact h.lk.many_le, ?_⟩
  have c1 := h.al.fx.x1
  rw [h.xX, h.lk.many] at c1
  clear h
  unfold ptrOf
  go_enter Tryz.func9, Tryz.ntmps9
  go_wp2_with fail
  go_ret
  exact ⟨rfl, rfl⟩
set_option maxRecDepth 100000 in
theorem list_none (j zb : Nat) (hz : zp[j]? = some zb) {sets : List (List (Option Nat))} {xl : XId → Nat} (h : StX W0 zp xp fp N H sets xl w) (hl : sets[j]? = some (List.replicate 16 none)) :
    Calls Tryz.prog 11 #[ptrOf zb] w fun e w' => e = .returned (.slice none 0 0) ∧ w = w' := by
  obtain ⟨g, s, fl, x, pl, ns, h, rfl⟩ := h
  obtain ⟨l, hl1, hl2, hl3, hl4⟩ := h.set hz
  have HE := Lib.hid (show l = List.replicate 16 none by rw [hl1] at hl; exact Option.some.inj hl)
  have HL := Lib.hid (load_slots (j : Int) _ w h.al.fx hl3)
  rw [hl4] at HL
  clear h hl1 hl2 hl3 hl4 hl
  unfold ptrOf at *
  go_enter Tryz.func11, Tryz.ntmps11
  go_wp2_with (refine wpList_load_at rfl 62 _ rfl ⟨zb, 1, none⟩ rfl _ HL.out ?_)
  go_loopw [12, 3] (fun i v W => ∃ n : Nat, i = .int .i64 n ∧ n ≤ 16 ∧ v = .slice none 0 0 ∧ W = w) (fun i _ _ => 16 - (intOf i).toNat)
  case atStart => exact ⟨0, rfl, by omega, rfl, rfl⟩
  case round =>
    obtain ⟨n, rfl, hn, rfl, rfl⟩ := hrel
    by_cases hlt : n < 16
    · have hlt1 : (n : Int) < 16 := by omega
      have hg1 : (l.map (slotV xl)).toArray[n]? = some (.pointer none) := by
        rw [HE.out, List.getElem?_toArray, List.getElem?_map, List.getElem?_replicate, if_pos hlt]; rfl
      have hix := run_index_arr (P := Tryz.prog) (w := wr) Tryz.underlying62 hlt (by kernel_rfl) (by kernel_rfl) hg1
      clear hg1
      go_wp2_with fail
      go_roundw
      case rel => exact ⟨n + 1, by go_num, hlt, rfl, trivial⟩
      case measure => simp [intOf]; omega
    · obtain rfl : n = 16 := by omega
      go_wp2_with fail
      go_ret
      exact ⟨rfl, rfl⟩
end
end Go.Proofs.YtomjjedgmnkciaaGreatDoor
