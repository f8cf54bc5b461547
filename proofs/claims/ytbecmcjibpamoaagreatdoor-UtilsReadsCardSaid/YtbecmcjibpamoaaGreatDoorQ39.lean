/- UtG UtH UtR UtI UtJ UrL -/
import Derived.Test.YtbecmcjibpamoaaGreatDoorQ38
import Derived.Defers
import Derived.Test.YtbecmcjibpamoaaGreatDoorQ33
set_option linter.unusedVariables false
set_option linter.unusedSimpArgs false
set_option linter.deprecated false
set_option linter.unnecessarySimpa false
namespace Go.Proofs.YtbecmcjibpamoaaGreatDoor
open Go.RowKit IntWalk
section
variable {w : World} {D F : Nat} {x out : List UInt8} {v : Value}
end
section
variable {W0 : World} {s : Fs} {lay : FId → Nat} {d : Dr} {k : Nat}
end
end Go.Proofs.YtbecmcjibpamoaaGreatDoor
namespace Go.Proofs.YtbecmcjibpamoaaGreatDoor
open Go.RowKit IntWalk
section
variable {w : World} {D F : Nat} {x out : List UInt8} {v : Value}
end
section
variable {W0 : World} {s : Fs} {lay : FId → Nat} {d : Dr} {k : Nat}
end
end Go.Proofs.YtbecmcjibpamoaaGreatDoor
namespace Go.Proofs.YtbecmcjibpamoaaGreatDoor
open Go.RowKit IntWalk
section
variable {W0 : World} {s : Fs} {lay : FId → Nat} {d : Dr} {t u : List UInt8} {n : Int}
end
end Go.Proofs.YtbecmcjibpamoaaGreatDoor
namespace Go.Proofs.YtbecmcjibpamoaaGreatDoor
open Go.RowKit IntWalk
section
variable {w : World} {D F : Nat} {x out : List UInt8} {v : Value}
end
section
variable {W0 : World} {s : Fs} {lay : FId → Nat} {d : Dr} {k : Nat}
end
end Go.Proofs.YtbecmcjibpamoaaGreatDoor
namespace Go.Proofs.YtbecmcjibpamoaaGreatDoor
open Go.RowKit IntWalk
section
variable {W0 : World} {s : Fs} {lay : FId → Nat} {d : Dr} {k : Nat}
theorem FK.pre {s' : Fs} {lay' : FId → Nat} {w w1 w' : World} {ex : Option Nat} (h0 : FsIs s lay w) (hb : Below w.heap.size w w1) (h : FK ex s lay w1 s' lay' w') (hx : ∀ b, ex = some b → w.heap.size ≤ b) : FK none s lay w s' lay' w' :=
  ⟨h.is, h.F, ⟨h.turned.os.trans hb.os, h.turned.tape.trans hb.tape, h.turned.output.trans hb.output, Nat.le_trans hb.size h.turned.size, fun k hk hn => (h.turned.block k (Nat.lt_of_lt_of_le hk hb.size) (fun q => q.elim (fun q => hn (.inl q)) (fun q => by have := hx k q; omega))).trans (hb.block k hk)⟩,
   fun k hk => (h.own k hk).elim .inl (fun q => .inr (Nat.le_trans hb.size q))⟩
theorem FsIn.kept1 {w w' : World} (h : FsIn W0 s lay w) (hb : Below w.heap.size w w') : FsIn W0 s lay w' :=
  ⟨⟨h.is.lies.kept fun i hi => hb.block _ (h.is.lies.owns_lt ⟨i, hi, rfl⟩), h.is.ok⟩, h.low, h.below.trans (hb.mono h.below.size), h.whole⟩
theorem done_three {w : World} {b : Nat} {v0 v1 v2 : Value} {ty : TypeId} (h : w.heap[b]? = some (.cells #[v0, v1, v2] ty (0, 0))) (u0 u1 u2 : Value) :
    (((w.setCell ⟨b, 0, none⟩ u0).setCell ⟨b, 1, none⟩ u1).setCell ⟨b, 2, none⟩ u2).heap[b]? = some (.cells #[u0, u1, u2] ty (0, 0)) := three_set h u0 u1 u2
theorem done_ret (w : World) (g : Nat) (a b c : Value) (hg : w.heap[g]? = some (.cells #[a, b, c] 32 (0, 0))) {fn : Func} {p : Tmp} (h : fn.results = #[.cell p 32]) (tmps : Array Value) (hp : tmps.getD p undef = .pointer (some ⟨g, 0, none⟩)) :
    (results fn tmps).run Tryz.prog w = .ok (.agg #[a, b, c]) w :=
  results_cell_row h tmps w g _ #[a, b, c] _ _ hp hg Tryz.underlying32 rfl (by kernel_rfl)
end
end Go.Proofs.YtbecmcjibpamoaaGreatDoor
namespace Go.Proofs.YtbecmcjibpamoaaGreatDoor
open Go.RowKit IntWalk
structure Mild (s : Fs) : Prop where
  gen : Gen s
  nds : ∀ (k : Nat) x, s.nodes[k]? = some (some x) → x.users = 0 ∧ (x.kind ≠ 2 → x.names = 1) ∧ (fileE x.kind = 0 → x.size ≤ 13)
def CodeOk (r : Int × Int × Nat) : Prop := 0 ≤ r.2.1 ∧ r.2.1 ≤ 100
theorem partS_code {s : Fs} {go : Int → List UInt8 → Nat → Int × Int × Nat} (hgo : ∀ a p k, CodeOk (go a p k)) (at_ : Int) (p : List UInt8) (fol : Bool) (links : Nat) : CodeOk (s.partS go at_ p fol links) := by
  have h0 : ∀ (a b : Int) (l : Nat), 0 ≤ b ∧ b ≤ 100 → CodeOk (a, b, l) := fun a b l h => h
  unfold Fs.partS
  split
  · exact h0 _ _ _ (by decide)
  · split
    · exact h0 _ _ _ (by decide)
    · split
      · split <;> exact h0 _ _ _ (by decide)
      · split
        · exact h0 _ _ _ (by decide)
        · split
          · exact h0 _ _ _ (by decide)
          · split
            · exact h0 _ _ _ (by decide)
            · split
              · exact h0 _ _ _ (by decide)
              · exact hgo _ _ _
theorem partsS_code {s : Fs} {go : Int → List UInt8 → Nat → Int × Int × Nat} (hgo : ∀ a p k, CodeOk (go a p k)) (fol : Bool) : ∀ (l : List (List UInt8)) (at_ : Int) (links : Nat), CodeOk (s.partsS go fol at_ l links)
  | [], at_, links => by unfold Fs.partsS; exact ⟨by simp, by simp⟩
  | p :: l, at_, links => by
    have h1 := partS_code (s := s) hgo at_ p (fol || !l.isEmpty) links
    unfold Fs.partsS
    split
    · rename_i n k' hp
      exact partsS_code (s := s) hgo fol l n k'
    · rename_i n e k' _ hp
      rw [hp] at h1
      exact h1
theorem goesS_code {s : Fs} : ∀ (f : Nat) (at_ : Int) (p : List UInt8) (fol : Bool) (links : Nat), CodeOk (s.goesS f at_ p fol links)
  | 0, _, _, _, links => by unfold Fs.goesS; exact ⟨by simp, by simp⟩
  | f + 1, at_, p, fol, links => by
    unfold Fs.goesS
    split
    · exact ⟨by simp, by simp⟩
    · split
      · exact ⟨by simp, by simp⟩
      · exact partsS_code (fun a p k => goesS_code f a p true k) fol _ _ links
theorem walk_code (s : Fs) (dir : Int) (p : List UInt8) (fol : Bool) : 0 ≤ (s.walkS dir p fol).2 ∧ (s.walkS dir p fol).2 ≤ 100 := by
  unfold Fs.walkS
  split
  · exact ⟨by simp, by simp⟩
  · exact goesS_code 9 dir p fol 0
theorem open_read (s : Fs) (p : List UInt8) : (∃ c : Int, c ≠ 0 ∧ 0 ≤ c ∧ c ≤ 100 ∧ s.openS 1 p 1 = (none, c, s)) ∨ ∃ i : Int, s.fld Nd.kind i ≠ 2 ∧ s.openS 1 p 1 = (some i, 0, (s.holdS i).2) := by
  have hc := walk_code s 1 p true
  obtain ⟨i, c, hw⟩ : ∃ i c, s.walkS 1 p true = (i, c) := ⟨_, _, rfl⟩
  rw [hw] at hc
  have hfs : s.findS 1 p 1 = (i, c, s) := by
    unfold Fs.findS
    rw [hw]
    dsimp only
    rw [has1_8]
    simp only [Bool.false_eq_true, if_false, false_and, and_false]
    split
    · rename_i h; rw [h]
    · rfl
  unfold Fs.openS
  rw [if_pos flags1, hfs]
  dsimp only
  by_cases h0 : c = 0
  · rw [if_neg (by simpa using h0), has1_16]
    by_cases h2 : s.fld Nd.kind i = 2
    · rw [if_pos h2]
      exact .inl ⟨24, by decide, by decide, by decide, rfl⟩
    · rw [if_neg h2]
      refine .inr ⟨i, h2, ?_⟩
      rw [if_neg (by simp)]
  · rw [if_pos h0]
    exact .inl ⟨c, h0, hc.1, hc.2, rfl⟩
theorem Mild.back {s : Fs} (h : Mild s) {i : Int} (hk : s.fld Nd.kind i ≠ 2) : (∃ c : Int, (s.holdS i).2.looseS i = (c, s)) ∧ Gen (s.holdS i).2 ∧ (fileE ((s.holdS i).2.fld Nd.kind i) = 0 → ∃ x, (s.holdS i).2.nd i = some x ∧ x.size ≤ 13) := by
  cases hn : s.nd i with
  | none =>
    have hh : s.holdS i = (23, s) := by unfold Fs.holdS; rw [hn]
    have hl : s.looseS i = (23, s) := by unfold Fs.looseS; rw [hn]
    rw [hh]
    refine ⟨⟨23, hl⟩, h.gen, fun hf => ?_⟩
    have : s.fld Nd.kind i = 0 := by unfold Fs.fld; rw [hn]
    rw [this] at hf
    exact absurd hf (by decide)
  | some x =>
    obtain ⟨h1, h2, h3⟩ := Fs.nd_slot hn
    obtain ⟨k, rfl⟩ : ∃ k : Nat, i = (k : Int) + 1 := ⟨(i - 1).toNat, by omega⟩
    rw [slotOf_eq] at h3
    rw [fld_at h3] at hk
    obtain ⟨hu, hn1, hs⟩ := h.nds k x h3
    obtain ⟨q1, q2, q3⟩ := hold_loose h3 hu (hn1 hk)
    refine ⟨⟨_, q3⟩, by rw [hold_at h3]; exact h.gen.setAt h3 rfl rfl, fun hf => ⟨_, nd_at q1, ?_⟩⟩
    rw [fld_at q1] at hf
    exact hs hf
section
variable {W0 : World} {s : Fs} {lay : FId → Nat}
theorem nread_le {i : Int} (w : World) (h : FsIs s lay w) (hG : Gen s) (hx : fileE (s.fld Nd.kind i) = 0 → ∃ x, s.nd i = some x ∧ x.size ≤ 13) :
    ∃ (t : List UInt8) (c : Int), t.length ≤ 13 ∧ Calls Tryz.prog 61 #[ptrTo (lay .F), .int .i64 i, .int .i64 0, .int .i64 4096] w fun e w' => e = .returned (.tuple #[.string ⟨t.toArray⟩, .int .i64 c]) ∧ Step s lay w s lay w' := by
  by_cases hk : fileE (s.fld Nd.kind i) = 0
  · obtain ⟨x, hn, hs⟩ := hx hk
    obtain ⟨ht, h0, h1⟩ := hG.whole i x hn
    by_cases hz : x.size ≤ 0
    · refine ⟨[], 0, by simp, nread_file i 0 4096 w h hk ((read_end i x 0 4096 w h hn (by omega)).mono ?_)⟩
      rintro e w' ⟨rfl, rfl⟩
      exact ⟨rfl, Step.refl h⟩
    · refine ⟨s.bytes x 0 (min 4096 (x.size.toNat - 0)), 0, ?_, nread_file i 0 4096 w h hk (read_some i x 0 4096 w h hn ht ⟨h0, h1⟩ (by omega) (by omega))⟩
      rw [show (s.bytes x 0 (min 4096 (x.size.toNat - 0))).length = min 4096 (x.size.toNat - 0) by simp [Fs.bytes]]
      omega
  · refine ⟨[], fileE (s.fld Nd.kind i), by simp, (nread_nofile i 0 4096 w h hk).mono ?_⟩
    rintro e w' ⟨rfl, rfl⟩
    exact ⟨rfl, Step.refl h⟩
set_option maxRecDepth 100000 in
theorem fread_le {i : Int} (b : Nat) (w : World) (h : FsIs s lay w) (hout : ¬ Owns (s.obj lay) lay b) (hb : w.heap[b]? = some (.cells (fileV lay i 0 1 false) 177 (0, 0))) (hG : Gen s) (hx : fileE (s.fld Nd.kind i) = 0 → ∃ x, s.nd i = some x ∧ x.size ≤ 13) :
    Calls Tryz.prog 85 #[ptrTo b, .int .i64 4096] w fun e w' => (∃ (t : List UInt8) (c : Int), t.length ≤ 13 ∧ e = .returned (.tuple #[.string ⟨t.toArray⟩, .int .i64 c])) ∧ FK (some b) s lay w s lay w' ∧ ∃ n : Int, w'.heap[b]? = some (.cells (fileV lay i n 1 false) 177 (0, 0)) := by
  have HM := Lib.hid (fmay_any b i 0 1 1 false w hb)
  simp only [show hasF 1 1 = true by kernel_rfl, if_true, if_false, Bool.false_eq_true] at HM
  have c0 : w.cell? ⟨b, 0, none⟩ = some (ptrTo (lay .F)) := cell_of_row w _ 0 _ _ _ hb
  have c1 : w.cell? ⟨b, 1, none⟩ = some (.int .i64 i) := cell_of_row w _ 1 _ _ _ hb
  have c2 : w.cell? ⟨b, 2, none⟩ = some (.int .i64 0) := cell_of_row w _ 2 _ _ _ hb
  obtain ⟨t, c, htl, hR⟩ := nread_le w.drew (h.drewN 1) hG hx
  have HR := Lib.hid hR
  have hlt : b < w.drew.heap.size := (Array.getElem?_eq_some_iff.1 hb).1
  have hb2 : w.drew.heap[b]? = _ := hb
  have d0 : w.drew.cell? ⟨b, 0, none⟩ = _ := c0
  have d1 : w.drew.cell? ⟨b, 1, none⟩ = _ := c1
  have d2 : w.drew.cell? ⟨b, 2, none⟩ = _ := c2
  have hst0 := (Step.refl h).drewN 1
  have HS0 := Lib.hid hst0
  unfold ptrTo at *
  clear h hb hst0 hR hx
  go_enter Tryz.func85, Tryz.ntmps85
  go_wp2_with (go_at_call 126; (with_reducible refine HM.out.mono ?_); rintro e w' ⟨rfl, rfl⟩)
  go_region_held3 (fun W => W.cell? ⟨b, 0, none⟩ = some (.pointer (some ⟨lay .F, 0, none⟩)) ∧ W.cell? ⟨b, 1, none⟩ = some (.int .i64 i) ∧ W.cell? ⟨b, 2, none⟩ = some (.int .i64 0)) (first | exact ⟨d0, d1, d2⟩ | exact ⟨g0, g1, g2⟩ | go_keep) (first | (go_at_call 61; (with_reducible refine HR.out.mono ?_); rintro e w2 ⟨rfl, hst⟩; have hbb := (hst.turned.block b hlt hout).trans hb2; have g0 : w2.cell? ⟨b, 0, none⟩ = some (.pointer (some ⟨lay .F, 0, none⟩)) := cell_of_row w2 _ 0 _ _ _ hbb; have g1 : w2.cell? ⟨b, 1, none⟩ = some (.int .i64 i) := cell_of_row w2 _ 1 _ _ _ hbb; have g2 : w2.cell? ⟨b, 2, none⟩ = some (.int .i64 0) := cell_of_row w2 _ 2 _ _ _ hbb))
  have zb : w2.frozen? ⟨b, 2, none⟩ = false := by simp [World.frozen?, hbb]
  have hfin := set_rowN (k := 2) (v := .int .i64 (t.length : Int)) hbb
  have hall := (FK.of (ex := some b) (HS0.out.trans hst) rfl).set hout 2 (.int .i64 (t.length : Int))
  clear hst HR
  go_wp2_with fail
  go_ret2
  exact ⟨⟨t, c, htl, rfl⟩, hall, _, hfin⟩
end
end Go.Proofs.YtbecmcjibpamoaaGreatDoor
