/- Texts of one proof, packed: FeJ, FeK, FeL -/
import Derived.Test.YtomjjedgmnkciaaGreatDoorP07
set_option linter.unusedVariables false
set_option linter.unusedSimpArgs false
set_option linter.deprecated false
set_option linter.unnecessarySimpa false
/- files: reading and writing, in a tree of files alone. -/
namespace Go.Proofs.YtomjjedgmnkciaaGreatDoor
open Go.RowKit IntWalk
set_option linter.unusedVariables false
set_option linter.unusedSimpArgs false

section
variable {W0 : World} {s : Fs} {lay : FId → Nat} {us : Int → Nat}
/-- nothing is written behind what a file may have -/
theorem iwrite_full (i : Int) (x : Nd) (d : List UInt8) (w : World) (h : FsIs s lay w) (hn : s.nd i = some x) :
    Calls Tryz.prog 102 #[ptrTo (lay .T), .int .i64 i, .int .i64 4096, .string ⟨d.toArray⟩] w fun e w' => (∃ c, e = .returned (.tuple #[.int .i64 0, .int .i64 c])) ∧ w = w' := by
  have HF := Lib.hid (find_some i x w h hn)
  have hsz : (⟨d.toArray⟩ : ByteArray).size = d.length := rfl
  clear h hn
  by_cases hd0 : d = []
  · subst hd0
    unfold ptrTo at *
    go_enter Tryz.func102, Tryz.ntmps102
    go_wp2_with (go_at_call 51; refine HF.out.mono ?_; rintro e w' ⟨rfl, rfl⟩)
    go_loopw [13] (fun v W => v = .int .i64 0 ∧ W = w) (fun v _ => 0)
    case atStart => exact ⟨rfl, rfl⟩
    case round =>
      obtain ⟨rfl, rfl⟩ := hrel
      go_wp2_with fail
      go_ret2
      exact ⟨⟨_, rfl⟩, rfl⟩
  · have hne : (!d.isEmpty) = true := by
      cases d with
      | nil => exact absurd rfl hd0
      | cons a l => rfl
    unfold ptrTo at *
    go_enter Tryz.func102, Tryz.ntmps102
    go_wp2_with (go_at_call 51; refine HF.out.mono ?_; rintro e w' ⟨rfl, rfl⟩)
    go_ret2
    exact ⟨⟨_, rfl⟩, rfl⟩
theorem iread_neg (i : Int) (x : Nd) (at_ : Nat) (n : Int) (w : World) (h : FsIs s lay w) (hn : s.nd i = some x) (hneg : n < 0) :
    Calls Tryz.prog 110 #[ptrTo (lay .T), .int .i64 i, .int .i64 at_, .int .i64 n] w fun e w' => e = .returned (.tuple #[.string ByteArray.empty, .int .i64 1]) ∧ w = w' := by
  have HF := Lib.hid (find_some i x w h hn)
  clear h hn
  unfold ptrTo at *
  go_enter Tryz.func110, Tryz.ntmps110
  go_wp2_with (go_at_call 51; refine HF.out.mono ?_; rintro e w' ⟨rfl, rfl⟩)
  go_ret2
  exact ⟨rfl, rfl⟩
/-- a node that is used is a file -/
theorem Tidy.used (h : Tidy s us) {i : Int} (hu : 0 < us i) : ∃ x, s.nd i = some x ∧ 2 ≤ i ∧ x.kind = 1 ∧ fileE (s.fld Nd.kind i) = 0 ∧ x.taken s ∧ 0 ≤ x.size ∧ x.size ≤ 4096 := by
  have h2 : 2 ≤ i := by
    rcases Int.lt_or_le i 2 with q | q
    · rw [h.gone i (.inl q)] at hu; omega
    · exact q
  cases hn : s.nd i with
  | none => rw [h.gone i (.inr hn)] at hu; omega
  | some x =>
    obtain ⟨k1, k2, k3⟩ := h.whole i x hn
    have hk := (h.file i x h2 hn).kind
    refine ⟨x, rfl, h2, hk, ?_, k1, k2, k3⟩
    unfold Fs.fld
    rw [hn]
    show fileE x.kind = 0
    rw [hk]; rfl
/-- bytes are read -/
theorem nread_any (h : Tidy s us) {i : Int} (hu : 0 < us i) (at_ : Nat) (hat : at_ ≤ 4096) (n : Int) (hn64 : n ≤ 9223372036854775807) (w : World) (hw : FsIs s lay w) :
    ∃ (t : List UInt8) (c : Int), at_ + t.length ≤ 4096 ∧ Calls Tryz.prog 149 #[ptrTo (lay .F), .int .i64 i, .int .i64 at_, .int .i64 n] w fun e w' => e = .returned (.tuple #[.string ⟨t.toArray⟩, .int .i64 c]) ∧ Step s lay w s lay w' := by
  obtain ⟨x, hx, h2, hk, hf, ht, hs0, hs1⟩ := h.used hu
  rcases Int.lt_or_le n 0 with q | q
  · refine ⟨[], 1, by simpa using hat, nread_file i at_ n w hw hf ((iread_neg i x at_ n w hw hx q).mono ?_)⟩
    rintro e w' ⟨rfl, rfl⟩
    exact ⟨rfl, Step.refl hw⟩
  · obtain ⟨m, rfl⟩ : ∃ m : Nat, n = m := ⟨n.toNat, by omega⟩
    rcases Int.lt_or_le (at_ : Int) x.size with z | z
    · refine ⟨s.bytes x at_ (min m (x.size.toNat - at_)), 0, ?_, nread_file i at_ m w hw hf (read_some i x at_ m w hw hx ht ⟨hs0, hs1⟩ z hn64)⟩
      rw [show (s.bytes x at_ (min m (x.size.toNat - at_))).length = min m (x.size.toNat - at_) by simp [Fs.bytes]]
      omega
    · refine ⟨[], 0, by simpa using hat, nread_file i at_ m w hw hf ((read_end i x at_ m w hw hx z).mono ?_)⟩
      rintro e w' ⟨rfl, rfl⟩
      exact ⟨rfl, Step.refl hw⟩
/-- bytes are written -/
theorem nwrite_any (h : Tidy s us) {i : Int} (hu : 0 < us i) (at_ : Nat) (hat : at_ ≤ 4096) (d : List UInt8) (w : World) (hw : FsIs s lay w) :
    Calls Tryz.prog 150 #[ptrTo (lay .F), .int .i64 i, .int .i64 at_, .string ⟨d.toArray⟩] w fun e w' => ∃ (n : Nat) (c : Int) (s' : Fs), e = .returned (.tuple #[.int .i64 n, .int .i64 c]) ∧ (at_ + n ≤ 4096 ∧ Tidy s' us) ∧ Step s lay w s' lay w' := by
  obtain ⟨x, hx, h2, hk, hf, ht, hs0, hs1⟩ := h.used hu
  rcases Nat.lt_or_ge at_ 4096 with q | q
  · refine (nwrite_file i x at_ d w hw hx hf ht ⟨hs0, hs1⟩ q).mono ?_
    rintro e w' ⟨n, s', h1, rfl, h3⟩
    have hl : (d.take (4096 - at_)).length ≤ 4096 - at_ := List.length_take_le _ _
    obtain ⟨k1, k2⟩ := h.write h2 hx at_ (d.take (4096 - at_)) (by omega)
    rw [← h1] at k1 k2
    dsimp only at k1 k2
    exact ⟨n, _, s', rfl, ⟨by omega, k1⟩, h3⟩
  · obtain rfl : at_ = 4096 := by omega
    have HF := Lib.hid (nfile_any i w hw)
    rw [hf] at HF
    have HW := Lib.hid (iwrite_full i x d w hw hx)
    have HS := Lib.hid (Step.refl hw)
    have HT := Lib.hid h
    have f0 := hw.f0
    clear h hw hx hf ht
    unfold ptrTo at *
    go_enter Tryz.func150, Tryz.ntmps150
    go_wp2_with first
      | (go_at_call 64; (with_reducible refine HF.out.mono ?_); rintro e w' ⟨rfl, rfl⟩)
      | (go_at_call 102; (with_reducible refine HW.out.mono ?_); rintro e w' ⟨⟨c, rfl⟩, rfl⟩)
    go_ret2
    exact ⟨0, c, s, rfl, ⟨by omega, HT.out⟩, HS.out⟩
end
end Go.Proofs.YtomjjedgmnkciaaGreatDoor
/- files: a file is read and written. -/
namespace Go.Proofs.YtomjjedgmnkciaaGreatDoor
open Go.RowKit IntWalk
set_option linter.unusedVariables false
set_option linter.unusedSimpArgs false

/-- a file is at another place, the tree another one -/
def FileTo (b : Nat) (node flags : Int) (us : Int → Nat) (s : Fs) (lay : FId → Nat) (w w' : World) : Prop :=
  ∃ (w0 w1 : World) (s' : Fs) (a0 a1 : Nat), (a0 ≤ 4096 ∧ a1 ≤ 4096) ∧ Turned (fun k => k = b) w w0 ∧ w0.heap[b]? = some (.cells (fileC (lay .F) node a0 flags false) 143 (0, 0)) ∧ Step s lay w0 s' lay w1 ∧ Tidy s' us ∧ Turned (fun k => k = b) w1 w' ∧ w'.heap[b]? = some (.cells (fileC (lay .F) node a1 flags false) 143 (0, 0))
section
variable {W0 : World} {s : Fs} {lay : FId → Nat} {us : Int → Nat}
theorem FileTo.same {b : Nat} {node flags : Int} {at_ : Nat} {w : World} (h : FsIs s lay w) (hT : Tidy s us) (hb : w.heap[b]? = some (.cells (fileC (lay .F) node at_ flags false) 143 (0, 0))) (hat : at_ ≤ 4096) : FileTo b node flags us s lay w w :=
  ⟨w, w, s, at_, at_, ⟨hat, hat⟩, Turned.refl _ _, hb, Step.refl h, hT, Turned.refl _ _, hb⟩
theorem fread_any (b : Nat) (node flags n : Int) (at_ : Nat) (w : World) (h : FsIs s lay w) (hT : Tidy s us) (hu : 0 < us node) (hout : ¬ Owns (s.obj lay) lay b) (hb : w.heap[b]? = some (.cells (fileC (lay .F) node at_ flags false) 143 (0, 0))) (hat : at_ ≤ 4096) (hn64 : n ≤ 9223372036854775807) :
    Calls Tryz.prog 168 #[ptrTo b, .int .i64 n] w fun e w' => (∃ (t : List UInt8) (c : Int), e = .returned (.tuple #[.string ⟨t.toArray⟩, .int .i64 c])) ∧ FileTo b node flags us s lay w w' := by
  by_cases h1 : hasF flags 1 = false
  · refine (fread_bad (lay := lay) b node at_ flags n false w hb (.inr h1)).mono ?_
    rintro e w' ⟨⟨c, rfl⟩, rfl⟩
    exact ⟨⟨[], c, rfl⟩, FileTo.same h hT hb hat⟩
  have h2 : hasF flags 1 = true := by simpa using h1
  have HM := Lib.hid (fmay_any (lay := lay) b node at_ flags 1 false w hb)
  simp only [h2, if_true, if_false, Bool.false_eq_true] at HM
  have c0 : w.cell? ⟨b, 0, none⟩ = some (ptrTo (lay .F)) := cell_of_row w _ 0 _ _ _ hb
  have c1 : w.cell? ⟨b, 1, none⟩ = some (.int .i64 node) := cell_of_row w _ 1 _ _ _ hb
  have c2 : w.cell? ⟨b, 2, none⟩ = some (.int .i64 at_) := cell_of_row w _ 2 _ _ _ hb
  obtain ⟨t, c, htl, hR⟩ := nread_any (lay := lay) hT hu at_ hat n hn64 w.drew (h.drewN 1)
  have HR := Lib.hid hR
  have hlt : b < w.drew.heap.size := (Array.getElem?_eq_some_iff.1 hb).1
  have hb2 : w.drew.heap[b]? = _ := hb
  have d0 : w.drew.cell? ⟨b, 0, none⟩ = _ := c0
  have d1 : w.drew.cell? ⟨b, 1, none⟩ = _ := c1
  have d2 : w.drew.cell? ⟨b, 2, none⟩ = _ := c2
  have HTU := Lib.hid ((Turned.refl (fun k => k = b) w).drewN 1)
  have HT := Lib.hid hT
  unfold ptrTo at *
  clear h hb hT hu h1 hR
  go_enter Tryz.func168, Tryz.ntmps168
  go_wp2_with (go_at_call 171; (with_reducible refine HM.out.mono ?_); rintro e w' ⟨rfl, rfl⟩)
  go_region_held3 (fun W => W.cell? ⟨b, 0, none⟩ = some (.pointer (some ⟨lay .F, 0, none⟩)) ∧ W.cell? ⟨b, 1, none⟩ = some (.int .i64 node) ∧ W.cell? ⟨b, 2, none⟩ = some (.int .i64 at_)) (first | exact ⟨d0, d1, d2⟩ | exact ⟨g0, g1, g2⟩ | go_keep) (first | (go_at_call 149; (with_reducible refine HR.out.mono ?_); rintro e w2 ⟨rfl, hst⟩; have hbb := (hst.turned.block b hlt hout).trans hb2; have g0 : w2.cell? ⟨b, 0, none⟩ = some (.pointer (some ⟨lay .F, 0, none⟩)) := cell_of_row w2 _ 0 _ _ _ hbb; have g1 : w2.cell? ⟨b, 1, none⟩ = some (.int .i64 node) := cell_of_row w2 _ 1 _ _ _ hbb; have g2 : w2.cell? ⟨b, 2, none⟩ = some (.int .i64 at_) := cell_of_row w2 _ 2 _ _ _ hbb))
  have zb : w2.frozen? ⟨b, 2, none⟩ = false := by simp [World.frozen?, hbb]
  have hfin := set_rowN (k := 2) (v := .int .i64 ((at_ + t.length : Nat) : Int)) hbb
  have HST := Lib.hid hst
  have hsum : ((at_ + t.length : Nat) : Int) = (at_ : Int) + t.length := by omega
  have hs4 : (at_ : Int) + t.length ≤ 4096 := by omega
  have hsz : (⟨t.toArray⟩ : ByteArray).size = t.length := rfl
  rw [hsum] at hfin
  clear hst HR
  go_wp2_with fail
  go_ret2
  refine ⟨⟨t, c, rfl⟩, w.drew, w2, s, at_, at_ + t.length, ⟨hat, htl⟩, HTU.out, hb2, HST.out, HT.out, (Turned.refl _ w2).set _ _ (fun _ => rfl), ?_⟩
  rw [hsum]
  exact hfin
theorem fwrite_plain (b : Nat) (node flags : Int) (at_ : Nat) (d : List UInt8) (w : World) (h : FsIs s lay w) (hT : Tidy s us) (hu : 0 < us node) (hout : ¬ Owns (s.obj lay) lay b) (hb : w.heap[b]? = some (.cells (fileC (lay .F) node at_ flags false) 143 (0, 0))) (hat : at_ ≤ 4096) (h2 : hasF flags 2 = true) (h4 : hasF flags 4 = false) :
    Calls Tryz.prog 169 #[ptrTo b, .string ⟨d.toArray⟩] w fun e w' => (∃ n c : Int, e = .returned (.tuple #[.int .i64 n, .int .i64 c])) ∧ FileTo b node flags us s lay w w' := by
  have HM := Lib.hid (fmay_any (lay := lay) b node at_ flags 2 false w hb)
  simp only [h2, if_true, if_false, Bool.false_eq_true] at HM
  have c0 : w.cell? ⟨b, 0, none⟩ = some (ptrTo (lay .F)) := cell_of_row w _ 0 _ _ _ hb
  have c1 : w.cell? ⟨b, 1, none⟩ = some (.int .i64 node) := cell_of_row w _ 1 _ _ _ hb
  have c2 : w.cell? ⟨b, 2, none⟩ = some (.int .i64 at_) := cell_of_row w _ 2 _ _ _ hb
  have c3 : w.cell? ⟨b, 3, none⟩ = some (.int .i64 flags) := cell_of_row w _ 3 _ _ _ hb
  have h4' : (bits BinOp.and IntKind.i64 flags 4 != 0) = false := h4
  have HW := Lib.hid (nwrite_any (lay := lay) hT hu at_ hat d w.drew (h.drewN 1))
  have hlt : b < w.drew.heap.size := (Array.getElem?_eq_some_iff.1 hb).1
  have hb2 : w.drew.heap[b]? = _ := hb
  have d0 : w.drew.cell? ⟨b, 0, none⟩ = _ := c0
  have d1 : w.drew.cell? ⟨b, 1, none⟩ = _ := c1
  have d2 : w.drew.cell? ⟨b, 2, none⟩ = _ := c2
  have HTU := Lib.hid ((Turned.refl (fun k => k = b) w).drewN 1)
  unfold ptrTo at *
  clear h hb hT hu
  go_enter Tryz.func169, Tryz.ntmps169
  go_wp2_with (go_at_call 171; (with_reducible refine HM.out.mono ?_); rintro e w' ⟨rfl, rfl⟩)
  go_region_held3 (fun W => W.cell? ⟨b, 0, none⟩ = some (.pointer (some ⟨lay .F, 0, none⟩)) ∧ W.cell? ⟨b, 1, none⟩ = some (.int .i64 node) ∧ W.cell? ⟨b, 2, none⟩ = some (.int .i64 at_)) (first | exact ⟨d0, d1, d2⟩ | exact ⟨g0, g1, g2⟩ | go_keep) (first | (go_at_call 150; (with_reducible refine HW.out.mono ?_); rintro e w2 ⟨n, c, s', rfl, hnt, hst⟩; have hbb := (hst.turned.block b hlt hout).trans hb2; have g0 : w2.cell? ⟨b, 0, none⟩ = some (.pointer (some ⟨lay .F, 0, none⟩)) := cell_of_row w2 _ 0 _ _ _ hbb; have g1 : w2.cell? ⟨b, 1, none⟩ = some (.int .i64 node) := cell_of_row w2 _ 1 _ _ _ hbb; have g2 : w2.cell? ⟨b, 2, none⟩ = some (.int .i64 at_) := cell_of_row w2 _ 2 _ _ _ hbb))
  have zb : w2.frozen? ⟨b, 2, none⟩ = false := by simp [World.frozen?, hbb]
  have hfin := set_rowN (k := 2) (v := .int .i64 ((at_ + n : Nat) : Int)) hbb
  have HST := Lib.hid hst
  have HT := Lib.hid hnt.2
  have hn4 := hnt.1
  have hsum : ((at_ + n : Nat) : Int) = (at_ : Int) + n := by omega
  have hs4 : (at_ : Int) + n ≤ 4096 := by omega
  rw [hsum] at hfin
  clear hst hnt HW
  go_wp2_with fail
  go_ret2
  refine ⟨⟨n, c, rfl⟩, w.drew, w2, s', at_, at_ + n, ⟨hat, hn4⟩, HTU.out, hb2, HST.out, HT.out, (Turned.refl _ w2).set _ _ (fun _ => rfl), ?_⟩
  rw [hsum]
  exact hfin
def cellInt (W : World) (b : Nat) : Int := match W.cell? ⟨b, 2, none⟩ with
  | some (.int _ i) => i
  | _ => 0
theorem cellInt_of {W : World} {b : Nat} {v : Int} (h : W.cell? ⟨b, 2, none⟩ = some (.int .i64 v)) : W.cell? ⟨b, 2, none⟩ = some (.int .i64 (cellInt W b)) := by
  unfold cellInt
  rw [h]
theorem fwrite_app (b : Nat) (node flags : Int) (at_ : Nat) (d : List UInt8) (w : World) (h : FsIs s lay w) (hT : Tidy s us) (hu : 0 < us node) (hout : ¬ Owns (s.obj lay) lay b) (hb : w.heap[b]? = some (.cells (fileC (lay .F) node at_ flags false) 143 (0, 0))) (hat : at_ ≤ 4096) (h2 : hasF flags 2 = true) (h4 : hasF flags 4 = true) :
    Calls Tryz.prog 169 #[ptrTo b, .string ⟨d.toArray⟩] w fun e w' => (∃ n c : Int, e = .returned (.tuple #[.int .i64 n, .int .i64 c])) ∧ FileTo b node flags us s lay w w' := by
  have HM := Lib.hid (fmay_any (lay := lay) b node at_ flags 2 false w hb)
  simp only [h2, if_true, if_false, Bool.false_eq_true] at HM
  have c0 : w.cell? ⟨b, 0, none⟩ = some (ptrTo (lay .F)) := cell_of_row w _ 0 _ _ _ hb
  have c1 : w.cell? ⟨b, 1, none⟩ = some (.int .i64 node) := cell_of_row w _ 1 _ _ _ hb
  have c3 : w.cell? ⟨b, 3, none⟩ = some (.int .i64 flags) := cell_of_row w _ 3 _ _ _ hb
  have h4' : (bits BinOp.and IntKind.i64 flags 4 != 0) = true := h4
  have f0 := h.f0
  obtain ⟨x, hx, hu2, hk, hf, ht, hs0, hs1⟩ := hT.used hu
  obtain ⟨sz, hsz⟩ : ∃ sz : Nat, x.size = sz := ⟨x.size.toNat, by omega⟩
  have hfs : s.fld Nd.size node = (sz : Int) := by unfold Fs.fld; rw [hx]; exact hsz
  have hsz4 : sz ≤ 4096 := by omega
  have HZ := Lib.hid (size_any node w.drew (h.drewN 1))
  rw [hfs] at HZ
  have hb2 : w.drew.heap[b]? = some (.cells (fileC (lay .F) node at_ flags false) 143 (0, 0)) := hb
  have zb : w.drew.frozen? ⟨b, 2, none⟩ = false := by simp [World.frozen?, hb2]
  have d0 : w.drew.cell? ⟨b, 0, none⟩ = some (ptrTo (lay .F)) := c0
  have d1 : w.drew.cell? ⟨b, 1, none⟩ = some (.int .i64 node) := c1
  have df : w.drew.cell? ⟨lay .F, 0, none⟩ = _ := f0
  have d2 := cellInt_of (cell_of_row w.drew _ 2 _ _ _ hb2)
  have hb6 := set_rowN (k := 2) (v := .int .i64 sz) hb2
  have e0 : (w.drew.setCell ⟨b, 2, none⟩ (.int .i64 sz)).cell? ⟨b, 0, none⟩ = some (ptrTo (lay .F)) := cell_of_row _ _ 0 _ _ _ hb6
  have e1 : (w.drew.setCell ⟨b, 2, none⟩ (.int .i64 sz)).cell? ⟨b, 1, none⟩ = some (.int .i64 node) := cell_of_row _ _ 1 _ _ _ hb6
  have e2 := cellInt_of (cell_of_row (w.drew.setCell ⟨b, 2, none⟩ (.int .i64 sz)) _ 2 _ _ _ hb6)
  have ez : (w.drew.setCell ⟨b, 2, none⟩ (.int .i64 sz)).frozen? ⟨b, 2, none⟩ = false := by simp [World.frozen?, hb6]
  have hbn : b ≠ lay .F := fun q => hout ⟨.F, by simp [Fs.obj], q.symm⟩
  have ef : (w.drew.setCell ⟨b, 2, none⟩ (.int .i64 sz)).cell? ⟨lay .F, 0, none⟩ = some (ptrTo (lay .T)) := by rw [cs_block hbn]; exact df
  obtain ⟨w5, hw5⟩ : ∃ w5, w5 = w.drew.setCell ⟨b, 2, none⟩ (.int .i64 sz) := ⟨_, rfl⟩
  have h5 : FsIs s lay w5 := by rw [hw5]; exact is_setL (h.drewN 1) ⟨b, 2, none⟩ _ hout
  have hb5 : w5.drew.heap[b]? = some (.cells (fileC (lay .F) node (sz : Nat) flags false) 143 (0, 0)) := by rw [hw5]; exact set_rowN (k := 2) (v := .int .i64 sz) hb2
  have k0 : w5.drew.cell? ⟨b, 0, none⟩ = some (ptrTo (lay .F)) := cell_of_row w5.drew _ 0 _ _ _ hb5
  have k1 : w5.drew.cell? ⟨b, 1, none⟩ = some (.int .i64 node) := cell_of_row w5.drew _ 1 _ _ _ hb5
  have k2 : w5.drew.cell? ⟨b, 2, none⟩ = some (.int .i64 sz) := cell_of_row w5.drew _ 2 _ _ _ hb5
  have hlt : b < w5.drew.heap.size := (Array.getElem?_eq_some_iff.1 hb5).1
  have HW := Lib.hid (nwrite_any (lay := lay) hT hu sz hsz4 d w5.drew (h5.drewN 1))
  have HTU : RowKit.Hid (Turned (fun k => k = b) w w5.drew) := Lib.hid (by rw [hw5]; exact (((Turned.refl (fun k => k = b) w).drewN 1).set _ _ (fun _ => rfl)).drewN 1)
  unfold ptrTo at *
  clear h hb hT hu hx hk hf ht hsz hfs
  go_enter Tryz.func169, Tryz.ntmps169
  go_wp2_with (go_at_call 171; (with_reducible refine HM.out.mono ?_); rintro e w' ⟨rfl, rfl⟩)
  go_region_held3 (fun W => W.cell? ⟨b, 0, none⟩ = some (.pointer (some ⟨lay .F, 0, none⟩)) ∧ W.cell? ⟨b, 1, none⟩ = some (.int .i64 node) ∧ W.cell? ⟨lay .F, 0, none⟩ = some (.pointer (some ⟨lay .T, 0, none⟩)) ∧ W.frozen? ⟨b, 2, none⟩ = false ∧ W.cell? ⟨b, 2, none⟩ = some (.int .i64 (cellInt W b))) (first | exact ⟨d0, d1, df, zb, d2⟩ | exact ⟨e0, e1, ef, ez, e2⟩ | go_keep) (first | (go_at_call 172; (with_reducible refine HZ.out.mono ?_); rintro e w2 ⟨rfl, rfl⟩))
  refine (congrArg (Exit.then _ _ Exit.normal _) (hw5 : w5 = _)).mp ?_
  clear hw5 HZ
  go_wp2_with fail
  go_region_held3 (fun W => W.cell? ⟨b, 0, none⟩ = some (.pointer (some ⟨lay .F, 0, none⟩)) ∧ W.cell? ⟨b, 1, none⟩ = some (.int .i64 node) ∧ W.cell? ⟨b, 2, none⟩ = some (.int .i64 sz)) (first | exact ⟨k0, k1, k2⟩ | exact ⟨g0, g1, g2⟩ | go_keep) (first | (go_at_call 150; (with_reducible refine HW.out.mono ?_); rintro e w2 ⟨n, c, s', rfl, hnt, hst⟩; have hbb := (hst.turned.block b hlt hout).trans hb5; have g0 : w2.cell? ⟨b, 0, none⟩ = some (.pointer (some ⟨lay .F, 0, none⟩)) := cell_of_row w2 _ 0 _ _ _ hbb; have g1 : w2.cell? ⟨b, 1, none⟩ = some (.int .i64 node) := cell_of_row w2 _ 1 _ _ _ hbb; have g2 : w2.cell? ⟨b, 2, none⟩ = some (.int .i64 sz) := cell_of_row w2 _ 2 _ _ _ hbb))
  have zb : w2.frozen? ⟨b, 2, none⟩ = false := by simp [World.frozen?, hbb]
  have hfin := set_rowN (k := 2) (v := .int .i64 ((sz + n : Nat) : Int)) hbb
  have HST := Lib.hid hst
  have HT := Lib.hid hnt.2
  have hn4 := hnt.1
  have hsum : ((sz + n : Nat) : Int) = (sz : Int) + n := by omega
  have hs4 : (sz : Int) + n ≤ 4096 := by omega
  rw [hsum] at hfin
  clear hst hnt HW
  go_wp2_with fail
  go_ret2
  refine ⟨⟨n, c, rfl⟩, w5.drew, w2, s', sz, sz + n, ⟨hsz4, hn4⟩, HTU.out, hb5, HST.out, HT.out, (Turned.refl _ w2).set _ _ (fun _ => rfl), ?_⟩
  rw [hsum]
  exact hfin
/-- whatever the file's flags -/
theorem fwrite_any (b : Nat) (node flags : Int) (at_ : Nat) (d : List UInt8) (w : World) (h : FsIs s lay w) (hT : Tidy s us) (hu : 0 < us node) (hout : ¬ Owns (s.obj lay) lay b) (hb : w.heap[b]? = some (.cells (fileC (lay .F) node at_ flags false) 143 (0, 0))) (hat : at_ ≤ 4096) :
    Calls Tryz.prog 169 #[ptrTo b, .string ⟨d.toArray⟩] w fun e w' => (∃ n c : Int, e = .returned (.tuple #[.int .i64 n, .int .i64 c])) ∧ FileTo b node flags us s lay w w' := by
  cases h2 : hasF flags 2 with
  | false =>
    refine (fwrite_bad (lay := lay) b node at_ flags false _ w hb (.inr h2)).mono ?_
    rintro e w' ⟨⟨c, rfl⟩, rfl⟩
    exact ⟨⟨0, c, rfl⟩, FileTo.same h hT hb hat⟩
  | true =>
    cases h4 : hasF flags 4 with
    | false => exact fwrite_plain b node flags at_ d w h hT hu hout hb hat h2 h4
    | true => exact fwrite_app b node flags at_ d w h hT hu hout hb hat h2 h4
end
end Go.Proofs.YtomjjedgmnkciaaGreatDoor
/- fds: a number is read from and written to, by what the thing answers; tapes and ends of pipes. -/
namespace Go.Proofs.YtomjjedgmnkciaaGreatDoor
open Go.RowKit IntWalk
set_option linter.unusedVariables false
set_option linter.unusedSimpArgs false

/-- what a Read answers, of whatever bytes -/
def SaysR (e : Ending) : Prop := ∃ (t : List UInt8) (c : Int), e = .returned (.tuple #[.string ⟨t.toArray⟩, .int .i64 c])
def SaysW (e : Ending) : Prop := ∃ n c : Int, e = .returned (.tuple #[.int .i64 n, .int .i64 c])
theorem sread_by {s lay} (i : Int) (l : List (Option Nat)) (n k : Nat) (vt : TypeId) (vu : Value) (c : Int) (m : Int) (w : World) (h : FxIs s lay w) (hi : s.zs i = some l) (hn : l[n]? = some (some k)) (hk : s.op k = some (.iface vt vu, c))
    (f : FuncId) (rv : Value) (hmt : ∀ W : World, (method 332 vt vu "Read").run Tryz.prog W = .ok (f, rv) W) (hent : ∀ args W, (callFunc f args).run Tryz.prog W = .ok (.enter f args) W) (Q : World → Prop) (hc : Calls Tryz.prog f #[rv, .int .i64 m] w fun e w' => SaysR e ∧ Q w') :
    Calls Tryz.prog 20 #[ptrOf (lay (.Z i)), .int .i64 n, .int .i64 m] w fun e w' => SaysR e ∧ Q w' := by
  have c0 := h.o0 hk
  have HA := Lib.hid (at_open i l n k w h hi hn)
  have HC := Lib.hid hc
  unfold ptrOf at *
  clear h hi hn hk hc
  go_enter Tryz.func20, Tryz.ntmps20
  go_wp2_with first
    | (go_at_call 40; refine HA.out.mono ?_; rintro e w' ⟨rfl, rfl⟩)
    | (refine HC.out.mono ?_; rintro e w' ⟨⟨t, c, rfl⟩, hq⟩)
  go_ret2
  exact ⟨⟨t, _, rfl⟩, hq⟩
theorem swrite_by {s lay} (i : Int) (l : List (Option Nat)) (n k : Nat) (vt : TypeId) (vu : Value) (c : Int) (d : ByteArray) (w : World) (h : FxIs s lay w) (hi : s.zs i = some l) (hn : l[n]? = some (some k)) (hk : s.op k = some (.iface vt vu, c))
    (f : FuncId) (rv : Value) (hmt : ∀ W : World, (method 332 vt vu "Write").run Tryz.prog W = .ok (f, rv) W) (hent : ∀ args W, (callFunc f args).run Tryz.prog W = .ok (.enter f args) W) (Q : World → Prop) (hc : Calls Tryz.prog f #[rv, .string d] w fun e w' => SaysW e ∧ Q w') :
    Calls Tryz.prog 19 #[ptrOf (lay (.Z i)), .int .i64 n, .string d] w fun e w' => SaysW e ∧ Q w' := by
  have c0 := h.o0 hk
  have HA := Lib.hid (at_open i l n k w h hi hn)
  have HC := Lib.hid hc
  unfold ptrOf at *
  clear h hi hn hk hc
  go_enter Tryz.func19, Tryz.ntmps19
  go_wp2_with first
    | (go_at_call 40; refine HA.out.mono ?_; rintro e w' ⟨rfl, rfl⟩)
    | (refine HC.out.mono ?_; rintro e w' ⟨⟨n, c, rfl⟩, hq⟩)
  go_ret2
  exact ⟨⟨_, _, rfl⟩, hq⟩
/-- a set's number that is not open, or none -/
theorem sread_none {s lay} (i : Int) (l : List (Option Nat)) (n : Nat) (m : Int) (w : World) (h : FxIs s lay w) (hi : s.zs i = some l) (hn : l[n]? = some none) :
    Calls Tryz.prog 20 #[ptrOf (lay (.Z i)), .int .i64 n, .int .i64 m] w fun e w' => SaysR e ∧ w = w' := by
  have HA := Lib.hid (at_shut i l n w h hi hn)
  unfold ptrOf at *
  clear h hi hn
  go_enter Tryz.func20, Tryz.ntmps20
  go_wp2_with (go_at_call 40; refine HA.out.mono ?_; rintro e w' ⟨rfl, rfl⟩)
  go_ret2
  exact ⟨⟨[], _, rfl⟩, rfl⟩
theorem sread_far (zb : Nat) (fd m : Int) (hf : fd < 0 ∨ 16 ≤ fd) (w : World) :
    Calls Tryz.prog 20 #[ptrOf zb, .int .i64 fd, .int .i64 m] w fun e w' => SaysR e ∧ w = w' := by
  have HA := Lib.hid (at_far zb fd w hf)
  unfold ptrOf at *
  clear hf
  go_enter Tryz.func20, Tryz.ntmps20
  go_wp2_with (go_at_call 40; refine HA.out.mono ?_; rintro e w' ⟨rfl, rfl⟩)
  go_ret2
  exact ⟨⟨[], _, rfl⟩, rfl⟩
theorem swrite_none {s lay} (i : Int) (l : List (Option Nat)) (n : Nat) (d : ByteArray) (w : World) (h : FxIs s lay w) (hi : s.zs i = some l) (hn : l[n]? = some none) :
    Calls Tryz.prog 19 #[ptrOf (lay (.Z i)), .int .i64 n, .string d] w fun e w' => SaysW e ∧ w = w' := by
  have HA := Lib.hid (at_shut i l n w h hi hn)
  unfold ptrOf at *
  clear h hi hn
  go_enter Tryz.func19, Tryz.ntmps19
  go_wp2_with (go_at_call 40; refine HA.out.mono ?_; rintro e w' ⟨rfl, rfl⟩)
  go_ret2
  exact ⟨⟨_, _, rfl⟩, rfl⟩
theorem swrite_far (zb : Nat) (fd : Int) (d : ByteArray) (hf : fd < 0 ∨ 16 ≤ fd) (w : World) :
    Calls Tryz.prog 19 #[ptrOf zb, .int .i64 fd, .string d] w fun e w' => SaysW e ∧ w = w' := by
  have HA := Lib.hid (at_far zb fd w hf)
  unfold ptrOf at *
  clear hf
  go_enter Tryz.func19, Tryz.ntmps19
  go_wp2_with (go_at_call 40; refine HA.out.mono ?_; rintro e w' ⟨rfl, rfl⟩)
  go_ret2
  exact ⟨⟨_, _, rfl⟩, rfl⟩
/-! ### tapes -/
theorem tapewrite_any (b : Value) (d : ByteArray) (w : World) : Calls Tryz.prog 162 #[b, .string d] w fun e w' => SaysW e ∧ w = w' := by
  go_enter Tryz.func162, Tryz.ntmps162
  go_wp2
  go_ret2
  exact ⟨⟨_, _, rfl⟩, rfl⟩
theorem sinkread_any (b : Value) (m : Int) (w : World) : Calls Tryz.prog 164 #[b, .int .i64 m] w fun e w' => SaysR e ∧ w = w' := by
  go_enter Tryz.func164, Tryz.ntmps164
  go_wp2
  go_ret2
  exact ⟨⟨[], _, rfl⟩, rfl⟩
/-- a tape with other bytes left -/
def TapeTo (b : Nat) (w w' : World) : Prop := ∃ s : List UInt8, s.length ≤ 1000000 ∧ Turned (fun k => k = b) w w' ∧ w'.heap[b]? = some (.cells #[.string ⟨s.toArray⟩] 110 (0, 0))
set_option maxRecDepth 100000 in
theorem taperead_any (b : Nat) (rest : List UInt8) (n : Int) (w : World) (hb : w.heap[b]? = some (.cells #[.string ⟨rest.toArray⟩] 110 (0, 0))) (hr : rest.length ≤ 1000000) :
    Calls Tryz.prog 161 #[ptrOf b, .int .i64 n] w fun e w' => SaysR e ∧ TapeTo b w w' := by
  have hsz : (⟨rest.toArray⟩ : ByteArray).size = rest.length := rfl
  have hr1 : (rest.length : Int) ≤ 1000000 := by omega
  have HT0 : RowKit.Hid (TapeTo b w w) := Lib.hid ⟨rest, hr, Turned.refl _ _, hb⟩
  have h1 : w.cell? ⟨b, 0, none⟩ = some (.string ⟨rest.toArray⟩) := cell_of_row w _ 0 _ _ _ hb
  have h2 : w.frozen? ⟨b, 0, none⟩ = false := by simp [World.frozen?, hb]
  have HTO := Lib.hid (fun (nq : Nat) (s : List UInt8) (hs : s.length ≤ 1000000) => (⟨s, hs, ((Turned.refl (fun k => k = b) w).drewN nq).set ⟨b, 0, none⟩ (.string ⟨s.toArray⟩) (fun _ => rfl), set_rowN (k := 0) (v := .string ⟨s.toArray⟩) (show (w.drewN nq).heap[b]? = _ from hb)⟩ : TapeTo b w ((w.drewN nq).setCell ⟨b, 0, none⟩ (.string ⟨s.toArray⟩))))
  unfold ptrOf at *
  rcases Int.lt_or_le n 0 with q | q
  · clear hb
    go_enter Tryz.func161, Tryz.ntmps161
    go_wp2_with fail
    go_ret2
    exact ⟨⟨[], _, rfl⟩, HT0.out⟩
  · obtain ⟨m, rfl⟩ : ∃ m : Nat, n = m := ⟨n.toNat, by omega⟩
    by_cases hle : m ≤ rest.length
    · have hle1 : ¬ (rest.length : Int) < m := by omega
      have hm1 : (m : Int) ≤ 1000000 := by omega
      have hdl : (rest.drop m).length ≤ 1000000 := by rw [List.length_drop]; omega
      clear hb
      go_enter Tryz.func161, Tryz.ntmps161
      go_wp2_with fail
      go_quiet (fail)
      have g1 : (w.drewN nq).cell? ⟨b, 0, none⟩ = some (.string ⟨rest.toArray⟩) := h1
      have g2 : (w.drewN nq).frozen? ⟨b, 0, none⟩ = false := h2
      have hl2 : ((rest.take m).length : Int) ≤ rest.length := by rw [List.length_take]; omega
      go_wp2_with fail
      go_ret2
      refine ⟨⟨rest.take m, 0, by simp; omega⟩, HTO.out nq _ ?_⟩
      first | exact hdl | (simp only [List.length_drop, List.length_take]; omega)
    · have hle1 : (rest.length : Int) < m := by omega
      clear hb
      go_enter Tryz.func161, Tryz.ntmps161
      go_wp2_with fail
      go_quiet (fail)
      have g1 : (w.drewN nq).cell? ⟨b, 0, none⟩ = some (.string ⟨rest.toArray⟩) := h1
      have g2 : (w.drewN nq).frozen? ⟨b, 0, none⟩ = false := h2
      go_wp2_with fail
      go_ret2
      refine ⟨⟨rest.take m, 0, by simp; omega⟩, HTO.out nq _ ?_⟩
      simp; omega
/-! ### ends of pipes -/
def PipeTo (b r q : Nat) (w w' : World) : Prop := ∃ l, PipeSt w' b l r q ∧ w.grownBy w' (some b)
theorem grown_of_alloc {w w' : World} {o : Obj} {b : Nat} (h : (w.alloc o).grownBy w' (some b)) : w.grownBy w' (some b) :=
  ⟨h.os, h.tape, h.output, by have := h.size; simp at this; omega, fun k hk hne => (h.block k (by simp; omega) hne).trans (Below.heap_alloc _ _ _ hk)⟩
theorem grown_allocd (w : World) (o : Obj) (b : Nat) : w.grownBy (w.alloc o) (some b) := ⟨rfl, rfl, rfl, by simp, fun k hk _ => Below.heap_alloc _ _ _ hk⟩
theorem endread_any (b : Nat) (wr : Bool) (l : List UInt8) (r q : Nat) (n : Int) (w : World) (h : PipeSt w b l r q) :
    Calls Tryz.prog 156 #[.agg #[ptrOf b, .bool wr], .int .i64 n] w fun e w' => SaysR e ∧ PipeTo b r q w w' := by
  have hlt := PipeSt.lt h
  have hk : ∀ o, PipeSt (w.alloc o) b l r q := fun o => PipeSt.keep h (Below.heap_alloc w o _ hlt)
  have HL := Lib.hid fun o => read_st n b l r q (w.alloc o) (hk o)
  have HK := Lib.hid hk
  unfold ptrOf at *
  clear h hlt hk
  cases wr with
  | true =>
    go_enter Tryz.func156, Tryz.ntmps156
    go_wp2_with fail
    go_ret2
    exact ⟨⟨[], _, rfl⟩, l, HK.out _, grown_allocd _ _ _⟩
  | false =>
    go_enter Tryz.func156, Tryz.ntmps156
    go_wp2_with (go_at_call 153; refine (HL.out _).mono ?_; rintro e w' ⟨rfl, h1, h2⟩)
    go_ret2
    exact ⟨⟨_, _, rfl⟩, _, h1, grown_of_alloc h2⟩
theorem endwrite_any (b : Nat) (wr : Bool) (l : List UInt8) (r q : Nat) (d : List UInt8) (hd : d.length ≤ 1000000) (w : World) (h : PipeSt w b l r q) :
    Calls Tryz.prog 157 #[.agg #[ptrOf b, .bool wr], .string ⟨d.toArray⟩] w fun e w' => SaysW e ∧ PipeTo b r q w w' := by
  have hlt := PipeSt.lt h
  have hk : ∀ o, PipeSt (w.alloc o) b l r q := fun o => PipeSt.keep h (Below.heap_alloc w o _ hlt)
  have HL := Lib.hid fun o => write_st d (by simp only [maxLen]; omega) b l r q (w.alloc o) (hk o)
  have HK := Lib.hid hk
  unfold ptrOf at *
  clear h hlt hk
  cases wr with
  | false =>
    go_enter Tryz.func157, Tryz.ntmps157
    go_wp2_with fail
    go_ret2
    exact ⟨⟨_, _, rfl⟩, l, HK.out _, grown_allocd _ _ _⟩
  | true =>
    go_enter Tryz.func157, Tryz.ntmps157
    go_wp2_with (go_at_call 154; refine (HL.out _).mono ?_; rintro e w' ⟨rfl, h1, h2⟩)
    go_ret2
    exact ⟨⟨_, _, rfl⟩, _, h1, grown_of_alloc h2⟩
end Go.Proofs.YtomjjedgmnkciaaGreatDoor
