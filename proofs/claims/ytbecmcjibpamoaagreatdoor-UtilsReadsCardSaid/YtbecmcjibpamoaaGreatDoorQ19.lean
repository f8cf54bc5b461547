/- NmD -/
import Derived.Test.YtbecmcjibpamoaaGreatDoorQ18
set_option linter.unusedVariables false
set_option linter.unusedSimpArgs false
set_option linter.deprecated false
set_option linter.unnecessarySimpa false
namespace Go.Proofs.YtbecmcjibpamoaaGreatDoor
open Go.RowKit IntWalk
section
variable {W0 : World} {s : Fs} {lay : FId → Nat} {L links f : Nat}
theorem below_turned {S : Nat → Prop} {w w' : World} (h : Below W0.heap.size W0 w) (ht : Turned S w w') (hS : ∀ k, S k → W0.heap.size ≤ k) : Below W0.heap.size W0 w' :=
  ⟨ht.os.trans h.os, ht.tape.trans h.tape, ht.output.trans h.output, Nat.le_trans h.size ht.size, fun k hk => (ht.block k (Nat.lt_of_lt_of_le hk h.size) (fun q => by have := hS k q; omega)).trans (h.block k hk)⟩
theorem is_setL {w : World} (h : FsIs s lay w) (a : Addr) (v : Value) (ho : ¬ Owns (s.obj lay) lay a.block) : FsIs s lay (w.setCell a v) :=
  ⟨h.lies.kept fun i hi => Below.heap_setCell _ _ _ _ (fun e => ho ⟨i, hi, e⟩), h.ok⟩
theorem WayIs.more {w : World} (h : WayIs W0 s lay L links w) (hL : W0.heap.size ≤ L) : WayIs W0 s lay L (links + 1) (w.setCell ⟨L, 1, none⟩ (.int .i64 ((links : Int) + 1))) :=
  ⟨is_setL h.is _ _ h.wk.out, ⟨by rw [cs_other (by simp)]; exact h.wk.c0, by rw [cs_same h.wk.c1]; rfl, by rw [fz_set]; exact h.wk.fz, h.wk.out⟩,
   ⟨h.below.os, h.below.tape, h.below.output, by simpa [World.setCell] using h.below.size, fun k hk => by rw [Below.heap_setCell _ _ _ _ (by show k ≠ L; omega)]; exact h.below.block k hk⟩⟩
theorem WayIs.step {w w' : World} (h : WayIs W0 s lay L links w) (hs : Step s lay w s lay w') (hlow : ∀ k, WayT s lay L k → W0.heap.size ≤ k) : WayIs W0 s lay L links w' :=
  ⟨hs.is, h.wk.keep (hs.turned.block L h.wk.lt h.wk.out), below_turned h.below hs.turned (fun k hk => hlow k (.inr hk))⟩
set_option maxRecDepth 100000 in
set_option maxHeartbeats 1000000 in
theorem part_link (hW : s.Whole) (hlow : ∀ k, WayT s lay L k → W0.heap.size ≤ k) (hG : GoOk W0 s lay L f) (i : Int) (d : Dr) (p : List UInt8) (w : World) (h : WayIs W0 s lay L links w) (hd : s.dirOf i = some d) (h0 : p ≠ []) (h1 : p ≠ dotL) (h2 : p ≠ dotsL) (h3 : p.length ≤ 32) (nx : Int) (hn : d.name p = some nx) (hk : s.fld Nd.kind nx = 3) (hf : 9 ≤ links + 1 + f) (hl7 : links ≤ 7) :
    Calls Tryz.prog 56 #[ptrTo L, .int .i64 i, .string ⟨p.toArray⟩, .bool true] w fun e w' =>
      e = .returned (.tuple #[.int .i64 (s.goesS f i (s.link nx) true (links + 1)).1, .int .i64 (s.goesS f i (s.link nx) true (links + 1)).2.1]) ∧ WayIs W0 s lay L (s.goesS f i (s.link nx) true (links + 1)).2.2 w' ∧ Turned (WayT s lay L) w w' := by
  have c0 := h.wk.c0
  have HD := Lib.hid (dir_any i w h.is)
  have hp := dirPtr_some (lay := lay) hd
  have b0 : p.isEmpty = false := by cases p with | nil => exact absurd rfl h0 | cons _ _ => rfl
  have b1 : (p == [46]) = false := by rw [beq_eq_false_iff_ne]; exact h1
  have b2 : (p == [46, 46]) = false := by rw [beq_eq_false_iff_ne]; exact h2
  have h3' : ¬ (32 : Int) < p.length := by omega
  have hl9 : ((links : Int) == 8) = false := by simp; omega
  have hll : (links : Int) ≤ 8 := by omega
  have HK := fun W (hW : FsIs s lay W) => kind_any nx W hW
  rw [hk] at HK
  have HK' := Lib.hid HK
  clear HK
  have HR := Lib.hid (fun W (hWW : FsIs s lay W) => read_link nx W hWW hW (by rw [hk]; decide))
  generalize hr : s.goesS f i (s.link nx) true (links + 1) = r
  have hG' := Lib.hid (fun W (hWW : WayIs W0 s lay L (links + 1) W) => hG i (s.link nx) true (links + 1) W hf (by omega) hWW)
  rw [hr] at hG'
  clear hG hr
  have hT0 : ∀ n, Turned (WayT s lay L) w (w.drewN n) := fun n => (Turned.refl _ w).drewN n
  have hwd : ∀ n, WayIs W0 s lay L links (w.drewN n) := fun n => ⟨h.is.drewN n, h.wk.keep rfl, ⟨h.below.os, h.below.tape, h.below.output, h.below.size, h.below.block⟩⟩
  clear h
  unfold ptrTo at *
  go_enter Tryz.func56, Tryz.ntmps56
  go_wp2_with (go_at_call 26; refine HD.out.mono ?_; rintro e w' ⟨rfl, rfl⟩; rw [hp])
  go_quiet (fail)
  have hq := hwd nq
  have hT := hT0 nq
  have e0 := hq.is.e0 (dirOf_dr hd)
  have f0 := hq.is.f0
  have l0 := hq.wk.c0
  have l1 := hq.wk.c1
  have lz := hq.wk.fz
  have hl := name_look hq.is (dirOf_dr hd) p
  rw [hn] at hl
  simp only [Option.getD_some, Option.isSome_some] at hl
  unfold ptrTo at *
  clear hwd hT0
  generalize w.drewN nq = w2 at hq hT e0 f0 l0 l1 lz hl ⊢
  go_wp2_with (go_at_call 53; refine (HK'.out _ hq.is).mono ?_; rintro e w' ⟨rfl, rfl⟩)
  have hq3 := hq.more (hlow L (.inl rfl))
  have hT3 : Turned (WayT s lay L) w (w2.setCell ⟨L, 1, none⟩ (.int .i64 ((links : Int) + 1))) := hT.set _ _ (fun _ => .inl rfl)
  refine (HR.out _ hq3.is).mono ?_
  rintro e w4 ⟨rfl, hst⟩
  have hq4 := hq3.step hst hlow
  have hT4 : Turned (WayT s lay L) w w4 := hT3.trans hst.turned (fun b hb _ => .inr hb)
  clear hq3 hT3 hst
  go_wp2_with fail
  refine (hG'.out _ hq4).mono ?_
  rintro e w5 ⟨rfl, hq5, hT5⟩
  go_wp2_with fail
  go_ret2
  exact ⟨rfl, hq5, hT4.trans hT5 (fun b hb _ => hb)⟩
theorem WayIs.drewN {w : World} (h : WayIs W0 s lay L links w) (n : Nat) : WayIs W0 s lay L links (w.drewN n) := ⟨h.is.drewN n, h.wk.keep rfl, ⟨h.below.os, h.below.tape, h.below.output, h.below.size, h.below.block⟩⟩
theorem part_any (hW : s.Whole) (hlow : ∀ k, WayT s lay L k → W0.heap.size ≤ k) (hG : links ≠ 8 → GoOk W0 s lay L f) (hl8 : links ≤ 8) (i : Int) (p : List UInt8) (fol : Bool) (w : World) (h : WayIs W0 s lay L links w) (hf : 9 ≤ links + 1 + f) :
    Calls Tryz.prog 56 #[ptrTo L, .int .i64 i, .string ⟨p.toArray⟩, .bool fol] w fun e w' =>
      e = .returned (.tuple #[.int .i64 (s.partS (fun a q k => s.goesS f a q true k) i p fol links).1, .int .i64 (s.partS (fun a q k => s.goesS f a q true k) i p fol links).2.1]) ∧ WayIs W0 s lay L (s.partS (fun a q k => s.goesS f a q true k) i p fol links).2.2 w' ∧ Turned (WayT s lay L) w w' := by
  have same : ∀ {v : Value}, (Calls Tryz.prog 56 #[ptrTo L, .int .i64 i, .string ⟨p.toArray⟩, .bool fol] w fun e w' => e = .returned v ∧ ∃ n, w' = w.drewN n) →
      Calls Tryz.prog 56 #[ptrTo L, .int .i64 i, .string ⟨p.toArray⟩, .bool fol] w fun e w' => e = .returned v ∧ WayIs W0 s lay L links w' ∧ Turned (WayT s lay L) w w' := fun hc => by
    refine hc.mono ?_
    rintro e w' ⟨rfl, n, rfl⟩
    exact ⟨rfl, h.drewN n, (Turned.refl _ w).drewN n⟩
  have same0 : ∀ {v : Value}, (Calls Tryz.prog 56 #[ptrTo L, .int .i64 i, .string ⟨p.toArray⟩, .bool fol] w fun e w' => e = .returned v ∧ w = w') →
      Calls Tryz.prog 56 #[ptrTo L, .int .i64 i, .string ⟨p.toArray⟩, .bool fol] w fun e w' => e = .returned v ∧ WayIs W0 s lay L links w' ∧ Turned (WayT s lay L) w w' := fun hc => by
    refine hc.mono ?_
    rintro e w' ⟨rfl, rfl⟩
    exact ⟨rfl, h, Turned.refl _ _⟩
  unfold Fs.partS
  cases hd : s.dirOf i with
  | none => exact same0 (part_nodir i p fol w h.is h.wk hd)
  | some d =>
    dsimp only
    by_cases hp0 : p = [] ∨ p = dotL
    · rw [if_pos hp0]; exact same0 (part_self i d p fol w h.is h.wk hd hp0)
    · rw [if_neg hp0]
      have h0 : p ≠ [] := fun q => hp0 (.inl q)
      have h1 : p ≠ dotL := fun q => hp0 (.inr q)
      by_cases h2 : p = dotsL
      · rw [if_pos h2]
        subst h2
        have := same (part_up i d fol w h.is h.wk hd)
        by_cases hk : s.fld Nd.kind d.parent = 0
        · rw [if_pos hk, if_pos hk] at this; rw [if_pos hk]; exact this
        · rw [if_neg hk, if_neg hk] at this; rw [if_neg hk]; exact this
      · rw [if_neg h2]
        by_cases h3 : 32 < p.length
        · rw [if_pos h3]; exact same (part_long i d p fol w h.is h.wk hd h1 h2 h3)
        · rw [if_neg h3]
          cases hn : d.name p with
          | none => exact same (part_name i d p fol w h.is h.wk hd h0 h1 h2 (by omega) hn)
          | some nx =>
            dsimp only
            by_cases hk : s.fld Nd.kind nx ≠ 3 ∨ fol = false
            · rw [if_pos hk]; exact same (part_node i d p fol w h.is h.wk hd h0 h1 h2 (by omega) nx hn hk)
            · rw [if_neg hk]
              have hk3 : s.fld Nd.kind nx = 3 := Classical.byContradiction fun q => hk (.inl q)
              have hft : fol = true := by cases fol with | true => rfl | false => exact absurd (.inr rfl) hk
              subst hft
              by_cases h8 : links = 8
              · rw [if_pos h8]
                subst h8
                exact same (part_loop i d p w h.is h.wk hd h0 h1 h2 (by omega) nx hn hk3)
              · rw [if_neg h8]
                exact part_link hW hlow (hG h8) i d p w h hd h0 h1 h2 (by omega) nx hn hk3 hf (by omega)
end
end Go.Proofs.YtbecmcjibpamoaaGreatDoor
