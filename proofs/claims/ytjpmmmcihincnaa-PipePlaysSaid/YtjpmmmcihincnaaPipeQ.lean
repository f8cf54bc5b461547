/- Pipe: PipePlays. -/
import Derived.Test.YtjpmmmcihincnaaPipeR
import Derived.Test.YtjpmmmcihincnaaOpen
import Derived.Deep.RegionHeld3
import Derived.Deep.DeepCutAuto
import Derived.Deep.CutBlock
namespace Go.Proofs.Ytjpmmmcihincnaa
open Go.RowKit

/-- what the loop of PipePlays holds after i calls: the program's pipe and the reference's hold the same -/
structure PlaySt (w W : World) (b rb i : Nat) : Prop where
  below : Below w.heap.size w W
  st : ∃ l r wr, PipeSt W b l r wr ∧ RefIs W rb l r wr ∧ (r = 0 → l = []) ∧ r ≤ i + 1 ∧ wr ≤ i + 1
  le : w.heap.size ≤ b
  le2 : b < rb
theorem below_both {w W W' : World} {b : Nat} (h : Below w.heap.size w W) (hg : W.grownBy W' (some b)) (hb : w.heap.size ≤ b) : Below w.heap.size w W' :=
  h.grown hg h.size (fun k e => by cases e; exact hb)

theorem PipeSt.drew {w : World} {b l r wr} (h : PipeSt w b l r wr) : PipeSt w.drew b l r wr := h.keep rfl
theorem PipeSt.drewN {w : World} {b l r wr} (h : PipeSt w b l r wr) (n : Nat) : PipeSt (w.drewN n) b l r wr := h.keep rfl
theorem RefIs.drewN {w : World} {b l r wr} (h : RefIs w b l r wr) (n : Nat) : RefIs (w.drewN n) b l r wr := h.keep rfl
theorem below_drewN {B : Nat} {w w' : World} (h : Below B w w') (n : Nat) : Below B w (w'.drewN n) := ⟨h.os, h.tape, h.output, h.size, h.block⟩
theorem rread_at {n : Int} {b l r wr} {w : World} {k : List UInt8} {er : Int} {l' : List UInt8} (h : RefIs w b l r wr) (hl : l.length ≤ 64) (h1 : readRes l r wr n = (k, er)) (h2 : readLeft l r n = l') :
    Calls Try.prog 14 #[.pointer (some ⟨b, 0, none⟩), .int .i64 n] w fun e w' => e = .returned (.tuple #[.string ⟨k.toArray⟩, .int .i64 er]) ∧ RefIs w' b l' r wr ∧ w.grownBy w' (some b) := by
  have := rread_any n b l r wr w h hl
  rw [h1, h2] at this
  exact this
theorem rwrite_at {s : List UInt8} {b l r wr} {w : World} {k : Nat} {er : Int} {l' : List UInt8} (h : RefIs w b l r wr) (hl : l.length ≤ 64) (hs : s.length ≤ maxLen) (h1 : writeRes l r wr s = (k, er)) (h2 : writeLeft l r wr s = l') :
    Calls Try.prog 15 #[.pointer (some ⟨b, 0, none⟩), .string ⟨s.toArray⟩] w fun e w' => e = .returned (.tuple #[.int .i64 k, .int .i64 er]) ∧ RefIs w' b l' r wr ∧ w.grownBy w' (some b) := by
  have := rwrite_any s hs b l r wr w h hl
  rw [h1, h2] at this
  exact this
theorem readLeft_inv (l r n) (h : r = 0 → l = []) : r = 0 → readLeft l r n = [] := by
  intro hr; subst hr; simp [readLeft, h rfl]
theorem writeLeft_inv (l r wr s) (h : r = 0 → l = []) : r = 0 → writeLeft l r wr s = [] := by
  intro hr; subst hr; simp [writeLeft, h rfl]

theorem leave_two (t : Bool) (b rb : Nat) (l : List UInt8) (r wr : Nat) (hinv : r = 0 → l = []) (hr : r < 9223372036854775807) (hw : wr < 9223372036854775807) : ∃ (er : Int) (l' : List UInt8) (r' wr' : Nat),
    (∀ w, PipeSt w b l r wr → Calls Try.prog 12 #[.pointer (some ⟨b, 0, none⟩), .bool t] w fun e w' => e = .returned (.int .i64 er) ∧ PipeSt w' b l' r' wr' ∧ w.grownBy w' (some b)) ∧
    (∀ w, RefIs w rb l r wr → Calls Try.prog 18 #[.pointer (some ⟨rb, 0, none⟩), .bool t] w fun e w' => e = .returned (.int .i64 er) ∧ RefIs w' rb l' r' wr' ∧ w.grownBy w' (some rb)) ∧
    (r' = 0 → l' = []) ∧ r' ≤ r ∧ wr' ≤ wr := by
  cases t
  · cases r with
    | zero =>
      refine ⟨28, l, 0, wr, fun w h => (leave_r0_st b l wr w h).mono ?_, fun w h => (rleave_r0 rb l wr w h).mono ?_, hinv, Nat.le_refl _, Nat.le_refl _⟩
      · rintro e w' ⟨rfl, rfl⟩; exact ⟨rfl, h, World.grownBy.refl _ _⟩
      · rintro e w' ⟨rfl, rfl⟩; exact ⟨rfl, h, World.grownBy.refl _ _⟩
    | succ r =>
      exact ⟨0, if r = 0 then [] else l, r, wr, fun w h => leave_r_st b l r wr w h (by omega), fun w h => rleave_r rb l r wr w h (by omega), fun h => by rw [if_pos h], by omega, Nat.le_refl _⟩
  · cases wr with
    | zero =>
      refine ⟨28, l, r, 0, fun w h => (leave_w0_st b l r w h).mono ?_, fun w h => (rleave_w0 rb l r w h).mono ?_, hinv, Nat.le_refl _, Nat.le_refl _⟩
      · rintro e w' ⟨rfl, rfl⟩; exact ⟨rfl, h, World.grownBy.refl _ _⟩
      · rintro e w' ⟨rfl, rfl⟩; exact ⟨rfl, h, World.grownBy.refl _ _⟩
    | succ wr =>
      refine ⟨0, l, r, wr, fun w h => (leave_w_st b l r wr w h (by omega)).mono ?_, fun w h => rleave_w rb l r wr w h (by omega), hinv, Nat.le_refl _, by omega⟩
      rintro e w' ⟨rfl, h2, h3⟩
      refine ⟨rfl, ?_, h3⟩
      by_cases h0 : r = 0
      · rw [if_pos h0] at h2; rw [hinv h0]; exact h2
      · rw [if_neg h0] at h2; exact h2

set_option maxRecDepth 100000 in
set_option maxHeartbeats 8000000 in
theorem plays_any (w : World) (v : Value) (L : List OpR) (hO : Ops w v L) : Calls Try.prog 5 #[v] w fun e w' => e = .returned (.bool true) ∧ Below w.heap.size w w' := by
  obtain ⟨a, cap, rfl, hcell⟩ := hO.shape
  have hlen := hO.len
  unfold maxLen at hlen
  go_enter Try.func5, Try.ntmps5
  go_wp2_with fail
  refine (new_st w).mono ?_
  rintro e w1 ⟨rfl, hB1, hS1⟩
  go_wp2_with fail
  refine (rnew_any w1).mono ?_
  rintro e w2 ⟨rfl, hB2, hR2⟩
  have hbb : w.heap.size < w1.heap.size := hS1.lt
  have hS2 := hS1.keep (hB2.block _ hbb)
  have hB3 := hB1.trans (hB2.mono hB1.size)
  generalize hrb : w1.heap.size = rb at *
  clear hrb hB1 hB2 hS1 w1
  go_wp2_with fail
  go_loopw [5] (fun c W => ∃ i : Nat, i ≤ L.length ∧ i ≤ 200 ∧ c = .int .i64 i ∧ PlaySt w W w.heap.size rb i) (fun c _ => 200 - (intOf c).toNat)
  case atStart => exact ⟨0, by omega, by omega, rfl, hB3, ⟨[], 1, 1, hS2, hR2, by simp, by omega, by omega⟩, Nat.le_refl _, hbb⟩
  case round =>
    obtain ⟨i, hi, hi2, rfl, hP⟩ := hrel
    obtain ⟨l, r, wr', hSt, hRf, hinv, hr1, hw1⟩ := hP.st
    have hbel := hP.below
    by_cases hil : i < L.length
    · by_cases hi3 : i < 200
      · obtain ⟨b, off, rfl, hblt, hcells⟩ := hcell (by omega)
        obtain ⟨o, ho⟩ : ∃ o, L[i]? = some o := ⟨L[i], by simp [hil]⟩
        obtain ⟨hc0, hc1, hc2⟩ := hcells i o ho
        have hok := hO.ok i o ho
        clear ho hcells hcell hO
        have hl2 := hok.data
        unfold maxLen at hl2
        rw [← hbel.cell (p := ⟨b, _, none⟩) hblt] at hc0 hc1 hc2
        by_cases hbig : (500 : Int) < o.data.length
        · go_wp2_with fail
          refine (awake_any _).mono ?_
          rintro e w2 ⟨rfl, hB2⟩
          go_wp2_with fail
          go_ret
          exact ⟨rfl, (hbel.alloc hbel.size _).trans (hB2.mono (hbel.alloc hbel.size _).size)⟩
        have hlw := hSt.lt
        have hlr := hRf.lt
        have hle2 := hP.le2
        obtain ⟨W0, hW0⟩ : ∃ W0, W0 = wr.alloc (.cells #[.int .i64 o.ask, .int .i64 o.n, .string ⟨o.data.toArray⟩] 26) := ⟨_, rfl⟩
        have hSt0 : PipeSt W0 w.heap.size l r wr' := by rw [hW0]; exact hSt.keep (Below.heap_alloc _ _ _ hlw)
        have hRf0 : RefIs W0 rb l r wr' := by rw [hW0]; exact hRf.keep (Below.heap_alloc _ _ _ hlr)
        have hbel0 : Below w.heap.size w W0 := by rw [hW0]; exact hbel.alloc hbel.size _
        have hd0 : ∀ W1 : World, W1.heap[wr.heap.size]? = W0.heap[wr.heap.size]? → W1.cell? ⟨wr.heap.size, 0, none⟩ = some (.int .i64 o.ask) ∧ W1.cell? ⟨wr.heap.size, 1, none⟩ = some (.int .i64 o.n) ∧ W1.cell? ⟨wr.heap.size, 2, none⟩ = some (.string ⟨o.data.toArray⟩) := by
          intro W1 h
          have e := fun k => World.cell?_of_block (w := W0) (w' := W1) (a := ⟨wr.heap.size, k, none⟩) h
          rw [e, e, e, hW0]
          exact ⟨World.cell?_alloc_new .., World.cell?_alloc_new .., World.cell?_alloc_new ..⟩
        have hsz0 : W0.heap.size = wr.heap.size + 1 := by rw [hW0]; simp
        go_upto_block 2 with (fail)
        rw [← hW0]
        clear hW0 hSt hRf hP hc0 hc1 hc2
        obtain ⟨hk0, hk1, hk2⟩ := hd0 W0 rfl
        have hob : wr.heap.size ≠ w.heap.size := by omega
        have hob2 : wr.heap.size ≠ rb := by omega
        generalize hgo : wr.heap.size = ob at *
        clear hbel hgo wr
        have hHd0 := Lib.hid hd0
        have hHsz := Lib.hid hsz0
        clear hd0 hsz0
        go_cut [] (fun W1 => ∃ l r wr', PipeSt W1 w.heap.size l r wr' ∧ RefIs W1 rb l r wr' ∧ (r = 0 → l = []) ∧ r ≤ i + 2 ∧ wr' ≤ i + 2 ∧ Below w.heap.size w W1)
        case first =>
          by_cases ha0 : (o.ask == 0) = true
          · obtain ⟨k, er, hr⟩ : ∃ k er, readRes l r wr' o.n = (k, er) := ⟨_, _, rfl⟩
            obtain ⟨l', hl'⟩ : ∃ l', readLeft l r o.n = l' := ⟨_, rfl⟩
            have hinv2 := Lib.hid (hl' ▸ readLeft_inv l r o.n hinv)
            have hcon := read_at hSt0 hr hl'
            have hcon2 := fun W (hR : RefIs W rb l r wr') => rread_at hR hSt0.len hr hl'
            have hcon3 := Lib.hid hcon2
            clear hr hl' hinv hcon2
            go_wp2_with fail
            refine hcon.mono ?_
            rintro e W1 ⟨rfl, hS1, hG1⟩
            have hb1 := below_both hbel0 hG1 (Nat.le_refl _)
            obtain ⟨-, hk1', -⟩ := hHd0.out W1 (hG1.block _ (by rw [hHsz.out]; omega) (by simpa using hob))
            have hR1 : RefIs W1 rb l r wr' := hRf0.keep (hG1.block _ hRf0.lt (by simp; omega))
            go_wp2_with fail
            refine (hcon3.out _ hR1).mono ?_
            rintro e W2 ⟨rfl, hR2, hG2⟩
            have hS2 := hS1.keep (hG2.block _ hS1.lt (by simp; omega))
            have hb2 := below_both hb1 hG2 (by omega)
            go_wp2_with fail
            go_meet
            exact ⟨_, r, wr', hS2, hR2, hinv2.out, by omega, by omega, hb2⟩
          have ha0' : (o.ask == 0) = false := by simpa using ha0
          clear ha0
          by_cases ha1 : (o.ask == 1) = true
          · obtain ⟨k, er, hr⟩ : ∃ k er, writeRes l r wr' o.data = (k, er) := ⟨_, _, rfl⟩
            obtain ⟨l', hl'⟩ : ∃ l', writeLeft l r wr' o.data = l' := ⟨_, rfl⟩
            have hinv2 := Lib.hid (hl' ▸ writeLeft_inv l r wr' o.data hinv)
            have hcon := write_at hSt0 hok.data hr hl'
            have hcon2 := fun W (hR : RefIs W rb l r wr') => rwrite_at hR hSt0.len hok.data hr hl'
            have hcon3 := Lib.hid hcon2
            clear hr hl' hinv hcon2
            go_wp2_with fail
            refine hcon.mono ?_
            rintro e W1 ⟨rfl, hS1, hG1⟩
            have hb1 := below_both hbel0 hG1 (Nat.le_refl _)
            obtain ⟨-, -, hk2'⟩ := hHd0.out W1 (hG1.block _ (by rw [hHsz.out]; omega) (by simpa using hob))
            have hR1 : RefIs W1 rb l r wr' := hRf0.keep (hG1.block _ hRf0.lt (by simp; omega))
            go_wp2_with fail
            refine (hcon3.out _ hR1).mono ?_
            rintro e W2 ⟨rfl, hR2, hG2⟩
            have hS2 := hS1.keep (hG2.block _ hS1.lt (by simp; omega))
            have hb2 := below_both hb1 hG2 (by omega)
            go_wp2_with fail
            go_meet
            exact ⟨_, r, wr', hS2, hR2, hinv2.out, by omega, by omega, hb2⟩
          have ha1' : (o.ask == 1) = false := by simpa using ha1
          clear ha1
          obtain ⟨t, ht⟩ : ∃ t, (o.n.tmod 2 != 0) = t := ⟨_, rfl⟩
          by_cases ha2 : (o.ask == 2) = true
          · have hcon := fun W (hS : PipeSt W w.heap.size l r wr') => join_st t w.heap.size l r wr' W hS (by omega) (by omega)
            have hcon3 := Lib.hid hcon
            clear hcon
            go_wp2_with fail
            refine (rjoin_any t rb l r wr' W0 hRf0 (by omega) (by omega)).mono ?_
            rintro e W1 ⟨rfl, hR1, hG1⟩
            have hb1 := below_both hbel0 hG1 (by omega)
            obtain ⟨-, hk1', -⟩ := hHd0.out W1 (hG1.block _ (by rw [hHsz.out]; omega) (by simpa using hob2))
            have hS1 : PipeSt W1 w.heap.size l r wr' := hSt0.keep (hG1.block _ hSt0.lt (by simp; omega))
            go_wp2_with fail
            refine (hcon3.out _ hS1).mono ?_
            rintro e W2 ⟨rfl, hS2, hG2⟩
            have hR2 := hR1.keep (hG2.block _ hR1.lt (by simp; omega))
            have hb2 := below_both hb1 hG2 (Nat.le_refl _)
            go_wp2_with fail
            go_meet
            refine ⟨_, _, _, hS2, hR2, ?_, ?_, ?_, hb2⟩
            · intro h; cases t <;> simp at h; exact hinv h
            · cases t <;> simp <;> omega
            · cases t <;> simp <;> omega
          have ha2' : (o.ask == 2) = false := by simpa using ha2
          clear ha2
          obtain ⟨er, l', r', wr'', hc1, hc2, hi1, hi2', hi3'⟩ := leave_two t w.heap.size rb l r wr' hinv (by omega) (by omega)
          have hHc1 := Lib.hid hc1
          have hHc2 := Lib.hid hc2
          have hHi := Lib.hid hi1
          clear hc1 hc2 hi1 hinv
          go_wp2_with fail
          go_region_held3 (fun W => W.cell? ⟨ob, 1, none⟩ = some (.int .i64 o.n)) (first | go_keep | (assumption))
            (first
              | (go_at_call 12
                 go_must (refine (hHc1.out _ (by exact hSt0.drew)).mono ?_)
                 rintro e W1 ⟨rfl, hS1, hG1⟩
                 go_must (have hb1 := below_both hbel0.drew hG1 (Nat.le_refl _))
                 go_must (have hk1' := (hHd0.out W1 (hG1.block ob (by show ob < W0.heap.size; rw [hHsz.out]; omega) (by simpa using hob))).2.1)
                 go_must (have hR1 : RefIs W1 rb l r wr' := hRf0.keep (hG1.block rb hRf0.lt (by simp <;> omega))))
              | (go_at_call 18
                 go_must (refine (hHc2.out _ (by assumption)).mono ?_)
                 rintro e W2 ⟨rfl, hR2, hG2⟩
                 go_must (have hb2 := below_both hb1 hG2 (by omega))
                 go_must (have hS2 := hS1.keep (hG2.block w.heap.size hS1.lt (by simp <;> omega)))
                 go_must (have hk2' : W2.cell? ⟨ob, 1, none⟩ = some (.int .i64 o.n) := (World.cell?_of_block (hG2.block ob (World.block_lt_of_cell? W1 _ hk1') (by simpa using hob2))).trans hk1')))
          go_wp2_with fail
          go_meet
          exact ⟨l', r', wr'', hS2, hR2, hHi.out, by omega, by omega, hb2⟩
        case rest =>
          obtain ⟨l2, r2, wr2, hS3, hR3, hinv2, hr2, hw2, hb2⟩ := hcut
          have hinv3 := Lib.hid hinv2
          clear hinv2
          have hl3 := hS3.len
          go_wp2_with fail
          refine (pusers_st _ _ _ _ _ hS3).mono ?_
          rintro e w3 ⟨rfl, nd, hw3⟩
          subst hw3
          have hS4 := hS3.drewN nd
          have hR4 := hR3.drewN nd
          have hb4 := below_drewN hb2 nd
          clear hS3 hR3 hb2
          generalize wc.drewN nd = W3 at *
          have hx0 := hR4.s
          have hx1 := hR4.readers
          have hx2 := hR4.writers
          go_wp2_with fail
          go_quiet ((go_at_call 11; exact Calls.quiet_of_same ((len_st _ _ _ _ _ (hS4.drewN _)).mono fun _ _ h => ⟨h.1, h.2.symm⟩)))
          have hS5 := hS4.drewN nq
          have hR5 := hR4.drewN nq
          have hb5 := below_drewN hb4 nq
          go_wp2_with fail
          go_roundw
          case rel => exact ⟨i + 1, by omega, by omega, by go_num, hb5, ⟨l2, r2, wr2, hS5, hR5, hinv3.out, by omega, by omega⟩, Nat.le_refl _, hle2⟩
          case measure => simp [intOf]; omega
      · have hi4 : ¬ (i : Int) < 200 := by omega
        go_wp2_with fail
        refine (awake_any _).mono ?_
        rintro e w2 ⟨rfl, hB2⟩
        go_wp2_with fail
        go_ret
        exact ⟨rfl, hbel.trans (hB2.mono hbel.size)⟩
    · have hi4 : ¬ (i : Int) < L.length := by omega
      go_wp2_with fail
      refine (awake_any _).mono ?_
      rintro e w2 ⟨rfl, hB2⟩
      go_wp2_with fail
      go_ret
      exact ⟨rfl, hbel.trans (hB2.mono hbel.size)⟩
end Go.Proofs.Ytjpmmmcihincnaa
