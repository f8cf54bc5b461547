/- Pipe: PipePasses. -/
import Derived.Test.YtjpmmmcihincnaaPipeD
import Derived.Test.YtjpmmmcihincnaaOpen
namespace Go.Proofs.Ytjpmmmcihincnaa
open Go.RowKit

/-- what the loop of PipePasses holds after i calls: the bytes in the pipe, what was written, what was read -/
structure PassSt (w W : World) (b i : Nat) (inp out : List UInt8) : Prop where
  below : Below w.heap.size w W
  st : ∃ l, PipeSt W b l 1 1 ∧ inp = out ++ l
  small : inp.length ≤ 500 * i
  le : w.heap.size ≤ b

theorem pass_read (l : List UInt8) (n : Int) (hl : l.length ≤ 64) : ∃ k er l', readRes l 1 1 n = (k, er) ∧ readLeft l 1 n = l' ∧ l = k ++ l' ∧ k.length ≤ 64 ∧ (er = 0 ∨ (k = [] ∧ er = 1) ∨ (k = [] ∧ er = 30 ∧ l = [])) := by
  by_cases hn : n < 0
  · exact ⟨[], 1, l, by simp [readRes, hn], by simp [readLeft, hn], rfl, by simp, .inr (.inl ⟨rfl, rfl⟩)⟩
  by_cases hw : l = [] ∧ 0 < n
  · obtain ⟨rfl, hw⟩ := hw
    exact ⟨[], 30, [], by simp [readRes, hn, hw], by simp [readLeft], rfl, by simp, .inr (.inr ⟨rfl, rfl, rfl⟩)⟩
  · refine ⟨l.take n.toNat, 0, l.drop n.toNat, ?_, by simp [readLeft, hn], by simp, by simp; omega, .inl rfl⟩
    simp only [readRes]
    rw [if_neg (by omega), if_neg hn, if_neg (by intro h; exact hw ⟨h.1, h.2.2⟩)]
theorem pass_write (l s : List UInt8) (hl : l.length ≤ 64) : ∃ (n : Nat) (er : Int), writeRes l 1 1 s = (n, er) ∧ writeLeft l 1 1 s = l ++ s.take n ∧ n ≤ s.length ∧ l.length + n ≤ 64 ∧ (er = 0 ∨ (n = 0 ∧ er = 30 ∧ l.length = 64)) := by
  by_cases hw : l.length = 64 ∧ s ≠ []
  · refine ⟨0, 30, by simp [writeRes, hw], by simp [writeLeft, hw.1], by omega, by omega, .inr ⟨rfl, rfl, hw.1⟩⟩
  · refine ⟨min s.length (64 - l.length), 0, by simp only [writeRes]; rw [if_neg (by omega), if_neg (by omega), if_neg hw], ?_, by omega, by omega, .inl rfl⟩
    simp only [writeLeft]
    rw [if_neg (by omega)]
    congr 1
    rcases Nat.le_total s.length (64 - l.length) with h | h
    · rw [Nat.min_eq_left h, List.take_length, List.take_of_length_le h]
    · rw [Nat.min_eq_right h]
theorem PassSt.step {w W W' : World} {b i : Nat} {inp out inp' out' l' : List UInt8} (h : PassSt w W b i inp out) (hb : Below w.heap.size w W') (hs : PipeSt W' b l' 1 1) (he : inp' = out' ++ l') (hl : inp'.length ≤ inp.length + 500) : PassSt w W' b (i + 1) inp' out' :=
  ⟨hb, ⟨l', hs, he⟩, by have := h.small; omega, h.le⟩

set_option maxRecDepth 100000 in
set_option maxHeartbeats 4000000 in
theorem passes_any (w : World) (v : Value) (L : List OpR) (hO : Ops w v L) : Calls Try.prog 3 #[v] w fun e w' => e = .returned (.bool true) ∧ Below w.heap.size w w' := by
  obtain ⟨a, cap, rfl, hcell⟩ := hO.shape
  have hlen := hO.len
  unfold maxLen at hlen
  go_enter Try.func3, Try.ntmps3
  go_wp2_with fail
  refine (new_st w).mono ?_
  rintro e w1 ⟨rfl, hB1, hS1⟩
  go_wp2_with fail
  go_loopw [4, 5, 6] (fun vi vo c W => ∃ (i : Nat) (inp out : List UInt8), i ≤ L.length ∧ i ≤ 200 ∧ c = .int .i64 i ∧ vi = .string ⟨inp.toArray⟩ ∧ vo = .string ⟨out.toArray⟩ ∧ PassSt w W w.heap.size i inp out) (fun _ _ c _ => 200 - (intOf c).toNat)
  case atStart => exact ⟨0, [], [], by omega, by omega, rfl, rfl, rfl, hB1, ⟨[], hS1, rfl⟩, by simp, Nat.le_refl _⟩
  case round =>
    obtain ⟨i, inp, out, hi, hi2, rfl, rfl, rfl, hP⟩ := hrel
    obtain ⟨l, hSt, hio⟩ := hP.st
    have hHid := Lib.hid hio
    clear hio
    have hsm : inp.length ≤ 100000 := by have := hP.small; omega
    have hout : out.length + l.length = inp.length := by rw [hHid.out]; simp
    have hout2 : out.length ≤ 100000 := by omega
    have hl64 : l.length ≤ 64 := hSt.len
    have hbel := hP.below
    by_cases hil : i < L.length
    · by_cases hi3 : i < 200
      · obtain ⟨b, off, rfl, hblt, hcells⟩ := hcell (by omega)
        obtain ⟨o, ho⟩ : ∃ o, L[i]? = some o := ⟨L[i], by simp [hil]⟩
        obtain ⟨hc0, hc1, hc2⟩ := hcells i o ho
        have hok := hO.ok i o ho
        have hko := Lib.hid ho
        clear ho hcells
        have hl2 := hok.data
        unfold maxLen at hl2
        rw [← hbel.cell (p := ⟨b, _, none⟩) hblt] at hc0 hc1 hc2
        by_cases hbig : (500 : Int) < o.data.length
        · go_wp2_with fail
          refine (awake_any _).mono ?_
          rintro e w2 ⟨rfl, hB2⟩
          go_wp2_with fail
          go_ret
          exact ⟨rfl, (hbel.alloc hbel.size _).trans (hB2.mono (hbel.alloc hbel.size _).size)⟩
        have hS2 := hSt.keep (w' := wr.alloc (.cells #[.int .i64 o.ask, .int .i64 o.n, .string ⟨o.data.toArray⟩] 26)) (Below.heap_alloc _ _ _ hSt.lt)
        have hbel2 := hbel.alloc hbel.size (.cells #[.int .i64 o.ask, .int .i64 o.n, .string ⟨o.data.toArray⟩] 26)
        have hlw := hSt.lt
        clear hcell hO
        by_cases hask : (o.ask == 0) = true
        · obtain ⟨k, er, l', hr1, hr2, hr3, hk64, hcase⟩ := pass_read l o.n hl64
          have hl'64 : l'.length ≤ 64 := by rw [hr3] at hl64; simp at hl64; omega
          have hin1 : inp.length = out.length + k.length + l'.length := by rw [← hout, hr3]; simp; omega
          have hin2 : inp.length ≤ out.length + k.length + l'.length := by omega
          have hin3 : out.length + k.length + l'.length ≤ inp.length := by omega
          have hne : ((l'.length : Int) != (inp.length : Int) - ((out.length : Int) + k.length)) = false := by rw [bne_eq_false_iff_eq]; omega
          have hE := Lib.hid (show inp = (out ++ k) ++ l' by rw [hHid.out, hr3]; simp)
          have hr3H := Lib.hid hr3
          have hcon := read_at hS2 hr1 hr2
          clear hr1 hr2 hr3 hin1 hout
          have hcat : out ++ [] = out := List.append_nil out
          rcases hcase with rfl | ⟨rfl, rfl⟩ | ⟨rfl, rfl, rfl⟩
          · go_wp2_with fail
            refine hcon.mono ?_
            rintro e w2 ⟨rfl, hS3, hG3⟩
            have hB3 := grownOwn hbel2 hG3 (Nat.le_refl _)
            go_wp2_with (go_at_call 11; refine (len_st _ _ _ _ _ hS3).mono ?_; rintro e w' ⟨rfl, rfl⟩)
            go_roundw
            case rel => exact ⟨i + 1, inp, out ++ k, by omega, by omega, by go_num, rfl, rfl, hP.step hB3 hS3 hE.out (by omega)⟩
            case measure => simp [intOf]; omega
          · have hne' : ((l'.length : Int) != (inp.length : Int) - (out.length : Int)) = false := by rw [bne_eq_false_iff_eq]; simp at hin2 hin3; omega
            clear hne hin2 hin3
            go_wp2_with fail
            refine hcon.mono ?_
            rintro e w2 ⟨rfl, hS3, hG3⟩
            have hB3 := grownOwn hbel2 hG3 (Nat.le_refl _)
            go_wp2_with (go_at_call 11; refine (len_st _ _ _ _ _ hS3).mono ?_; rintro e w' ⟨rfl, rfl⟩)
            go_roundw
            case rel => exact ⟨i + 1, inp, out, by omega, by omega, by go_num, rfl, rfl, hP.step hB3 hS3 (by rw [hE.out]; simp) (by omega)⟩
            case measure => simp [intOf]; omega
          · have hio : inp = out := by rw [hHid.out]; simp
            subst hio
            have hl0 : l' = [] := by have := hr3H.out; simpa using this.symm
            subst hl0
            have hne' : ((0 : Int) != (inp.length : Int) - (inp.length : Int)) = false := by rw [bne_eq_false_iff_eq]; omega
            clear hne hin2 hin3
            go_wp2_with fail
            refine hcon.mono ?_
            rintro e w2 ⟨rfl, hS3, hG3⟩
            have hB3 := grownOwn hbel2 hG3 (Nat.le_refl _)
            go_wp2_with (go_at_call 11; refine (len_st _ _ _ _ _ hS3).mono ?_; rintro e w' ⟨rfl, rfl⟩)
            go_roundw
            case rel => exact ⟨i + 1, inp, inp, by omega, by omega, by go_num, rfl, rfl, hP.step hB3 hS3 (by simp) (by omega)⟩
            case measure => simp [intOf]; omega
        · have hask2 : (o.ask == 0) = false := by simpa using hask
          clear hask
          obtain ⟨n, er, hr1, hr2, hns, hn64, hcase⟩ := pass_write l o.data hl64
          have hcon := write_at hS2 hok.data hr1 hr2
          clear hr1 hr2
          have hneg : ¬ (n : Int) < 0 := by omega
          have hle : ¬ (o.data.length : Int) < n := by omega
          have hll : (l ++ o.data.take n).length = l.length + n := by simp; omega
          have hE := Lib.hid (show inp ++ o.data.take n = out ++ (l ++ o.data.take n) by rw [hHid.out]; simp)
          have hd500 : o.data.length ≤ 500 := by omega
          have ht500 : (o.data.take n).length ≤ 500 := by simp; omega
          have htl : (o.data.take n).length = n := by simp; omega
          have hne : ((l.length : Int) + n != (inp.length : Int) + n - (out.length : Int)) = false := by rw [bne_eq_false_iff_eq]; omega
          rcases hcase with rfl | ⟨rfl, rfl, hfull⟩
          · go_wp2_with fail
            refine hcon.mono ?_
            rintro e w2 ⟨rfl, hS3, hG3⟩
            have hB3 := grownOwn hbel2 hG3 (Nat.le_refl _)
            have hd2 : w2.cell? ⟨wr.heap.size, 2, none⟩ = some (.string ⟨o.data.toArray⟩) := by
              rw [World.cell?_of_block (hG3.block _ (by simp) (by simp; omega))]
              exact World.cell?_alloc_new ..
            go_wp2_with (go_at_call 11; refine (len_st _ _ _ _ _ hS3).mono ?_; rintro e w' ⟨rfl, rfl⟩)
            go_roundw
            case rel => exact ⟨i + 1, inp ++ o.data.take n, out, by omega, by omega, by go_num, rfl, rfl, hP.step hB3 hS3 hE.out (by simp; omega)⟩
            case measure => simp [intOf]; omega
          · have hlc : ((l ++ List.take 0 o.data).length : Int) = 64 := by simp; omega
            have hl64' : ((l.length : Int) != 64) = false := by rw [bne_eq_false_iff_eq]; omega
            go_wp2_with fail
            refine hcon.mono ?_
            rintro e w2 ⟨rfl, hS3, hG3⟩
            have hB3 := grownOwn hbel2 hG3 (Nat.le_refl _)
            have hd2 : w2.cell? ⟨wr.heap.size, 2, none⟩ = some (.string ⟨o.data.toArray⟩) := by
              rw [World.cell?_of_block (hG3.block _ (by simp) (by simp; omega))]
              exact World.cell?_alloc_new ..
            go_wp2_with (go_at_call 11; refine (len_st _ _ _ _ _ hS3).mono ?_; rintro e w' ⟨rfl, rfl⟩)
            go_roundw
            case rel => exact ⟨i + 1, inp, out, by omega, by omega, by go_num, rfl, rfl, hP.step hB3 hS3 (by have := hE.out; simpa using this) (by omega)⟩
            case measure => simp [intOf]; omega
      · have hi4 : ¬ (i : Int) < 200 := by omega
        clear hout
        have hio := hHid.out
        subst hio
        have hr1 : readRes l 1 0 100 = (l, 0) := by simp only [readRes]; rw [if_neg (by omega), if_neg (by omega), if_neg (by omega), List.take_of_length_le (by simp; omega)]
        have hr2 : readLeft l 1 100 = [] := by simp only [readLeft]; rw [if_neg (by omega), List.drop_of_length_le (by simp; omega)]
        have hr3 : readRes [] 1 0 1 = ([], 0) := by simp [readRes]
        have hr4 : readLeft [] 1 1 = [] := by simp [readLeft]
        have hRd := fun W (hS : PipeSt W w.heap.size l 1 0) => read_at hS hr1 hr2
        have hRe := fun W (hS : PipeSt W w.heap.size [] 1 0) => read_at hS hr3 hr4
        have hRd' := Lib.hid hRd
        have hRe' := Lib.hid hRe
        clear hr1 hr2 hr3 hr4 hRd hRe
        clear hcell hO hP
        go_wp2_with fail
        refine (leave_w_st _ _ _ 0 _ hSt (by omega)).mono ?_
        rintro e w2 ⟨rfl, hS2, hG2⟩
        have hB2 := grownOwn hbel hG2 (Nat.le_refl _)
        rw [if_neg (by omega)] at hS2
        go_wp2_with fail
        refine (hRd'.out _ hS2).mono ?_
        rintro e w3 ⟨rfl, hS3, hG3⟩
        have hB3 := grownOwn hB2 hG3 (Nat.le_refl _)
        go_wp2_with fail
        refine (hRe'.out _ hS3).mono ?_
        rintro e w4 ⟨rfl, hS4, hG4⟩
        have hB4 := grownOwn hB3 hG4 (Nat.le_refl _)
        go_wp2_with fail
        refine (awake_any _).mono ?_
        rintro e w5 ⟨rfl, hB5⟩
        have hB6 := hB4.trans (hB5.mono hB4.size)
        go_wp2_with fail
        go_ret
        exact ⟨rfl, hB6⟩
    · have hi4 : ¬ (i : Int) < L.length := by omega
      clear hout
      have hio := hHid.out
      subst hio
      have hr1 : readRes l 1 0 100 = (l, 0) := by simp only [readRes]; rw [if_neg (by omega), if_neg (by omega), if_neg (by omega), List.take_of_length_le (by simp; omega)]
      have hr2 : readLeft l 1 100 = [] := by simp only [readLeft]; rw [if_neg (by omega), List.drop_of_length_le (by simp; omega)]
      have hr3 : readRes [] 1 0 1 = ([], 0) := by simp [readRes]
      have hr4 : readLeft [] 1 1 = [] := by simp [readLeft]
      have hRd := fun W (hS : PipeSt W w.heap.size l 1 0) => read_at hS hr1 hr2
      have hRe := fun W (hS : PipeSt W w.heap.size [] 1 0) => read_at hS hr3 hr4
      have hRd' := Lib.hid hRd
      have hRe' := Lib.hid hRe
      clear hr1 hr2 hr3 hr4 hRd hRe
      clear hcell hO hP
      go_wp2_with fail
      refine (leave_w_st _ _ _ 0 _ hSt (by omega)).mono ?_
      rintro e w2 ⟨rfl, hS2, hG2⟩
      have hB2 := grownOwn hbel hG2 (Nat.le_refl _)
      rw [if_neg (by omega)] at hS2
      go_wp2_with fail
      refine (hRd'.out _ hS2).mono ?_
      rintro e w3 ⟨rfl, hS3, hG3⟩
      have hB3 := grownOwn hB2 hG3 (Nat.le_refl _)
      go_wp2_with fail
      refine (hRe'.out _ hS3).mono ?_
      rintro e w4 ⟨rfl, hS4, hG4⟩
      have hB4 := grownOwn hB3 hG4 (Nat.le_refl _)
      go_wp2_with fail
      refine (awake_any _).mono ?_
      rintro e w5 ⟨rfl, hB5⟩
      have hB6 := hB4.trans (hB5.mono hB4.size)
      go_wp2_with fail
      go_ret
      exact ⟨rfl, hB6⟩
end Go.Proofs.Ytjpmmmcihincnaa
