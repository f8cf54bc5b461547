/- Chars: names, quotes, numbers, joins. -/
import Derived.Test.YtlfnoadnnkkegaaDoorEnv
import Derived.Test.YtlfnoadnnkkegaaDoorChA
import Derived.Test.YtlfnoadnnkkegaaDoorPlainA
import Derived.Shelf.Strings.SlTrimAscii
import Derived.Lib.AppendIntMem
namespace Go.Proofs.YtlfnoadnnkkegaaDoor
open Go.RowKit

def nameB (l : List UInt8) : Bool := !l.isEmpty && frontN l == l.length
theorem frontN_le : ∀ l : List UInt8, frontN l ≤ l.length
  | [] => Nat.le_refl _
  | c :: t => by
    have := (List.takeWhile_sublist (fun c => alphaB c || digitB c) (l := t)).length_le
    simp only [frontN, List.length_cons]; split <;> omega
theorem name_any (l : List UInt8) (hl : l.length ≤ maxLen) (w : World) : Calls Tryd.prog 11 #[.string ⟨l.toArray⟩] w fun e w' => e = .returned (.bool (nameB l)) ∧ w = w' := by
  have hl' := hl
  unfold maxLen at hl'
  have hf := frontN_le l
  by_cases h0 : l = []
  · subst h0
    go_enter Tryd.func11, Tryd.ntmps11
    go_wp2_with fail
    go_ret
    exact ⟨rfl, rfl⟩
  · have h1 : l.isEmpty = false := by simp [h0]
    have h2 : (l == []) = false := by simp [h0]
    by_cases he : frontN l = l.length
    · have hb : ((frontN l : Int) == l.length) = true := by rw [beq_iff_eq]; omega
      have hr := Lib.hid (show nameB l = true by simp [nameB, h0, he])
      clear he
      go_enter Tryd.func11, Tryd.ntmps11
      go_wp2_with (go_at_call 9; refine (front_any l hl _).mono ?_; rintro e w' ⟨rfl, rfl⟩)
      go_ret
      exact ⟨ret_bool (by rw [hr.out]), rfl⟩
    · have hb : ((frontN l : Int) == l.length) = false := by rw [beq_eq_false_iff_ne]; omega
      have hr := Lib.hid (show nameB l = false by simp [nameB, he])
      clear he
      go_enter Tryd.func11, Tryd.ntmps11
      go_wp2_with (go_at_call 9; refine (front_any l hl _).mono ?_; rintro e w' ⟨rfl, rfl⟩)
      go_ret
      exact ⟨ret_bool (by rw [hr.out]), rfl⟩

/-! ### quotes -/
def esc (c : UInt8) : List UInt8 := if c = 39 then [39, 92, 39, 39] else [c]
def quoteL (l : List UInt8) : List UInt8 := [39] ++ l.flatMap esc ++ [39]
theorem esc_len (c : UInt8) : (esc c).length ≤ 4 := by unfold esc; split <;> simp
theorem flat_len : ∀ l : List UInt8, (l.flatMap esc).length ≤ 4 * l.length
  | [] => by simp
  | c :: t => by have h1 := esc_len c; have h2 := flat_len t; rw [List.flatMap_cons, List.length_append, List.length_cons]; omega
theorem replaceQ (l : List UInt8) : Lib.replaceAll l [39] [39, 92, 39, 39] = l.flatMap esc := by
  rw [replaceAll_eq l [39] _ (by simp) (by simp), repL_one 39 _ _ l (Nat.le_refl _)]; rfl
theorem quote_any (l : List UInt8) (hl : l.length ≤ 100000000) (w : World) (hE : Env w) : Calls Tryd.prog 20 #[.string ⟨l.toArray⟩] w fun e w' => e = .returned (.string ⟨(quoteL l).toArray⟩) ∧ Below w.heap.size w w' := by
  obtain ⟨m, hm⟩ := hE.maxlen
  have hcon := Tryd.strings_ReplaceAll ⟨l.toArray⟩ ⟨#[39]⟩ ⟨#[39, 92, 39, 39]⟩ m w (by rw [str_size]; omega) hm (by decide) (by
    have := Lib.countB_le ⟨#[39]⟩ (by decide) _ (ByteArray.mk l.toArray) (Nat.le_refl _)
    rw [str_size] at this ⊢
    have e : (ByteArray.mk #[39, 92, 39, 39]).size = 4 := rfl
    rw [e]; omega)
  have e0 : (ByteArray.mk l.toArray).data.toList = l := by simp
  have e1 : (ByteArray.mk #[39]).data.toList = [39] := rfl
  have e2 : (ByteArray.mk #[39, 92, 39, 39]).data.toList = [39, 92, 39, 39] := rfl
  rw [e0, e1, e2, replaceQ] at hcon
  have hfl := flat_len l
  have hfl2 : (l.flatMap esc).length ≤ 400000000 := by omega
  clear e0 e1 e2 hfl
  go_enter Tryd.func20, Tryd.ntmps20
  go_wp2_with fail
  refine hcon.mono ?_
  rintro e w1 ⟨rfl, hB⟩
  generalize hq : l.flatMap esc = q at *
  have hq' := Lib.hid hq
  clear hq
  go_wp2_with fail
  go_ret
  refine ⟨?_, hB⟩
  simp [quoteL, hq'.out]
def midU (q : List UInt8) : List UInt8 := q.tail.take (q.length - 1 - 1)
def unqM (m : List UInt8) : List UInt8 := repL [39, 92, 39, 39] [39] m.length m
def unquoteL (q : List UInt8) : Option (List UInt8) :=
  if 2 ≤ q.length ∧ q[0]? = some 39 ∧ q[q.length - 1]? = some 39 ∧ quoteL (unqM (midU q)) = q then some (unqM (midU q)) else none
def unqRes (q : List UInt8) : List UInt8 × Int := match unquoteL q with | some s => (s, 0) | none => ([], 11)
theorem replaceU (m : List UInt8) : Lib.replaceAll m [39, 92, 39, 39] [39] = unqM m := by
  rw [replaceAll_eq m [39, 92, 39, 39] _ (by simp) (by simp)]; rfl
theorem unqM_len (m : List UInt8) : (unqM m).length ≤ m.length := repL_len _ _ (by simp) _ _
theorem unquote_any (q : List UInt8) (hq : q.length ≤ 100000000) (w : World) (hE : Env w) : Calls Tryd.prog 18 #[.string ⟨q.toArray⟩] w fun e w' => e = .returned (.tuple #[.string ⟨(unqRes q).1.toArray⟩, .int .i64 (unqRes q).2]) ∧ Below w.heap.size w w' := by
  by_cases h2 : q.length < 2
  · have hr := Lib.hid (show unqRes q = ([], 11) by simp only [unqRes, unquoteL]; rw [if_neg (by omega)])
    go_enter Tryd.func18, Tryd.ntmps18
    go_wp2_with fail
    go_ret2
    rw [hr.out]
    exact ⟨rfl, Below.refl _ _⟩
  obtain ⟨c0, _, hg0, hc0⟩ := str_at q 0 (by omega)
  obtain ⟨c1, _, hg1, hc1⟩ := str_at q (q.length - 1) (by omega)
  have hc0' := Lib.hid hc0
  have hc1' := Lib.hid hc1
  clear hc0 hc1
  by_cases e0 : c0 = 39
  · by_cases e1 : c1 = 39
    · subst e0 e1
      have hml : (midU q).length ≤ q.length := by simp [midU]; omega
      obtain ⟨m, hm⟩ := hE.maxlen
      have hcon := Tryd.strings_ReplaceAll ⟨(midU q).toArray⟩ ⟨#[39, 92, 39, 39]⟩ ⟨#[39]⟩ m w (by rw [str_size]; omega) hm (by decide) (by
        have := Lib.countB_le ⟨#[39, 92, 39, 39]⟩ (by decide) _ (ByteArray.mk (midU q).toArray) (Nat.le_refl _)
        rw [str_size] at this ⊢
        have e : (ByteArray.mk #[39]).size = 1 := rfl
        rw [e]; omega)
      have e0 : (ByteArray.mk (midU q).toArray).data.toList = midU q := by simp
      have e1 : (ByteArray.mk #[39]).data.toList = [39] := rfl
      have e2 : (ByteArray.mk #[39, 92, 39, 39]).data.toList = [39, 92, 39, 39] := rfl
      rw [e0, e1, e2, replaceU] at hcon
      clear e0 e1 e2 hm m
      have hul := unqM_len (midU q)
      obtain ⟨u, hu⟩ : ∃ u, unqM (midU q) = u := ⟨_, rfl⟩
      rw [hu] at hcon hul
      by_cases hqq : quoteL u = q
      · have hr := Lib.hid (show unqRes q = (u, 0) by simp only [unqRes, unquoteL]; rw [hu, if_pos ⟨by omega, hc0'.out, hc1'.out, hqq⟩])
        have hqe : (quoteL u == q) = true := by simp [hqq]
        clear hqq hu
        go_enter Tryd.func18, Tryd.ntmps18
        go_wp2_with fail
        refine hcon.mono ?_
        rintro e w1 ⟨rfl, hB⟩
        go_wp2_with fail
        refine (quote_any u (by omega) _ (hE.below hB)).mono ?_
        rintro e w2 ⟨rfl, hB2⟩
        go_wp2_with fail
        go_ret2
        rw [hr.out]
        exact ⟨rfl, hB.trans (hB2.mono hB.size)⟩
      · have hr := Lib.hid (show unqRes q = ([], 11) by simp only [unqRes, unquoteL]; rw [hu, if_neg (fun h => hqq h.2.2.2)])
        have hqe : (quoteL u == q) = false := by simp [hqq]
        clear hqq hu
        go_enter Tryd.func18, Tryd.ntmps18
        go_wp2_with fail
        refine hcon.mono ?_
        rintro e w1 ⟨rfl, hB⟩
        go_wp2_with fail
        refine (quote_any u (by omega) _ (hE.below hB)).mono ?_
        rintro e w2 ⟨rfl, hB2⟩
        go_wp2_with fail
        go_ret2
        rw [hr.out]
        exact ⟨rfl, hB.trans (hB2.mono hB.size)⟩
    · subst e0
      have e1' : ((c1.toNat : Int) != 39) = true := by
        rw [bne_iff_ne]; intro h; apply e1; apply UInt8.toNat_inj.1; show c1.toNat = 39; omega
      have hr := Lib.hid (show unqRes q = ([], 11) by
        simp only [unqRes, unquoteL]; rw [if_neg (fun h => by have := h.2.2.1; rw [hc1'.out] at this; cases this; exact e1 rfl)])
      go_enter Tryd.func18, Tryd.ntmps18
      go_wp2_with fail
      go_ret2
      rw [hr.out]
      exact ⟨rfl, Below.refl _ _⟩
  · have e0' : ((c0.toNat : Int) != 39) = true := by
      rw [bne_iff_ne]; intro h; apply e0; apply UInt8.toNat_inj.1; show c0.toNat = 39; omega
    have hr := Lib.hid (show unqRes q = ([], 11) by
      simp only [unqRes, unquoteL]; rw [if_neg (fun h => by have := h.2.1; rw [hc0'.out] at this; cases this; exact e0 rfl)])
    go_enter Tryd.func18, Tryd.ntmps18
    go_wp2_with fail
    go_ret2
    rw [hr.out]
    exact ⟨rfl, Below.refl _ _⟩

/-! ### numbers -/
theorem text_any (n : Int) (h0 : -9223372036854775808 ≤ n ∧ n ≤ 9223372036854775807) (w : World) (hE : Env w) : Calls Tryd.prog 16 #[.int .i64 n] w fun e w' => e = .returned (.string ⟨(Lib.itoa n).toArray⟩) ∧ Below w.heap.size w w' := by
  have hcon := Tryd.strconv_Itoa n h0.1 h0.2 w hE.pow10
  have hcon' := Lib.hid hcon
  clear hcon
  go_enter Tryd.func16, Tryd.ntmps16
  go_wp2_with fail
  refine hcon'.out.mono ?_
  rintro e w1 ⟨rfl, k, os, rfl⟩
  have hB := Lib.below_grow w.heap.size w (Nat.le_refl _) k os
  generalize Sort.grow (w.drewN k) os = w1 at *
  go_wp2_with fail
  go_ret
  exact ⟨rfl, hB⟩
theorem below_freeze {B : Nat} {w w' : World} (h : Below B w w') (a : Addr) (n : Nat) (ha : B ≤ a.block) : Below B w (w'.freeze a n) := by
  unfold World.freeze
  split
  · exact h
  · exact ⟨h.os, h.tape, h.output, by simpa using h.size, fun k hk => by
      simp only [Array.getElem?_modify]
      rw [if_neg (by omega)]; exact h.block k hk⟩
theorem below_bytesWorld (w : World) (e : TypeId) (s : ByteArray) : Below w.heap.size w (Lib.bytesWorld w e s) :=
  below_freeze (((Below.refl _ w).drew).alloc (Nat.le_refl _) _) _ _ (Nat.le_refl _)
def numRes (l : List UInt8) (most : Int) : Int × Int :=
  if l = [] ∨ l.all digB = false then (0, 10) else if most < decVal l then (0, 3) else (decVal l, 0)
theorem digs_str : (ByteArray.mk #[48, 49, 50, 51, 52, 53, 54, 55, 56, 57]).data.toList = digs := rfl
theorem trim_any (l : List UInt8) (hl : l.length ≤ 100000000) (w : World) : Calls Tryd.prog 32 #[.string ⟨l.toArray⟩, .string ⟨#[48, 49, 50, 51, 52, 53, 54, 55, 56, 57]⟩] w fun e w' => e = .returned (.string ⟨(Lib.trimS l digs).toArray⟩) ∧ Below w.heap.size w w' := by
  have := Any.strings_Trim_laid Tryd.lays160 (by kernel_rfl) ⟨l.toArray⟩ ⟨#[48, 49, 50, 51, 52, 53, 54, 55, 56, 57]⟩ w (by rw [str_size]; omega) (by decide) (ascii_of_all (by decide))
  have e0 : (ByteArray.mk l.toArray).data.toList = l := by simp
  rw [e0, digs_str] at this
  exact this
theorem number_any (l : List UInt8) (hl : l.length ≤ 100000000) (most : Int) (hm : -9223372036854775808 ≤ most ∧ most ≤ 9223372036854775807) (w : World) (hE : Env w) :
    Calls Tryd.prog 14 #[.string ⟨l.toArray⟩, .int .i64 most] w fun e w' => e = .returned (.tuple #[.int .i64 (numRes l most).1, .int .i64 (numRes l most).2]) ∧ Below w.heap.size w w' := by
  by_cases h0 : l = []
  · subst h0
    go_enter Tryd.func14, Tryd.ntmps14
    go_wp2_with fail
    go_ret2
    exact ⟨rfl, Below.refl _ _⟩
  have h1 : (l == []) = false := by simp [h0]
  have h1' : l.isEmpty = false := by simp [h0]
  by_cases hd : l.all digB = true
  · have htr : Lib.trimS l digs = [] := (trim_nil_iff l).2 hd
    have hat := atoi_digits l h0 hd
    have e0 : (ByteArray.mk l.toArray).data.toList = l := by simp
    have hcon := trim_any l hl w
    rw [htr] at hcon
    by_cases hv : decVal l < 9223372036854775808
    · rw [if_pos hv] at hat
      have hcA := fun W => Tryd.strconv_Atoi_ok ⟨l.toArray⟩ (by rw [str_size]; omega) (decVal l) (by rw [e0]; exact hat) W
      have hcA' := Lib.hid hcA
      clear hcA e0 hat htr
      by_cases hm2 : most < decVal l
      · have hr := Lib.hid (show numRes l most = (0, 3) by simp [numRes, h0, hd, hm2])
        generalize decVal l = v at *
        clear hd h0
        go_enter Tryd.func14, Tryd.ntmps14
        go_wp2_with fail
        refine hcon.mono ?_
        rintro e w1 ⟨rfl, hB⟩
        go_wp2_with fail
        refine (hcA'.out _).mono ?_
        rintro e w2 ⟨rfl, hB2⟩
        have hB3 : Below w.heap.size w w2 := by
          rcases hB2 with rfl | ⟨t, rfl⟩
          · exact hB
          · exact hB.trans ((below_bytesWorld _ _ _).mono hB.size)
        clear hB2
        go_wp2_with fail
        go_ret2
        rw [hr.out]
        exact ⟨rfl, hB3⟩
      · have hr := Lib.hid (show numRes l most = ((decVal l : Int), 0) by simp [numRes, h0, hd, hm2])
        generalize decVal l = v at *
        clear hd h0
        go_enter Tryd.func14, Tryd.ntmps14
        go_wp2_with fail
        refine hcon.mono ?_
        rintro e w1 ⟨rfl, hB⟩
        go_wp2_with fail
        refine (hcA'.out _).mono ?_
        rintro e w2 ⟨rfl, hB2⟩
        have hB3 : Below w.heap.size w w2 := by
          rcases hB2 with rfl | ⟨t, rfl⟩
          · exact hB
          · exact hB.trans ((below_bytesWorld _ _ _).mono hB.size)
        clear hB2
        go_wp2_with fail
        go_ret2
        rw [hr.out]
        exact ⟨rfl, hB3⟩
    · rw [if_neg hv] at hat
      obtain ⟨te, pe, hev⟩ := hE.rng
      have hcA := fun W (hW : W.cell? ⟨1, 0, none⟩ = some (.iface te pe)) => Tryd.strconv_Atoi_range ⟨l.toArray⟩ (by rw [str_size]; omega) (by rw [e0]; exact hat) (.iface te pe) W hW (.inr ⟨te, pe, rfl⟩)
      have hcA' := Lib.hid hcA
      clear hcA e0 hat htr
      have hr := Lib.hid (show numRes l most = (0, 3) by simp only [numRes]; rw [if_neg (by simp [h0, hd]), if_pos (by omega)])
      clear hd h0 hv
      go_enter Tryd.func14, Tryd.ntmps14
      go_wp2_with fail
      refine hcon.mono ?_
      rintro e w1 ⟨rfl, hB⟩
      have hev1 := keep_cell hev hB
      go_wp2_with fail
      refine (hcA'.out _ hev1).mono ?_
      rintro e w2 ⟨N, rfl, _, _, hB2⟩
      have hB3 := hB.trans (hB2.mono hB.size)
      clear hB2
      go_wp2_with fail
      go_ret2
      rw [hr.out]
      exact ⟨rfl, hB3⟩
  · have htr : Lib.trimS l digs ≠ [] := fun h => hd ((trim_nil_iff l).1 h)
    have hcon := trim_any l hl w
    have hr := Lib.hid (show numRes l most = (0, 10) by simp only [numRes]; rw [if_pos (.inr (by simpa using hd))])
    generalize Lib.trimS l digs = t at *
    have ht : (t == []) = false := by simp [htr]
    have ht2 : t.isEmpty = false := by simp [htr]
    clear hd h0 htr
    go_enter Tryd.func14, Tryd.ntmps14
    go_wp2_with fail
    refine hcon.mono ?_
    rintro e w1 ⟨rfl, hB⟩
    go_wp2_with fail
    go_ret2
    rw [hr.out]
    exact ⟨rfl, hB⟩

/-! ### joins -/
theorem libjoin_any (sep : List UInt8) (v : Value) (L : List (List UInt8)) (w : World) (hS : Strs w v L) (hN : L.length ≤ 140737488355328) (hlen : (Lib.join L sep).length ≤ 140737488355328) :
    Calls Tryd.prog 36 #[v, .string ⟨sep.toArray⟩] w fun e w' => e = .returned (.string ⟨(Lib.join L sep).toArray⟩) ∧ Below w.heap.size w w' := by
  obtain ⟨a, cap, rfl, hcap, hc⟩ := hS.shape
  by_cases h0 : L = []
  · subst h0
    refine (Tryd.strings_Join_none a cap ⟨sep.toArray⟩ w).mono ?_
    rintro e w' ⟨rfl, rfl⟩
    exact ⟨rfl, Below.refl _ _⟩
  · obtain ⟨b, off, rfl, hb, hcell⟩ := hc (List.length_pos_iff.2 h0)
    have hmap : (L.map fun x => ByteArray.mk x.toArray).map (·.data.toList) = L := by
      rw [List.map_map]
      conv => rhs; rw [← List.map_id L]
      apply List.map_congr_left
      intro x _; simp
    have hsep : (ByteArray.mk sep.toArray).data.toList = sep := by simp
    have := Tryd.strings_Join b off cap (L.map fun x => ⟨x.toArray⟩) ⟨sep.toArray⟩ w (by
      intro j x hx
      rw [List.getElem?_map] at hx
      cases hl : L[j]? with
      | none => rw [hl] at hx; cases hx
      | some y => rw [hl] at hx; cases hx; exact hcell j y hl) hb (by simpa using hN) (by simpa using hcap) (by rw [hmap, hsep]; exact hlen)
    rw [hmap, hsep, List.length_map] at this
    exact this
theorem join_any (sep : List UInt8) (v : Value) (L : List (List UInt8)) (w : World) (hS : Strs w v L) (hN : L.length ≤ 140737488355328) (hlen : (Lib.join L sep).length ≤ 140737488355328) :
    Calls Tryd.prog 22 #[.string ⟨sep.toArray⟩, v] w fun e w' => e = .returned (.string ⟨(Lib.join L sep).toArray⟩) ∧ Below w.heap.size w w' := by
  have hcon := Lib.hid (libjoin_any sep v L w hS hN hlen)
  clear hlen hN hS
  go_enter Tryd.func22, Tryd.ntmps22
  go_wp2_with fail
  refine hcon.out.mono ?_
  rintro e w1 ⟨rfl, hB⟩
  go_wp2_with fail
  go_ret
  exact ⟨rfl, hB⟩
end Go.Proofs.YtlfnoadnnkkegaaDoor
