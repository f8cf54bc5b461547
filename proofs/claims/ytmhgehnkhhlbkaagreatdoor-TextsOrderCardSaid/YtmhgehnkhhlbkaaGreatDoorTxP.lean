/- Texts: by a pattern (the library's side): numbers. -/
import Derived.Test.YtmhgehnkhhlbkaaGreatDoorEnv
import Derived.Test.YtmhgehnkhhlbkaaGreatDoorTxN
import Derived.Test.YtmhgehnkhhlbkaaGreatDoorTxD
import Derived.Test.YtmhgehnkhhlbkaaGreatDoorShelf
import Derived.Lib.IndexAny
import Derived.Shelf.GgClosure.Gives
import Derived.Shelf.Strings.SlTrimAscii
import Derived.Lib.AppendIntMem
namespace Go.Proofs.YtmhgehnkhhlbkaaGreatDoor
open Go.RowKit

theorem below_freeze {B : Nat} {w w' : World} (h : Below B w w') (a : Addr) (n : Nat) (ha : B ≤ a.block) : Below B w (w'.freeze a n) := by
  unfold World.freeze
  split
  · exact h
  · exact ⟨h.os, h.tape, h.output, by simpa using h.size, fun k hk => by
      simp only [Array.getElem?_modify]
      rw [if_neg (by omega)]; exact h.block k hk⟩
theorem below_bytesWorld (w : World) (e : TypeId) (s : ByteArray) : Below w.heap.size w (Lib.bytesWorld w e s) :=
  below_freeze (((Below.refl _ w).drew).alloc (Nat.le_refl _) _) _ _ (Nat.le_refl _)
theorem digs_str : (ByteArray.mk #[48, 49, 50, 51, 52, 53, 54, 55, 56, 57]).data.toList = digs := rfl
theorem ascii_of_all {l : List UInt8} (h : l.all (fun b => decide (b.toNat < 128)) = true) : ∀ (j : Nat) b, l[j]? = some b → b.toNat < 128 := by
  intro j b hj
  have := List.all_eq_true.1 h b (List.mem_of_getElem? hj)
  simpa using this
theorem trim_any (l : List UInt8) (hl : l.length ≤ 100000000) (w : World) : Calls Tryz.prog 74 #[.string ⟨l.toArray⟩, .string ⟨#[48, 49, 50, 51, 52, 53, 54, 55, 56, 57]⟩] w fun e w' => e = .returned (.string ⟨(Lib.trimS l digs).toArray⟩) ∧ Below w.heap.size w w' := by
  have := Any.strings_Trim_laid Tryz.lays160 (by kernel_rfl) ⟨l.toArray⟩ ⟨#[48, 49, 50, 51, 52, 53, 54, 55, 56, 57]⟩ w (by rw [str_size]; omega) (by decide) (ascii_of_all (by decide))
  have e0 : (ByteArray.mk l.toArray).data.toList = l := by simp
  rw [e0, digs_str] at this
  exact this
theorem tpre_any (l : List UInt8) (w : World) : Calls Tryz.prog 73 #[.string ⟨l.toArray⟩, .string ⟨#[45]⟩] w fun e w' => e = .returned (.string ⟨(unsg l).toArray⟩) ∧ w = w' := by
  have := Tryz.strings_TrimPrefix ⟨l.toArray⟩ ⟨#[45]⟩ w
  have e0 : (ByteArray.mk l.toArray).data.toList = l := by simp
  have e1 : (ByteArray.mk #[45]).data.toList = [45] := rfl
  rw [e0, e1, trimPrefix_unsg] at this
  exact this.mono fun _ _ h => ⟨h.1, h.2.symm⟩
/-- what number gives -/
def numRet (o : Option (List UInt8)) : Ending := .returned (.tuple #[.string ⟨(o.getD []).toArray⟩, .bool o.isSome])
set_option maxHeartbeats 1600000 in
theorem number_any (x : List UInt8) (hl : x.length ≤ 500) (w : World) (hE : Env w) : Calls Tryz.prog 62 #[.string ⟨x.toArray⟩] w fun e w' => (e = numRet (numL x)) ∧ Below w.heap.size w w' := by
  by_cases h0 : x = []
  · subst h0
    go_enter Tryz.func62, Tryz.ntmps62
    go_wp2_with fail
    go_ret2
    exact ⟨rfl, Below.refl _ _⟩
  have hne1 : (x == []) = false := by simp [h0]
  have hne2 : x.isEmpty = false := by simp [h0]
  have hul : (unsg x).length ≤ 500 := by
    unfold unsg; split
    · simp; omega
    · exact hl
  have HP := Lib.hid (tpre_any x w)
  have hnum : numL x = if badNum (unsg x) then none else some (sg (x.head? == some 45) (strip (unsg x))) := by rw [numL, if_neg h0]
  have HA := Lib.hid (num_atoi x h0)
  obtain ⟨r, hr⟩ : ∃ r, unsg x = r := ⟨_, rfl⟩
  rw [hr] at HP hnum HA hul
  have Hnum := Lib.hid hnum
  clear hnum h0 hr
  by_cases hr0 : r = []
  · have hres := Lib.hid (show numL x = none by rw [Hnum.out, if_pos (by simp [badNum, hr0])])
    clear Hnum HA
    subst hr0
    go_enter Tryz.func62, Tryz.ntmps62
    go_wp2_with fail
    refine HP.out.mono ?_
    rintro e w' ⟨rfl, rfl⟩
    go_wp2_with fail
    go_ret2
    rw [hres.out]
    exact ⟨rfl, Below.refl _ _⟩
  have hr1 : (r == []) = false := by simp [hr0]
  have hr2 : r.isEmpty = false := by simp [hr0]
  by_cases h18 : 18 < r.length
  · have hres := Lib.hid (show numL x = none by rw [Hnum.out, if_pos (by simp [badNum, h18])])
    clear Hnum HA hr0
    go_enter Tryz.func62, Tryz.ntmps62
    go_wp2_with fail
    refine HP.out.mono ?_
    rintro e w' ⟨rfl, rfl⟩
    go_wp2_with fail
    go_ret2
    rw [hres.out]
    exact ⟨rfl, Below.refl _ _⟩
  have HT := Lib.hid (trim_any r (by omega))
  have Hiff := Lib.hid (trim_nil_iff r)
  have hrn := Lib.hid hr0
  clear hr0
  cases hd : r.all digB with
  | false =>
    have hres := Lib.hid (show numL x = none by rw [Hnum.out, if_pos (by simp [badNum, hd])])
    have hne : Lib.trimS r digs ≠ [] := fun e => by rw [Hiff.out.1 e] at hd; cases hd
    obtain ⟨t, ht⟩ : ∃ t, Lib.trimS r digs = t := ⟨_, rfl⟩
    rw [ht] at HT hne
    have ht1 : (t == []) = false := by simp [hne]
    have ht2 : t.isEmpty = false := by simp [hne]
    clear Hnum HA hd ht hne
    go_enter Tryz.func62, Tryz.ntmps62
    go_wp2_with fail
    refine HP.out.mono ?_
    rintro e w' ⟨rfl, rfl⟩
    go_wp2_with fail
    refine (HT.out _).mono ?_
    rintro e w1 ⟨rfl, hB⟩
    go_wp2_with fail
    go_ret2
    rw [hres.out]
    exact ⟨rfl, hB⟩
  | true =>
    have hbn : badNum r = false := by simp [badNum, hd, hrn.out]; omega
    obtain ⟨v, hv1, hv2, hv3, hv4⟩ := HA.out hbn
    have hres := Lib.hid (show numL x = some (Lib.itoa v) by rw [Hnum.out, if_neg (by simp [hbn]), hv4])
    have he : Lib.trimS r digs = [] := Hiff.out.2 hd
    rw [he] at HT
    have HAt := Lib.hid (Tryz.strconv_Atoi_ok ⟨x.toArray⟩ (by rw [str_size]; omega) v (by rw [show (ByteArray.mk x.toArray).data.toList = x by simp]; exact hv1))
    have HIt := Lib.hid (Tryz.strconv_Itoa v hv2 hv3)
    clear Hnum HA hd he hv1 hv4 hbn
    go_enter Tryz.func62, Tryz.ntmps62
    go_wp2_with fail
    refine HP.out.mono ?_
    rintro e w' ⟨rfl, rfl⟩
    go_wp2_with fail
    refine (HT.out _).mono ?_
    rintro e w1 ⟨rfl, hB⟩
    have hE1 := hE.below hB
    go_wp2_with fail
    refine (HAt.out _).mono ?_
    rintro e w2 ⟨rfl, hw2⟩
    have hB2 : Below w1.heap.size w1 w2 := by
      rcases hw2 with rfl | ⟨t, rfl⟩
      · exact Below.refl _ _
      · exact below_bytesWorld _ _ _
    clear hw2
    have hE2 := hE1.below hB2
    go_wp2_with fail
    refine (HIt.out _ hE2.pow10).mono ?_
    rintro e w3 ⟨rfl, k, os, rfl⟩
    have hB3 := Lib.below_grow w2.heap.size w2 (Nat.le_refl _) k os
    generalize Sort.grow (w2.drewN k) os = w3 at *
    go_wp2_with fail
    go_ret2
    rw [hres.out]
    have hB12 := hB.trans (hB2.mono hB.size)
    exact ⟨rfl, hB12.trans (hB3.mono hB12.size)⟩
end Go.Proofs.YtmhgehnkhhlbkaaGreatDoor
