/- TxE TxF TxP TxW TxA TxQ -/
import Derived.Test.YtbecmcjibpamoaaGreatDoorQ40
import Derived.Test.YtbecmcjibpamoaaGreatDoorQ20
import Derived.Lib.IndexAny
import Derived.Shelf.GgClosure.Gives
import Derived.Shelf.Strings.SlTrimAscii
import Derived.Lib.AppendIntMem
import Derived.Test.YtbecmcjibpamoaaGreatDoorChecked
import Derived.Lib.FieldsP
import Derived.Lib.TrimUEq
import Derived.Lib.TrimU
import Derived.Lib.AppendStr
import Derived.Lib.UnsafeStr
import Derived.Lib.Builder
import Derived.RegionTactic
set_option linter.unusedVariables false
set_option linter.unusedSimpArgs false
set_option linter.deprecated false
set_option linter.unnecessarySimpa false
namespace Go.Proofs.YtbecmcjibpamoaaGreatDoor
open Go.RowKit
theorem below_drewN {n : Nat} {w w' : World} (h : Below n w w') (k : Nat) : Below n w (w'.drewN k) := ⟨h.os, h.tape, h.output, h.size, h.block⟩
end Go.Proofs.YtbecmcjibpamoaaGreatDoor
namespace Go.Proofs.YtbecmcjibpamoaaGreatDoor
open Go.RowKit Go.Sort
def SlB (w : World) (v : Value) (a : List UInt8) : Prop :=
  (v = .slice none 0 0 ∧ a = []) ∨ ∃ g cap, v = .slice (some ⟨g, 0, none⟩) a.length cap ∧ g < w.heap.size ∧ ∀ (j : Nat) (c : UInt8), a[j]? = some c → w.cell? ⟨g, j, none⟩ = some (.int .u8 c.toNat)
theorem OwnB.slb {w : World} {base v a} (h : OwnB w base v a) : SlB w v a := by
  by_cases ha : a = []
  · subst ha
    obtain ⟨hxs, hr⟩ := h
    rcases hr with ⟨rfl, hn⟩ | ⟨g, cap, cur, rfl, _, hg, _⟩
    · exact .inl ⟨rfl, rfl⟩
    · refine .inr ⟨g, cap, rfl, ?_, fun j c hj => by simp at hj⟩
      rcases Nat.lt_or_ge g w.heap.size with h' | h'
      · exact h'
      · rw [Array.getElem?_eq_none h'] at hg; cases hg
  · obtain ⟨g, cap, hv, _, hl, hc, _⟩ := h.at ha
    exact .inr ⟨g, cap, hv, hl, hc⟩
theorem SlB.below {w w' : World} {v a} (h : SlB w v a) (hb : Below w.heap.size w w') : SlB w' v a := by
  rcases h with h | ⟨g, cap, hv, hl, hc⟩
  · exact .inl h
  · exact .inr ⟨g, cap, hv, Nat.lt_of_lt_of_le hl hb.size, fun j c hj => keep_cell (hc j c hj) hb⟩
def inSet (a : List UInt8) (x : UInt8) : Bool := decide (0 ≤ Lib.indexByte a x)
theorem dropf_any (W : World) (pb : Nat) (v : Value) (a : List UInt8) (x : UInt8) (hc : W.cell? ⟨pb, 0, none⟩ = some v) (hv : SlB W v a) :
    Calls Tryz.prog 139 #[.int .u8 x.toNat, .pointer (some ⟨pb, 0, none⟩)] W fun e w' => e = .returned (.bool (inSet a x)) ∧ W = w' := by
  rcases hv with ⟨rfl, rfl⟩ | ⟨g, cap, rfl, hl, hcs⟩
  · go_enter Tryz.func139, Tryz.ntmps139
    go_wp2_with fail
    refine (Tryz.bytes_IndexByte_nil _ _).mono ?_
    rintro e w' ⟨rfl, rfl⟩
    go_wp2_with fail
    go_ret
    exact ⟨ret_bool (by simp [inSet, Lib.indexByte]), rfl⟩
  · have hb : Lib.Bytes W g 0 ⟨a.toArray⟩ := by
      intro i h
      rw [Nat.zero_add]
      have hi : i < a.length := by rw [← str_size]; exact h
      exact hcs i _ (by rw [List.getElem?_eq_getElem hi]; rfl)
    have hk := Tryz.bytes_IndexByte_bytes g 0 cap ⟨a.toArray⟩ x.toNat W hb
    rw [str_size] at hk
    have H := Lib.hid hk
    clear hk hb hcs
    go_enter Tryz.func139, Tryz.ntmps139
    go_wp2_with fail
    refine H.out.mono ?_
    rintro e w' ⟨rfl, rfl⟩
    go_wp2_with fail
    go_ret
    exact ⟨ret_bool (by simp [inSet]), rfl⟩
def encBT (c : UInt8) : Value := .int .u8 c.toNat
theorem grown_put {α : Type} [Inhabited α] (enc : α → Value) (w : World) (q b : Nat) (off : Nat) (d : Array α) : w.grownBy (putRow enc (Sort.ahead w q) b off d) (some b) := by
  refine ⟨rfl, rfl, rfl, by simp [Sort.ahead], fun k hk hne => ?_⟩
  have : k ≠ b := fun e => hne (by rw [e])
  simp [putRow, mapBlock, Sort.ahead, Array.getElem?_modify, Ne.symm this]
theorem Bs.take {w : World} {b : Nat} {l r : List UInt8} (h : Bs w b (l ++ r)) : Bs w b l :=
  ⟨h.lt, fun j c hj => h.cell j c (by rw [List.getElem?_append_left (List.getElem?_eq_some_iff.1 hj).1]; exact hj), fun j hj => h.free j (by simp; omega)⟩
theorem Bs.holds {w : World} {b : Nat} {l : List UInt8} (h : Bs w b l) : Holds encBT w b 0 l.toArray := by
  intro j hj
  rw [Nat.zero_add]
  have hj' : j < l.length := by simpa using hj
  refine ⟨?_, h.free j hj'⟩
  have := h.cell j _ (List.getElem?_eq_getElem hj')
  rw [this, getElem!_pos l.toArray j hj]; rfl
theorem Bs.of_holds {w : World} {b : Nat} {l : List UInt8} (hb : b < w.heap.size) (h : Holds encBT w b 0 l.toArray) : Bs w b l := by
  refine ⟨hb, fun j c hj => ?_, fun j hj => ?_⟩
  · obtain ⟨h1, h2⟩ := List.getElem?_eq_some_iff.1 hj
    have := (h j (by simpa using h1)).1
    rw [Nat.zero_add] at this
    rw [this, getElem!_pos l.toArray j (by simpa using h1)]
    show some (encBT l[j]) = _
    rw [h2]; rfl
  · have := (h j (by simpa using hj)).2
    rwa [Nat.zero_add] at this
theorem del_any (w : World) (b cap pb : Nat) (l a : List UInt8) (v : Value) (h : Bs w b l) (hcap : l.length ≤ cap) (hl : l.length ≤ 900) (hc : w.cell? ⟨pb, 0, none⟩ = some v) (hv : SlB w v a) (hpb : pb ≠ b) (hvb : v.ownBlock ≠ some b) :
    Calls Tryz.prog 138 #[.slice (some ⟨b, 0, none⟩) l.length cap, .func (.func 139) #[] #[.pointer (some ⟨pb, 0, none⟩)]] w fun e w' =>
      e = .returned (.slice (some ⟨b, 0, none⟩) (l.filter fun x => !inSet a x).length cap) ∧ Bs w' b (l.filter fun x => !inSet a x) ∧ w.grownBy w' (some b) := by
  have hpl := World.block_lt_of_cell? w _ hc
  have hmain := Tryz.slices_DeleteFunc_b (α := UInt8) encBT (fun x => rfl) (inSet a) 139 #[.pointer (some ⟨pb, 0, none⟩)] (enters_of Tryz.func139 (by kernel_rfl) rfl) 0 (by intro w; kernel_rfl)
    b 0 cap l.toArray w
    (fun W x hB => (dropf_any W pb v a x (keep_cell hc hB) (hv.below hB)).mono fun e w' ⟨h1, h2⟩ => ⟨h1, 0, h2.symm⟩)
    (fun n os dk x hdk => by
      have cellk : ∀ g j u, g < w.heap.size → g ≠ b → w.cell? ⟨g, j, none⟩ = some u → (sortWorld encBT w b 0 n dk os).cell? ⟨g, j, none⟩ = some u := by
        intro g j u hg hgb hu
        rw [sortWorld, cell?_grow _ _ _ (by rw [size_putRow]; exact hg), cell?_putRow_other _ _ _ _ _ _ (.inl hgb)]
        exact hu
      refine (dropf_any _ pb v a x (cellk _ _ _ hpl hpb hc) ?_).mono fun e w' ⟨h1, h2⟩ => ⟨h1, 0, h2.symm⟩
      rcases hv with hv | ⟨g, cp, rfl, hg, hcs⟩
      · exact .inl hv
      · refine .inr ⟨g, cp, rfl, ?_, fun j c hj => cellk _ _ _ hg (fun e => hvb (by rw [e]; rfl)) (hcs j c hj)⟩
        rw [sortWorld, size_grow, size_putRow]
        exact Nat.lt_of_lt_of_le hg (Nat.le_add_right _ _))
    h.holds (by simp; omega) (by simpa using hcap)
  have hsz : l.toArray.size = l.length := by simp
  rw [hsz] at hmain
  refine hmain.mono ?_
  rintro e w' ⟨rfl, q, rfl⟩
  refine ⟨rfl, ?_, grown_put _ _ _ _ _ _⟩
  refine Bs.take (r := List.replicate (l.toArray.size - (l.filter fun x => !inSet a x).length) 0) (Bs.of_holds (by rw [size_putRow]; exact h.lt) ?_)
  have hfl := List.length_filter_le (fun x => !inSet a x) l
  exact holds_putRow encBT _ b 0 l.toArray _ h.holds (by simp; omega)
def dropL (s f : List UInt8) : Option (List UInt8) := (setL f).map fun a => s.filter fun x => !inSet a x
set_option maxRecDepth 100000 in
set_option maxHeartbeats 1600000 in
theorem dropT_any (s f : List UInt8) (hf : f.length ≤ 500) (hs : s.length ≤ 900) (w : World) : Calls Tryz.prog 98 #[.string ⟨s.toArray⟩, .string ⟨f.toArray⟩] w fun e w' => TxtRes w w' e (dropL s f) := by
  go_enter Tryz.func98, Tryz.ntmps98
  go_wp2_with fail
  refine (set_any f hf w).mono ?_
  rintro e w1 hr1
  cases ha : setL f with
  | none =>
    rw [ha] at hr1
    obtain ⟨rfl, hB1⟩ := hr1
    have hres := Lib.hid (show dropL s f = none by simp [dropL, ha])
    clear ha
    go_wp2_with fail
    go_ret2
    rw [hres.out]
    exact ⟨rfl, hB1.alloc hB1.size _⟩
  | some a =>
    rw [ha] at hr1
    obtain ⟨v1, rfl, hown1, hl1, hB1⟩ := hr1
    have hres := Lib.hid (show dropL s f = some (s.filter fun x => !inSet a x) by simp [dropL, ha])
    clear ha
    obtain ⟨a1, c1, hv1⟩ := hown1.len
    obtain ⟨na, hna⟩ : ∃ na, a.length = na := ⟨_, rfl⟩
    rw [hna] at hv1
    have HV := Lib.hid hv1
    subst hv1
    clear hna
    go_wp2_with fail
    obtain ⟨pb, hpb⟩ : ∃ pb, w1.heap.size = pb := ⟨_, rfl⟩
    obtain ⟨W, hW⟩ : ∃ W, W = w1.alloc (.cells #[.slice a1 na c1] 23) := ⟨_, rfl⟩
    have hBW : Below w.heap.size w W := hW ▸ hB1.alloc hB1.size _
    have hWs : W.heap.size = pb + 1 := by rw [hW]; simp; omega
    have hc : W.cell? ⟨pb, 0, none⟩ = some (.slice a1 na c1) := by rw [hW, ← hpb, World.cell?_alloc_new]; rfl
    have hv := hown1.slb
    have hv2 : SlB W (.slice a1 na c1) a := hW ▸ hv.below ((Below.refl _ _).alloc (Nat.le_refl _) _)
    have hlt := hown1.lt
    rw [hpb, ← hW]
    obtain ⟨cap, w3, hconv, hO, hBo3, hcl⟩ := bs_conv s W
    rw [hWs] at hconv hO hBo3
    have hBo4 : Below W.heap.size W w3 := hWs ▸ hBo3
    have hc3 := keep_cell hc hBo4
    have hv3 := hv2.below hBo4
    have hB3 := hBW.trans (hBo4.mono hBW.size)
    have hsz1 := hB1.size
    have hvb : (Value.slice a1 na c1).ownBlock ≠ some (pb + 1) := fun e => by have := (hlt _ e).2; omega
    have hdel := Lib.hid (del_any w3 (pb + 1) cap pb s a _ hO hcl hs hc3 hv3 (by omega) hvb)
    clear hBo3 hBo4 hv hv2 hlt hc hc3 hv3 hvb hO hW hWs
    rw [hconv]
    simp only [Result.andThen]
    rw [Oper.upon_value]
    clear hconv
    go_wp2_with fail
    refine hdel.out.mono ?_
    rintro e w4 ⟨rfl, hR, hg4⟩
    have hcv := hR.conv (cap := cap)
    have hB4 : Below w.heap.size w w4 := hB3.grown hg4 hB3.size (fun k hk => by cases hk; omega)
    go_wp2_with fail
    go_ret2
    refine ⟨?_, hB4⟩
    rw [hres.out]
    rfl
end Go.Proofs.YtbecmcjibpamoaaGreatDoor
namespace Go.Proofs.YtbecmcjibpamoaaGreatDoor
open Go.RowKit
theorem below_freeze {B : Nat} {w w' : World} (h : Below B w w') (a : Addr) (n : Nat) (ha : B ≤ a.block) : Below B w (w'.freeze a n) := by
  unfold World.freeze
  split
  · exact h
  · exact ⟨h.os, h.tape, h.output, by simpa using h.size, fun k hk => by
      simp only [Array.getElem?_modify]
      rw [if_neg (by omega)]; exact h.block k hk⟩
theorem below_bytesWorld (w : World) (e : TypeId) (s : ByteArray) : Below w.heap.size w (Lib.bytesWorld w e s) :=
  below_freeze (((Below.refl _ w).drew).alloc (Nat.le_refl _) _) _ _ (Nat.le_refl _)
theorem digs_str : (ByteArray.mk #[48, 49, 50, 51, 52, 53, 54, 55, 56, 57]).data.toList = digs := rfl
theorem ascii_of_all {l : List UInt8} (h : l.all (fun b => decide (b.toNat < 128)) = true) : ∀ (j : Nat) b, l[j]? = some b → b.toNat < 128 := by
  intro j b hj
  have := List.all_eq_true.1 h b (List.mem_of_getElem? hj)
  simpa using this
theorem trimD_any (l : List UInt8) (hl : l.length ≤ 100000000) (w : World) : Calls Tryz.prog 116 #[.string ⟨l.toArray⟩, .string ⟨#[48, 49, 50, 51, 52, 53, 54, 55, 56, 57]⟩] w fun e w' => e = .returned (.string ⟨(Lib.trimS l digs).toArray⟩) ∧ Below w.heap.size w w' := by
  have := Any.strings_Trim_laid Tryz.lays160 (by kernel_rfl) ⟨l.toArray⟩ ⟨#[48, 49, 50, 51, 52, 53, 54, 55, 56, 57]⟩ w (by rw [str_size]; omega) (by decide) (ascii_of_all (by decide))
  have e0 : (ByteArray.mk l.toArray).data.toList = l := by simp
  rw [e0, digs_str] at this
  exact this
theorem tpre_any (l : List UInt8) (w : World) : Calls Tryz.prog 226 #[.string ⟨l.toArray⟩, .string ⟨#[45]⟩] w fun e w' => e = .returned (.string ⟨(unsg l).toArray⟩) ∧ w = w' := by
  have := Tryz.strings_TrimPrefix ⟨l.toArray⟩ ⟨#[45]⟩ w
  have e0 : (ByteArray.mk l.toArray).data.toList = l := by simp
  have e1 : (ByteArray.mk #[45]).data.toList = [45] := rfl
  rw [e0, e1, trimPrefix_unsg] at this
  exact this.mono fun _ _ h => ⟨h.1, h.2.symm⟩
def numRet (o : Option (List UInt8)) : Ending := .returned (.tuple #[.string ⟨(o.getD []).toArray⟩, .bool o.isSome])
set_option maxHeartbeats 1600000 in
theorem number_any (x : List UInt8) (hl : x.length ≤ 500) (w : World) (hE : Env w) : Calls Tryz.prog 208 #[.string ⟨x.toArray⟩] w fun e w' => (e = numRet (numL x)) ∧ Below w.heap.size w w' := by
  by_cases h0 : x = []
  · subst h0
    go_enter Tryz.func208, Tryz.ntmps208
    go_wp2_with fail
    go_ret2
    exact ⟨rfl, Below.refl _ _⟩
  have hne1 : (x == []) = false := by simp [h0]
  have hne2 : x.isEmpty = false := by simp [h0]
  have hul : (unsg x).length ≤ 500 := by
    unfold unsg; split
    · simp; omega
    · exact hl
  have HP := Lib.hid (tpre_any x w)
  have hnum : numL x = if badNum (unsg x) then none else some (sg (x.head? == some 45) (strip (unsg x))) := by rw [numL, if_neg h0]
  have HA := Lib.hid (num_atoi x h0)
  obtain ⟨r, hr⟩ : ∃ r, unsg x = r := ⟨_, rfl⟩
  rw [hr] at HP hnum HA hul
  have Hnum := Lib.hid hnum
  clear hnum h0 hr
  by_cases hr0 : r = []
  · have hres := Lib.hid (show numL x = none by rw [Hnum.out, if_pos (by simp [badNum, hr0])])
    clear Hnum HA
    subst hr0
    go_enter Tryz.func208, Tryz.ntmps208
    go_wp2_with fail
    refine HP.out.mono ?_
    rintro e w' ⟨rfl, rfl⟩
    go_wp2_with fail
    go_ret2
    rw [hres.out]
    exact ⟨rfl, Below.refl _ _⟩
  have hr1 : (r == []) = false := by simp [hr0]
  have hr2 : r.isEmpty = false := by simp [hr0]
  by_cases h18 : 18 < r.length
  · have hres := Lib.hid (show numL x = none by rw [Hnum.out, if_pos (by simp [badNum, h18])])
    clear Hnum HA hr0
    go_enter Tryz.func208, Tryz.ntmps208
    go_wp2_with fail
    refine HP.out.mono ?_
    rintro e w' ⟨rfl, rfl⟩
    go_wp2_with fail
    go_ret2
    rw [hres.out]
    exact ⟨rfl, Below.refl _ _⟩
  have HT := Lib.hid (trimD_any r (by omega))
  have Hiff := Lib.hid (trim_nil_iff r)
  have hrn := Lib.hid hr0
  clear hr0
  cases hd : r.all digB with
  | false =>
    have hres := Lib.hid (show numL x = none by rw [Hnum.out, if_pos (by simp [badNum, hd])])
    have hne : Lib.trimS r digs ≠ [] := fun e => by rw [Hiff.out.1 e] at hd; cases hd
    obtain ⟨t, ht⟩ : ∃ t, Lib.trimS r digs = t := ⟨_, rfl⟩
    rw [ht] at HT hne
    have ht1 : (t == []) = false := by simp [hne]
    have ht2 : t.isEmpty = false := by simp [hne]
    clear Hnum HA hd ht hne
    go_enter Tryz.func208, Tryz.ntmps208
    go_wp2_with fail
    refine HP.out.mono ?_
    rintro e w' ⟨rfl, rfl⟩
    go_wp2_with fail
    refine (HT.out _).mono ?_
    rintro e w1 ⟨rfl, hB⟩
    go_wp2_with fail
    go_ret2
    rw [hres.out]
    exact ⟨rfl, hB⟩
  | true =>
    have hbn : badNum r = false := by simp [badNum, hd, hrn.out]; omega
    obtain ⟨v, hv1, hv2, hv3, hv4⟩ := HA.out hbn
    have hres := Lib.hid (show numL x = some (Lib.itoa v) by rw [Hnum.out, if_neg (by simp [hbn]), hv4])
    have he : Lib.trimS r digs = [] := Hiff.out.2 hd
    rw [he] at HT
    have HAt := Lib.hid (Tryz.strconv_Atoi_ok ⟨x.toArray⟩ (by rw [str_size]; omega) v (by rw [show (ByteArray.mk x.toArray).data.toList = x by simp]; exact hv1))
    have HIt := Lib.hid (Tryz.strconv_Itoa v hv2 hv3)
    clear Hnum HA hd he hv1 hv4 hbn
    go_enter Tryz.func208, Tryz.ntmps208
    go_wp2_with fail
    refine HP.out.mono ?_
    rintro e w' ⟨rfl, rfl⟩
    go_wp2_with fail
    refine (HT.out _).mono ?_
    rintro e w1 ⟨rfl, hB⟩
    have hE1 := hE.below hB
    go_wp2_with fail
    refine (HAt.out _).mono ?_
    rintro e w2 ⟨rfl, hw2⟩
    have hB2 : Below w1.heap.size w1 w2 := by
      rcases hw2 with rfl | ⟨t, rfl⟩
      · exact Below.refl _ _
      · exact below_bytesWorld _ _ _
    clear hw2
    have hE2 := hE1.below hB2
    go_wp2_with fail
    refine (HIt.out _ hE2.pow10).mono ?_
    rintro e w3 ⟨rfl, k, os, rfl⟩
    have hB3 := Lib.below_grow w2.heap.size w2 (Nat.le_refl _) k os
    generalize Sort.grow (w2.drewN k) os = w3 at *
    go_wp2_with fail
    go_ret2
    rw [hres.out]
    have hB12 := hB.trans (hB2.mono hB.size)
    exact ⟨rfl, hB12.trans (hB3.mono hB12.size)⟩
end Go.Proofs.YtbecmcjibpamoaaGreatDoor
namespace Go.Proofs.YtbecmcjibpamoaaGreatDoor
open Go.Lib
def blankB (c : UInt8) : Bool := (9 ≤ c.toNat && c.toNat ≤ 13) || c.toNat == 32
def blankR (r : Nat) : Bool := (9 ≤ r && r ≤ 13) || r == 32
def wordsAt : Bool → List UInt8 → Nat
  | _, [] => 0
  | pb, c :: t => if blankB c then wordsAt true t else (if pb then 1 else 0) + wordsAt false t
theorem words_run : ∀ (r : List UInt8) (pb : Bool) (t : List UInt8), r ≠ [] → (∀ c ∈ r, blankB c = false) → wordsAt pb (r ++ t) = (if pb then 1 else 0) + wordsAt false t
  | [], _, _, h, _ => absurd rfl h
  | [c], pb, t, _, hb => by
    simp only [List.singleton_append, wordsAt, hb c (by simp)]; simp
  | c :: d :: r, pb, t, _, hb => by
    have ih := words_run (d :: r) false t (by simp) (fun x hx => hb x (List.mem_cons_of_mem _ hx))
    rw [List.cons_append]
    simp only [wordsAt, hb c (by simp)]
    simp at ih ⊢
    simpa [wordsAt] using ih
theorem decode_run (s : ByteArray) (pos : Nat) (h : pos < s.size) (h8 : 128 ≤ (s.data.toList.getD pos 0).toNat) :
    128 ≤ (Utf8.decode s pos).1 ∧ 1 ≤ (Utf8.decode s pos).2 ∧ pos + (Utf8.decode s pos).2 ≤ s.size ∧ ∀ j, j < (Utf8.decode s pos).2 → 128 ≤ (s.data.toList.getD (pos + j) 0).toNat := by
  have hl : s.data.toList.length = s.size := Array.length_toList
  rw [decode_N, hl]
  generalize e0 : (s.data.toList.getD pos 0).toNat = b0 at *
  generalize e1 : (s.data.toList.getD (pos + 1) 0).toNat = b1
  generalize e2 : (s.data.toList.getD (pos + 2) 0).toNat = b2
  generalize e3 : (s.data.toList.getD (pos + 3) 0).toNat = b3
  have key : 128 ≤ (decodeN (s.size - pos) b0 b1 b2 b3).1 ∧ 1 ≤ (decodeN (s.size - pos) b0 b1 b2 b3).2 ∧ (decodeN (s.size - pos) b0 b1 b2 b3).2 ≤ s.size - pos ∧ (decodeN (s.size - pos) b0 b1 b2 b3).2 ≤ 4 ∧
      (2 ≤ (decodeN (s.size - pos) b0 b1 b2 b3).2 → 128 ≤ b1) ∧ (3 ≤ (decodeN (s.size - pos) b0 b1 b2 b3).2 → 128 ≤ b2) ∧ (4 ≤ (decodeN (s.size - pos) b0 b1 b2 b3).2 → 128 ≤ b3) := by
    unfold decodeN
    rw [if_neg (by omega)]
    repeat' split
    all_goals (refine ⟨?_, ?_, ?_, ?_, ?_, ?_, ?_⟩ <;> simp only <;> omega)
  obtain ⟨k1, k2, k3, k4, k5, k6, k7⟩ := key
  refine ⟨k1, k2, by omega, fun j hj => ?_⟩
  rcases (show j = 0 ∨ j = 1 ∨ j = 2 ∨ j = 3 by omega) with rfl | rfl | rfl | rfl
  · rw [Nat.add_zero, e0]; exact h8
  · rw [e1]; exact k5 (by omega)
  · rw [e2]; exact k6 (by omega)
  · rw [e3]; exact k7 (by omega)
theorem high_nb (c : UInt8) (h : 128 ≤ c.toNat) : blankB c = false := by
  simp [blankB]; omega
theorem spans_count (s : ByteArray) : ∀ (f pos : Nat) (st : Option Nat) (acc : List (Nat × Nat)), s.size ≤ pos + f → pos ≤ s.size →
    (closeSpans s (spansFromP blankR s f pos st acc)).length = acc.length + (if st.isSome then 1 else 0) + wordsAt st.isNone (s.data.toList.drop pos) := by
  have hl : s.data.toList.length = s.size := Array.length_toList
  have hend : ∀ (st : Option Nat) (acc : List (Nat × Nat)), (closeSpans s (acc, st)).length = acc.length + (if st.isSome then 1 else 0) := by
    intro st acc; cases st <;> simp [closeSpans]
  intro f
  induction f with
  | zero =>
    intro pos st acc h1 h2
    rw [List.drop_eq_nil_of_le (by omega)]
    exact hend st acc
  | succ f ih =>
    intro pos st acc h1 h2
    by_cases hp : pos < s.size
    · have hcons : s.data.toList.drop pos = s.data.toList.getD pos 0 :: s.data.toList.drop (pos + 1) := by
        rw [List.drop_eq_getElem_cons (by omega)]; simp [List.getD, hl, hp]
      by_cases h8 : 128 ≤ (s.data.toList.getD pos 0).toNat
      · obtain ⟨g1, g2, g3, g4⟩ := decode_run s pos hp h8
        have hbr : blankR (Utf8.decode s pos).1 = false := by simp [blankR]; omega
        generalize hk : (Utf8.decode s pos).2 = k at *
        have hsplit : s.data.toList.drop pos = (s.data.toList.drop pos).take k ++ s.data.toList.drop (pos + k) := by
          rw [← List.drop_drop]; exact (List.take_append_drop k _).symm
        have hrun : ∀ c ∈ (s.data.toList.drop pos).take k, blankB c = false := by
          intro c hc
          obtain ⟨j, hj, rfl⟩ := List.getElem_of_mem hc
          apply high_nb
          rw [List.length_take, List.length_drop] at hj
          have := g4 j (by omega)
          rw [show s.data.toList.getD (pos + j) 0 = s.data.toList[pos + j]'(by omega) by unfold List.getD; rw [List.getElem?_eq_getElem (by omega)]; rfl] at this
          simpa using this
        have hne : (s.data.toList.drop pos).take k ≠ [] := by
          intro e; have := congrArg List.length e; simp at this; omega
        rw [hsplit, words_run _ _ _ hne hrun]
        unfold spansFromP
        rw [if_pos hp, hbr]
        simp only [hk]
        cases st with
        | some a =>
          show (closeSpans s (spansFromP blankR s f (pos + k) (some a) acc)).length = _
          rw [ih (pos + k) (some a) acc (by omega) (by omega)]; simp
        | none =>
          show (closeSpans s (spansFromP blankR s f (pos + k) (some pos) acc)).length = _
          rw [ih (pos + k) (some pos) acc (by omega) (by omega)]; simp; omega
      · have hd : Utf8.decode s pos = ((s.data.toList.getD pos 0).toNat, 1) := by
          rw [decode_N]; unfold decodeN; rw [if_pos (by omega)]
        have hbr : blankR (Utf8.decode s pos).1 = blankB (s.data.toList.getD pos 0) := by rw [hd]; rfl
        rw [hcons]
        unfold spansFromP
        rw [if_pos hp, hbr]
        have hd2 : (Utf8.decode s pos).2 = 1 := by rw [hd]
        rw [hd2]
        generalize s.data.toList.getD pos 0 = c
        cases hb : blankB c
        · cases st with
          | some a =>
            show (closeSpans s (spansFromP blankR s f (pos + 1) (some a) acc)).length = _
            rw [ih (pos + 1) (some a) acc (by omega) (by omega)]; simp [wordsAt, hb]
          | none =>
            show (closeSpans s (spansFromP blankR s f (pos + 1) (some pos) acc)).length = _
            rw [ih (pos + 1) (some pos) acc (by omega) (by omega)]; simp [wordsAt, hb]; omega
        · cases st with
          | some a =>
            show (closeSpans s (spansFromP blankR s f (pos + 1) none (acc ++ [(a, pos)]))).length = _
            rw [ih (pos + 1) none _ (by omega) (by omega)]; simp [wordsAt, hb]
          | none =>
            show (closeSpans s (spansFromP blankR s f (pos + 1) none acc)).length = _
            rw [ih (pos + 1) none acc (by omega) (by omega)]; simp [wordsAt, hb]
    · rw [spansFromP_end _ _ _ _ _ _ hp, List.drop_eq_nil_of_le (by omega)]
      exact hend st acc
theorem fields_count (l : List UInt8) : (goFieldsP blankR ⟨l.toArray⟩).length = wordsAt true l := by
  unfold goFieldsP spansOfP
  rw [List.length_map, spans_count _ _ 0 none [] (by omega) (by omega)]
  simp
end Go.Proofs.YtbecmcjibpamoaaGreatDoor
namespace Go.Proofs.YtbecmcjibpamoaaGreatDoor
open Go.RowKit
theorem fblank_any (x : Nat) (w : World) : Calls Tryz.prog 173 #[.int .i32 x] w fun e w' => e = .returned (.bool (blankR x)) ∧ w = w' := by
  have hE := Lib.hid (show blankR x = ((decide (9 ≤ (x : Int)) && decide ((x : Int) ≤ 13)) || ((x : Int) == 32)) by rw [Bool.eq_iff_iff]; simp [blankR]; omega)
  go_enter Tryz.func173, Tryz.ntmps173
  go_wp2
  all_goals go_ret
  all_goals refine ⟨ret_bool ?_, rfl⟩
  all_goals rw [hE.out]
  all_goals first | (simp_all; done) | (simp_all <;> omega; done) | (rw [Bool.eq_iff_iff]; simp; omega)
theorem enter_blank : ∀ args w, (callFunc 173 args).run Tryz.prog w = .ok (.enter 173 args) w := enters_of Tryz.func173 (by kernel_rfl) rfl
theorem pred_blank (w : World) : PredAt Tryz.prog 173 #[] encR blankR w := by
  intro W x _
  unfold FnGives
  have := fblank_any x W
  exact this.mono fun e w' h => ⟨h.1, 0, h.2.symm⟩
set_option maxRecDepth 100000 in
theorem fields_any (l : List UInt8) (hl : l.length ≤ 1048576) (w : World) : Calls Tryz.prog 172 #[.string ⟨l.toArray⟩, .func (.func 173) #[] #[]] w fun e w' => (∃ A, e = .returned (.slice (some ⟨A, 0, none⟩) (wordsAt true l) (wordsAt true l))) ∧ Below w.heap.size w w' := by
  have := Tryz.strings_FieldsFunc 173 #[] enter_blank blankR ⟨l.toArray⟩ w (by rw [str_size]; omega) (pred_blank w)
  rw [fields_count] at this
  exact this.mono fun e w' ⟨A, h1, _, _, h4⟩ => ⟨⟨A, h1⟩, h4⟩
theorem count_any (l : List UInt8) (c : UInt8) (w : World) : Calls Tryz.prog 143 #[.string ⟨l.toArray⟩, .string ⟨#[c]⟩] w fun e w' => e = .returned (.int .i64 (l.count c)) ∧ w = w' := by
  have := Tryz.strings_Count_one ⟨l.toArray⟩ c w
  have e0 : (ByteArray.mk l.toArray).data.toList = l := by simp
  rw [e0] at this
  exact this.mono fun _ _ h => ⟨h.1, h.2.symm⟩
theorem wc_any (l : List UInt8) (hl : l.length ≤ 1048576) (w : World) : Calls Tryz.prog 129 #[.string ⟨l.toArray⟩] w fun e w' => e = .returned (.tuple #[.int .i64 (l.count 10), .int .i64 (wordsAt true l), .int .i64 l.length]) ∧ Below w.heap.size w w' := by
  have hC := Lib.hid (count_any l 10)
  have hF := Lib.hid (fields_any l hl)
  go_enter Tryz.func129, Tryz.ntmps129
  go_wp2_with fail
  refine (hC.out w).mono ?_
  rintro e w' ⟨rfl, rfl⟩
  go_wp2_with fail
  refine (hF.out w).mono ?_
  rintro e w1 ⟨⟨A, rfl⟩, hB⟩
  go_wp2_with fail
  go_ret3
  exact ⟨rfl, hB⟩
end Go.Proofs.YtbecmcjibpamoaaGreatDoor
namespace Go.Proofs.YtbecmcjibpamoaaGreatDoor
open Go.RowKit
def Prt (base : Nat) (w : World) (pb : Nat) (out : List UInt8) (rv : Value) (took : Bool) : Prop :=
  base ≤ pb ∧ ∃ a v, w.heap[pb]? = some (.cells #[a, v, rv, .bool took] 169 (0, 0)) ∧ (a = .pointer none ∨ a = .pointer (some ⟨pb, 0, none⟩)) ∧ OwnB w base v out ∧ v.ownBlock ≠ some pb ∧ (out = [] → v = .slice none 0 0)
theorem cell_heap {w : World} {b : Nat} {cs : Array Value} {t : TypeId} (h : w.heap[b]? = some (.cells cs t (0, 0))) (i : Nat) : w.cell? ⟨b, i, none⟩ = cs[i]? := by simp [World.cell?, h]
theorem free_heap {w : World} {b : Nat} {cs : Array Value} {t : TypeId} (h : w.heap[b]? = some (.cells cs t (0, 0))) (i : Nat) : w.frozen? ⟨b, i, none⟩ = false := by simp [World.frozen?, h]
theorem lt_heap {w : World} {b : Nat} {o : Obj} (h : w.heap[b]? = some o) : b < w.heap.size := by
  rcases Nat.lt_or_ge b w.heap.size with h' | h'
  · exact h'
  · rw [Array.getElem?_eq_none h'] at h; cases h
theorem OwnB.set {w : World} {base : Nat} {v : Value} {l : List UInt8} (h : OwnB w base v l) (b j : Nat) (u : Value) (hne : v.ownBlock ≠ some b) : OwnB (w.setCell ⟨b, j, none⟩ u) base v l :=
  h.other (r := some b) ⟨rfl, rfl, rfl, by simp [World.setCell], fun k _ hk => heap_setCell_other w ⟨b, j, none⟩ k u (fun e => hk (by rw [e]))⟩ (.inr hne)
set_option maxRecDepth 100000 in
theorem pcopy_used (pb : Nat) (w : World) (h0 : w.cell? ⟨pb, 0, none⟩ = some (.pointer (some ⟨pb, 0, none⟩))) : Calls Tryz.prog 106 #[.pointer (some ⟨pb, 0, none⟩)] w fun e w' => e = .returned (.tuple #[]) ∧ w = w' := by
  obtain ⟨j, hj, hjs⟩ : ∃ j, Tryz.prog.info? 71 = some j ∧ j.size = 2 := by
    have : (Tryz.prog.info? 71).map (·.size) = some 2 := by kernel_rfl
    exact Option.map_eq_some_iff.1 this
  have hu1 : Tryz.prog.underlying 69 = some (.pointer 71) := by kernel_rfl
  go_enter Tryz.func106, Tryz.ntmps106
  go_wp2_with fail
  rw [Lib.run_neq_ptr_same w _ hu1 hj]
  go_wp2_with fail
  go_end0
  exact ⟨rfl, rfl⟩
set_option maxRecDepth 100000 in
theorem pcopy_fresh (pb : Nat) (w : World) (h0 : w.cell? ⟨pb, 0, none⟩ = some (.pointer none)) (hsh : w.shape? pb = some (169, 4)) (hfz : w.frozen? ⟨pb, 0, none⟩ = false) :
    Calls Tryz.prog 106 #[.pointer (some ⟨pb, 0, none⟩)] w fun e w' => e = .returned (.tuple #[]) ∧ w' = w.setCell ⟨pb, 0, none⟩ (.pointer (some ⟨pb, 0, none⟩)) := by
  obtain ⟨j, hj, hjs⟩ : ∃ j, Tryz.prog.info? 71 = some j ∧ j.size = 2 := by
    have : (Tryz.prog.info? 71).map (·.size) = some 2 := by kernel_rfl
    exact Option.map_eq_some_iff.1 this
  have hu1 : Tryz.prog.underlying 69 = some (.pointer 71) := by kernel_rfl
  have hu2 : Tryz.prog.underlying 196 = some .unsafePointer := by kernel_rfl
  have hlies : liesAt Tryz.prog Tryz.prog.depth 169 (4 / Tryz.prog.cellsOf 169) 0 71 1 = true := by kernel_rfl
  go_enter Tryz.func106, Tryz.ntmps106
  go_wp2_with fail
  rw [Lib.run_to_unsafe w ⟨pb, 0, none⟩ hu1 hu2 hj (by rw [hjs]; decide) hsh (show (0 : Nat) < 4 by decide)]
  simp only [Result.andThen]
  rw [Oper.upon_value]
  go_wp2_with fail
  rw [run_callFunc_extern Tryz.func148 (by kernel_rfl) (by kernel_rfl) (by kernel_rfl) (e := Extern.AbiNoEscape.same) (by kernel_rfl)]
  rw [Lib.run_noEscape]
  simp only [Result.andThen]
  rw [Oper.upon_value]
  go_wp2_with fail
  rw [Lib.run_from_unsafe w ⟨pb, 0, none⟩ hu2 hu1 hj hsh hlies]
  simp only [Result.andThen]
  rw [Oper.upon_value]
  go_wp2_with fail
  go_end0
  exact ⟨rfl, rfl⟩
theorem pcopy_any (base pb : Nat) (w : World) (out : List UInt8) (rv : Value) (took : Bool) (h : Prt base w pb out rv took) :
    Calls Tryz.prog 106 #[.pointer (some ⟨pb, 0, none⟩)] w fun e w' => e = .returned (.tuple #[]) ∧ Prt base w' pb out rv took ∧ Below base w w' := by
  obtain ⟨hb, a, v, hp, ha, hown, hne, hnil⟩ := h
  rcases ha with rfl | rfl
  · refine (pcopy_fresh pb w (by rw [cell_heap hp]; rfl) (by simp [World.shape?, hp]) (free_heap hp 0)).mono ?_
    rintro e w' ⟨rfl, rfl⟩
    refine ⟨rfl, ⟨hb, _, v, by rw [heap_setCell_same w pb 0 _ _ _ hp]; rfl, .inr rfl, hown.set _ _ _ hne, hne, hnil⟩, below_setT (Below.refl _ _) hb _⟩
  · refine (pcopy_used pb w (by rw [cell_heap hp]; rfl)).mono ?_
    rintro e w' ⟨rfl, rfl⟩
    exact ⟨rfl, ⟨hb, _, v, hp, .inr rfl, hown, hne, hnil⟩, Below.refl _ _⟩
theorem own_str {w : World} {base : Nat} {v : Value} {out l : List UInt8} (h : w.ownsRow base 5 1 v (out.length + (ByteArray.mk l.toArray).size) ((out.map fun c => Value.int .u8 c.toNat) ++ Lib.strCells ⟨l.toArray⟩)) : OwnB w base v (out ++ l) := by
  rw [str_size] at h
  simpa [OwnB, Lib.strCells] using h
theorem own_ne {w : World} {base b : Nat} {v : Value} {l : List UInt8} {cs : Array Value} {t : TypeId} (h : OwnB w base v l) (hp : w.heap[b]? = some (.cells cs t (0, 0))) (ht : t ≠ 5) : v.ownBlock ≠ some b := by
  obtain ⟨hxs, hr⟩ := h
  rcases hr with ⟨rfl, hn⟩ | ⟨g, cap, cur, rfl, _, hg, _⟩
  · exact fun e => by cases e
  · intro e
    have e2 : g = b := by cases e; rfl
    rw [e2, hp] at hg
    cases hg
    exact ht rfl
theorem nil_str {out l : List UInt8} {v v1 : Value} (hnil : out = [] → v = .slice none 0 0) (hiff : v1 = .slice none 0 0 ↔ v = .slice none 0 0 ∧ (ByteArray.mk l.toArray).size = 0) : out ++ l = [] → v1 = .slice none 0 0 := by
  intro e
  rw [List.append_eq_nil_iff] at e
  exact hiff.2 ⟨hnil e.1, by rw [str_size, e.2]; rfl⟩
theorem prt_app {base pb : Nat} {w w1 w2 : World} {a v v1 rv : Value} {took : Bool} {out out' : List UInt8} (hb : base ≤ pb) (hp : w1.heap[pb]? = some (.cells #[a, v, rv, .bool took] 169 (0, 0)))
    (ha : a = .pointer none ∨ a = .pointer (some ⟨pb, 0, none⟩)) (hne : v.ownBlock ≠ some pb) (hown : OwnB w1 base v out) (hB1 : Below base w w1) (hs : base ≤ w1.heap.size) (hown1 : OwnB w2 base v1 out') (hg : w1.grownBy w2 v.ownBlock) (hnil : out' = [] → v1 = .slice none 0 0) :
    ∃ a1 n1 c1, v1 = .slice a1 n1 c1 ∧ w2.cell? ⟨pb, 1, none⟩ = some v ∧ w2.frozen? ⟨pb, 1, none⟩ = false ∧ Prt base (w2.setCell ⟨pb, 1, none⟩ v1) pb out' rv took ∧ Below base w (w2.setCell ⟨pb, 1, none⟩ v1) := by
  have hB2 := below_own hB1 hown hg hs
  have hp2 : w2.heap[pb]? = some (.cells #[a, v, rv, .bool took] 169 (0, 0)) := by rw [hg.block pb (lt_heap hp) (fun e => hne e.symm)]; exact hp
  have hne2 := own_ne hown1 hp2 (by decide)
  obtain ⟨a1, c1, hv1⟩ := hown1.len
  exact ⟨a1, _, c1, hv1, by rw [cell_heap hp2]; rfl, free_heap hp2 1, ⟨hb, a, v1, by rw [heap_setCell_same w2 pb 1 _ _ _ hp2]; rfl, ha, hown1.set _ _ _ hne2, hne2, hnil⟩, below_setT hB2 hb _⟩
set_option maxRecDepth 100000 in
theorem pbyte_any (base pb : Nat) (w : World) (out : List UInt8) (rv : Value) (took : Bool) (c : UInt8) (hl : out.length + 1 ≤ 100000000000) (h : Prt base w pb out rv took) :
    Calls Tryz.prog 165 #[.pointer (some ⟨pb, 0, none⟩), .int .u8 c.toNat] w fun e w' => e = .returned .nilIface ∧ Prt base w' pb (out ++ [c]) rv took ∧ Below base w w' := by
  have H := Lib.hid (pcopy_any base pb w out rv took h)
  go_enter Tryz.func165, Tryz.ntmps165
  go_wp2_with fail
  refine H.out.mono ?_
  rintro e w1 ⟨rfl, ⟨hb, a, v, hp, ha, hown, hne, hnil⟩, hB1⟩
  have hs1 : base ≤ w1.heap.size := by have := lt_heap hp; omega
  have c1 : w1.cell? ⟨pb, 1, none⟩ = some v := by rw [cell_heap hp]; rfl
  go_wp2_with (at_builtin; refine append_lit rfl _ _ rfl base _ _ rfl hown [c] _ rfl 1 rfl rfl (by first | omega | (simp; omega)) hs1 ?_; intro v1 w2 hown1 hg1; obtain ⟨a1, n1, k1, rfl, c2, hf2, hP, hB⟩ := prt_app hb hp ha hne hown hB1 hs1 hown1 hg1 (fun e => absurd e (by simp)); clear hnil)
  go_ret
  exact ⟨rfl, hP, hB⟩
set_option maxRecDepth 100000 in
theorem pstr_any (base pb : Nat) (w : World) (out : List UInt8) (rv : Value) (took : Bool) (l : List UInt8) (hl : out.length + l.length ≤ 100000000000) (h : Prt base w pb out rv took) :
    Calls Tryz.prog 59 #[.pointer (some ⟨pb, 0, none⟩), .string ⟨l.toArray⟩] w fun e w' => e = .returned (.tuple #[.int .i64 l.length, .nilIface]) ∧ Prt base w' pb (out ++ l) rv took ∧ Below base w w' := by
  have H := Lib.hid (pcopy_any base pb w out rv took h)
  obtain ⟨i0, hi, hz0, hz1, hz2⟩ := info_parts info_u8
  go_enter Tryz.func59, Tryz.ntmps59
  go_wp2_with fail
  refine H.out.mono ?_
  rintro e w1 ⟨rfl, ⟨hb, a, v, hp, ha, hown, hne, hnil⟩, hB1⟩
  have hs1 : base ≤ w1.heap.size := by have := lt_heap hp; omega
  have c1 : w1.cell? ⟨pb, 1, none⟩ = some v := by rw [cell_heap hp]; rfl
  have hlm : out.length + (ByteArray.mk l.toArray).size ≤ maxLen := by rw [str_size]; unfold maxLen; omega
  have hlm2 : out.length + (ByteArray.mk l.toArray).size ≤ 140737488355328 := by rw [str_size]; omega
  go_wp2_with (at_builtin; refine Lib.wpList_append_own_string _ rfl _ _ 23 9 rfl base 5 i0 (by kernel_rfl) (by kernel_rfl) hi hz0 hz1 hz2 _ _ _ rfl hown ⟨l.toArray⟩ rfl hlm hlm2 hs1 ?_; intro v1 w2 hown1' hg1 hiff; have hown1 : OwnB w2 base v1 (out ++ l) := own_str hown1'; obtain ⟨a1, n1, k1, rfl, c2, hf2, hP, hB⟩ := prt_app hb hp ha hne hown hB1 hs1 hown1 hg1 (nil_str hnil hiff); clear hown1' hiff hnil)
  go_ret2
  exact ⟨rfl, hP, hB⟩
set_option maxRecDepth 100000 in
set_option maxHeartbeats 1600000 in
theorem pout_any (base pb : Nat) (w : World) (out : List UInt8) (rv : Value) (took : Bool) (hl : out.length ≤ 100000000000) (h : Prt base w pb out rv took) :
    Calls Tryz.prog 29 #[.pointer (some ⟨pb, 0, none⟩)] w fun e w' => e = .returned (.string ⟨out.toArray⟩) ∧ Below base w w' := by
  obtain ⟨hb, a, v, hp, ha, hown, hne, hnil⟩ := h
  by_cases h0 : out = []
  · subst h0
    obtain rfl := hnil rfl
    have hUS : ∀ W : World, (Builtin.unsafeString_ #[120, 3] 9 #[.pointer none, .int .i64 0]).run Tryz.prog W = .ok (.string .empty) W := fun W => Lib.run_unsafeString_none W _ _ _ none
    have hSD : ∀ W : World, (Builtin.unsafeSliceData_ #[23] 120 #[.slice none 0 0]).run Tryz.prog W = .ok (.pointer none) W := fun W => rfl
    have c1 : w.cell? ⟨pb, 1, none⟩ = some (.slice none 0 0) := by rw [cell_heap hp]; rfl
    clear hnil hown hp
    go_enter Tryz.func29, Tryz.ntmps29
    go_wp2_with fail
    go_region
    all_goals
      go_wp2_with fail
      go_ret
      exact ⟨rfl, (Below.refl _ _).drew⟩
  · obtain ⟨g, cap, rfl, hbg, hglt, hcs, hfz⟩ := hown.at h0
    have hrow : ∃ cur, w.heap[g]? = some (.cells cur 5 (0, 0)) ∧ out.length ≤ cur.size := by
      obtain ⟨hxs, hr⟩ := hown
      rcases hr with ⟨hv, _⟩ | ⟨g', cap', cur, hv, _, hg, hnc, _, hcz, _⟩
      · cases hv
      · cases hv; exact ⟨cur, hg, by omega⟩
    obtain ⟨cur, hg, hcl⟩ := hrow
    have hlc : out.length ≤ cap := by
      obtain ⟨hxs, hr⟩ := hown
      rcases hr with ⟨hv, _⟩ | ⟨g', cap', cur', hv, _, _, hnc, _⟩
      · cases hv
      · cases hv; exact hnc
    have hlp : 0 < out.length := List.length_pos_iff.2 h0
    have hSD : (Builtin.unsafeSliceData_ #[23] 120 #[.slice (some ⟨g, 0, none⟩) out.length cap]).run Tryz.prog w.drew = .ok (.pointer (some ⟨g, 0, none⟩)) w.drew :=
      Lib.run_unsafeSliceData_row _ _ _ _ _ _ (by omega)
    have hUS : (Builtin.unsafeString_ #[120, 3] 9 #[.pointer (some ⟨g, 0, none⟩), .int .i64 out.length]).run Tryz.prog w.drew = .ok (.string ⟨out.toArray⟩) (w.drew.freeze ⟨g, 0, none⟩ out.length) := by
      refine Lib.run_unsafeString_row w.drew 120 3 9 5 (by kernel_rfl) (by kernel_rfl) g cur.size (by have hg' : w.drew.heap[g]? = some (.cells cur 5 (0, 0)) := hg; simp [World.shape?, hg']) out h0 hcl (by omega) ?_
      intro j x hx
      have e : (⟨g, 0, none⟩ : Addr).add j = ⟨g, j, none⟩ := by unfold Addr.add; split <;> simp_all
      rw [e]
      exact hcs j x hx
    have c1 : w.cell? ⟨pb, 1, none⟩ = some (.slice (some ⟨g, 0, none⟩) out.length cap) := by rw [cell_heap hp]; rfl
    obtain ⟨n, hn⟩ : ∃ n, out.length = n := ⟨_, rfl⟩
    rw [hn] at hSD hUS c1
    have hB := below_freeze ((Below.refl base w).drew) ⟨g, 0, none⟩ n hbg
    clear hnil hown hp hn hcs hfz hg hcl h0
    go_enter Tryz.func29, Tryz.ntmps29
    go_wp2_with fail
    go_region
    all_goals
      go_wp2_with fail
      go_ret
      exact ⟨rfl, hB⟩
end Go.Proofs.YtbecmcjibpamoaaGreatDoor
