/- Texts: without some bytes (both sides). -/
import Derived.Test.YtmhgehnkhhlbkaaDoorTxE
import Derived.Test.YtmhgehnkhhlbkaaDoorShelf
import Derived.Lib.IndexAny
import Derived.Shelf.GgClosure.Gives
namespace Go.Proofs.YtmhgehnkhhlbkaaDoor
open Go.RowKit Go.Sort

/-- a slice of bytes that may be read -/
def SlB (w : World) (v : Value) (a : List UInt8) : Prop :=
  (v = .slice none 0 0 ∧ a = []) ∨ ∃ g cap, v = .slice (some ⟨g, 0, none⟩) a.length cap ∧ g < w.heap.size ∧ ∀ (j : Nat) (c : UInt8), a[j]? = some c → w.cell? ⟨g, j, none⟩ = some (.int .u8 c.toNat)
theorem OwnB.slb {w : World} {base v a} (h : OwnB w base v a) : SlB w v a := by
  by_cases ha : a = []
  · subst ha
    obtain ⟨hxs, hr⟩ := h
    rcases hr with ⟨rfl, hn⟩ | ⟨g, cap, cur, rfl, _, hg, _⟩
    · exact .inl ⟨rfl, rfl⟩
    · refine .inr ⟨g, cap, rfl, ?_, fun j c hj => by simp at hj⟩
      rcases Nat.lt_or_ge g w.heap.size with h' | h'
      · exact h'
      · rw [Array.getElem?_eq_none h'] at hg; cases hg
  · obtain ⟨g, cap, hv, _, hl, hc, _⟩ := h.at ha
    exact .inr ⟨g, cap, hv, hl, hc⟩
theorem SlB.below {w w' : World} {v a} (h : SlB w v a) (hb : Below w.heap.size w w') : SlB w' v a := by
  rcases h with h | ⟨g, cap, hv, hl, hc⟩
  · exact .inl h
  · exact .inr ⟨g, cap, hv, Nat.lt_of_lt_of_le hl hb.size, fun j c hj => keep_cell (hc j c hj) hb⟩
/-- bytes that a set has -/
def inSet (a : List UInt8) (x : UInt8) : Bool := decide (0 ≤ Lib.indexByte a x)
theorem dropf_any (W : World) (pb : Nat) (v : Value) (a : List UInt8) (x : UInt8) (hc : W.cell? ⟨pb, 0, none⟩ = some v) (hv : SlB W v a) :
    Calls Tryd.prog 38 #[.int .u8 x.toNat, .pointer (some ⟨pb, 0, none⟩)] W fun e w' => e = .returned (.bool (inSet a x)) ∧ W = w' := by
  rcases hv with ⟨rfl, rfl⟩ | ⟨g, cap, rfl, hl, hcs⟩
  · go_enter Tryd.func38, Tryd.ntmps38
    go_wp2_with fail
    refine (Tryd.bytes_IndexByte_nil _ _).mono ?_
    rintro e w' ⟨rfl, rfl⟩
    go_wp2_with fail
    go_ret
    exact ⟨ret_bool (by simp [inSet, Lib.indexByte]), rfl⟩
  · have hb : Lib.Bytes W g 0 ⟨a.toArray⟩ := by
      intro i h
      rw [Nat.zero_add]
      have hi : i < a.length := by rw [← str_size]; exact h
      exact hcs i _ (by rw [List.getElem?_eq_getElem hi]; rfl)
    have hk := Tryd.bytes_IndexByte_bytes g 0 cap ⟨a.toArray⟩ x.toNat W hb
    rw [str_size] at hk
    have H := Lib.hid hk
    clear hk hb hcs
    go_enter Tryd.func38, Tryd.ntmps38
    go_wp2_with fail
    refine H.out.mono ?_
    rintro e w' ⟨rfl, rfl⟩
    go_wp2_with fail
    go_ret
    exact ⟨ret_bool (by simp [inSet]), rfl⟩
def encB (c : UInt8) : Value := .int .u8 c.toNat
theorem grown_put {α : Type} [Inhabited α] (enc : α → Value) (w : World) (q b : Nat) (off : Nat) (d : Array α) : w.grownBy (putRow enc (Sort.ahead w q) b off d) (some b) := by
  refine ⟨rfl, rfl, rfl, by simp [Sort.ahead], fun k hk hne => ?_⟩
  have : k ≠ b := fun e => hne (by rw [e])
  simp [putRow, mapBlock, Sort.ahead, Array.getElem?_modify, Ne.symm this]
theorem Bs.take {w : World} {b : Nat} {l r : List UInt8} (h : Bs w b (l ++ r)) : Bs w b l :=
  ⟨h.lt, fun j c hj => h.cell j c (by rw [List.getElem?_append_left (List.getElem?_eq_some_iff.1 hj).1]; exact hj), fun j hj => h.free j (by simp; omega)⟩
theorem Bs.holds {w : World} {b : Nat} {l : List UInt8} (h : Bs w b l) : Holds encB w b 0 l.toArray := by
  intro j hj
  rw [Nat.zero_add]
  have hj' : j < l.length := by simpa using hj
  refine ⟨?_, h.free j hj'⟩
  have := h.cell j _ (List.getElem?_eq_getElem hj')
  rw [this, getElem!_pos l.toArray j hj]; rfl
theorem Bs.of_holds {w : World} {b : Nat} {l : List UInt8} (hb : b < w.heap.size) (h : Holds encB w b 0 l.toArray) : Bs w b l := by
  refine ⟨hb, fun j c hj => ?_, fun j hj => ?_⟩
  · obtain ⟨h1, h2⟩ := List.getElem?_eq_some_iff.1 hj
    have := (h j (by simpa using h1)).1
    rw [Nat.zero_add] at this
    rw [this, getElem!_pos l.toArray j (by simpa using h1)]
    show some (encB l[j]) = _
    rw [h2]; rfl
  · have := (h j (by simpa using hj)).2
    rwa [Nat.zero_add] at this
theorem del_any (w : World) (b cap pb : Nat) (l a : List UInt8) (v : Value) (h : Bs w b l) (hcap : l.length ≤ cap) (hl : l.length ≤ 500) (hc : w.cell? ⟨pb, 0, none⟩ = some v) (hv : SlB w v a) (hpb : pb ≠ b) (hvb : v.ownBlock ≠ some b) :
    Calls Tryd.prog 37 #[.slice (some ⟨b, 0, none⟩) l.length cap, .func (.func 38) #[] #[.pointer (some ⟨pb, 0, none⟩)]] w fun e w' =>
      e = .returned (.slice (some ⟨b, 0, none⟩) (l.filter fun x => !inSet a x).length cap) ∧ Bs w' b (l.filter fun x => !inSet a x) ∧ w.grownBy w' (some b) := by
  have hpl := World.block_lt_of_cell? w _ hc
  have hmain := Tryd.slices_DeleteFunc_b (α := UInt8) encB (fun x => rfl) (inSet a) 38 #[.pointer (some ⟨pb, 0, none⟩)] (enters_of Tryd.func38 (by kernel_rfl) rfl) 0 (by intro w; kernel_rfl)
    b 0 cap l.toArray w
    (fun W x hB => (dropf_any W pb v a x (keep_cell hc hB) (hv.below hB)).mono fun e w' ⟨h1, h2⟩ => ⟨h1, 0, h2.symm⟩)
    (fun n os dk x hdk => by
      have cellk : ∀ g j u, g < w.heap.size → g ≠ b → w.cell? ⟨g, j, none⟩ = some u → (sortWorld encB w b 0 n dk os).cell? ⟨g, j, none⟩ = some u := by
        intro g j u hg hgb hu
        rw [sortWorld, cell?_grow _ _ _ (by rw [size_putRow]; exact hg), cell?_putRow_other _ _ _ _ _ _ (.inl hgb)]
        exact hu
      refine (dropf_any _ pb v a x (cellk _ _ _ hpl hpb hc) ?_).mono fun e w' ⟨h1, h2⟩ => ⟨h1, 0, h2.symm⟩
      rcases hv with hv | ⟨g, cp, rfl, hg, hcs⟩
      · exact .inl hv
      · refine .inr ⟨g, cp, rfl, ?_, fun j c hj => cellk _ _ _ hg (fun e => hvb (by rw [e]; rfl)) (hcs j c hj)⟩
        rw [sortWorld, size_grow, size_putRow]
        exact Nat.lt_of_lt_of_le hg (Nat.le_add_right _ _))
    h.holds (by simp; omega) (by simpa using hcap)
  have hsz : l.toArray.size = l.length := by simp
  rw [hsz] at hmain
  refine hmain.mono ?_
  rintro e w' ⟨rfl, q, rfl⟩
  refine ⟨rfl, ?_, grown_put _ _ _ _ _ _⟩
  refine Bs.take (r := List.replicate (l.toArray.size - (l.filter fun x => !inSet a x).length) 0) (Bs.of_holds (by rw [size_putRow]; exact h.lt) ?_)
  have hfl := List.length_filter_le (fun x => !inSet a x) l
  exact holds_putRow encB _ b 0 l.toArray _ h.holds (by simp; omega)
def dropL (s f : List UInt8) : Option (List UInt8) := (setL f).map fun a => s.filter fun x => !inSet a x
set_option maxRecDepth 100000 in
set_option maxHeartbeats 1600000 in
theorem drop_any (s f : List UInt8) (hf : f.length ≤ 500) (hs : s.length ≤ 500) (w : World) : Calls Tryd.prog 17 #[.string ⟨s.toArray⟩, .string ⟨f.toArray⟩] w fun e w' => TxtRes w w' e (dropL s f) := by
  go_enter Tryd.func17, Tryd.ntmps17
  go_wp2_with fail
  refine (set_any f hf w).mono ?_
  rintro e w1 hr1
  cases ha : setL f with
  | none =>
    rw [ha] at hr1
    obtain ⟨rfl, hB1⟩ := hr1
    have hres := Lib.hid (show dropL s f = none by simp [dropL, ha])
    clear ha
    go_wp2_with fail
    go_ret2
    rw [hres.out]
    exact ⟨rfl, hB1.alloc hB1.size _⟩
  | some a =>
    rw [ha] at hr1
    obtain ⟨v1, rfl, hown1, hl1, hB1⟩ := hr1
    have hres := Lib.hid (show dropL s f = some (s.filter fun x => !inSet a x) by simp [dropL, ha])
    clear ha
    obtain ⟨a1, c1, hv1⟩ := hown1.len
    obtain ⟨na, hna⟩ : ∃ na, a.length = na := ⟨_, rfl⟩
    rw [hna] at hv1
    have HV := Lib.hid hv1
    subst hv1
    clear hna
    go_wp2_with fail
    obtain ⟨pb, hpb⟩ : ∃ pb, w1.heap.size = pb := ⟨_, rfl⟩
    obtain ⟨W, hW⟩ : ∃ W, W = w1.alloc (.cells #[.slice a1 na c1] 33) := ⟨_, rfl⟩
    have hBW : Below w.heap.size w W := hW ▸ hB1.alloc hB1.size _
    have hWs : W.heap.size = pb + 1 := by rw [hW]; simp; omega
    have hc : W.cell? ⟨pb, 0, none⟩ = some (.slice a1 na c1) := by rw [hW, ← hpb, World.cell?_alloc_new]; rfl
    have hv := hown1.slb
    have hv2 : SlB W (.slice a1 na c1) a := hW ▸ hv.below ((Below.refl _ _).alloc (Nat.le_refl _) _)
    have hlt := hown1.lt
    rw [hpb, ← hW]
    obtain ⟨cap, w3, hconv, hO, hBo3, hcl⟩ := bs_conv s W
    rw [hWs] at hconv hO hBo3
    have hBo4 : Below W.heap.size W w3 := hWs ▸ hBo3
    have hc3 := keep_cell hc hBo4
    have hv3 := hv2.below hBo4
    have hB3 := hBW.trans (hBo4.mono hBW.size)
    have hsz1 := hB1.size
    have hvb : (Value.slice a1 na c1).ownBlock ≠ some (pb + 1) := fun e => by have := (hlt _ e).2; omega
    have hdel := Lib.hid (del_any w3 (pb + 1) cap pb s a _ hO hcl hs hc3 hv3 (by omega) hvb)
    clear hBo3 hBo4 hv hv2 hlt hc hc3 hv3 hvb hO hW hWs
    rw [hconv]
    simp only [Result.andThen]
    rw [Oper.upon_value]
    clear hconv
    go_wp2_with fail
    refine hdel.out.mono ?_
    rintro e w4 ⟨rfl, hR, hg4⟩
    have hcv := hR.conv (cap := cap)
    have hB4 : Below w.heap.size w w4 := hB3.grown hg4 hB3.size (fun k hk => by cases hk; omega)
    go_wp2_with fail
    go_ret2
    refine ⟨?_, hB4⟩
    rw [hres.out]
    rfl
theorem inset_contains (a : List UInt8) (x : UInt8) : inSet a x = a.contains x := (Lib.contains_iff_indexByte a x).symm
theorem take_has {a : List UInt8} {x d : UInt8} {k : Nat} (_ : a[k]? = some d) (h : (a.take k).contains x = true) : (a.take (k + 1)).contains x = true := by
  rw [List.take_add_one]; simp at h ⊢; exact .inl h
theorem take_new {a : List UInt8} {x : UInt8} {k : Nat} (hd : a[k]? = some x) : (a.take (k + 1)).contains x = true := by
  rw [List.take_add_one, hd]; simp
theorem take_not {a : List UInt8} {x d : UInt8} {k : Nat} (hd : a[k]? = some d) (h : (a.take k).contains x = false) (hne : d ≠ x) : (a.take (k + 1)).contains x = false := by
  rw [List.take_add_one, hd]; simp at h ⊢; exact ⟨h, fun e => hne e.symm⟩
set_option maxRecDepth 100000 in
set_option maxHeartbeats 3200000 in
theorem rdrop_any (s f : List UInt8) (hf : f.length ≤ 500) (hs : s.length ≤ 500) (w : World) : Calls Tryd.prog 18 #[.string ⟨s.toArray⟩, .string ⟨f.toArray⟩] w fun e w' => TxtRes w w' e (dropL s f) := by
  go_enter Tryd.func18, Tryd.ntmps18
  go_wp2_with fail
  refine (rset_any f hf w).mono ?_
  rintro e w1 hr1
  cases ha : setL f with
  | none =>
    rw [ha] at hr1
    obtain ⟨rfl, hB1⟩ := hr1
    have hres := Lib.hid (show dropL s f = none by simp [dropL, ha])
    clear ha
    go_wp2_with fail
    go_ret2
    rw [hres.out]
    exact ⟨rfl, hB1⟩
  | some a =>
    rw [ha] at hr1
    obtain ⟨v1, rfl, hown1, hl1, hB1⟩ := hr1
    have hsz1 := hB1.size
    have hres := Lib.hid (show dropL s f = some (s.filter fun x => !a.contains x) by simp only [dropL, ha, Option.map_some, inset_contains])
    clear ha
    obtain ⟨a1, c1, hv1⟩ := hown1.len
    obtain ⟨na, hna⟩ : ∃ na, a.length = na := ⟨_, rfl⟩
    rw [hna] at hv1 hl1
    subst hv1
    have HA := Lib.hid hna
    clear hna
    obtain ⟨sl, hsl⟩ : ∃ sl, s.length = sl := ⟨_, rfl⟩
    have HSL := Lib.hid hsl
    have hsl5 : sl ≤ 500 := by omega
    go_wp2_with fail
    go_loopw [8, 9] (fun v i W => ∃ (j : Nat) (O : List UInt8), j ≤ sl ∧ i = .int .i64 j ∧ OwnB W w1.heap.size v O ∧ Below w1.heap.size w1 W ∧ Hid (O = (s.take j).filter fun x => !a.contains x)) (fun _ i _ => sl - (intOf i).toNat)
    case atStart => exact ⟨0, [], by omega, rfl, OwnB.nil _ _, Below.refl _ _, Lib.hid (by simp)⟩
    case round =>
      obtain ⟨j, O, hj, rfl, hO, hBW, HO⟩ := hrel
      by_cases hjl : j < sl
      · have hA := hown1.below hBW
        obtain ⟨x, _, hg, hx⟩ := str_at s j (by omega)
        have hxn := x.toNat_lt
        have HO' := Lib.hid (show ((s.take (j + 1)).filter fun x => !a.contains x) = O ++ (if a.contains x then [] else [x]) by
          rw [HO.out, List.take_add_one, hx, List.filter_append]; cases h : a.contains x <;> simp_all)
        have hOl : O.length ≤ 500 := by rw [HO.out]; exact Nat.le_trans (List.length_filter_le _ _) (by simp; omega)
        have hj0 : (0 : Int) ≤ j := by omega
        have hji : (j : Int) < sl := by omega
        clear hx
        go_wp2_with fail
        obtain ⟨wo, hwo⟩ : ∃ wo : World, wo = wr := ⟨_, rfl⟩
        subst hwo
        go_loopw [10, 11] (fun c i W => ∃ k : Nat, k ≤ na ∧ i = .int .i64 k ∧ c = .bool ((a.take k).contains x) ∧ Below wo.heap.size wo W) (fun _ i _ => na - (intOf i).toNat)
        case atStart => exact ⟨0, by omega, rfl, by simp, Below.refl _ _⟩
        case round =>
          obtain ⟨k, hk, rfl, rfl, hBk⟩ := hrel
          by_cases hkl : k < na
          · have hA := hA.below hBk
            have hae : a ≠ [] := fun e => by have := HA.out; rw [e] at this; simp at this; omega
            obtain ⟨ga, ca, hva, _, _, hcA, _⟩ := hA.at hae
            rw [HA.out] at hva
            cases hva
            obtain ⟨d, hd⟩ : ∃ d, a[k]? = some d := ⟨a[k]'(by rw [HA.out]; exact hkl), List.getElem?_eq_getElem _⟩
            have hd' := hcA k d hd
            have hk0 : (0 : Int) ≤ k := by omega
            have hki : (k : Int) < na := by omega
            cases hct : (a.take k).contains x with
            | true =>
              have HT := Lib.hid (take_has hd hct)
              clear hcA hd hA hct
              go_wp2_with fail
              go_quiet (fail)
              go_wp2_with fail
              go_round
              case rel => exact ⟨k + 1, by omega, by go_num, by rw [HT.out], below_drewN hBk _⟩
              case measure => simp [intOf]; omega
            | false =>
              by_cases hdx : d = x
              · subst hdx
                have HT := Lib.hid (take_new hd)
                have heq : ((d.toNat : Int) == (d.toNat : Int)) = true := by simp
                clear hcA hd hA hct
                go_wp2_with fail
                go_quiet (fail)
                go_wp2_with fail
                go_round
                case rel => exact ⟨k + 1, by omega, by go_num, by rw [HT.out], below_drewN hBk _⟩
                case measure => simp [intOf]; omega
              · have HT := Lib.hid (take_not hd hct hdx)
                have hnt : ¬ d.toNat = x.toNat := fun e => hdx (UInt8.toNat_inj.1 e)
                have hne : ((d.toNat : Int) == (x.toNat : Int)) = false := by rw [beq_eq_false_iff_ne]; omega
                clear hcA hd hA hct hdx
                go_wp2_with fail
                go_quiet (fail)
                go_wp2_with fail
                go_round
                case rel => exact ⟨k + 1, by omega, by go_num, by rw [HT.out], below_drewN hBk _⟩
                case measure => simp [intOf]; omega
          · obtain rfl : k = na := by omega
            have htk : a.take k = a := by rw [← HA.out]; exact List.take_length
            rw [htk]
            have hO' := hO.below hBk
            have hBW' := hBW.trans (hBk.mono hBW.size)
            have hsz' := hBW'.size
            clear hA htk
            cases hct : a.contains x with
            | true =>
              rw [hct, if_pos rfl, List.append_nil] at HO'
              clear hct
              go_wp2_with fail
              go_round
              case rel => exact ⟨j + 1, _, by omega, by go_num, hO', hBW', Lib.hid HO'.out.symm⟩
              case measure => simp [intOf]; omega
            | false =>
              rw [hct, if_neg (by simp)] at HO'
              clear hct
              go_wp2_with (at_builtin; refine append_lit rfl _ _ rfl w1.heap.size _ _ rfl hO' [x] _ rfl 1 rfl rfl (by first | omega | (simp; omega)) hsz' ?_; intro v1 wz hown1 hg1'; have hB1 := below_own hBW' hO' hg1' hsz')
              go_round
              case rel => exact ⟨j + 1, _, by omega, by go_num, hown1, hB1, Lib.hid HO'.out.symm⟩
              case measure => simp [intOf]; omega
      · obtain rfl : j = sl := by omega
        have hcv := hO.conv
        have HRe := Lib.hid (show O = s.filter fun x => !a.contains x by rw [HO.out, ← hsl, List.take_length])
        have hB4 := hB1.trans (hBW.mono hsz1)
        go_wp2_with fail
        go_ret2
        refine ⟨?_, hB4⟩
        rw [hres.out, HRe.out]
        rfl
end Go.Proofs.YtmhgehnkhhlbkaaDoor
