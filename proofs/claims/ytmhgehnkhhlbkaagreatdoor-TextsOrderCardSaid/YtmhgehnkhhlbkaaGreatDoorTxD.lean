/- Texts: other bytes in the place of some (the library's side). -/
import Derived.Test.YtmhgehnkhhlbkaaGreatDoorTxB
import Derived.Outline
import Derived.Laws.IdiomStrings
import Derived.Lib.ConvBytes
namespace Go.Proofs.YtmhgehnkhhlbkaaGreatDoor
open Go.RowKit

/-- bytes that lie in a block of a call's own, and may be written -/
structure Bs (w : World) (b : Nat) (l : List UInt8) : Prop where
  lt : b < w.heap.size
  cell : ∀ (j : Nat) (c : UInt8), l[j]? = some c → w.cell? ⟨b, j, none⟩ = some (.int .u8 c.toNat)
  free : ∀ j, j < l.length → w.frozen? ⟨b, j, none⟩ = false
theorem Bs.drew {w : World} {b l} (h : Bs w b l) : Bs w.drew b l := ⟨h.lt, h.cell, h.free⟩
theorem Bs.below {w w' : World} {b l} (h : Bs w b l) (hb : Below w.heap.size w w') : Bs w' b l :=
  ⟨Nat.lt_of_lt_of_le h.lt hb.size, fun j c hj => keep_cell (h.cell j c hj) hb, fun j hj => (hb.frozen (p := ⟨b, j, none⟩) h.lt).trans (h.free j hj)⟩
theorem Bs.set {w : World} {b l} (h : Bs w b l) (j : Nat) (c : UInt8) : Bs (w.setCell ⟨b, j, none⟩ (.int .u8 c.toNat)) b (l.set j c) := by
  refine ⟨by simpa [World.setCell] using h.lt, fun i d hi => ?_, fun i hi => by rw [fz_set]; exact h.free i (by simpa using hi)⟩
  rw [List.getElem?_set] at hi
  split at hi
  · rename_i e; subst e
    split at hi
    · rename_i hl; cases hi
      exact cs_same (h.cell j _ (List.getElem?_eq_getElem hl))
    · cases hi
  · rename_i hne
    rw [cs_other (by intro e; cases e; exact hne rfl)]
    exact h.cell i d hi
theorem Bs.other {w : World} {b l} (h : Bs w b l) {b' j : Nat} (hne : b' ≠ b) (v : Value) : Bs (w.setCell ⟨b', j, none⟩ v) b l :=
  ⟨by simpa [World.setCell] using h.lt, fun i d hi => by rw [cs_block (show (⟨b', j, none⟩ : Addr).block ≠ b from hne)]; exact h.cell i d hi, fun i hi => by rw [fz_set]; exact h.free i hi⟩
theorem below_set {w0 w : World} {n b j : Nat} (h : Below n w0 w) (hb : n ≤ b) (v : Value) : Below n w0 (w.setCell ⟨b, j, none⟩ v) := h.setCell (p := ⟨b, j, none⟩) hb v
theorem bs_conv (l : List UInt8) (w : World) : ∃ cap w', (convert 9 46 (.string ⟨l.toArray⟩)).run Tryz.prog w = .ok (.slice (some ⟨w.heap.size, 0, none⟩) l.length cap) w' ∧ Bs w' w.heap.size l ∧ Below w.heap.size w w' ∧ l.length ≤ cap := by
  have hr := Lib.run_convert_string_bytes (P := Tryz.prog) w 9 46 5 ⟨l.toArray⟩ (show Tryz.prog.underlying 9 = some .string by kernel_rfl) (by kernel_rfl) (by kernel_rfl)
  rw [str_size] at hr
  have hn := Lib.bytesWorld_at_new w 5 ⟨l.toArray⟩
  refine ⟨_, _, hr, ⟨?_, ?_, ?_⟩, ?_, grownCap_ge _ _ _ _⟩
  · rw [Lib.bytesWorld_size]; omega
  · intro j c hj
    have hjl := (List.getElem?_eq_some_iff.1 hj).1
    rw [Lib.bytesWorld_cell _ _ _ _ (by rw [str_size]; exact hjl)]
    simp [List.getD, hj]
  · intro j hj
    have hc : (Lib.bytesCells w 5 ⟨l.toArray⟩).size ≥ l.length := by simp [Lib.bytesCells]
    simp only [World.frozen?, hn]
    simp; omega
  · exact ⟨rfl, rfl, rfl, by rw [Lib.bytesWorld_size]; omega, fun k hk => Lib.bytesWorld_at_old _ _ _ _ hk⟩
theorem bs_zero (w : World) : Bs (w.alloc (.cells Tryz.zeroCells58 58)) w.heap.size (List.replicate 256 0) := by
  have hz : Tryz.zeroCells58.toList = List.replicate 256 (Value.int .u8 0) := by kernel_rfl
  refine ⟨by simp, fun j c hj => ?_, fun j hj => ?_⟩
  · rw [World.cell?_alloc_new]
    show Tryz.zeroCells58[j]? = _
    rw [← Array.getElem?_toList, hz]
    rw [List.getElem?_replicate] at hj ⊢
    split at hj
    · rename_i h; cases hj; rw [if_pos h]; rfl
    · cases hj
  · have hn : (w.alloc (.cells Tryz.zeroCells58 58)).heap[w.heap.size]? = some (.cells Tryz.zeroCells58 58) := by
      show (w.heap.push _)[w.heap.size]? = _
      simp
    simp only [World.frozen?, hn]
    simp
theorem Bs.conv {w : World} {b cap : Nat} {l : List UInt8} (h : Bs w b l) : (convert 46 9 (.slice (some ⟨b, 0, none⟩) l.length cap)).run Tryz.prog w = .ok (.string ⟨l.toArray⟩) w := by
  refine run_convert_bytes_back w 46 9 5 ⟨b, 0, none⟩ cap l (by kernel_rfl) (by kernel_rfl) (by kernel_rfl) ?_
  intro j hj
  have e : (⟨b, 0, none⟩ : Addr).add j = ⟨b, j, none⟩ := by unfold Addr.add; split <;> simp_all
  rw [e]; exact h.cell j _ (List.getElem?_eq_getElem hj)
/-- what a byte is turned to by the first k bytes of a set -/
def trAt (a b : List UInt8) (x : UInt8) : Nat → UInt8
  | 0 => x
  | k + 1 => if a.getD k 0 = x then b.getD (min k (b.length - 1)) 0 else trAt a b x k
def trL (s f t : List UInt8) : Option (List UInt8) :=
  match setL f, setL t with
  | some a, some b => if b = [] ∧ a ≠ [] then none else some (s.map fun x => trAt a b x a.length)
  | _, _ => none
/-- a text, or that an argument may not be -/
def txtRet (o : Option (List UInt8)) : Ending := .returned (.tuple #[.string ⟨(o.getD []).toArray⟩, .int .i64 (if o.isSome then 0 else 1)])
def TxtRes (w w' : World) (e : Ending) (o : Option (List UInt8)) : Prop := e = txtRet o ∧ Below w.heap.size w w'
theorem tr_step {a b T : List UInt8} {k : Nat} {x y : UInt8} (h : ∀ j, j < 256 → T[j]? = some (trAt a b (UInt8.ofNat j) k)) (hl : T.length = 256) (hx : a[k]? = some x) (hy : b[min k (b.length - 1)]? = some y) :
    ∀ j, j < 256 → (T.set x.toNat y)[j]? = some (trAt a b (UInt8.ofNat j) (k + 1)) := by
  intro j hj
  have hxk : a.getD k 0 = x := by simp [List.getD, hx]
  have hyk : b.getD (min k (b.length - 1)) 0 = y := by unfold List.getD; rw [hy]; rfl
  rw [trAt, hxk, hyk, List.getElem?_set]
  by_cases e : x.toNat = j
  · rw [if_pos e, if_pos (by omega), if_pos (by rw [← e]; simp)]
  · rw [if_neg e, if_neg (fun h' => e (by rw [h', UInt8.toNat_ofNat']; omega))]
    exact h j hj
theorem set_step (f : UInt8 → UInt8) {s : List UInt8} {j : Nat} {x : UInt8} (h : s[j]? = some x) : ((s.take j).map f ++ s.drop j).set j (f x) = (s.take (j + 1)).map f ++ s.drop (j + 1) := by
  obtain ⟨hl, hx⟩ := List.getElem?_eq_some_iff.1 h
  have e : ((s.take j).map f).length = j := by simp; omega
  have hd := drop_cons h
  rw [List.set_append_right _ _ (by omega), e, Nat.sub_self, hd, List.set_cons_zero, List.take_add_one, h]
  simp
set_option maxRecDepth 100000 in
set_option maxHeartbeats 3200000 in
theorem tr_any (s f t : List UInt8) (hf : f.length ≤ 500) (ht : t.length ≤ 500) (hs : s.length ≤ 500) (w : World) : Calls Tryz.prog 18 #[.string ⟨s.toArray⟩, .string ⟨f.toArray⟩, .string ⟨t.toArray⟩] w fun e w' => TxtRes w w' e (trL s f t) := by
  go_enter Tryz.func18, Tryz.ntmps18
  go_wp2_with fail
  refine (set_any f hf w).mono ?_
  rintro e w1 hr1
  cases ha : setL f with
  | none =>
    rw [ha] at hr1
    obtain ⟨rfl, hB1⟩ := hr1
    have hres := Lib.hid (show trL s f t = none by simp [trL, ha])
    clear ha
    go_wp2_with fail
    refine (set_any t ht _).mono ?_
    rintro e w2 hr2
    cases hb : setL t with
    | none =>
      rw [hb] at hr2
      obtain ⟨rfl, hB2⟩ := hr2
      clear hb
      go_wp2_with fail
      go_ret2
      rw [hres.out]
      exact ⟨rfl, hB1.trans (hB2.mono hB1.size)⟩
    | some b =>
      rw [hb] at hr2
      obtain ⟨v2, rfl, hown2, hl2, hB2⟩ := hr2
      clear hb
      go_wp2_with fail
      go_ret2
      rw [hres.out]
      exact ⟨rfl, hB1.trans (hB2.mono hB1.size)⟩
  | some a =>
    rw [ha] at hr1
    obtain ⟨v1, rfl, hown1, hl1, hB1⟩ := hr1
    go_wp2_with fail
    refine (set_any t ht _).mono ?_
    rintro e w2 hr2
    cases hb : setL t with
    | none =>
      rw [hb] at hr2
      obtain ⟨rfl, hB2⟩ := hr2
      have hres := Lib.hid (show trL s f t = none by simp [trL, ha, hb])
      clear ha hb
      go_wp2_with fail
      go_ret2
      rw [hres.out]
      exact ⟨rfl, hB1.trans (hB2.mono hB1.size)⟩
    | some b =>
      rw [hb] at hr2
      obtain ⟨v2, rfl, hown2, hl2, hB2⟩ := hr2
      have hown1 := hown1.below hB2
      have hBB := hB1.trans (hB2.mono hB1.size)
      have hsz1 := hB1.size
      have hsz2 := hBB.size
      obtain ⟨a1, c1, hv1⟩ := hown1.len
      obtain ⟨a2, c2, hv2⟩ := hown2.len
      obtain ⟨na, hna⟩ : ∃ na, a.length = na := ⟨_, rfl⟩
      obtain ⟨nb, hnb⟩ : ∃ nb, b.length = nb := ⟨_, rfl⟩
      rw [hna] at hv1 hl1
      rw [hnb] at hv2 hl2
      subst hv1 hv2
      have HA := Lib.hid hna
      have HB := Lib.hid hnb
      by_cases hbad : nb = 0 ∧ 0 < na
      · have hres := Lib.hid (show trL s f t = none by
          simp only [trL, ha, hb]; rw [if_pos ⟨List.eq_nil_of_length_eq_zero (hnb.trans hbad.1), fun e => by rw [e] at hna; simp at hna; omega⟩])
        clear ha hb hna hnb
        obtain ⟨rfl, hpos⟩ := hbad
        go_wp2_with fail
        go_ret2
        rw [hres.out]
        exact ⟨rfl, hBB⟩
      · have hok : 0 < na → 0 < nb := fun h => by omega
        have hres := Lib.hid (show trL s f t = some (s.map fun x => trAt a b x na) by
          simp only [trL, ha, hb]; rw [if_neg (fun e => hbad ⟨by rw [← hnb, e.1]; rfl, by rw [← hna]; exact List.length_pos_iff.2 e.2⟩), hna])
        clear ha hb hna hnb
        have hcase : nb ≤ 0 ∧ na ≤ 0 ∨ 0 < nb := by omega
        clear hbad
        have hz := bs_zero w2
        have hzb : Below w2.heap.size w2 (w2.alloc (.cells Tryz.zeroCells58 58)) := (Below.refl _ _).alloc (Nat.le_refl _) _
        rcases hcase with ⟨hz1, hz2⟩ | hnb0
        all_goals go_wp2_with fail
        all_goals
          go_loopw [45] (fun i W => ∃ (k : Nat) (T : List UInt8), k ≤ 256 ∧ i = .int .i64 k ∧ T.length = 256 ∧ Bs W w2.heap.size T ∧ Below w2.heap.size w2 W ∧ ∀ j, j < k → T[j]? = some (UInt8.ofNat j)) (fun i _ => 256 - (intOf i).toNat)
          case atStart => exact ⟨0, _, by omega, rfl, by simp, hz, hzb, fun j hj => by omega⟩
          case round =>
            obtain ⟨k, T, hk, rfl, hTl, hT, hTB, hTk⟩ := hrel
            by_cases hkl : k < 256
            · obtain ⟨c, hc⟩ : ∃ c, T[k]? = some c := ⟨T[k], by simp [hTl, hkl]⟩
              have hcell := hT.cell k c hc
              have hfree := hT.free k (by omega)
              have hT' := hT.set k (UInt8.ofNat k)
              rw [show (UInt8.ofNat k).toNat = k by rw [UInt8.toNat_ofNat']; omega] at hT'
              have HT := Lib.hid (show ∀ j, j < k + 1 → (T.set k (UInt8.ofNat k))[j]? = some (UInt8.ofNat j) from fun j hj => by
                rw [List.getElem?_set]
                split
                · rename_i e; subst e; rw [if_pos (by omega)]
                · exact hTk j (by omega))
              have HTl := Lib.hid hTl
              clear hTk hc hTl
              go_wp2_with fail
              go_round
              case rel => exact ⟨k + 1, _, by omega, by go_num, by rw [List.length_set]; exact HTl.out, hT', below_set hTB (Nat.le_refl _) _, HT.out⟩
              case measure => simp [intOf]; omega
            · obtain rfl : k = 256 := by omega
              have hW := hTB.size
              have HTk := Lib.hid hTk
              have HTl := Lib.hid hTl
              clear hTk hTl hz hzb hk
              have hA := hown1.below hTB
              have hBo := hown2.below hTB
              have hB3 := hBB.trans (hTB.mono hsz2)
              go_wp2_with fail
              go_loopw [55] (fun i W => ∃ (k : Nat) (T : List UInt8), k ≤ na ∧ i = .int .i64 k ∧ Hid (T.length = 256) ∧ Bs W w2.heap.size T ∧ Below w2.heap.size w2 W ∧ Hid (∀ j, j < 256 → T[j]? = some (trAt a b (UInt8.ofNat j) k))) (fun i _ => na - (intOf i).toNat)
              case atStart => exact ⟨0, T, by omega, rfl, HTl, hT, hTB, Lib.hid (fun j hj => by rw [HTk.out j hj]; rfl)⟩
              case round =>
                clear hT hTB HTk HTl hA hBo hB3 hW
                obtain ⟨k, T, hk, rfl, HTl, hT, hTB, HTk⟩ := hrel
                have hW := hTB.size
                have hA := hown1.below hTB
                have hBo := hown2.below hTB
                have hB3 := hBB.trans (hTB.mono hsz2)
                by_cases hkl : k < na
                · have hnb1 := hok (by omega)
                  try (exfalso; omega)
                  all_goals
                    have hae : a ≠ [] := fun e => by have := HA.out; rw [e] at this; simp at this; omega
                    have hbe : b ≠ [] := fun e => by have := HB.out; rw [e] at this; simp at this; omega
                    obtain ⟨ga, ca, hva, _, _, hcA, _⟩ := hA.at hae
                    obtain ⟨gb, cb, hvb, _, _, hcB, _⟩ := hBo.at hbe
                    rw [HA.out] at hva
                    rw [HB.out] at hvb
                    cases hva
                    cases hvb
                    obtain ⟨x, hx⟩ : ∃ x, a[k]? = some x := ⟨a[k]'(by rw [HA.out]; exact hkl), List.getElem?_eq_getElem _⟩
                    obtain ⟨m, hm⟩ : ∃ m, min k (nb - 1) = m := ⟨_, rfl⟩
                    have hmb : m < nb := by omega
                    obtain ⟨y, hy⟩ : ∃ y, b[m]? = some y := ⟨b[m]'(by rw [HB.out]; exact hmb), List.getElem?_eq_getElem _⟩
                    have hx' := hcA k x hx
                    have hy' := hcB m y hy
                    have hxn := x.toNat_lt
                    obtain ⟨z, hz⟩ : ∃ z, T[x.toNat]? = some z := ⟨T[x.toNat]'(by rw [HTl.out]; exact hxn), List.getElem?_eq_getElem _⟩
                    have hcell := hT.cell _ z hz
                    have hfree := hT.free x.toNat (by rw [HTl.out]; exact hxn)
                    have hT' := hT.set x.toNat y
                    have HTS := Lib.hid (tr_step HTk.out (by rw [HTl.out]) hx (by rw [HB.out, hm]; exact hy))
                    clear hcA hcB hx hy hz hA hBo
                    obtain ⟨n1, hn1⟩ : ∃ n1, nb - 1 = n1 := ⟨_, rfl⟩
                    have hq : (nb : Int) - 1 = (n1 : Int) := by omega
                    rw [hn1] at hm
                    by_cases hkm : k ≤ n1
                    · obtain rfl : k = m := by omega
                      have hmin : (k : Int) ≤ (n1 : Int) := by omega
                      have hmin2 : min (k : Int) (n1 : Int) = k := by omega
                      clear hm hn1
                      go_wp2_with fail
                      go_round
                      case rel => exact ⟨k + 1, _, by omega, by go_num, Lib.hid (by rw [List.length_set]; exact HTl.out), hT', below_set hTB (Nat.le_refl _) _, HTS⟩
                      case measure => simp [intOf]; omega
                    · obtain rfl : m = n1 := by omega
                      have hmin : ¬ (k : Int) ≤ (m : Int) := by omega
                      have hmin2 : min (k : Int) (m : Int) = m := by omega
                      clear hm hn1
                      go_wp2_with fail
                      go_round
                      case rel => exact ⟨k + 1, _, by omega, by go_num, Lib.hid (by rw [List.length_set]; exact HTl.out), hT', below_set hTB (Nat.le_refl _) _, HTS⟩
                      case measure => simp [intOf]; omega
                · obtain rfl : k = na := by omega
                  clear hk
                  obtain ⟨cap, w3, hconv, hO, hBo3, _⟩ := bs_conv s wr
                  obtain ⟨ob, hob⟩ : ∃ ob, wr.heap.size = ob := ⟨_, rfl⟩
                  rw [hob] at hconv hO hBo3
                  have hne : w2.heap.size ≠ ob := by have := hT.lt; omega
                  have hT3 := hT.below (hob ▸ hBo3)
                  have hT3l := hT3.lt
                  have hob2 : w.heap.size ≤ ob := by omega
                  have hB4 := hB3.trans (hBo3.mono hob2)
                  clear hT hA hBo hTB hB3 hW
                  obtain ⟨sl, hsl⟩ : ∃ sl, s.length = sl := ⟨_, rfl⟩
                  rw [hsl] at hconv
                  have HSL := Lib.hid hsl
                  have hsl5 : sl ≤ 500 := by omega
                  go_wp2_with fail
                  go_loopw [75] (fun i W => ∃ (j : Nat) (R : List UInt8), j ≤ sl ∧ i = .int .i64 j ∧ Bs W ob R ∧ Bs W w2.heap.size T ∧ Below w.heap.size w W ∧ Hid (R = (s.take j).map (fun x => trAt a b x k) ++ s.drop j)) (fun i _ => sl - (intOf i).toNat)
                  case atStart => exact ⟨0, s, by omega, rfl, hO, hT3, hB4, Lib.hid (by simp)⟩
                  case round =>
                    clear hO hT3 hB4 hconv hBo3 hT3l hob
                    obtain ⟨j, R, hj, rfl, hR, hT3, hB4, HR⟩ := hrel
                    by_cases hjl : j < sl
                    · obtain ⟨x, hx⟩ : ∃ x, s[j]? = some x := ⟨s[j]'(by rw [HSL.out]; exact hjl), List.getElem?_eq_getElem _⟩
                      have hRx : R[j]? = some x := by
                        rw [HR.out, List.getElem?_append_right (by simp; omega)]
                        simp [HSL.out, Nat.min_eq_left (Nat.le_of_lt hjl), hx]
                      have hxn := x.toNat_lt
                      have HTx := HTk.out x.toNat hxn
                      rw [UInt8.ofNat_toNat] at HTx
                      have hc1 := hR.cell j x hRx
                      have hc2 := hT3.cell _ _ HTx
                      have hfree := hR.free j (List.getElem?_eq_some_iff.1 hRx).1
                      have hR' := hR.set j (trAt a b x k)
                      have hT4 := hT3.other (b' := ob) (j := j) (fun e => hne e.symm) (.int .u8 (trAt a b x k).toNat)
                      have HR' := Lib.hid (show R.set j (trAt a b x k) = (s.take (j + 1)).map (fun x => trAt a b x k) ++ s.drop (j + 1) by
                        rw [HR.out]; exact set_step _ hx)
                      clear hx hRx HTx
                      generalize trAt a b x k = y at *
                      clear hsl
                      go_wp2_with fail
                      go_round
                      case rel => exact ⟨j + 1, _, by omega, by go_num, hR', hT4, below_set hB4 hob2 _, HR'⟩
                      case measure => simp [intOf]; omega
                    · obtain rfl : j = sl := by omega
                      have hcv := hR.conv (cap := cap)
                      rw [show R.length = j by rw [HR.out]; simp [HSL.out]] at hcv
                      have HRe := Lib.hid (show R = s.map (fun x => trAt a b x k) by rw [HR.out, ← hsl]; simp)
                      clear hsl
                      go_wp2_with fail
                      go_ret2
                      refine ⟨?_, hB4⟩
                      rw [hres.out, HRe.out]
                      rfl
end Go.Proofs.YtmhgehnkhhlbkaaGreatDoor
