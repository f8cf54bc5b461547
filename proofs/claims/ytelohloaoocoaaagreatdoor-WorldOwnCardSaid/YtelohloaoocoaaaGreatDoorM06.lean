/- Texts of one proof, packed: WwL, WwM, WwN, WwO, WwP, WwQ, WwR, WwS, WxA, WxB, WxC, WxD -/
import Derived.Test.YtelohloaoocoaaaGreatDoorM05
import Derived.Test.YtelohloaoocoaaaGreatDoorM04
set_option linter.unusedVariables false
set_option linter.unusedSimpArgs false
set_option linter.deprecated false
set_option linter.unnecessarySimpa false
/- world.Step. -/
namespace Go.Proofs.YtelohloaoocoaaaGreatDoor
open Go.RowKit IntWalk
set_option linter.unusedVariables false
set_option linter.unusedSimpArgs false
set_option linter.unnecessarySimpa false

set_option maxHeartbeats 4000000 in
set_option maxRecDepth 100000 in
theorem step_woken {s l x lw} (pick : Int) (j : Nat) (r0 : Int) (i ck cf : Int) (cd : List UInt8) (n m : Int) (P2 : Ks → Prop) (P3 : Wx → Wx → Prop) (w : World) (h : Al s l x lw w)
    (hlen : s.t.m.es.length ≤ 1000000) (hrl : s.t.ready.length ≤ 1000) (hin : ∀ a ∈ s.t.ready, a ∈ x.m.keys) (hp : PickAt pick s.t.ready.length j r0) (hj : s.t.ready[j]? = some i) (hst : (x.qs i).st = true) (hqc : (x.qs i).ck = ck ∧ (x.qs i).cf = cf ∧ (x.qs i).cd = cd)
    (hD : ∀ W, KsIs s l W → Calls Tryz.prog 25 #[ptrOf (l.k .K), .int .i64 i, .agg (clV ck cf cd)] W fun e w' => e = .returned (.agg (rpV 0 n m)) ∧ ∃ s' l', P2 s' ∧ KStep s l W s' l' w')
    (hA : ∀ s' l' lw' W, P2 s' → Al s' l' (x.setQ i (((x.qs i).stood false).told 0 n m)) lw' W → Calls Tryz.prog 26 #[ptrOf (lw' .W), .agg (dnV i ck cf cd 0 n m)] W fun e w' => e = .returned (.tuple #[]) ∧ ∃ x5 lw5, P3 (x.setQ i (((x.qs i).stood false).told 0 n m)) x5 ∧ AStep s' l' (x.setQ i (((x.qs i).stood false).told 0 n m)) lw' W s' l' x5 lw5 w') :
    Calls Tryz.prog 11 #[ptrOf (lw .W), .int .i64 pick] w fun e w' => e = .returned (.tuple #[.agg (dnV i ck cf cd 0 n m), .bool true]) ∧
      ∃ s' l' x5 lw5, P2 s' ∧ P3 (x.setQ i (((x.qs i).stood false).told 0 n m)) x5 ∧ AStep s l x lw w s' l' x5 lw5 w' := by
  have hik : i ∈ x.m.keys := hin i (List.mem_of_getElem? hj)
  have H := Lib.hid h
  have HQC := Lib.hid hqc
  have HD := Lib.hid hD
  have HA := Lib.hid hA
  have HIN := Lib.hid hin
  have HJ := Lib.hid hj
  have HST := Lib.hid hst
  have HPK := Lib.hid hp
  have hWl : lw .W < w.heap.size := h.wx.lies.owns_lt ⟨.W, by simp [Wx.obj], rfl⟩
  clear h hqc hD hA hin hj hst hp
  go_enter Tryz.func11, Tryz.ntmps11
  unfold ptrOf dnV
  go_upto_region 1 with fail
  obtain ⟨w1, hw1, hB, hb, hz⟩ := one_newG w (.cells Z14 39)
  unfold Z14 at hw1
  rw [hw1]
  clear hw1
  have HB := Lib.hid ((AStep.refl H.out).below hB)
  have HBK := Lib.hid hb
  have HRD := Lib.hid (wready_any (x := x) (lw := lw) w1 HB.out.is.ks HB.out.is.wx HB.out.is.kb hlen (by omega) HIN.out)
  have hz1 : w.heap.size < w1.heap.size := by omega
  unfold ptrOf at HRD
  clear hB hb hz
  generalize hL : s.t.ready = L at *
  go_upto_region 6 with (go_at_call 24; refine HRD.out.mono ?_; rintro e w2 ⟨v, rfl, hB2, hO⟩; obtain ⟨ad, cap, hv⟩ := hO.slice; have HO := Lib.hid hO; have HB2 := Lib.hid hB2; clear hO hB2; subst hv; have hLpos : 0 < L.length := Nat.lt_of_le_of_lt (Nat.zero_le _) HPK.out.lt)
  rcases HO.out.at with ⟨_, hn⟩ | ⟨g, cap', hv', hbg, hgl, hcap, hcells⟩
  · rw [hn] at hLpos; simp at hLpos
  cases hv'
  have hci := hcells j i HJ.out
  have hp1 := HPK.out.r
  have hp2 := HPK.out.eq
  have hp3 := HPK.out.lo
  have hp4 := HPK.out.hi
  have hp5 := HPK.out.lt
  have hp6 : (j : Int) < L.length := by omega
  have hL1 : (L.length : Int) ≤ 1000 := by omega
  have A2 := Lib.hid ((AStep.refl HB.out.is).below HB2.out)
  have c1 := wx_w1 A2.out.is.wx.lies
  have c14 := wx_q A2.out.is.wx.lies hik (k := 14) (v := .bool true) (by rw [← HST.out]; rfl)
  have hlook := wx_look_in A2.out.is.wx.lies hik
  have HBK2 := Lib.hid ((HB2.out.block _ hz1).trans HBK.out)
  have hz2 : w.heap.size < w2.heap.size := Nat.lt_of_lt_of_le hz1 HB2.out.size
  clear hcells hrl HO
  go_upto_region 10 with fail
  clear hp1 hp2 hp3 hp4 hp5 hp6 hci c1 c14 hlook
  have hQl : lw (.Q i) < w.heap.size := wx_ql H.out.wx.lies hik
  have HA4 := A2
  clear A2 HBK2 HB2 hz2
  generalize w2 = w4 at *
  have hsix : ∀ (s1 : Ks) (l1 : Ly) (W : World), Al s1 l1 x lw W → l1.k .K = l.k .K → (W : World).cell? ⟨lw .W, 0, none⟩ = some (.pointer (some ⟨l.k .K, 0, none⟩)) ∧ (W : World).cell? ⟨lw (.Q i), 9, none⟩ = some (.int .i64 ck) ∧ (W : World).cell? ⟨lw (.Q i), 10, none⟩ = some (.int .i64 cf) ∧ (W : World).cell? ⟨lw (.Q i), 11, none⟩ = some (.int .i64 0) ∧ (W : World).cell? ⟨lw (.Q i), 12, none⟩ = some (.string ByteArray.empty) ∧ (W : World).cell? ⟨lw (.Q i), 13, none⟩ = some (.string ⟨cd.toArray⟩) := fun s1 l1 W hW hk => by
    have g0 := wx_w0 hW.wx.lies
    rw [hW.kb, hk] at g0
    have g := fun k v hk => wx_q hW.wx.lies (i := i) hik (k := k) (v := v) hk
    exact ⟨g0, g 9 _ (by rw [← HQC.out.1]; rfl), g 10 _ (by rw [← HQC.out.2.1]; rfl), g 11 _ rfl, g 12 _ rfl, g 13 _ (by rw [← HQC.out.2.2]; rfl)⟩
  have h6 : (w4.drew : World).cell? ⟨lw .W, 0, none⟩ = some (.pointer (some ⟨l.k .K, 0, none⟩)) ∧ (w4.drew : World).cell? ⟨lw (.Q i), 9, none⟩ = some (.int .i64 ck) ∧ (w4.drew : World).cell? ⟨lw (.Q i), 10, none⟩ = some (.int .i64 cf) ∧ (w4.drew : World).cell? ⟨lw (.Q i), 11, none⟩ = some (.int .i64 0) ∧ (w4.drew : World).cell? ⟨lw (.Q i), 12, none⟩ = some (.string ByteArray.empty) ∧ (w4.drew : World).cell? ⟨lw (.Q i), 13, none⟩ = some (.string ⟨cd.toArray⟩) := hsix s l w4.drew HA4.out.drew.is rfl
  have HB4 := Lib.hid ((HA4.out.below ((Below.refl _ w4).alloc (Nat.le_refl _) (.cells #[.int .i64 0, .int .i64 0, .int .i64 0, .string ⟨#[]⟩, .slice none 0 0, .int .i64 0, .int .i64 0, .int .i64 0] 37))).drew)
  have h6b : ((w4.alloc (.cells #[.int .i64 0, .int .i64 0, .int .i64 0, .string ⟨#[]⟩, .slice none 0 0, .int .i64 0, .int .i64 0, .int .i64 0] 37)).drew : World).cell? ⟨lw .W, 0, none⟩ = some (.pointer (some ⟨l.k .K, 0, none⟩)) ∧ ((w4.alloc (.cells #[.int .i64 0, .int .i64 0, .int .i64 0, .string ⟨#[]⟩, .slice none 0 0, .int .i64 0, .int .i64 0, .int .i64 0] 37)).drew : World).cell? ⟨lw (.Q i), 9, none⟩ = some (.int .i64 ck) ∧ ((w4.alloc (.cells #[.int .i64 0, .int .i64 0, .int .i64 0, .string ⟨#[]⟩, .slice none 0 0, .int .i64 0, .int .i64 0, .int .i64 0] 37)).drew : World).cell? ⟨lw (.Q i), 10, none⟩ = some (.int .i64 cf) ∧ ((w4.alloc (.cells #[.int .i64 0, .int .i64 0, .int .i64 0, .string ⟨#[]⟩, .slice none 0 0, .int .i64 0, .int .i64 0, .int .i64 0] 37)).drew : World).cell? ⟨lw (.Q i), 11, none⟩ = some (.int .i64 0) ∧ ((w4.alloc (.cells #[.int .i64 0, .int .i64 0, .int .i64 0, .string ⟨#[]⟩, .slice none 0 0, .int .i64 0, .int .i64 0, .int .i64 0] 37)).drew : World).cell? ⟨lw (.Q i), 12, none⟩ = some (.string ByteArray.empty) ∧ ((w4.alloc (.cells #[.int .i64 0, .int .i64 0, .int .i64 0, .string ⟨#[]⟩, .slice none 0 0, .int .i64 0, .int .i64 0, .int .i64 0] 37)).drew : World).cell? ⟨lw (.Q i), 13, none⟩ = some (.string ⟨cd.toArray⟩) := hsix s l _ HB4.out.is rfl
  have hKl : l.k .K < w4.heap.size := HA4.out.is.ks.kl
  have hQl4 : lw (.Q i) < w4.heap.size := by exact wx_ql HA4.out.is.wx.lies (i := i) hik
  have hWl4 : lw .W < w4.heap.size := by exact HA4.out.is.wx.lies.owns_lt ⟨.W, by simp [Wx.obj], rfl⟩
  have HDA := Lib.hid (HD.out w4.drew HA4.out.drew.is.ks)
  have HDB := Lib.hid (HD.out (w4.alloc (.cells #[.int .i64 0, .int .i64 0, .int .i64 0, .string ⟨#[]⟩, .slice none 0 0, .int .i64 0, .int .i64 0, .int .i64 0] 37)).drew HB4.out.is.ks)
  have hdo : ∀ w5 s' l', P2 s' → KStep s l w4.drew s' l' w5 → ((w5 : World).cell? ⟨lw .W, 0, none⟩ = some (.pointer (some ⟨l.k .K, 0, none⟩)) ∧ (w5 : World).cell? ⟨lw (.Q i), 9, none⟩ = some (.int .i64 ck) ∧ (w5 : World).cell? ⟨lw (.Q i), 10, none⟩ = some (.int .i64 cf) ∧ (w5 : World).cell? ⟨lw (.Q i), 11, none⟩ = some (.int .i64 0) ∧ (w5 : World).cell? ⟨lw (.Q i), 12, none⟩ = some (.string ByteArray.empty) ∧ (w5 : World).cell? ⟨lw (.Q i), 13, none⟩ = some (.string ⟨cd.toArray⟩)) ∧ AStep s l x lw w1 s' l' x lw w5 ∧ lw (.Q i) < w5.heap.size ∧ lw .W < w5.heap.size ∧ (∀ o : Obj, (w5.alloc o : World).cell? ⟨lw .W, 0, none⟩ = some (.pointer (some ⟨l.k .K, 0, none⟩)) ∧ (w5.alloc o : World).cell? ⟨lw (.Q i), 9, none⟩ = some (.int .i64 ck) ∧ (w5.alloc o : World).cell? ⟨lw (.Q i), 10, none⟩ = some (.int .i64 cf) ∧ (w5.alloc o : World).cell? ⟨lw (.Q i), 11, none⟩ = some (.int .i64 0) ∧ (w5.alloc o : World).cell? ⟨lw (.Q i), 12, none⟩ = some (.string ByteArray.empty) ∧ (w5.alloc o : World).cell? ⟨lw (.Q i), 13, none⟩ = some (.string ⟨cd.toArray⟩)) := fun w5 s' l' hP hK => by
    have A5 := HA4.out.drew.trans (AStep.ke HA4.out.drew.is hK)
    exact ⟨hsix s' l' w5 A5.is A5.topK, A5, by exact wx_ql A5.is.wx.lies (i := i) hik, by exact A5.is.wx.lies.owns_lt ⟨.W, by simp [Wx.obj], rfl⟩, fun o => hsix s' l' _ (A5.below ((Below.refl _ w5).alloc (Nat.le_refl _) o)).is A5.topK⟩
  have hdob : ∀ w5 s' l', P2 s' → KStep s l (w4.alloc (.cells #[.int .i64 0, .int .i64 0, .int .i64 0, .string ⟨#[]⟩, .slice none 0 0, .int .i64 0, .int .i64 0, .int .i64 0] 37)).drew s' l' w5 → ((w5 : World).cell? ⟨lw .W, 0, none⟩ = some (.pointer (some ⟨l.k .K, 0, none⟩)) ∧ (w5 : World).cell? ⟨lw (.Q i), 9, none⟩ = some (.int .i64 ck) ∧ (w5 : World).cell? ⟨lw (.Q i), 10, none⟩ = some (.int .i64 cf) ∧ (w5 : World).cell? ⟨lw (.Q i), 11, none⟩ = some (.int .i64 0) ∧ (w5 : World).cell? ⟨lw (.Q i), 12, none⟩ = some (.string ByteArray.empty) ∧ (w5 : World).cell? ⟨lw (.Q i), 13, none⟩ = some (.string ⟨cd.toArray⟩)) ∧ AStep s l x lw w1 s' l' x lw w5 ∧ w5.heap[w4.heap.size]? = some (.cells #[.int .i64 0, .int .i64 0, .int .i64 0, .string ⟨#[]⟩, .slice none 0 0, .int .i64 0, .int .i64 0, .int .i64 0] 37 (0, 0)) ∧ ¬ Owns (Sum.elim (s'.obj l') (x.obj lw)) (Sum.elim l'.all lw) w4.heap.size ∧ ((((((((((w5.setCell ⟨w4.heap.size, 0, none⟩ (.int .i64 0)).setCell ⟨w4.heap.size, 1, none⟩ (.int .i64 n)).setCell ⟨w4.heap.size, 2, none⟩ (.int .i64 m)).setCell ⟨w4.heap.size, 3, none⟩ (.string ByteArray.empty)).setCell ⟨w4.heap.size, 4, none⟩ (.slice none 0 0)).setCell ⟨w4.heap.size, 5, none⟩ (.int .i64 0)).setCell ⟨w4.heap.size, 6, none⟩ (.int .i64 0)).setCell ⟨w4.heap.size, 7, none⟩ (.int .i64 0)) : World).cell? ⟨lw .W, 0, none⟩ = some (.pointer (some ⟨l.k .K, 0, none⟩)) ∧ (((((((((w5.setCell ⟨w4.heap.size, 0, none⟩ (.int .i64 0)).setCell ⟨w4.heap.size, 1, none⟩ (.int .i64 n)).setCell ⟨w4.heap.size, 2, none⟩ (.int .i64 m)).setCell ⟨w4.heap.size, 3, none⟩ (.string ByteArray.empty)).setCell ⟨w4.heap.size, 4, none⟩ (.slice none 0 0)).setCell ⟨w4.heap.size, 5, none⟩ (.int .i64 0)).setCell ⟨w4.heap.size, 6, none⟩ (.int .i64 0)).setCell ⟨w4.heap.size, 7, none⟩ (.int .i64 0)) : World).cell? ⟨lw (.Q i), 9, none⟩ = some (.int .i64 ck) ∧ (((((((((w5.setCell ⟨w4.heap.size, 0, none⟩ (.int .i64 0)).setCell ⟨w4.heap.size, 1, none⟩ (.int .i64 n)).setCell ⟨w4.heap.size, 2, none⟩ (.int .i64 m)).setCell ⟨w4.heap.size, 3, none⟩ (.string ByteArray.empty)).setCell ⟨w4.heap.size, 4, none⟩ (.slice none 0 0)).setCell ⟨w4.heap.size, 5, none⟩ (.int .i64 0)).setCell ⟨w4.heap.size, 6, none⟩ (.int .i64 0)).setCell ⟨w4.heap.size, 7, none⟩ (.int .i64 0)) : World).cell? ⟨lw (.Q i), 10, none⟩ = some (.int .i64 cf) ∧ (((((((((w5.setCell ⟨w4.heap.size, 0, none⟩ (.int .i64 0)).setCell ⟨w4.heap.size, 1, none⟩ (.int .i64 n)).setCell ⟨w4.heap.size, 2, none⟩ (.int .i64 m)).setCell ⟨w4.heap.size, 3, none⟩ (.string ByteArray.empty)).setCell ⟨w4.heap.size, 4, none⟩ (.slice none 0 0)).setCell ⟨w4.heap.size, 5, none⟩ (.int .i64 0)).setCell ⟨w4.heap.size, 6, none⟩ (.int .i64 0)).setCell ⟨w4.heap.size, 7, none⟩ (.int .i64 0)) : World).cell? ⟨lw (.Q i), 11, none⟩ = some (.int .i64 0) ∧ (((((((((w5.setCell ⟨w4.heap.size, 0, none⟩ (.int .i64 0)).setCell ⟨w4.heap.size, 1, none⟩ (.int .i64 n)).setCell ⟨w4.heap.size, 2, none⟩ (.int .i64 m)).setCell ⟨w4.heap.size, 3, none⟩ (.string ByteArray.empty)).setCell ⟨w4.heap.size, 4, none⟩ (.slice none 0 0)).setCell ⟨w4.heap.size, 5, none⟩ (.int .i64 0)).setCell ⟨w4.heap.size, 6, none⟩ (.int .i64 0)).setCell ⟨w4.heap.size, 7, none⟩ (.int .i64 0)) : World).cell? ⟨lw (.Q i), 12, none⟩ = some (.string ByteArray.empty) ∧ (((((((((w5.setCell ⟨w4.heap.size, 0, none⟩ (.int .i64 0)).setCell ⟨w4.heap.size, 1, none⟩ (.int .i64 n)).setCell ⟨w4.heap.size, 2, none⟩ (.int .i64 m)).setCell ⟨w4.heap.size, 3, none⟩ (.string ByteArray.empty)).setCell ⟨w4.heap.size, 4, none⟩ (.slice none 0 0)).setCell ⟨w4.heap.size, 5, none⟩ (.int .i64 0)).setCell ⟨w4.heap.size, 6, none⟩ (.int .i64 0)).setCell ⟨w4.heap.size, 7, none⟩ (.int .i64 0)) : World).cell? ⟨lw (.Q i), 13, none⟩ = some (.string ⟨cd.toArray⟩)) ∧ AStep s l x lw w1 s' l' x lw ((((((((w5.setCell ⟨w4.heap.size, 0, none⟩ (.int .i64 0)).setCell ⟨w4.heap.size, 1, none⟩ (.int .i64 n)).setCell ⟨w4.heap.size, 2, none⟩ (.int .i64 m)).setCell ⟨w4.heap.size, 3, none⟩ (.string ByteArray.empty)).setCell ⟨w4.heap.size, 4, none⟩ (.slice none 0 0)).setCell ⟨w4.heap.size, 5, none⟩ (.int .i64 0)).setCell ⟨w4.heap.size, 6, none⟩ (.int .i64 0)).setCell ⟨w4.heap.size, 7, none⟩ (.int .i64 0)) ∧ ((((((((w5.setCell ⟨w4.heap.size, 0, none⟩ (.int .i64 0)).setCell ⟨w4.heap.size, 1, none⟩ (.int .i64 n)).setCell ⟨w4.heap.size, 2, none⟩ (.int .i64 m)).setCell ⟨w4.heap.size, 3, none⟩ (.string ByteArray.empty)).setCell ⟨w4.heap.size, 4, none⟩ (.slice none 0 0)).setCell ⟨w4.heap.size, 5, none⟩ (.int .i64 0)).setCell ⟨w4.heap.size, 6, none⟩ (.int .i64 0)).setCell ⟨w4.heap.size, 7, none⟩ (.int .i64 0)).heap[w4.heap.size]? = some (.cells #[(.int .i64 0), (.int .i64 n), (.int .i64 m), (.string ByteArray.empty), (.slice none 0 0), (.int .i64 0), (.int .i64 0), (.int .i64 0)] 37 (0, 0)) := fun w5 s' l' hP hK => by
    have A5' := AStep.ke HB4.out.is hK
    have A5 := HB4.out.trans A5'
    have hf := HA4.out.is.fresh (Nat.le_refl w4.heap.size)
    have hb9 := A5'.g.heap (show ((w4.alloc (.cells #[.int .i64 0, .int .i64 0, .int .i64 0, .string ⟨#[]⟩, .slice none 0 0, .int .i64 0, .int .i64 0, .int .i64 0] 37)).drew).heap[w4.heap.size]? = _ from Array.getElem?_push_size) hf
    have hn9 := A5'.g.fresh hf (by simp)
    obtain ⟨w6, hw6, hA6, hc6⟩ := eight_set hb9 (.int .i64 0) (.int .i64 n) (.int .i64 m) (.string ByteArray.empty) (.slice none 0 0) (.int .i64 0) (.int .i64 0) (.int .i64 0)
    have h16 : w1.heap.size ≤ w4.heap.size := HA4.out.g.turned.size
    have A6 := A5.aside hA6 h16 hn9
    rw [hw6]
    exact ⟨hsix s' l' w5 A5.is A5.topK, A5, hb9, hn9, hsix s' l' w6 A6.is A6.topK, A6, hc6⟩
  have HDO := Lib.hid hdo
  have HDOB := Lib.hid hdob
  unfold ptrOf rpV clV at HDA HDB
  clear hsix hdo hdob
  have H6 := Lib.hid h6
  have H6B := Lib.hid h6b
  clear h6 h6b hbg hgl hcap hL1 hLpos hL
  go_region_held3 (fun W => W.cell? ⟨lw .W, 0, none⟩ = some (.pointer (some ⟨l.k .K, 0, none⟩)) ∧ W.cell? ⟨lw (.Q i), 9, none⟩ = some (.int .i64 ck) ∧ W.cell? ⟨lw (.Q i), 10, none⟩ = some (.int .i64 cf) ∧ W.cell? ⟨lw (.Q i), 11, none⟩ = some (.int .i64 0) ∧ W.cell? ⟨lw (.Q i), 12, none⟩ = some (.string ByteArray.empty) ∧ W.cell? ⟨lw (.Q i), 13, none⟩ = some (.string ⟨cd.toArray⟩)) (first | with_reducible exact H6.out | with_reducible exact H6B.out | with_reducible exact HG6.out | with_reducible exact H6C.out _ | with_reducible exact H6D.out | go_keep | ((try dsimp only); (repeat' apply And.intro) <;> first | go_keep | assumption)) (first
    | (go_at_call 25; ((with_reducible refine HDA.out.mono ?_)); rintro e w5 ⟨rfl, s', l', hP2, hK⟩; obtain ⟨g6, hA5, hQl5, hWl5, g6c⟩ := HDO.out w5 s' l' hP2 hK; have HG6 := Lib.hid g6; clear g6; have HA5 := Lib.hid hA5; have HP2 := Lib.hid hP2; have H6C := Lib.hid g6c; clear hP2 hK hA5 g6c)
    | (go_at_call 25; ((with_reducible refine HDB.out.mono ?_)); rintro e w5 ⟨rfl, s', l', hP2, hK⟩; obtain ⟨g6, hA5, hb9, hn9, g6d, hA6, hc6⟩ := HDOB.out w5 s' l' hP2 hK; have HG6 := Lib.hid g6; clear g6; have HA5 := Lib.hid hA5; have HP2 := Lib.hid hP2; have HN9 := Lib.hid hn9; have HB9 := Lib.hid hb9; obtain ⟨t0, t1, t2, t3, t4, t5, t6, t7, tf⟩ := cells8 hb9; have H6D := Lib.hid g6d; have HA6 := Lib.hid hA6; have HC6 := Lib.hid hc6; clear hP2 hK hA5 hn9 hb9 g6d hA6 hc6))
  all_goals
    first
      | (have hA6 := HA5.out.below ((Below.refl _ w5).alloc (Nat.le_refl _) (.cells #[.int .i64 0, .int .i64 n, .int .i64 m, .string ByteArray.empty, .slice none 0 0, .int .i64 0, .int .i64 0, .int .i64 0] 37))
         have hC6 : (w5.alloc (.cells #[.int .i64 0, .int .i64 n, .int .i64 m, .string ByteArray.empty, .slice none 0 0, .int .i64 0, .int .i64 0, .int .i64 0] 37)).heap[w5.heap.size]? = some (.cells #[.int .i64 0, .int .i64 n, .int .i64 m, .string ByteArray.empty, .slice none 0 0, .int .i64 0, .int .i64 0, .int .i64 0] 37 (0, 0)) := Array.getElem?_push_size
         have hN6 := HA5.out.is.fresh (Nat.le_refl w5.heap.size)
         have h16 : w1.heap.size ≤ w5.heap.size := HA5.out.g.turned.size
         clear H6C HG6 hQl5 hWl5
         generalize w5.alloc (.cells #[.int .i64 0, .int .i64 n, .int .i64 m, .string ByteArray.empty, .slice none 0 0, .int .i64 0, .int .i64 0, .int .i64 0] 37) = w6 at *
         generalize w5.heap.size = b9 at *)
      | (have hA6 := HA6.out
         have hC6 := HC6.out
         have hN6 := HN9.out
         have h16 : w1.heap.size ≤ w4.heap.size := HA4.out.g.turned.size
         clear H6D HG6 HA6 HC6 HN9 HB9 t0 t1 t2 t3 t4 t5 t6 t7 tf
         generalize ((((((((w5.setCell ⟨w4.heap.size, 0, none⟩ (.int .i64 0)).setCell ⟨w4.heap.size, 1, none⟩ (.int .i64 n)).setCell ⟨w4.heap.size, 2, none⟩ (.int .i64 m)).setCell ⟨w4.heap.size, 3, none⟩ (.string ByteArray.empty)).setCell ⟨w4.heap.size, 4, none⟩ (.slice none 0 0)).setCell ⟨w4.heap.size, 5, none⟩ (.int .i64 0)).setCell ⟨w4.heap.size, 6, none⟩ (.int .i64 0)).setCell ⟨w4.heap.size, 7, none⟩ (.int .i64 0)) = w6 at *
         generalize w4.heap.size = b9 at *)
    have q14 := wx_q hA6.is.wx.lies (i := i) hik (k := 14) (v := .bool true) (by rw [← HST.out]; rfl)
    have qff := wx_qf hA6.is.wx.lies (i := i) hik
    have G7 := wx_setSt (GStep.refl hA6.is.wx.lies) (i := i) hik false
    have hne9 : b9 ≠ lw (.Q i) := fun e => hN6 (e ▸ (owns_sum.2 (.inr ⟨.Q i, by rw [Wx.obj_q hik]; simp, rfl⟩)))
    have hb9lt : b9 < w6.heap.size := by
      rcases Nat.lt_or_ge b9 w6.heap.size with h | h
      · exact h
      · rw [Array.getElem?_eq_none h] at hC6; cases hC6
    have A67 := AStep.wo hA6.is G7 (hA6.xok.stood i false) rfl rfl
    have hC7 := A67.g.heap hC6 hN6
    have hN7 := A67.g.fresh hN6 hb9lt
    have A7 := hA6.trans A67
    obtain ⟨r0', r1', r2', r3', r4', r5', r6', r7', rf'⟩ := cells8 hC6
    have HN6 := Lib.hid hN6
    have HA7 := Lib.hid A7
    have HC7 := Lib.hid hC7
    have HN7 := Lib.hid hN7
    have h67 : (w6.setCell ⟨lw (.Q i), 14, none⟩ (.bool false)).heap.size = w6.heap.size := by simp
    clear hN6 hC6 hA6 G7 A67 hN7 A7
    go_upto_region 13 with fail
    clear r0' r1' r2' r3' r4' r5' r6' r7' rf'
    obtain ⟨r0', r1', r2', r3', r4', r5', r6', r7', rf'⟩ := cells8 hC7
    clear hC7 q14
    obtain ⟨u1, u2, u3, u4, u5, u6, u7, u8, e1, e2, e3, e4, e5, e6, e7, e8⟩ : ∃ u1 u2 u3 u4 u5 u6 u7 u8, (w6.setCell ⟨lw (.Q i), 14, none⟩ (.bool false) : World).cell? ⟨lw (.Q i), 1, none⟩ = some u1 ∧ (w6.setCell ⟨lw (.Q i), 14, none⟩ (.bool false) : World).cell? ⟨lw (.Q i), 2, none⟩ = some u2 ∧ (w6.setCell ⟨lw (.Q i), 14, none⟩ (.bool false) : World).cell? ⟨lw (.Q i), 3, none⟩ = some u3 ∧ (w6.setCell ⟨lw (.Q i), 14, none⟩ (.bool false) : World).cell? ⟨lw (.Q i), 4, none⟩ = some u4 ∧ (w6.setCell ⟨lw (.Q i), 14, none⟩ (.bool false) : World).cell? ⟨lw (.Q i), 5, none⟩ = some u5 ∧ (w6.setCell ⟨lw (.Q i), 14, none⟩ (.bool false) : World).cell? ⟨lw (.Q i), 6, none⟩ = some u6 ∧ (w6.setCell ⟨lw (.Q i), 14, none⟩ (.bool false) : World).cell? ⟨lw (.Q i), 7, none⟩ = some u7 ∧ (w6.setCell ⟨lw (.Q i), 14, none⟩ (.bool false) : World).cell? ⟨lw (.Q i), 8, none⟩ = some u8 := ⟨_, _, _, _, _, _, _, _, wx_q HA7.out.is.wx.lies (i := i) hik (k := 1) rfl, wx_q HA7.out.is.wx.lies (i := i) hik (k := 2) rfl, wx_q HA7.out.is.wx.lies (i := i) hik (k := 3) rfl, wx_q HA7.out.is.wx.lies (i := i) hik (k := 4) rfl, wx_q HA7.out.is.wx.lies (i := i) hik (k := 5) rfl, wx_q HA7.out.is.wx.lies (i := i) hik (k := 6) rfl, wx_q HA7.out.is.wx.lies (i := i) hik (k := 7) rfl, wx_q HA7.out.is.wx.lies (i := i) hik (k := 8) rfl⟩
    have qf7 := wx_qf HA7.out.is.wx.lies (i := i) hik
    generalize w6.setCell ⟨lw (.Q i), 14, none⟩ (.bool false) = w7 at *
    clear qff
    try clear HN6
    try clear HC6
    try clear h67
    go_upto_region 14 with fail
    clear r0' r1' r2' r3' r4' r5' r6' r7' rf' e1 e2 e3 e4 e5 e6 e7 e8
    have G8 := wx_setReply (GStep.refl HA7.out.is.wx.lies) (i := i) hik 0 n m
    rw [setQ_setQ, setQ_qs] at G8
    have A78 := AStep.wo HA7.out.is G8 (by have := HA7.out.xok.told i 0 n m; rw [setQ_setQ, setQ_qs] at this; exact this) rfl rfl
    have hb97 : b9 < w7.heap.size := by
      have hC7 := HC7.out
      rcases Nat.lt_or_ge b9 w7.heap.size with h | h
      · exact h
      · rw [Array.getElem?_eq_none h] at hC7; cases hC7
    have HA8 := Lib.hid (HA7.out.trans A78)
    have HC8 := Lib.hid (A78.g.heap HC7.out HN7.out)
    have HN8 := Lib.hid (A78.g.fresh HN7.out hb97)
    clear A78 G8 qf7
    generalize ((((((((w7.setCell ⟨lw (.Q i), 1, none⟩ (.int .i64 0)).setCell ⟨lw (.Q i), 2, none⟩ (.int .i64 n)).setCell ⟨lw (.Q i), 3, none⟩ (.int .i64 m)).setCell ⟨lw (.Q i), 4, none⟩ (.string ByteArray.empty)).setCell ⟨lw (.Q i), 5, none⟩ (.slice none 0 0)).setCell ⟨lw (.Q i), 6, none⟩ (.int .i64 0)).setCell ⟨lw (.Q i), 7, none⟩ (.int .i64 0)).setCell ⟨lw (.Q i), 8, none⟩ (.int .i64 0)) = w8 at *
    have hb98 : b9 < w8.heap.size := by
      have hC8 := HC8.out
      rcases Nat.lt_or_ge b9 w8.heap.size with h | h
      · exact h
      · rw [Array.getElem?_eq_none h] at hC8; cases hC8
    have hQ8 : lw (.Q i) < w8.heap.size := by exact wx_ql HA8.out.is.wx.lies (i := i) hik
    have h18 : w1.heap.size ≤ w8.heap.size := HA8.out.g.turned.size
    have h13 : ∀ (W : World), Al s' l' (x.setQ i (((x.qs i).stood false).told 0 n m)) lw W → W.heap[b9]? = some (.cells #[.int .i64 0, .int .i64 n, .int .i64 m, .string ByteArray.empty, .slice none 0 0, .int .i64 0, .int .i64 0, .int .i64 0] 37 (0, 0)) → (W : World).cell? ⟨lw (.Q i), 9, none⟩ = some (.int .i64 ck) ∧ (W : World).cell? ⟨lw (.Q i), 10, none⟩ = some (.int .i64 cf) ∧ (W : World).cell? ⟨lw (.Q i), 11, none⟩ = some (.int .i64 0) ∧ (W : World).cell? ⟨lw (.Q i), 12, none⟩ = some (.string ByteArray.empty) ∧ (W : World).cell? ⟨lw (.Q i), 13, none⟩ = some (.string ⟨cd.toArray⟩) ∧ (W : World).cell? ⟨b9, 0, none⟩ = some (.int .i64 0) ∧ (W : World).cell? ⟨b9, 1, none⟩ = some (.int .i64 n) ∧ (W : World).cell? ⟨b9, 2, none⟩ = some (.int .i64 m) ∧ (W : World).cell? ⟨b9, 3, none⟩ = some (.string ByteArray.empty) ∧ (W : World).cell? ⟨b9, 4, none⟩ = some (.slice none 0 0) ∧ (W : World).cell? ⟨b9, 5, none⟩ = some (.int .i64 0) ∧ (W : World).cell? ⟨b9, 6, none⟩ = some (.int .i64 0) ∧ (W : World).cell? ⟨b9, 7, none⟩ = some (.int .i64 0) := fun W hW hb => by
      have g := fun k v hk => wx_q hW.wx.lies (i := i) hik (k := k) (v := v) hk
      rw [setQ_qs] at g
      obtain ⟨r0', r1', r2', r3', r4', r5', r6', r7', _⟩ := cells8 hb
      exact ⟨g 9 _ (by rw [← HQC.out.1]; rfl), g 10 _ (by rw [← HQC.out.2.1]; rfl), g 11 _ rfl, g 12 _ rfl, g 13 _ (by rw [← HQC.out.2.2]; rfl), r0', r1', r2', r3', r4', r5', r6', r7'⟩
    have HG13 := Lib.hid (h13 w8.drew HA8.out.drew.is HC8.out)
    have HO13 := Lib.hid (fun o : Obj => h13 (w8.alloc o) (HA8.out.below ((Below.refl _ w8).alloc (Nat.le_refl _) o)).is ((Below.heap_alloc _ _ _ hb98).trans HC8.out))
    have HD13 := Lib.hid (fun o : Obj => h13 (w8.alloc o).drew (HA8.out.below ((Below.refl _ w8).alloc (Nat.le_refl _) o)).drew.is ((Below.heap_alloc _ _ _ hb98).trans HC8.out))
    have HZ := Lib.hid ((HA8.out.below ((Below.refl _ w8).alloc (Nat.le_refl _) (.cells #[.int .i64 0, .int .i64 0, .int .i64 0, .int .i64 0, .string ⟨#[]⟩, .string ⟨#[]⟩, .int .i64 0, .int .i64 0, .int .i64 0, .string ⟨#[]⟩, .slice none 0 0, .int .i64 0, .int .i64 0, .int .i64 0] 39))).drew)
    have hn10 := HA8.out.is.fresh (Nat.le_refl w8.heap.size)
    obtain ⟨w9, hw9, hA9, hc9⟩ := fourteen_set (show ((w8.alloc (.cells #[.int .i64 0, .int .i64 0, .int .i64 0, .int .i64 0, .string ⟨#[]⟩, .string ⟨#[]⟩, .int .i64 0, .int .i64 0, .int .i64 0, .string ⟨#[]⟩, .slice none 0 0, .int .i64 0, .int .i64 0, .int .i64 0] 39)).drew).heap[w8.heap.size]? = _ from Array.getElem?_push_size) (.int .i64 i) (.int .i64 ck) (.int .i64 cf) (.int .i64 0) (.string ByteArray.empty) (.string ⟨cd.toArray⟩) (.int .i64 0) (.int .i64 n) (.int .i64 m) (.string ByteArray.empty) (.slice none 0 0) (.int .i64 0) (.int .i64 0) (.int .i64 0)
    have A9 := HZ.out.aside hA9 h18 hn10
    have HS13 := Lib.hid (h13 w9 A9.is ((hA9.block _ (by omega)).trans ((Below.heap_alloc _ _ _ hb98).trans HC8.out)))
    rw [← hw9] at HS13
    have HW9 := Lib.hid hw9
    have HA9 := Lib.hid A9
    have HC9 := Lib.hid hc9
    have HN10 := Lib.hid hn10
    clear h13 HA7 HC7 HN7 hb97 hw9 hA9 A9 hc9 hn10
    go_region_held3 (fun W => W.cell? ⟨lw (.Q i), 9, none⟩ = some (.int .i64 ck) ∧ W.cell? ⟨lw (.Q i), 10, none⟩ = some (.int .i64 cf) ∧ W.cell? ⟨lw (.Q i), 11, none⟩ = some (.int .i64 0) ∧ W.cell? ⟨lw (.Q i), 12, none⟩ = some (.string ByteArray.empty) ∧ W.cell? ⟨lw (.Q i), 13, none⟩ = some (.string ⟨cd.toArray⟩) ∧ W.cell? ⟨b9, 0, none⟩ = some (.int .i64 0) ∧ W.cell? ⟨b9, 1, none⟩ = some (.int .i64 n) ∧ W.cell? ⟨b9, 2, none⟩ = some (.int .i64 m) ∧ W.cell? ⟨b9, 3, none⟩ = some (.string ByteArray.empty) ∧ W.cell? ⟨b9, 4, none⟩ = some (.slice none 0 0) ∧ W.cell? ⟨b9, 5, none⟩ = some (.int .i64 0) ∧ W.cell? ⟨b9, 6, none⟩ = some (.int .i64 0) ∧ W.cell? ⟨b9, 7, none⟩ = some (.int .i64 0)) (first | with_reducible exact HG13.out | with_reducible exact HO13.out _ | with_reducible exact HD13.out _ | with_reducible exact HS13.out | go_keep | ((try dsimp only); (repeat' apply And.intro) <;> first | go_keep | assumption | exact (cs_block (by dsimp only; omega)).trans (by assumption))) (fail)
    clear HS13 HW9 HA9 HC9 HD13 HZ HG13
    have hA9 := HA8.out.below ((Below.refl _ w8).alloc (Nat.le_refl _) (.cells #[.int .i64 i, .int .i64 ck, .int .i64 cf, .int .i64 0, .string ByteArray.empty, .string ⟨cd.toArray⟩, .int .i64 0, .int .i64 n, .int .i64 m, .string ByteArray.empty, .slice none 0 0, .int .i64 0, .int .i64 0, .int .i64 0] 39))
    have hC9 : (w8.alloc (.cells #[.int .i64 i, .int .i64 ck, .int .i64 cf, .int .i64 0, .string ByteArray.empty, .string ⟨cd.toArray⟩, .int .i64 0, .int .i64 n, .int .i64 m, .string ByteArray.empty, .slice none 0 0, .int .i64 0, .int .i64 0, .int .i64 0] 39)).heap[w8.heap.size]? = some (.cells #[.int .i64 i, .int .i64 ck, .int .i64 cf, .int .i64 0, .string ByteArray.empty, .string ⟨cd.toArray⟩, .int .i64 0, .int .i64 n, .int .i64 m, .string ByteArray.empty, .slice none 0 0, .int .i64 0, .int .i64 0, .int .i64 0] 39 (0, 0)) := Array.getElem?_push_size
    have hb0 := (HO13.out (.cells #[.int .i64 i, .int .i64 ck, .int .i64 cf, .int .i64 0, .string ByteArray.empty, .string ⟨cd.toArray⟩, .int .i64 0, .int .i64 n, .int .i64 m, .string ByteArray.empty, .slice none 0 0, .int .i64 0, .int .i64 0, .int .i64 0] 39)).2.2.2.2.2.1
    have hW8 : w8.heap.size < (w8.alloc (.cells #[.int .i64 i, .int .i64 ck, .int .i64 cf, .int .i64 0, .string ByteArray.empty, .string ⟨cd.toArray⟩, .int .i64 0, .int .i64 n, .int .i64 m, .string ByteArray.empty, .slice none 0 0, .int .i64 0, .int .i64 0, .int .i64 0] 39)).heap.size := by simp
    clear HO13
    generalize w8.alloc (.cells #[.int .i64 i, .int .i64 ck, .int .i64 cf, .int .i64 0, .string ByteArray.empty, .string ⟨cd.toArray⟩, .int .i64 0, .int .i64 n, .int .i64 m, .string ByteArray.empty, .slice none 0 0, .int .i64 0, .int .i64 0, .int .i64 0] 39) = w9 at *
    obtain ⟨r0', r1', r2', r3', r4', r5', r6', r7', r8', r9', r10', r11', r12', r13', rf'⟩ := cells14 hC9
    have HA9 := Lib.hid hA9
    have HC9 := Lib.hid hC9
    have HAF := Lib.hid (fun W hW => (show _ from HA.out s' l' lw W HP2.out hW))
    unfold ptrOf dnV at HAF
    clear hA9 hC9
    go_upto_region 17 with (go_at_call 26; ((with_reducible refine (HAF.out _ HA9.out.drew.is).mono ?_)); rintro e w10 ⟨rfl, x5, lw5, hP3, hA10⟩; have HA10 := Lib.hid hA10; have HP3 := Lib.hid hP3; clear hP3 hA10)
    have hC10 := HA10.out.g.heap HC9.out HN10.out
    have AT := HA9.out.drew.trans HA10.out
    have hnz := H.out.fresh (Nat.le_refl w.heap.size)
    have hZ10 := AT.g.heap HBK.out hnz
    have hnz5 := AT.g.fresh hnz hz1
    unfold Z14 at hZ10
    clear r0' r1' r2' r3' r4' r5' r6' r7' r8' r9' r10' r11' r12' r13' rf' hb0
    obtain ⟨s0', s1', s2', s3', s4', s5', s6', s7', s8', s9', s10', s11', s12', s13', sf'⟩ := cells14 hC10
    obtain ⟨z0', z1', z2', z3', z4', z5', z6', z7', z8', z9', z10', z11', z12', z13', zf'⟩ := cells14 hZ10
    have HAT := Lib.hid (HB.out.trans AT)
    have hge : w.heap.size ≤ w.heap.size := Nat.le_refl _
    obtain ⟨w11, hw11, hA11, hc11⟩ := fourteen_set hZ10 (.int .i64 i) (.int .i64 ck) (.int .i64 cf) (.int .i64 0) (.string ByteArray.empty) (.string ⟨cd.toArray⟩) (.int .i64 0) (.int .i64 n) (.int .i64 m) (.string ByteArray.empty) (.slice none 0 0) (.int .i64 0) (.int .i64 0) (.int .i64 0)
    have A11 := Lib.hid (HAT.out.aside hA11 hge hnz5)
    have HC11 := Lib.hid hc11
    have HW11 := Lib.hid hw11
    clear hC10 AT hnz hZ10 hnz5 hw11 hA11 hc11
    go_upto_region 18 with fail
    rw [HW11.out]
    obtain ⟨v0', v1', v2', v3', v4', v5', v6', v7', v8', v9', v10', v11', v12', v13', vf'⟩ := cells14 HC11.out
    refine bodyPost_ret (v := .tuple #[.agg #[.int .i64 i, .int .i64 ck, .int .i64 cf, .int .i64 0, .string ByteArray.empty, .string ⟨cd.toArray⟩, .int .i64 0, .int .i64 n, .int .i64 m, .string ByteArray.empty, .slice none 0 0, .int .i64 0, .int .i64 0, .int .i64 0], .bool true]) ?_ rfl ⟨rfl, s', l', x5, lw5, HP2.out, HP3.out, A11.out⟩
    simp [results, Tryz.results11, go_sem, v0', v1', v2', v3', v4', v5', v6', v7', v8', v9', v10', v11', v12', v13']
    try rfl
end Go.Proofs.YtelohloaoocoaaaGreatDoor
/- world.Step where none is ready. -/
namespace Go.Proofs.YtelohloaoocoaaaGreatDoor
open Go.RowKit IntWalk
set_option linter.unusedVariables false
set_option linter.unusedSimpArgs false
set_option linter.unnecessarySimpa false

set_option maxHeartbeats 4000000 in
set_option maxRecDepth 100000 in
theorem step_none {s l x lw} (pick : Int) (w : World) (h : Al s l x lw w) (hlen : s.t.m.es.length ≤ 1000000) (hr : s.t.ready = []) :
    Calls Tryz.prog 11 #[ptrOf (lw .W), .int .i64 pick] w fun e w' => e = .returned (.tuple #[.agg Z14, .bool false]) ∧ AStep s l x lw w s l x lw w' := by
  have H := Lib.hid h
  have hWl : lw .W < w.heap.size := h.wx.lies.owns_lt ⟨.W, by simp [Wx.obj], rfl⟩
  clear h
  go_enter Tryz.func11, Tryz.ntmps11
  unfold ptrOf Z14
  go_upto_region 1 with fail
  obtain ⟨w1, hw1, hB, hb, hz⟩ := one_newG w (.cells Z14 39)
  unfold Z14 at hw1
  rw [hw1]
  clear hw1
  have HB := Lib.hid ((AStep.refl H.out).below hB)
  have HBK := Lib.hid hb
  have HRD := Lib.hid (wready_any (x := x) (lw := lw) w1 HB.out.is.ks HB.out.is.wx HB.out.is.kb hlen (by rw [hr]; simp) (by rw [hr]; simp))
  have hz1 : w.heap.size < w1.heap.size := by omega
  rw [hr] at HRD
  unfold ptrOf at HRD
  clear hB hb hz hr
  go_upto_region 5 with (go_at_call 24; refine HRD.out.mono ?_; rintro e w2 ⟨v, rfl, hB2, hO⟩; obtain ⟨ad, cap, hv⟩ := hO.slice; have HB2 := Lib.hid hB2; clear hO hB2; subst hv)
  have AT := HB.out.below HB2.out
  have hnz := H.out.fresh (Nat.le_refl w.heap.size)
  have hZ10 := (HB2.out.block _ hz1).trans HBK.out
  unfold Z14 at hZ10
  obtain ⟨z0', z1', z2', z3', z4', z5', z6', z7', z8', z9', z10', z11', z12', z13', zf'⟩ := cells14 hZ10
  have hge : w.heap.size ≤ w.heap.size := Nat.le_refl _
  obtain ⟨w11, hw11, hA11, hc11⟩ := fourteen_set hZ10 (.int .i64 0) (.int .i64 0) (.int .i64 0) (.int .i64 0) (.string ⟨#[]⟩) (.string ⟨#[]⟩) (.int .i64 0) (.int .i64 0) (.int .i64 0) (.string ⟨#[]⟩) (.slice none 0 0) (.int .i64 0) (.int .i64 0) (.int .i64 0)
  have A11 := Lib.hid (AT.aside hA11 hge hnz)
  have HC11 := Lib.hid hc11
  have HW11 := Lib.hid hw11
  clear AT hnz hZ10 hw11 hA11 hc11
  go_upto_region 18 with fail
  rw [HW11.out]
  obtain ⟨v0', v1', v2', v3', v4', v5', v6', v7', v8', v9', v10', v11', v12', v13', vf'⟩ := cells14 HC11.out
  refine bodyPost_ret (v := .tuple #[.agg #[.int .i64 0, .int .i64 0, .int .i64 0, .int .i64 0, .string ⟨#[]⟩, .string ⟨#[]⟩, .int .i64 0, .int .i64 0, .int .i64 0, .string ⟨#[]⟩, .slice none 0 0, .int .i64 0, .int .i64 0, .int .i64 0], .bool false]) ?_ rfl ⟨rfl, A11.out⟩
  simp [results, Tryz.results11, go_sem, v0', v1', v2', v3', v4', v5', v6', v7', v8', v9', v10', v11', v12', v13']
  try rfl
end Go.Proofs.YtelohloaoocoaaaGreatDoor
/- world.Step by kinds. -/
namespace Go.Proofs.YtelohloaoocoaaaGreatDoor
open Go.RowKit IntWalk
set_option linter.unusedVariables false
set_option linter.unusedSimpArgs false
set_option linter.unnecessarySimpa false

/-- what each step asks -/
structure MayStep (s : Ks) (l : Ly) (x : Wx) (lw : WId → Nat) (w : World) (pick : Int) (j : Nat) (r0 i : Int) : Prop where
  al : Al s l x lw w
  len : s.t.m.es.length ≤ 1000000
  rl : s.t.ready.length ≤ 1000
  rin : ∀ a ∈ s.t.ready, a ∈ x.m.keys
  pk : PickAt pick s.t.ready.length j r0
  at_ : s.t.ready[j]? = some i
theorem MayStep.ik {s l x lw w pick j r0 i} (h : MayStep s l x lw w pick j r0 i) : i ∈ x.m.keys := h.rin i (List.mem_of_getElem? h.at_)

theorem step_fork {s l x lw w pick j r0 i} (q : Int) (l0 : List (Option Nat)) (h : MayStep s l x lw w pick j r0 i) (hst : (x.qs i).st = false) (hre : (x.qs i).re = 0)
    (hc : (x.qs i).fp.child = false) (hs0 : 0 ≤ (x.qs i).fp.step) (hs1 : (x.qs i).fp.step ≤ 1000) (hn8 : x.ol.length ≤ 8) (hm0 : 0 ≤ (x.qs i).fp.sum) (hm1 : (x.qs i).fp.sum ≤ 100000) (hr0 : 0 ≤ (x.qs i).rm) (hr1 : (x.qs i).rm ≤ 100000) (hb : (x.qs i).fp.step + 1 ≤ x.ol.length) (hg : (x.qs i).fp.step + 1 ≤ 1 ∨ (x.qs i).rn ≠ 0)
    (hp : i ∈ s.t.m.keys) (hs : (s.t.pr i).state ≠ 3) (hm : MayFork (s.awoke i false) i q l0) (hq : q ∉ x.m.keys) (ho : (x.qs i).fp.own = none) :
    Calls Tryz.prog 11 #[ptrOf (lw .W), .int .i64 pick] w fun e w' => e = .returned (.tuple #[.agg (dnV i 7 0 [] 0 q 0), .bool true]) ∧
      ∃ z l' lw', AStep s l x lw w ((s.awoke i false).forked i q l0 z) l' ((x.setQ i (((((x.qs i).withFp { (x.qs i).fp with step := (x.qs i).fp.step + 1 }).asks 7 0 []).stood false).told 0 q 0)).forkQ i q) lw' w' := by
  refine (step_new pick j r0 i 7 0 [] q 0 (fun p => p = { (x.qs i).fp with step := (x.qs i).fp.step + 1 }) (fun s' => ∃ z, s' = (s.awoke i false).forked i q l0 z) (fun x4 x5 => x5 = x4.forkQ i q) w h.al h.len h.rl h.rin h.pk h.at_ hst ?_ ?_ ?_).mono ?_
  · intro W hW
    rw [hre]
    refine (next_fork i _ _ W hW.wx h.ik hc hs0 hs1 hn8 hm0 hm1 hr0 hr1 hb hg).mono ?_
    rintro e w' ⟨rfl, hS⟩
    exact ⟨rfl, _, _, rfl, hS, fun _ _ => rfl⟩
  · intro W hW
    refine (do_fork i q l0 W hW hp hs hm).mono ?_
    rintro e w' ⟨rfl, l', hS⟩
    exact ⟨rfl, _, _, ⟨_, rfl⟩, hS⟩
  · rintro s' l' p1 lw' W rfl ⟨z, rfl⟩ hW
    refine (after_fork i q W hW h.ik hq (by rw [setQ_qs]; exact ho)).mono ?_
    rintro e w' ⟨rfl, lw5, hS⟩
    exact ⟨rfl, _, _, rfl, hS⟩
  · rintro e w' ⟨rfl, p1, s', l', x5, lw5, rfl, ⟨z, rfl⟩, rfl, hS⟩
    exact ⟨rfl, z, l', lw5, hS⟩
end Go.Proofs.YtelohloaoocoaaaGreatDoor
/- world.Step by kinds: the others. -/
namespace Go.Proofs.YtelohloaoocoaaaGreatDoor
open Go.RowKit IntWalk
set_option linter.unusedVariables false
set_option linter.unusedSimpArgs false
set_option linter.unnecessarySimpa false

/-- what a process asks next -/
def NextIs (x : Wx) (lw : WId → Nat) (i ck cf : Int) (cd : List UInt8) (P1 : Fp → Prop) : Prop :=
  ∀ W, WxIs x lw W → Calls Tryz.prog 296 #[ptrOf (lw (.F i)), .agg (rpV (x.qs i).re (x.qs i).rn (x.qs i).rm)] W fun e w' => e = .returned (.agg (clV ck cf cd)) ∧ ∃ p1 lw1, P1 p1 ∧ WStep x lw W (x.setQ i ((x.qs i).withFp p1)) lw1 w' ∧ Keeps lw lw1

theorem step_waits {s l x lw w pick j r0 i} (P1 : Fp → Prop) (h : MayStep s l x lw w pick j r0 i) (hst : (x.qs i).st = false) (hN : NextIs x lw i 9 0 [] P1)
    (hm : MayWait (s.awoke i true) i 0) (hs : (s.t.pr i).state ≠ 3) :
    Calls Tryz.prog 11 #[ptrOf (lw .W), .int .i64 pick] w fun e w' => e = .returned (.tuple #[.agg (dnV i 9 0 [] 30 0 0), .bool true]) ∧
      ∃ p1 l' lw', P1 p1 ∧ AStep s l x lw w { s.awoke i true with t := (s.awoke i true).t.turnS i 2 } l' (x.setQ i ((((x.qs i).withFp p1).asks 9 0 []).stood true)) lw' w' := by
  refine (step_wait pick j r0 i 9 0 [] 0 0 P1 (fun s' => s' = { s.awoke i true with t := (s.awoke i true).t.turnS i 2 }) w h.al h.len h.rl h.rin h.pk h.at_ hst (fun W hW => hN W hW.wx) ?_).mono ?_
  · intro W hW
    refine (do_wait_none i W hW hm hs).mono ?_
    rintro e w' ⟨rfl, hS⟩
    exact ⟨rfl, _, _, rfl, hS⟩
  · rintro e w' ⟨rfl, p1, s', l', lw1, hP, rfl, hS⟩
    exact ⟨rfl, p1, l', lw1, hP, hS⟩

theorem step_takes {s l x lw w pick j r0 i} (z : Int) (P1 : Fp → Prop) (h : MayStep s l x lw w pick j r0 i) (hst : (x.qs i).st = false) (hN : NextIs x lw i 9 0 [] P1)
    (hm : MayWait (s.awoke i true) i z) (hz : z ≠ 0) (hs : (s.t.pr i).state ≠ 3) :
    Calls Tryz.prog 11 #[ptrOf (lw .W), .int .i64 pick] w fun e w' => e = .returned (.tuple #[.agg (dnV i 9 0 [] 0 z ((s.awoke i true).t.pr z).status), .bool true]) ∧
      ∃ p1 l' lw', P1 p1 ∧ AStep s l x lw w { s.awoke i true with t := (s.awoke i true).t.delP z } l' (x.setQ i (((((x.qs i).withFp p1).asks 9 0 []).stood false).told 0 z ((s.awoke i true).t.pr z).status)) lw' w' := by
  refine (step_new pick j r0 i 9 0 [] z ((s.awoke i true).t.pr z).status P1 (fun s' => s' = { s.awoke i true with t := (s.awoke i true).t.delP z }) (fun x4 x5 => x5 = x4) w h.al h.len h.rl h.rin h.pk h.at_ hst (fun W hW => hN W hW.wx) ?_ ?_).mono ?_
  · intro W hW
    refine (do_wait_reap i z W hW hm hz hs).mono ?_
    rintro e w' ⟨rfl, hS⟩
    exact ⟨rfl, _, _, rfl, hS⟩
  · rintro s' l' p1 lw' W hP rfl hW
    refine (after_other i 9 0 [] 0 z _ W hW (by decide) (by decide)).mono ?_
    rintro e w' ⟨rfl, hS⟩
    exact ⟨rfl, _, _, rfl, hS⟩
  · rintro e w' ⟨rfl, p1, s', l', x5, lw5, hP, rfl, rfl, hS⟩
    exact ⟨rfl, p1, l', lw5, hP, hS⟩

theorem step_back {s l x lw w pick j r0 i} (z : Int) (h : MayStep s l x lw w pick j r0 i) (hst : (x.qs i).st = true) (hq : (x.qs i).ck = 9 ∧ (x.qs i).cf = 0 ∧ (x.qs i).cd = [])
    (hm : MayWait (s.awoke i true) i z) (hz : z ≠ 0) (hs : (s.t.pr i).state ≠ 3) :
    Calls Tryz.prog 11 #[ptrOf (lw .W), .int .i64 pick] w fun e w' => e = .returned (.tuple #[.agg (dnV i 9 0 [] 0 z ((s.awoke i true).t.pr z).status), .bool true]) ∧
      ∃ l' lw', AStep s l x lw w { s.awoke i true with t := (s.awoke i true).t.delP z } l' (x.setQ i (((x.qs i).stood false).told 0 z ((s.awoke i true).t.pr z).status)) lw' w' := by
  refine (step_woken pick j r0 i 9 0 [] z ((s.awoke i true).t.pr z).status (fun s' => s' = { s.awoke i true with t := (s.awoke i true).t.delP z }) (fun x4 x5 => x5 = x4) w h.al h.len h.rl h.rin h.pk h.at_ hst hq ?_ ?_).mono ?_
  · intro W hW
    refine (do_wait_reap i z W hW hm hz hs).mono ?_
    rintro e w' ⟨rfl, hS⟩
    exact ⟨rfl, _, _, rfl, hS⟩
  · rintro s' l' lw' W rfl hW
    refine (after_other i 9 0 [] 0 z _ W hW (by decide) (by decide)).mono ?_
    rintro e w' ⟨rfl, hS⟩
    exact ⟨rfl, _, _, rfl, hS⟩
  · rintro e w' ⟨rfl, s', l', x5, lw5, rfl, rfl, hS⟩
    exact ⟨rfl, l', lw5, hS⟩

theorem step_last {s l x lw w pick j r0} (st : Int) (b0 b1 b2 : Nat) (P1 : Fp → Prop) (h : MayStep s l x lw w pick j r0 1) (hst : (x.qs 1).st = false) (hN : NextIs x lw 1 8 st [] P1)
    (hm : MayEnd1 (s.awoke 1 false) b0 b1 b2) (hs : (s.t.pr 1).state ≠ 3) (hst0 : 0 ≤ st) (hst1 : st ≤ 255) (hno : ∀ j ∈ ((s.awoke 1 false).ended1 st).k.m.keys, (((s.awoke 1 false).ended1 st).k.pc j).waits = true ∨ ((s.awoke 1 false).ended1 st).t.stateOf j ≠ 2) :
    Calls Tryz.prog 11 #[ptrOf (lw .W), .int .i64 pick] w fun e w' => e = .returned (.tuple #[.agg (dnV 1 8 st [] 0 0 0), .bool true]) ∧
      ∃ p1 l' lw', P1 p1 ∧ AStep s l x lw w ((s.awoke 1 false).ended1 st) l' ((x.setQ 1 (((((x.qs 1).withFp p1).asks 8 st []).stood false).told 0 0 0)).delQ 1) lw' w' := by
  refine (step_new pick j r0 1 8 st [] 0 0 P1 (fun s' => s' = (s.awoke 1 false).ended1 st) (fun x4 x5 => x5 = x4.delQ 1) w h.al h.len h.rl h.rin h.pk h.at_ hst (fun W hW => hN W hW.wx) ?_ ?_).mono ?_
  · intro W hW
    refine (do_exit_one st b0 b1 b2 W hW hm hs hst0 hst1 hno).mono ?_
    rintro e w' ⟨rfl, hS⟩
    exact ⟨rfl, _, _, rfl, hS⟩
  · rintro s' l' p1 lw' W hP rfl hW
    refine (after_exit 1 st W hW).mono ?_
    rintro e w' ⟨rfl, hS⟩
    exact ⟨rfl, _, _, rfl, hS⟩
  · rintro e w' ⟨rfl, p1, s', l', x5, lw5, hP, rfl, rfl, hS⟩
    exact ⟨rfl, p1, l', lw5, hP, hS⟩

theorem step_goes {s l x lw w pick j r0 i} (p st : Int) (l0 : List (Option Nat)) (P1 : Fp → Prop) (h : MayStep s l x lw w pick j r0 i) (hst : (x.qs i).st = false) (hN : NextIs x lw i 8 st [] P1)
    (hm : MayEnd (s.awoke i false) i p l0) (hs : (s.t.pr i).state ≠ 3) (hst0 : 0 ≤ st) (hst1 : st ≤ 255) (hno : ∀ j ∈ ((s.awoke i false).endedK i p st l0).k.m.keys, (((s.awoke i false).endedK i p st l0).k.pc j).waits = true ∨ ((s.awoke i false).endedK i p st l0).t.stateOf j ≠ 2) :
    Calls Tryz.prog 11 #[ptrOf (lw .W), .int .i64 pick] w fun e w' => e = .returned (.tuple #[.agg (dnV i 8 st [] 0 0 0), .bool true]) ∧
      ∃ p1 l' lw', P1 p1 ∧ AStep s l x lw w ((s.awoke i false).endedK i p st l0) l' ((x.setQ i (((((x.qs i).withFp p1).asks 8 st []).stood false).told 0 0 0)).delQ i) lw' w' := by
  refine (step_new pick j r0 i 8 st [] 0 0 P1 (fun s' => s' = (s.awoke i false).endedK i p st l0) (fun x4 x5 => x5 = x4.delQ i) w h.al h.len h.rl h.rin h.pk h.at_ hst (fun W hW => hN W hW.wx) ?_ ?_).mono ?_
  · intro W hW
    refine (do_exit_kid i p st l0 W hW hm hs hst0 hst1 hno).mono ?_
    rintro e w' ⟨rfl, hS⟩
    exact ⟨rfl, _, _, rfl, hS⟩
  · rintro s' l' p1 lw' W hP rfl hW
    refine (after_exit i st W hW).mono ?_
    rintro e w' ⟨rfl, hS⟩
    exact ⟨rfl, _, _, rfl, hS⟩
  · rintro e w' ⟨rfl, p1, s', l', x5, lw5, hP, rfl, rfl, hS⟩
    exact ⟨rfl, p1, l', lw5, hP, hS⟩

theorem step_says {s l x lw w pick j r0 i} (l0 : List (Option Nat)) (d : List UInt8) (P1 : Fp → Prop) (h : MayStep s l x lw w pick j r0 i) (hst : (x.qs i).st = false) (hN : NextIs x lw i 2 1 d P1)
    (hk : i ∈ s.k.m.keys) (ht0 : i ∈ s.t.m.keys) (hs : (s.t.pr i).state ≠ 3) (hi : s.x.zs i = some l0) (hn : l0[1]? = some (some 1)) (hl : s.h.out.length + d.length ≤ 1000000) (hno : ∀ j ∈ s.k.m.keys, ((s.awoke i false).k.pc j).waits = true ∨ (s.awoke i false).t.stateOf j ≠ 2) :
    Calls Tryz.prog 11 #[ptrOf (lw .W), .int .i64 pick] w fun e w' => e = .returned (.tuple #[.agg (dnV i 2 1 d 0 d.length 0), .bool true]) ∧
      ∃ p1 h' l' lw', P1 p1 ∧ h'.out = s.h.out ++ d ∧ h'.gs = s.h.gs ∧ AStep s l x lw w { s.awoke i false with h := h' } l' (x.setQ i (((((x.qs i).withFp p1).asks 2 1 d).stood false).told 0 d.length 0)) lw' w' := by
  refine (step_new pick j r0 i 2 1 d d.length 0 P1 (fun s' => ∃ h' : Hx, s' = { s.awoke i false with h := h' } ∧ h'.out = s.h.out ++ d ∧ h'.gs = s.h.gs) (fun x4 x5 => x5 = x4) w h.al h.len h.rl h.rin h.pk h.at_ hst (fun W hW => hN W hW.wx) ?_ ?_).mono ?_
  · intro W hW
    refine (do_write i l0 d W hW hk ht0 hs hi hn hl hno).mono ?_
    rintro e w' ⟨rfl, h', lh, hS, h1, h2⟩
    exact ⟨rfl, _, _, ⟨h', rfl, h1, h2⟩, hS⟩
  · rintro s' l' p1 lw' W hP ⟨h', rfl, h1, h2⟩ hW
    refine (after_other i 2 1 d 0 _ _ W hW (by decide) (by decide)).mono ?_
    rintro e w' ⟨rfl, hS⟩
    exact ⟨rfl, _, _, rfl, hS⟩
  · rintro e w' ⟨rfl, p1, s', l', x5, lw5, hP, ⟨h', rfl, h1, h2⟩, rfl, hS⟩
    exact ⟨rfl, p1, h', l', lw5, hP, h1, h2, hS⟩
end Go.Proofs.YtelohloaoocoaaaGreatDoor
/- what each process asks next, as NextIs. -/
namespace Go.Proofs.YtelohloaoocoaaaGreatDoor
open Go.RowKit IntWalk
set_option linter.unusedVariables false
set_option linter.unusedSimpArgs false

/-- a parent whose numbers are small -/
structure Small (x : Wx) (i : Int) : Prop where
  hi : i ∈ x.m.keys
  hre : (x.qs i).re = 0
  hc : (x.qs i).fp.child = false
  hs0 : 0 ≤ (x.qs i).fp.step
  hs1 : (x.qs i).fp.step ≤ 1000
  hn8 : x.ol.length ≤ 8
  hm0 : 0 ≤ (x.qs i).fp.sum
  hm1 : (x.qs i).fp.sum ≤ 100000
  hr0 : 0 ≤ (x.qs i).rm
  hr1 : (x.qs i).rm ≤ 100000
theorem asks_wait0 {x lw i} (h : Small x i) (hb : (x.qs i).fp.step = x.ol.length) (hn1 : 1 ≤ x.ol.length) (hg : (x.qs i).rn ≠ 0) :
    NextIs x lw i 9 0 [] (fun p => p = { (x.qs i).fp with step := (x.qs i).fp.step + 1 }) := by
  intro W hW
  rw [h.hre]
  refine (next_wait0 i _ _ W hW h.hi h.hc h.hs0 h.hs1 h.hn8 h.hm0 h.hm1 h.hr0 h.hr1 hb hn1 hg).mono ?_
  rintro e w' ⟨rfl, hS⟩
  exact ⟨rfl, _, _, rfl, hS, fun _ _ => rfl⟩
theorem asks_waitS {x lw i} (h : Small x i) (hb : x.ol.length < (x.qs i).fp.step) (hb2 : (x.qs i).fp.step + 1 ≤ 2 * x.ol.length) :
    NextIs x lw i 9 0 [] (fun p => p = { (x.qs i).fp with step := (x.qs i).fp.step + 1, sum := (x.qs i).fp.sum + (x.qs i).rm }) := by
  intro W hW
  rw [h.hre]
  refine (next_waitS i _ _ W hW h.hi h.hc h.hs0 h.hs1 h.hn8 h.hm0 h.hm1 h.hr0 h.hr1 hb hb2).mono ?_
  rintro e w' ⟨rfl, hS⟩
  exact ⟨rfl, _, _, rfl, hS, fun _ _ => rfl⟩
theorem asks_exit0 {x lw i} (h : Small x i) (hb : (x.qs i).fp.step = 0) (hn1 : x.ol.length = 0) :
    NextIs x lw i 8 (x.qs i).fp.sum [] (fun p => p = { (x.qs i).fp with step := (x.qs i).fp.step + 1 }) := by
  intro W hW
  rw [h.hre]
  refine (next_exit0 i _ _ W hW h.hi h.hc h.hs0 h.hs1 h.hn8 h.hm0 h.hm1 h.hr0 h.hr1 hb hn1).mono ?_
  rintro e w' ⟨rfl, hS⟩
  exact ⟨rfl, _, _, rfl, hS, fun _ _ => rfl⟩
theorem asks_exitS {x lw i} (h : Small x i) (hb : x.ol.length < (x.qs i).fp.step) (hb2 : 2 * x.ol.length < (x.qs i).fp.step + 1) :
    NextIs x lw i 8 ((x.qs i).fp.sum + (x.qs i).rm) [] (fun p => p = { (x.qs i).fp with step := (x.qs i).fp.step + 1, sum := (x.qs i).fp.sum + (x.qs i).rm }) := by
  intro W hW
  rw [h.hre]
  refine (next_exitS i _ _ W hW h.hi h.hc h.hs0 h.hs1 h.hn8 h.hm0 h.hm1 h.hr0 h.hr1 hb hb2).mono ?_
  rintro e w' ⟨rfl, hS⟩
  exact ⟨rfl, _, _, rfl, hS, fun _ _ => rfl⟩
theorem asks_new {x lw i} (k : Nat) (t : List UInt8) (hi : i ∈ x.m.keys) (hre : (x.qs i).re = 0) (hrn : (x.qs i).rn = 0) (hc : (x.qs i).fp.child = false) (hst : (x.qs i).fp.step = (k : Int) + 1) (ht : (x.qs i).fp.tl[k]? = some t) (htl : t.length ≤ 1000) (hp0 : 1 ≤ (x.qs i).fp.pieces) (hp1 : (x.qs i).fp.pieces ≤ 1000) (hn8 : x.ol.length ≤ 8) :
    NextIs x lw i (askK t) (askF (k : Int) t) (askD (x.qs i).fp.pieces t) (fun p => p = { (x.qs i).fp with child := true, at_ := (k : Int), step := 2 }) := by
  intro W hW
  rw [hre, hrn]
  refine (next_new i _ k t W hW hi hc hst ht htl hp0 hp1 hn8).mono ?_
  rintro e w' ⟨rfl, hS⟩
  exact ⟨rfl, _, _, rfl, hS, fun _ _ => rfl⟩
theorem asks_more {x : Wx} {lw : WId → Nat} {i : Int} (k rn : Nat) (t : List UInt8) (hi : i ∈ x.m.keys) (hrn : (x.qs i).rn = (rn : Int)) (hc : (x.qs i).fp.child = true) (hat : (x.qs i).fp.at_ = (k : Int)) (hs0 : 2 ≤ (x.qs i).fp.step) (hs1 : (x.qs i).fp.step ≤ 100000) (ht : (x.qs i).fp.tl[k]? = some t) (hr : rn ≤ t.length) (htl : t.length ≤ 1000) (hp0 : 1 ≤ (x.qs i).fp.pieces) (hp1 : (x.qs i).fp.pieces ≤ 1000) (hn8 : x.ol.length ≤ 8) :
    NextIs x lw i (askK (t.drop rn)) (askF (k : Int) (t.drop rn)) (askD (x.qs i).fp.pieces (t.drop rn)) (fun p => ∃ own, p = { (x.qs i).fp with step := (x.qs i).fp.step + 1, tl := (x.qs i).fp.tl.set k (t.drop rn), own := own }) := by
  intro W hW
  rw [hrn]
  refine (next_child2 i _ _ k rn t W hW hi hc hat hs0 hs1 ht hr htl hp0 hp1 hn8).mono ?_
  rintro e w' ⟨rfl, own, lay', hS, hK⟩
  exact ⟨rfl, _, _, ⟨own, rfl⟩, hS, hK⟩
end Go.Proofs.YtelohloaoocoaaaGreatDoor
/- what is asked of the world and of the kernel behind the steps. -/
namespace Go.Proofs.YtelohloaoocoaaaGreatDoor
open Go.RowKit IntWalk
set_option linter.unusedVariables false
set_option linter.unusedSimpArgs false
set_option linter.unnecessarySimpa false

theorem wkernel {s l x lw} (w : World) (h : Al s l x lw w) :
    Calls Tryz.prog 9 #[ptrOf (lw .W)] w fun e w' => e = .returned (ptrOf (l.k .K)) ∧ Below w.heap.size w w' := by
  have g0 := wx_w0 h.wx.lies
  rw [h.kb] at g0
  unfold ptrOf at *
  clear h
  go_enter Tryz.func9, Tryz.ntmps9
  go_wp2
  go_ret
  exact ⟨rfl, Below.refl _ _⟩
theorem kstatus {s l} (w : World) (h : KsIs s l w) :
    Calls Tryz.prog 15 #[ptrOf (l.k .K)] w fun e w' => e = .returned (.tuple #[.int .i64 s.k.status, .bool s.k.ended]) ∧ Below w.heap.size w w' := by
  have k4 := h.k4
  have k5 := h.k5
  unfold ptrOf at *
  clear h
  go_enter Tryz.func15, Tryz.ntmps15
  go_upto_region 3 with fail
  go_quiet (fail)
  go_upto_region 9 with fail
  refine bodyPost_ret (v := .tuple #[.int .i64 s.k.status, .bool s.k.ended]) ?_ rfl ⟨rfl, ?_⟩
  · simp [results, Tryz.results15, go_sem]
    try rfl
  · first | exact ⟨(Below.refl w.heap.size w).os, (Below.refl w.heap.size w).tape, (Below.refl w.heap.size w).output, (Below.refl w.heap.size w).size, (Below.refl w.heap.size w).block⟩ | exact Below.refl _ _ | exact (Below.refl _ _).drew
theorem kopen {s l} (w : World) (h : KsIs s l w) :
    Calls Tryz.prog 16 #[ptrOf (l.k .K)] w fun e w' => e = .returned (.int .i64 s.x.many) ∧ Below w.heap.size w w' := by
  have k1 := h.k1
  have x1 : w.cell? ⟨l.x .X, 1, none⟩ = some (.int .i64 s.x.many) := h.fx.lies.cell (i := .X) rfl rfl
  unfold ptrOf at *
  clear h
  have hop : Calls Tryz.prog 28 #[.pointer (some ⟨l.x .X, 0, none⟩)] w fun e w' => e = .returned (.int .i64 s.x.many) ∧ Below w.heap.size w w' := by
    go_enter Tryz.func28, Tryz.ntmps28
    go_wp2
    go_ret
    exact ⟨rfl, Below.refl _ _⟩
  have HOP := Lib.hid hop
  clear hop
  go_enter Tryz.func16, Tryz.ntmps16
  go_wp2_with (go_at_call 28; refine HOP.out.mono ?_; rintro e w' ⟨rfl, hB⟩; have HB := Lib.hid hB; clear hB)
  go_ret
  exact ⟨rfl, HB.out⟩
end Go.Proofs.YtelohloaoocoaaaGreatDoor
/- what was written: Out. -/
namespace Go.Proofs.YtelohloaoocoaaaGreatDoor
open Go.RowKit IntWalk
set_option linter.unusedVariables false
set_option linter.unusedSimpArgs false
set_option linter.unnecessarySimpa false

theorem hx_own {s l} {w : World} (h : KsIs s l w) : OwnB w 0 (s.h.val l.h) s.h.out := by
  have hl := h.hx
  have hk := h.ok.h
  have hB : ∀ cap cs, s.h.cur = some (cap, cs) → w.heap[l.h .B]? = some (.cells cs 5 (0, 0)) := fun cap cs hc => hl.at_ .B _ (by simp [Hx.obj, hc])
  unfold Hx.val
  unfold Hx.Ok at hk
  rcases hc : s.h.cur with _ | ⟨cap, cs⟩
  · rw [hc] at hk
    simp only at hk ⊢
    rw [hk]
    exact OwnB.nil w 0
  · rw [hc] at hk
    simp only at hk ⊢
    obtain ⟨h1, h2, h3, h4⟩ := hk
    refine ⟨by simp, .inr ⟨l.h .B, cap, cs, rfl, Nat.zero_le _, hB cap cs hc, ?_, ?_, ?_, ?_⟩⟩
    · exact h1
    · exact h2
    · simpa using h3
    · simpa using h4
set_option maxHeartbeats 1000000 in
set_option maxRecDepth 100000 in
/-- what lies in the first sink, and in the second, which nobody wrote to -/
theorem sunk_one {s l} (w : World) (h : KsIs s l w) :
    Calls Tryz.prog 27 #[ptrOf (l.x .X), .int .i64 1] w fun e w' => e = .returned (.string ⟨s.h.out.toArray⟩) ∧ w' = w := by
  obtain ⟨c, hsv, hrow⟩ := h.ok.sv
  have x2 : w.cell? ⟨l.x .X, 2, none⟩ = some s.x.sv := h.fx.lies.cell (i := .X) rfl rfl
  rw [hsv] at x2
  have a0 : w.cell? ⟨l.h .A, s.h.gs.off, none⟩ = some (ptrOf (l.h .S)) := h.hx.cell (i := .A) rfl hrow
  have s0 : w.cell? ⟨l.h .S, 0, none⟩ = some (s.h.val l.h) := h.hx.cell (i := .S) rfl rfl
  have HV := (hx_own h).conv
  unfold ptrOf at *
  generalize s.h.val l.h = v at *
  generalize s.h.gs.off = n at *
  clear h hsv hrow
  go_enter Tryz.func27, Tryz.ntmps27
  go_wp2
  go_ret
  exact ⟨rfl, rfl⟩
set_option maxHeartbeats 1000000 in
set_option maxRecDepth 100000 in
theorem sunk_two {s l} (b2 : Nat) (w : World) (h : KsIs s l w) (hgs : s.h.gs.cells[s.h.gs.off + 1]? = some (ptrOf b2)) (hb : w.cell? ⟨b2, 0, none⟩ = some (.slice none 0 0)) :
    Calls Tryz.prog 27 #[ptrOf (l.x .X), .int .i64 2] w fun e w' => e = .returned (.string ByteArray.empty) ∧ w' = w := by
  obtain ⟨c, hsv, hrow⟩ := h.ok.sv
  have x2 : w.cell? ⟨l.x .X, 2, none⟩ = some s.x.sv := h.fx.lies.cell (i := .X) rfl rfl
  rw [hsv] at x2
  have a1 : w.cell? ⟨l.h .A, s.h.gs.off + 1, none⟩ = some (ptrOf b2) := h.hx.cell (i := .A) rfl hgs
  have HV := (OwnB.nil w 0).conv
  unfold ptrOf at *
  generalize s.h.gs.off = n at *
  clear h hsv hrow hgs
  go_enter Tryz.func27, Tryz.ntmps27
  go_wp2
  go_ret
  exact ⟨rfl, rfl⟩
end Go.Proofs.YtelohloaoocoaaaGreatDoor
/- Kernel.Out. -/
namespace Go.Proofs.YtelohloaoocoaaaGreatDoor
open Go.RowKit IntWalk
set_option linter.unusedVariables false
set_option linter.unusedSimpArgs false
set_option linter.unnecessarySimpa false

set_option maxHeartbeats 1000000 in
set_option maxRecDepth 100000 in
theorem kout {s l} (b2 : Nat) (w : World) (h : KsIs s l w) (hgs : s.h.gs.cells[s.h.gs.off + 1]? = some (ptrOf b2)) (hb : w.heap[b2]? = some (.cells #[.slice none 0 0] 143 (0, 0))) :
    Calls Tryz.prog 14 #[ptrOf (l.k .K)] w fun e w' => e = .returned (.tuple #[.string ⟨s.h.out.toArray⟩, .string ByteArray.empty]) ∧ Below w.heap.size w w' := by
  have k1 : (w.drew).cell? ⟨l.k .K, 1, none⟩ = some (ptrOf (l.x .X)) := h.k1
  have hks : KsIs s l w.drew := ((KStep.refl h).drewN 1).is
  have hb2 : (w.drew).cell? ⟨b2, 0, none⟩ = some (.slice none 0 0) := by
    have : w.cell? ⟨b2, 0, none⟩ = some (.slice none 0 0) := by simp [World.cell?, hb]
    exact this
  have H1 := Lib.hid (sunk_one w.drew hks)
  have H2 := Lib.hid (sunk_two b2 w.drew hks hgs hb2)
  have K1 := Lib.hid k1
  unfold ptrOf at *
  clear h hgs hb hks hb2 k1
  go_enter Tryz.func14, Tryz.ntmps14
  go_upto_region 3 with fail
  go_region_held3 (fun W => W.cell? ⟨l.k .K, 1, none⟩ = some (.pointer (some ⟨l.x .X, 0, none⟩))) (first | with_reducible exact K1.out | go_keep | assumption) (first | (go_at_call 27; (with_reducible refine H1.out.mono ?_); rintro e w' ⟨rfl, rfl⟩) | (go_at_call 27; (with_reducible refine H2.out.mono ?_); rintro e w' ⟨rfl, rfl⟩))
  go_upto_region 9 with fail
  refine bodyPost_ret (v := .tuple #[.string ⟨s.h.out.toArray⟩, .string ByteArray.empty]) ?_ rfl ⟨rfl, ?_⟩
  · simp [results, Tryz.results14, go_sem]
    try rfl
  · exact ⟨(Below.refl w.heap.size w).os, (Below.refl w.heap.size w).tape, (Below.refl w.heap.size w).output, (Below.refl w.heap.size w).size, (Below.refl w.heap.size w).block⟩
end Go.Proofs.YtelohloaoocoaaaGreatDoor
/- the family as a plain machine: what is kept. -/
namespace Go.Proofs.YtelohloaoocoaaaGreatDoor
open Go.RowKit IntWalk
set_option linter.unusedVariables false
set_option linter.unusedSimpArgs false

/-- a child's state -/
inductive Kid where
  | unborn | live | zombie | taken
  deriving DecidableEq
/-- the pid of a child -/
abbrev pidC (c : Nat) : Int := (c : Int) + 2
/-- what lives: the first, unless it has gone, and the children that go on -/
def alivePid (gone : Bool) (cs : Nat → Kid) (i : Int) : Prop := (i = 1 ∧ gone = false) ∨ ∃ c, i = pidC c ∧ cs c = .live
/-- what the table knows: what lives, and who ended and was not taken up -/
def knownPid (gone : Bool) (cs : Nat → Kid) (i : Int) : Prop := alivePid gone cs i ∨ ∃ c, i = pidC c ∧ cs c = .zombie
/-- the number of children that go on -/
def liveN (n : Nat) (cs : Nat → Kid) : Nat := ((List.range n).filter fun c => decide (cs c = .live)).length
/-- the kernel of a family -/
structure FamK (n : Nat) (base : Int) (gone stands : Bool) (cs : Nat → Kid) (b0 b1 b2 : Nat) (s : Ks) : Prop where
  most : s.t.most = 20
  tk : ∀ i, i ∈ s.t.m.keys ↔ knownPid gone cs i
  kk : ∀ i, i ∈ s.k.m.keys ↔ alivePid gone cs i
  one : gone = false → (s.t.pr 1).parent = 0 ∧ (s.t.pr 1).state = if stands then 2 else 1
  waits : stands = true → (s.k.pc 1).waits = true
  live : ∀ c, cs c = .live → (s.t.pr (pidC c)).parent = 1 ∧ (s.t.pr (pidC c)).state = 1
  dead : ∀ c, cs c = .zombie → (s.t.pr (pidC c)).parent = 1 ∧ (s.t.pr (pidC c)).state = 3 ∧ (s.t.pr (pidC c)).status = (c : Int) + 1
  z1 : gone = false → s.x.zs 1 = some stdSlots
  zl : ∀ c, cs c = .live → s.x.zs (pidC c) = some stdSlots
  zu : ∀ c, cs c = .unborn → s.x.zs (pidC c) = none
  o0 : gone = false → s.x.op 0 = some (.iface 166 (ptrOf b0), (liveN n cs : Int) + 1)
  o1 : gone = false → s.x.op 1 = some (.iface 144 (ptrOf b1), (liveN n cs : Int) + 1)
  o2 : gone = false → s.x.op 2 = some (.iface 144 (ptrOf b2), (liveN n cs : Int) + 1)
  many : gone = false → s.x.many = 3
  users : gone = false → s.r.users = base + liveN n cs
  ended : gone = false → s.k.ended = false
  small : ∀ c, n ≤ c → cs c = .unborn
section
variable {n : Nat} {base : Int} {gone stands : Bool} {cs : Nat → Kid} {b0 b1 b2 : Nat} {s : Ks}
theorem pidC_inj {a b : Nat} (h : pidC a = pidC b) : a = b := by unfold pidC at h; omega
theorem FamK.fork (F : FamK n base false stands cs b0 b1 b2 s) (hn : n ≤ 8) (hb0 : 0 ≤ base) (hb1 : base ≤ 1000) (t : Nat) (ht : t < n) (hu : cs t = .unborn) (hl : ∀ c, c < t → cs c = .live ∨ cs c = .zombie) (hL : liveN n cs ≤ 8) :
    MayFork (s.awoke 1 false) 1 (pidC t) stdSlots where
  pk := (F.kk 1).2 (.inl ⟨rfl, rfl⟩)
  pt := (F.tk 1).2 (.inl (.inl ⟨rfl, rfl⟩))
  ps := by simp [Ks.awoke, Tab.turnS, Tab.setP]
  q1 := by unfold pidC; omega
  qm := by show pidC t ≤ s.t.most; rw [F.most]; unfold pidC; omega
  mm := by show s.t.most ≤ 1024; rw [F.most]; decide
  qin := fun j h1 h2 => (F.tk j).2 (by
    by_cases hj : j = 1
    · exact .inl (.inl ⟨hj, rfl⟩)
    · obtain ⟨c, hc⟩ : ∃ c : Nat, j = pidC c := ⟨(j - 2).toNat, by unfold pidC; omega⟩
      rcases hl c (by unfold pidC at *; omega) with h | h
      · exact .inl (.inr ⟨c, hc, h⟩)
      · exact .inr ⟨c, hc, h⟩)
  qout := fun h => by
    rcases (F.tk _).1 h with (⟨h, _⟩ | ⟨c, h, hc⟩) | ⟨c, h, hc⟩
    · unfold pidC at h; omega
    · rw [pidC_inj h] at hu; rw [hu] at hc; cases hc
    · rw [pidC_inj h] at hu; rw [hu] at hc; cases hc
  qk := fun h => by
    rcases (F.kk _).1 h with ⟨h, _⟩ | ⟨c, h, hc⟩
    · unfold pidC at h; omega
    · rw [pidC_inj h] at hu; rw [hu] at hc; cases hc
  zp := F.z1 rfl
  zq := F.zu t hu
  cnt := fun k hk => by
    have hk3 : k = 0 ∨ k = 1 ∨ k = 2 := by simp [stdSlots] at hk; omega
    rcases hk3 with rfl | rfl | rfl
    · exact ⟨_, _, F.o0 rfl, by omega, by omega⟩
    · exact ⟨_, _, F.o1 rfl, by omega, by omega⟩
    · exact ⟨_, _, F.o2 rfl, by omega, by omega⟩
  u0 := by show 0 ≤ s.r.users; rw [F.users rfl]; omega
  u1 := by show s.r.users < 1000000; rw [F.users rfl]; omega
theorem FamK.dead_iff (F : FamK n base false stands cs b0 b1 b2 s) (i : Int) : (s.awoke 1 true).t.dead 1 i ↔ ∃ c, i = pidC c ∧ cs c = .zombie := by
  constructor
  · rintro ⟨hk, hp, hs⟩
    have hk' : i ∈ s.t.m.keys := hk
    by_cases h1 : i = 1
    · subst h1; simp [Ks.awoke, Tab.turnS, Tab.setP] at hs
    · simp only [Ks.awoke, Tab.turnS, Tab.setP, if_neg h1] at hp hs
      rcases (F.tk i).1 hk' with (⟨h, _⟩ | ⟨c, rfl, hc⟩) | ⟨c, rfl, hc⟩
      · exact absurd h h1
      · rw [(F.live c hc).2] at hs; cases hs
      · exact ⟨c, rfl, hc⟩
  · rintro ⟨c, rfl, hc⟩
    have h1 : pidC c ≠ 1 := by unfold pidC; omega
    refine ⟨(F.tk _).2 (.inr ⟨c, rfl, hc⟩), ?_, ?_⟩
    · simp only [Ks.awoke, Tab.turnS, Tab.setP, if_neg h1]; exact (F.dead c hc).1
    · simp only [Ks.awoke, Tab.turnS, Tab.setP, if_neg h1]; exact (F.dead c hc).2.1
/-- a child that was not taken up: the parent may wait -/
theorem FamK.wait (F : FamK n base false stands cs b0 b1 b2 s) (z : Int) (hz : (z = 0 ∧ ∀ c, cs c ≠ .zombie) ∨ ∃ c, z = pidC c ∧ cs c = .zombie ∧ ∀ c', cs c' = .zombie → c ≤ c') (hk : ∃ c, cs c = .live ∨ cs c = .zombie) :
    MayWait (s.awoke 1 true) 1 z where
  pk := (F.kk 1).2 (.inl ⟨rfl, rfl⟩)
  pt := (F.tk 1).2 (.inl (.inl ⟨rfl, rfl⟩))
  ps := by simp [Ks.awoke, Tab.turnS, Tab.setP]
  rz := by
    rcases hz with ⟨h0, h⟩ | ⟨c, h0, h, hm⟩
    · refine .inl ⟨h0, fun i hi => ?_⟩
      obtain ⟨c, _, hc⟩ := (F.dead_iff i).1 hi
      exact h c hc
    · refine .inr ⟨(F.dead_iff z).2 ⟨c, h0, h⟩, fun i hi => ?_⟩
      obtain ⟨c', rfl, hc⟩ := (F.dead_iff i).1 hi
      have := hm c' hc
      rw [h0]; unfold pidC; omega
  kid := by
    obtain ⟨c, hc⟩ := hk
    have h1 : pidC c ≠ 1 := by unfold pidC; omega
    refine ⟨pidC c, (F.tk _).2 ?_, ?_⟩
    · rcases hc with hc | hc
      · exact .inl (.inr ⟨c, rfl, hc⟩)
      · exact .inr ⟨c, rfl, hc⟩
    · simp only [Ks.awoke, Tab.turnS, Tab.setP, if_neg h1]
      rcases hc with hc | hc
      · exact (F.live c hc).1
      · exact (F.dead c hc).1
  pos := fun i hi => by
    rcases (F.tk i).1 hi with (⟨rfl, _⟩ | ⟨c, rfl, hc⟩) | ⟨c, rfl, hc⟩
    · decide
    · unfold pidC; omega
    · unfold pidC; omega
theorem liveN_pos {c : Nat} (hn : c < n) (h : cs c = .live) : 1 ≤ liveN n cs := by
  unfold liveN
  exact List.length_pos_of_mem (List.mem_filter.2 ⟨List.mem_range.2 hn, by simpa using h⟩)
/-- a child may end -/
theorem FamK.ends (F : FamK n base false stands cs b0 b1 b2 s) (hb0 : 0 ≤ base) (hb1 : base ≤ 1000) (c : Nat) (hc : cs c = .live) (hL : liveN n cs ≤ 8) :
    MayEnd (s.awoke (pidC c) false) (pidC c) 1 stdSlots := by
  have hcn : c < n := by
    rcases Nat.lt_or_ge c n with h | h
    · exact h
    · rw [F.small c h] at hc; cases hc
  have h1 : pidC c ≠ 1 := by unfold pidC; omega
  have hp := liveN_pos hcn hc
  exact {
    ik := (F.kk _).2 (.inr ⟨c, rfl, hc⟩)
    it := (F.tk _).2 (.inl (.inr ⟨c, rfl, hc⟩))
    is := by simp [Ks.awoke, Tab.turnS, Tab.setP]
    ip := by simp only [Ks.awoke, Tab.turnS, Tab.setP, if_true]; exact (F.live c hc).1
    i1 := h1
    one := (F.tk 1).2 (.inl (.inl ⟨rfl, rfl⟩))
    pt := (F.tk 1).2 (.inl (.inl ⟨rfl, rfl⟩))
    np := h1
    p0 := by decide
    ps := by
      simp only [Ks.awoke, Tab.turnS, Tab.setP, if_neg (Ne.symm h1)]
      rw [(F.one rfl).2]
      cases stands <;> decide
    no := fun j hj => by
      have hj' := (F.tk j).1 hj
      simp only [Ks.awoke, Tab.turnS, Tab.setP]
      split
      · rw [(F.live c hc).1]; exact Ne.symm h1
      · rcases hj' with (⟨rfl, _⟩ | ⟨c', rfl, hc'⟩) | ⟨c', rfl, hc'⟩
        · rw [(F.one rfl).1]; unfold pidC; omega
        · rw [(F.live c' hc').1]; exact Ne.symm h1
        · rw [(F.dead c' hc').1]; exact Ne.symm h1
    zi := F.zl c hc
    cnt := fun k hk => by
      have hk3 : k = 0 ∨ k = 1 ∨ k = 2 := by simp [stdSlots] at hk; omega
      rcases hk3 with rfl | rfl | rfl
      · exact ⟨_, _, F.o0 rfl, by simp [stdSlots, List.count_replicate]; omega, by omega⟩
      · exact ⟨_, _, F.o1 rfl, by simp [stdSlots, List.count_replicate]; omega, by omega⟩
      · exact ⟨_, _, F.o2 rfl, by simp [stdSlots, List.count_replicate]; omega, by omega⟩
    u0 := by show 0 < s.r.users; rw [F.users rfl]; omega
    u1 := by show s.r.users < 1000000; rw [F.users rfl]; omega }
/-- none sleeps but who waits, where a child goes on -/
theorem FamK.no_sleep (F : FamK n base false stands cs b0 b1 b2 s) (c : Nat) (hc : cs c = .live) : ∀ j ∈ s.k.m.keys, ((s.awoke (pidC c) false).k.pc j).waits = true ∨ (s.awoke (pidC c) false).t.stateOf j ≠ 2 := fun j hj => by
  have hjt : j ∈ s.t.m.keys := (F.tk j).2 (.inl ((F.kk j).1 hj))
  simp only [Ks.awoke, Tab.turnS, Tab.setP, Tab.stateOf, Kx.setR]
  by_cases h : j = pidC c
  · subst h
    right
    simp [hjt]
  · simp only [if_neg h]
    rcases (F.kk j).1 hj with ⟨rfl, _⟩ | ⟨c', rfl, hc'⟩
    · cases hst : stands
      · right
        have h2 := (F.one rfl).2
        rw [hst] at h2
        simp [hjt, h2]
      · exact .inl (F.waits hst)
    · right
      simp [hjt, (F.live c' hc').2]
end
end Go.Proofs.YtelohloaoocoaaaGreatDoor
/- the family's kernel behind each step. -/
namespace Go.Proofs.YtelohloaoocoaaaGreatDoor
open Go.RowKit IntWalk
set_option linter.unusedVariables false
set_option linter.unusedSimpArgs false

def updC (cs : Nat → Kid) (t : Nat) (k : Kid) : Nat → Kid := fun c => if c = t then k else cs c
theorem updC_at (cs : Nat → Kid) (t : Nat) (k : Kid) : updC cs t k t = k := by simp [updC]
theorem updC_ne (cs : Nat → Kid) {t c : Nat} (k : Kid) (h : c ≠ t) : updC cs t k c = cs c := by simp [updC, h]
theorem liveN_succ (n : Nat) (cs : Nat → Kid) : liveN (n + 1) cs = liveN n cs + if cs n = .live then 1 else 0 := by
  unfold liveN
  rw [List.range_succ, List.filter_append, List.length_append]
  congr 1
  by_cases h : cs n = .live <;> simp [h]
theorem liveN_ge (n t : Nat) (cs : Nat → Kid) (k : Kid) (h : n ≤ t) : liveN n (updC cs t k) = liveN n cs := by
  induction n with
  | zero => rfl
  | succ n ih => rw [liveN_succ, liveN_succ, ih (by omega), updC_ne cs k (by omega)]
theorem liveN_upd (n t : Nat) (cs : Nat → Kid) (k : Kid) (h : t < n) : liveN n (updC cs t k) + (if cs t = .live then 1 else 0) = liveN n cs + if k = .live then 1 else 0 := by
  induction n with
  | zero => omega
  | succ n ih =>
    rw [liveN_succ, liveN_succ]
    by_cases ht : t = n
    · subst ht
      rw [liveN_ge _ _ _ _ (Nat.le_refl _), updC_at]
      omega
    · rw [updC_ne cs k (by omega)]
      have := ih (by omega)
      omega
theorem liveN_le (n : Nat) (cs : Nat → Kid) : liveN n cs ≤ n := by
  unfold liveN
  exact Nat.le_trans (List.length_filter_le _ _) (by simp)
section
variable {n : Nat} {base : Int} {gone stands : Bool} {cs : Nat → Kid} {b0 b1 b2 : Nat} {s : Ks}
theorem alive_upd {gone : Bool} {cs : Nat → Kid} {t : Nat} (hu : cs t ≠ .live) (i : Int) : alivePid gone (updC cs t .live) i ↔ alivePid gone cs i ∨ i = pidC t := by
  unfold alivePid
  constructor
  · rintro (h | ⟨c, rfl, hc⟩)
    · exact .inl (.inl h)
    · by_cases h : c = t
      · exact .inr (by rw [h])
      · rw [updC_ne cs _ h] at hc; exact .inl (.inr ⟨c, rfl, hc⟩)
  · rintro ((h | ⟨c, rfl, hc⟩) | rfl)
    · exact .inl h
    · have h : c ≠ t := fun e => by rw [e] at hc; exact hu hc
      exact .inr ⟨c, rfl, by rw [updC_ne cs _ h]; exact hc⟩
    · exact .inr ⟨t, rfl, updC_at _ _ _⟩
theorem stdSlots_fork : stdSlots.take 16 ++ List.replicate (16 - 16) none = stdSlots := by decide
theorem FamK.forked (F : FamK n base false stands cs b0 b1 b2 s) (t : Nat) (ht : t < n) (hu : cs t = .unborn) (z : Nat) :
    FamK n base false false (updC cs t .live) b0 b1 b2 ((s.awoke 1 false).forked 1 (pidC t) stdSlots z) := by
  have hL := liveN_upd n t cs .live ht
  rw [hu] at hL
  simp only [reduceCtorEq, if_false, if_true, Nat.add_zero] at hL
  have hul : cs t ≠ .live := by rw [hu]; simp
  have h1 : (1 : Int) ≠ pidC t := by unfold pidC; omega
  have hne : ∀ c, c ≠ t → pidC c ≠ pidC t := fun c h e => h (pidC_inj e)
  have hc1 : ∀ c, pidC c ≠ 1 := fun c => by unfold pidC; omega
  exact {
    most := F.most
    tk := fun i => by
      show i ∈ (s.t.m.add (pidC t)).keys ↔ _
      rw [PMap.mem_add, F.tk i]
      unfold knownPid
      rw [alive_upd hul]
      constructor
      · rintro ((h | ⟨c, rfl, hc⟩) | h)
        · exact .inl (.inl h)
        · exact .inr ⟨c, rfl, by rw [updC_ne cs _ (fun e => by rw [e, hu] at hc; cases hc)]; exact hc⟩
        · exact .inl (.inr h)
      · rintro ((h | h) | ⟨c, rfl, hc⟩)
        · exact .inl (.inl h)
        · exact .inr h
        · by_cases h : c = t
          · subst h; rw [updC_at] at hc; cases hc
          · rw [updC_ne cs _ h] at hc; exact .inl (.inr ⟨c, rfl, hc⟩)
    kk := fun i => by
      show i ∈ (s.k.m.add (pidC t)).keys ↔ _
      rw [PMap.mem_add, F.kk i, alive_upd hul]
    one := fun _ => by
      simp only [Ks.forked, Ks.awoke, Tab.addP, Tab.turnS, Tab.setP, if_neg h1, if_true]
      exact ⟨(F.one rfl).1, rfl⟩
    waits := fun h => by cases h
    live := fun c hc => by
      simp only [Ks.forked, Ks.awoke, Tab.addP, Tab.turnS, Tab.setP]
      by_cases h : c = t
      · subst h; simp
      · rw [updC_ne cs _ h] at hc
        rw [if_neg (hne c h), if_neg (hc1 c)]; exact F.live c hc
    dead := fun c hc => by
      simp only [Ks.forked, Ks.awoke, Tab.addP, Tab.turnS, Tab.setP]
      by_cases h : c = t
      · subst h; rw [updC_at] at hc; cases hc
      · rw [updC_ne cs _ h] at hc
        rw [if_neg (hne c h), if_neg (hc1 c)]; exact F.dead c hc
    z1 := fun _ => by
      show (if (1 : Int) = pidC t then some (stdSlots.take 16 ++ List.replicate (16 - 16) none) else s.x.zs 1) = _
      rw [if_neg h1]; exact F.z1 rfl
    zl := fun c hc => by
      show (if pidC c = pidC t then some (stdSlots.take 16 ++ List.replicate (16 - 16) none) else s.x.zs (pidC c)) = _
      by_cases h : c = t
      · subst h; rw [if_pos rfl, stdSlots_fork]
      · rw [updC_ne cs _ h] at hc
        rw [if_neg (hne c h)]; exact F.zl c hc
    zu := fun c hc => by
      show (if pidC c = pidC t then some (stdSlots.take 16 ++ List.replicate (16 - 16) none) else s.x.zs (pidC c)) = _
      by_cases h : c = t
      · subst h; rw [updC_at] at hc; cases hc
      · rw [updC_ne cs _ h] at hc
        rw [if_neg (hne c h)]; exact F.zu c hc
    o0 := fun _ => by
      show (s.x.op 0).map _ = _
      rw [F.o0 rfl, hL]; simp [stdSlots, List.count_replicate]
    o1 := fun _ => by
      show (s.x.op 1).map _ = _
      rw [F.o1 rfl, hL]; simp [stdSlots, List.count_replicate]
    o2 := fun _ => by
      show (s.x.op 2).map _ = _
      rw [F.o2 rfl, hL]; simp [stdSlots, List.count_replicate]
    many := fun _ => F.many rfl
    users := fun _ => by
      show s.r.users + 1 = _
      rw [F.users rfl, hL]; omega
    ended := fun _ => F.ended rfl
    small := fun c hc => by rw [updC_ne cs _ (by omega)]; exact F.small c hc }
theorem liveN_same {n t : Nat} {cs : Nat → Kid} {k : Kid} (h : t < n) (h1 : cs t ≠ .live) (h2 : k ≠ .live) : liveN n (updC cs t k) = liveN n cs := by
  have := liveN_upd n t cs k h
  rw [if_neg h1, if_neg h2] at this
  simpa using this
/-- a child has written -/
theorem FamK.wrote (F : FamK n base false stands cs b0 b1 b2 s) (c : Nat) (hc : cs c = .live) (h' : Hx) : FamK n base false stands cs b0 b1 b2 { s.awoke (pidC c) false with h := h' } := by
  have h1 : (1 : Int) ≠ pidC c := by unfold pidC; omega
  have hne : ∀ a, a ≠ c → pidC a ≠ pidC c := fun a h e => h (pidC_inj e)
  exact { F with
    one := fun _ => by
      simp only [Ks.awoke, Tab.turnS, Tab.setP, if_neg h1]; exact F.one rfl
    waits := fun h => by
      simp only [Ks.awoke, Kx.setR, if_neg h1]; exact F.waits h
    live := fun a ha => by
      simp only [Ks.awoke, Tab.turnS, Tab.setP]
      by_cases h : a = c
      · subst h; simp [(F.live a ha).1]
      · rw [if_neg (hne a h)]; exact F.live a ha
    dead := fun a ha => by
      simp only [Ks.awoke, Tab.turnS, Tab.setP]
      rw [if_neg (hne a (fun e => by rw [e, hc] at ha; cases ha))]; exact F.dead a ha
    tk := F.tk, kk := F.kk, most := F.most, z1 := F.z1, zl := F.zl, zu := F.zu, o0 := F.o0, o1 := F.o1, o2 := F.o2, many := F.many, users := F.users, ended := F.ended, small := F.small }
/-- the parent sleeps -/
theorem FamK.slept (F : FamK n base false stands cs b0 b1 b2 s) : FamK n base false true cs b0 b1 b2 { s.awoke 1 true with t := (s.awoke 1 true).t.turnS 1 2 } := by
  have hc1 : ∀ c, pidC c ≠ 1 := fun c => by unfold pidC; omega
  exact {
    one := fun _ => by
      simp only [Ks.awoke, Tab.turnS, Tab.setP, if_true]; exact ⟨(F.one rfl).1, trivial⟩
    waits := fun _ => by simp [Ks.awoke, Kx.setR]
    live := fun a ha => by
      simp only [Ks.awoke, Tab.turnS, Tab.setP, if_neg (hc1 a)]; exact F.live a ha
    dead := fun a ha => by
      simp only [Ks.awoke, Tab.turnS, Tab.setP, if_neg (hc1 a)]; exact F.dead a ha
    tk := F.tk, kk := F.kk, most := F.most, z1 := F.z1, zl := F.zl, zu := F.zu, o0 := F.o0, o1 := F.o1, o2 := F.o2, many := F.many, users := F.users, ended := F.ended, small := F.small }
end
end Go.Proofs.YtelohloaoocoaaaGreatDoor
/- the family's kernel behind an end, behind a child taken up, behind the last end. -/
namespace Go.Proofs.YtelohloaoocoaaaGreatDoor
open Go.RowKit IntWalk
set_option linter.unusedVariables false
set_option linter.unusedSimpArgs false

section
variable {n : Nat} {base : Int} {gone stands : Bool} {cs : Nat → Kid} {b0 b1 b2 : Nat} {s : Ks}
theorem known_upd {gone : Bool} {cs : Nat → Kid} {t : Nat} (hu : cs t = .live) (i : Int) : knownPid gone (updC cs t .zombie) i ↔ knownPid gone cs i := by
  unfold knownPid alivePid
  constructor
  · rintro ((h | ⟨c, rfl, hc⟩) | ⟨c, rfl, hc⟩)
    · exact .inl (.inl h)
    · by_cases h : c = t
      · subst h; exact .inl (.inr ⟨c, rfl, hu⟩)
      · rw [updC_ne cs _ h] at hc; exact .inl (.inr ⟨c, rfl, hc⟩)
    · by_cases h : c = t
      · subst h; exact .inl (.inr ⟨c, rfl, hu⟩)
      · rw [updC_ne cs _ h] at hc; exact .inr ⟨c, rfl, hc⟩
  · rintro ((h | ⟨c, rfl, hc⟩) | ⟨c, rfl, hc⟩)
    · exact .inl (.inl h)
    · by_cases h : c = t
      · subst h; exact .inr ⟨c, rfl, updC_at _ _ _⟩
      · exact .inl (.inr ⟨c, rfl, by rw [updC_ne cs _ h]; exact hc⟩)
    · by_cases h : c = t
      · subst h; exact .inr ⟨c, rfl, updC_at _ _ _⟩
      · exact .inr ⟨c, rfl, by rw [updC_ne cs _ h]; exact hc⟩
theorem alive_del {gone : Bool} {cs : Nat → Kid} {t : Nat} {k : Kid} (hk : k ≠ .live) (i : Int) : alivePid gone (updC cs t k) i ↔ alivePid gone cs i ∧ i ≠ pidC t := by
  unfold alivePid
  constructor
  · rintro (⟨rfl, h⟩ | ⟨c, rfl, hc⟩)
    · exact ⟨.inl ⟨rfl, h⟩, by unfold pidC; omega⟩
    · by_cases h : c = t
      · subst h; rw [updC_at] at hc; exact absurd hc hk
      · rw [updC_ne cs _ h] at hc; exact ⟨.inr ⟨c, rfl, hc⟩, fun e => h (pidC_inj e)⟩
  · rintro ⟨h | ⟨c, rfl, hc⟩, hn⟩
    · exact .inl h
    · have h : c ≠ t := fun e => hn (by rw [e])
      exact .inr ⟨c, rfl, by rw [updC_ne cs _ h]; exact hc⟩
theorem known_del {gone : Bool} {cs : Nat → Kid} {t : Nat} (hu : cs t = .zombie) (i : Int) : knownPid gone (updC cs t .taken) i ↔ knownPid gone cs i ∧ i ≠ pidC t := by
  unfold knownPid
  rw [alive_del (by simp)]
  constructor
  · rintro (⟨h, hn⟩ | ⟨c, rfl, hc⟩)
    · exact ⟨.inl h, hn⟩
    · by_cases h : c = t
      · subst h; rw [updC_at] at hc; cases hc
      · rw [updC_ne cs _ h] at hc; exact ⟨.inr ⟨c, rfl, hc⟩, fun e => h (pidC_inj e)⟩
  · rintro ⟨h | ⟨c, rfl, hc⟩, hn⟩
    · exact .inl ⟨h, hn⟩
    · have h : c ≠ t := fun e => hn (by rw [e])
      exact .inr ⟨c, rfl, by rw [updC_ne cs _ h]; exact hc⟩
theorem alive_taken {gone : Bool} {cs : Nat → Kid} {t : Nat} (hu : cs t = .zombie) (i : Int) : alivePid gone (updC cs t .taken) i ↔ alivePid gone cs i := by
  rw [alive_del (by simp)]
  refine ⟨fun h => h.1, fun h => ⟨h, fun e => ?_⟩⟩
  rcases h with ⟨rfl, _⟩ | ⟨c, rfl, hc⟩
  · unfold pidC at e; omega
  · rw [pidC_inj e, hu] at hc; cases hc
/-- a child has ended -/
theorem FamK.gone_kid (F : FamK n base false stands cs b0 b1 b2 s) (c : Nat) (hc : cs c = .live) (hcn : c < n) :
    FamK n base false false (updC cs c .zombie) b0 b1 b2 ((s.awoke (pidC c) false).endedK (pidC c) 1 ((c : Int) + 1) stdSlots) := by
  have hL := liveN_upd n c cs .zombie hcn
  rw [hc] at hL
  simp only [reduceCtorEq, if_false, if_true, Nat.add_zero] at hL
  have h1 : (1 : Int) ≠ pidC c := by unfold pidC; omega
  have hne : ∀ a, a ≠ c → pidC a ≠ pidC c := fun a h e => h (pidC_inj e)
  have hc1 : ∀ c, pidC c ≠ 1 := fun c => by unfold pidC; omega
  exact {
    most := F.most
    tk := fun i => by
      show i ∈ s.t.m.keys ↔ _
      rw [F.tk i, known_upd hc]
    kk := fun i => by
      show i ∈ (s.k.m.del (pidC c)).keys ↔ _
      rw [PMap.mem_del, F.kk i, alive_del (by simp)]
    one := fun _ => by
      simp only [Ks.endedK, Ks.awoke, Tab.turnS, Tab.setP, if_neg h1, if_true]
      exact ⟨(F.one rfl).1, rfl⟩
    waits := fun h => by cases h
    live := fun a ha => by
      by_cases h : a = c
      · subst h; rw [updC_at] at ha; cases ha
      · rw [updC_ne cs _ h] at ha
        simp only [Ks.endedK, Ks.awoke, Tab.turnS, Tab.setP, if_neg (hc1 a), if_neg (hne a h)]
        exact F.live a ha
    dead := fun a ha => by
      by_cases h : a = c
      · subst h
        simp [Ks.endedK, Ks.awoke, Tab.turnS, Tab.setP, hc1]
      · rw [updC_ne cs _ h] at ha
        simp only [Ks.endedK, Ks.awoke, Tab.turnS, Tab.setP, if_neg (hc1 a), if_neg (hne a h)]
        exact F.dead a ha
    z1 := fun _ => by
      show (if (1 : Int) = pidC c then some (List.replicate 16 none ++ stdSlots.drop 16) else s.x.zs 1) = _
      rw [if_neg h1]; exact F.z1 rfl
    zl := fun a ha => by
      show (if pidC a = pidC c then some (List.replicate 16 none ++ stdSlots.drop 16) else s.x.zs (pidC a)) = _
      by_cases h : a = c
      · subst h; rw [updC_at] at ha; cases ha
      · rw [updC_ne cs _ h] at ha
        rw [if_neg (hne a h)]; exact F.zl a ha
    zu := fun a ha => by
      show (if pidC a = pidC c then some (List.replicate 16 none ++ stdSlots.drop 16) else s.x.zs (pidC a)) = _
      by_cases h : a = c
      · subst h; rw [updC_at] at ha; cases ha
      · rw [updC_ne cs _ h] at ha
        rw [if_neg (hne a h)]; exact F.zu a ha
    o0 := fun _ => by
      show (s.x.op 0).map _ = _
      rw [F.o0 rfl, ← hL]; simp [stdSlots, List.count_replicate]
    o1 := fun _ => by
      show (s.x.op 1).map _ = _
      rw [F.o1 rfl, ← hL]; simp [stdSlots, List.count_replicate]
    o2 := fun _ => by
      show (s.x.op 2).map _ = _
      rw [F.o2 rfl, ← hL]; simp [stdSlots, List.count_replicate]
    many := fun _ => F.many rfl
    users := fun _ => by
      show s.r.users - 1 = _
      rw [F.users rfl, ← hL]; omega
    ended := fun _ => F.ended rfl
    small := fun a ha => by rw [updC_ne cs _ (by omega)]; exact F.small a ha }
theorem FamK.gone_hno (F : FamK n base false stands cs b0 b1 b2 s) (c : Nat) (hc : cs c = .live) (hcn : c < n) : ∀ j ∈ ((s.awoke (pidC c) false).endedK (pidC c) 1 ((c : Int) + 1) stdSlots).k.m.keys,
    (((s.awoke (pidC c) false).endedK (pidC c) 1 ((c : Int) + 1) stdSlots).k.pc j).waits = true ∨ ((s.awoke (pidC c) false).endedK (pidC c) 1 ((c : Int) + 1) stdSlots).t.stateOf j ≠ 2 := fun j hj => by
  have G := F.gone_kid c hc hcn
  have ht := (G.tk j).2 (.inl ((G.kk j).1 hj))
  right
  unfold Tab.stateOf
  rw [if_pos ht]
  rcases (G.kk j).1 hj with ⟨rfl, _⟩ | ⟨a, rfl, ha⟩
  · rw [(G.one rfl).2]; decide
  · rw [(G.live a ha).2]; decide
/-- a child is taken up -/
theorem FamK.takes (F : FamK n base false stands cs b0 b1 b2 s) (c : Nat) (hc : cs c = .zombie) (hcn : c < n) :
    FamK n base false false (updC cs c .taken) b0 b1 b2 { s.awoke 1 true with t := (s.awoke 1 true).t.delP (pidC c) } := by
  have hL := liveN_same (k := .taken) (cs := cs) hcn (by rw [hc]; simp) (by simp)
  have hc1 : ∀ c, pidC c ≠ 1 := fun c => by unfold pidC; omega
  exact {
    most := F.most
    tk := fun i => by
      show i ∈ (s.t.m.del (pidC c)).keys ↔ _
      rw [PMap.mem_del, F.tk i, known_del hc]
    kk := fun i => by
      show i ∈ s.k.m.keys ↔ _
      rw [F.kk i, alive_taken hc]
    one := fun _ => by
      simp only [Tab.delP, Ks.awoke, Tab.turnS, Tab.setP, if_true]
      exact ⟨(F.one rfl).1, rfl⟩
    waits := fun h => by cases h
    live := fun a ha => by
      have h : a ≠ c := fun e => by subst e; rw [updC_at] at ha; cases ha
      rw [updC_ne cs _ h] at ha
      simp only [Tab.delP, Ks.awoke, Tab.turnS, Tab.setP, if_neg (hc1 a)]
      exact F.live a ha
    dead := fun a ha => by
      have h : a ≠ c := fun e => by subst e; rw [updC_at] at ha; cases ha
      rw [updC_ne cs _ h] at ha
      simp only [Tab.delP, Ks.awoke, Tab.turnS, Tab.setP, if_neg (hc1 a)]
      exact F.dead a ha
    z1 := F.z1
    zl := fun a ha => by
      have h : a ≠ c := fun e => by subst e; rw [updC_at] at ha; cases ha
      rw [updC_ne cs _ h] at ha
      exact F.zl a ha
    zu := fun a ha => by
      have h : a ≠ c := fun e => by subst e; rw [updC_at] at ha; cases ha
      rw [updC_ne cs _ h] at ha
      exact F.zu a ha
    o0 := fun _ => by rw [hL]; exact F.o0 rfl
    o1 := fun _ => by rw [hL]; exact F.o1 rfl
    o2 := fun _ => by rw [hL]; exact F.o2 rfl
    many := F.many
    users := fun _ => by rw [hL]; exact F.users rfl
    ended := F.ended
    small := fun a ha => by rw [updC_ne cs _ (by omega)]; exact F.small a ha }
/-- the status of one that is taken up -/
theorem FamK.status (F : FamK n base false stands cs b0 b1 b2 s) (c : Nat) (hc : cs c = .zombie) : ((s.awoke 1 true).t.pr (pidC c)).status = (c : Int) + 1 := by
  have hc1 : pidC c ≠ 1 := by unfold pidC; omega
  simp only [Ks.awoke, Tab.turnS, Tab.setP, if_neg hc1]
  exact (F.dead c hc).2.2
theorem liveN_zero (h : ∀ c, cs c ≠ .live) : liveN n cs = 0 := by
  unfold liveN
  rw [List.length_eq_zero_iff, List.filter_eq_nil_iff]
  intro c _; simpa using h c
/-- the first one may end -/
theorem FamK.last_may (F : FamK n base false stands cs b0 b1 b2 s) (hb0 : 1 ≤ base) (hb1 : base ≤ 1000) (hl : ∀ c, cs c ≠ .live) (hz : ∀ c, cs c ≠ .zombie) : MayEnd1 (s.awoke 1 false) b0 b1 b2 where
  ik := (F.kk 1).2 (.inl ⟨rfl, rfl⟩)
  it := (F.tk 1).2 (.inl (.inl ⟨rfl, rfl⟩))
  is := by simp [Ks.awoke, Tab.turnS, Tab.setP]
  ip := by simp only [Ks.awoke, Tab.turnS, Tab.setP, if_true]; exact (F.one rfl).1
  no := fun j hj => by
    rcases (F.tk j).1 hj with (⟨rfl, _⟩ | ⟨a, rfl, ha⟩) | ⟨a, rfl, ha⟩
    · simp only [Ks.awoke, Tab.turnS, Tab.setP, if_true]; rw [(F.one rfl).1]; decide
    · exact absurd ha (hl a)
    · exact absurd ha (hz a)
  zi := F.z1 rfl
  o0 := by have := F.o0 rfl; rw [liveN_zero hl] at this; exact this
  o1 := by have := F.o1 rfl; rw [liveN_zero hl] at this; exact this
  o2 := by have := F.o2 rfl; rw [liveN_zero hl] at this; exact this
  many := F.many rfl
  u0 := by show 0 < s.r.users; rw [F.users rfl]; omega
  u1 := by show s.r.users < 1000000; rw [F.users rfl, liveN_zero hl]; omega
  ne := F.ended rfl
/-- the first one has ended -/
theorem FamK.last (F : FamK n base false stands cs b0 b1 b2 s) (st : Int) (hl : ∀ c, cs c ≠ .live) (hz : ∀ c, cs c ≠ .zombie) :
    FamK n base true false cs b0 b1 b2 ((s.awoke 1 false).ended1 st) where
  most := F.most
  tk := fun i => by
    show i ∈ (s.t.m.del 1).keys ↔ _
    rw [PMap.mem_del, F.tk i]
    unfold knownPid alivePid
    constructor
    · rintro ⟨(⟨h, _⟩ | ⟨c, _, hc⟩) | ⟨c, _, hc⟩, hn⟩
      · exact absurd h hn
      · exact absurd hc (hl c)
      · exact absurd hc (hz c)
    · rintro ((⟨_, h⟩ | ⟨c, _, hc⟩) | ⟨c, _, hc⟩)
      · cases h
      · exact absurd hc (hl c)
      · exact absurd hc (hz c)
  kk := fun i => by
    show i ∈ (s.k.m.del 1).keys ↔ _
    rw [PMap.mem_del, F.kk i]
    unfold alivePid
    constructor
    · rintro ⟨⟨h, _⟩ | ⟨c, _, hc⟩, hn⟩
      · exact absurd h hn
      · exact absurd hc (hl c)
    · rintro (⟨_, h⟩ | ⟨c, _, hc⟩)
      · cases h
      · exact absurd hc (hl c)
  one := fun h => by cases h
  waits := fun h => by cases h
  live := fun c hc => absurd hc (hl c)
  dead := fun c hc => absurd hc (hz c)
  z1 := fun h => by cases h
  zl := fun c hc => absurd hc (hl c)
  zu := fun c hc => by
    have hc1 : pidC c ≠ 1 := by unfold pidC; omega
    show (if pidC c = 1 then some (List.replicate 16 none ++ stdSlots.drop 16) else s.x.zs (pidC c)) = _
    rw [if_neg hc1]; exact F.zu c hc
  o0 := fun h => by cases h
  o1 := fun h => by cases h
  o2 := fun h => by cases h
  many := fun h => by cases h
  users := fun h => by cases h
  ended := fun h => by cases h
  small := F.small
theorem FamK.last_hno (F : FamK n base false stands cs b0 b1 b2 s) (st : Int) (hl : ∀ c, cs c ≠ .live) (hz : ∀ c, cs c ≠ .zombie) : ∀ j ∈ ((s.awoke 1 false).ended1 st).k.m.keys, (((s.awoke 1 false).ended1 st).k.pc j).waits = true ∨ ((s.awoke 1 false).ended1 st).t.stateOf j ≠ 2 := fun j hj => by
  rcases ((F.last st hl hz).kk j).1 hj with ⟨_, h⟩ | ⟨c, _, hc⟩
  · cases h
  · exact absurd hc (hl c)
/-- who is ready -/
theorem FamK.ready_iff (F : FamK n base gone stands cs b0 b1 b2 s) (i : Int) : i ∈ s.t.ready ↔ (i = 1 ∧ gone = false ∧ stands = false) ∨ ∃ c, i = pidC c ∧ cs c = .live := by
  unfold Tab.ready
  rw [List.mem_mergeSort, List.mem_filter]
  constructor
  · rintro ⟨hk, hs⟩
    simp only [decide_eq_true_eq] at hs
    rcases (F.tk i).1 hk with (⟨rfl, h⟩ | ⟨c, rfl, hc⟩) | ⟨c, rfl, hc⟩
    · rw [(F.one h).2] at hs
      refine .inl ⟨rfl, h, ?_⟩
      cases stands
      · rfl
      · cases hs
    · exact .inr ⟨c, rfl, hc⟩
    · rw [(F.dead c hc).2.1] at hs; cases hs
  · rintro (⟨rfl, h, h2⟩ | ⟨c, rfl, hc⟩)
    · exact ⟨(F.tk 1).2 (.inl (.inl ⟨rfl, h⟩)), by rw [(F.one h).2, h2]; decide⟩
    · exact ⟨(F.tk _).2 (.inl (.inr ⟨c, rfl, hc⟩)), by rw [(F.live c hc).2]; decide⟩
theorem nodup_bounded : ∀ (N : Nat) {l : List Int}, l.Nodup → (∀ i ∈ l, 0 ≤ i ∧ i < (N : Int)) → l.length ≤ N
  | 0, l, _, hb => by
    cases l with
    | nil => simp
    | cons a l => have := hb a (by simp); omega
  | N + 1, l, h, hb => by
    have := nodup_bounded N (l := l.erase (N : Int)) (h.erase _) (fun i hi => by
      have h1 := hb i (List.mem_of_mem_erase hi)
      have h2 := ((h.mem_erase_iff).1 hi).1
      omega)
    have h2 : l.length ≤ (l.erase (N : Int)).length + 1 := by
      rw [List.length_erase]; split <;> omega
    omega
end
end Go.Proofs.YtelohloaoocoaaaGreatDoor
/- the family as a plain machine: what is kept by each step, its measure, and what it will yet do. -/
namespace Go.Proofs.YtelohloaoocoaaaGreatDoor
open Go.RowKit IntWalk
set_option linter.unusedVariables false
set_option linter.unusedSimpArgs false

/-- a sum of so many -/
def sumN : Nat → (Nat → Nat) → Nat
  | 0, _ => 0
  | n + 1, g => sumN n g + g n
theorem sumN_congr : ∀ {n : Nat} {g g' : Nat → Nat}, (∀ a, a < n → g' a = g a) → sumN n g' = sumN n g
  | 0, _, _, _ => rfl
  | n + 1, g, g', h => by rw [sumN, sumN, sumN_congr (fun a ha => h a (by omega)), h n (by omega)]
theorem sumN_upd : ∀ {n c : Nat} {g g' : Nat → Nat}, c < n → (∀ a, a ≠ c → g' a = g a) → sumN n g' + g c = sumN n g + g' c
  | 0, c, _, _, h, _ => by omega
  | n + 1, c, g, g', h, he => by
    rw [sumN, sumN]
    by_cases hc : c = n
    · subst hc
      rw [sumN_congr (g := g) (g' := g') (fun a ha => he a (by omega))]; omega
    · have := sumN_upd (n := n) (c := c) (by omega) he
      rw [he n (by omega)]; omega
theorem sumN_le {K : Nat} : ∀ {n : Nat} {g : Nat → Nat}, (∀ a, a < n → g a ≤ K) → sumN n g ≤ n * K
  | 0, _, _ => by simp [sumN]
  | n + 1, g, h => by
    have := sumN_le (n := n) (g := g) (fun a ha => h a (by omega))
    have := h n (by omega)
    rw [sumN, Nat.succ_mul]; omega
theorem sumN_full {cs : Nat → Kid} : ∀ {n : Nat}, n ≤ sumN n (fun c => if cs c = .taken then 1 else 0) → ∀ c, c < n → cs c = .taken
  | 0, _, c, hc => by omega
  | n + 1, h, c, hc => by
    have hb := sumN_le (K := 1) (n := n) (g := fun c => if cs c = .taken then 1 else 0) (fun a _ => by split <;> omega)
    rw [sumN] at h
    have hn : cs n = .taken := by
      by_cases q : cs n = .taken
      · exact q
      · rw [if_neg q] at h; omega
    rw [if_pos hn] at h
    by_cases q : c = n
    · rw [q]; exact hn
    · exact sumN_full (n := n) (by omega) c (by omega)
def takenN (n : Nat) (cs : Nat → Kid) : Nat := sumN n fun c => if cs c = .taken then 1 else 0
def takenS (n : Nat) (cs : Nat → Kid) : Nat := sumN n fun c => if cs c = .taken then c + 1 else 0
theorem takenS_le {n : Nat} (cs : Nat → Kid) (h : n ≤ 8) : takenS n cs ≤ 64 := by
  have := sumN_le (K := 8) (n := n) (g := fun c => if cs c = .taken then c + 1 else 0) (fun a ha => by split <;> omega)
  unfold takenS; omega
theorem takenN_le (n : Nat) (cs : Nat → Kid) : takenN n cs ≤ n := by
  have := sumN_le (K := 1) (n := n) (g := fun c => if cs c = .taken then 1 else 0) (fun a ha => by split <;> omega)
  unfold takenN; omega
theorem taken_same {n t : Nat} {cs : Nat → Kid} {k : Kid} (h1 : cs t ≠ .taken) (h2 : k ≠ .taken) : takenN n (updC cs t k) = takenN n cs ∧ takenS n (updC cs t k) = takenS n cs := by
  constructor <;>
  · refine sumN_congr fun a _ => ?_
    by_cases h : a = t
    · subst h; rw [updC_at, if_neg h1, if_neg h2]
    · rw [updC_ne cs _ h]
theorem taken_more {n t : Nat} {cs : Nat → Kid} (ht : t < n) (h1 : cs t ≠ .taken) : takenN n (updC cs t .taken) = takenN n cs + 1 ∧ takenS n (updC cs t .taken) = takenS n cs + (t + 1) := by
  constructor
  · have := sumN_upd (n := n) (c := t) (g := fun c => if cs c = .taken then 1 else 0) (g' := fun c => if updC cs t .taken c = .taken then 1 else 0) ht (fun a h => by simp only [updC_ne cs _ h])
    simp only [updC_at, if_pos, if_neg h1] at this
    unfold takenN; omega
  · have := sumN_upd (n := n) (c := t) (g := fun c => if cs c = .taken then c + 1 else 0) (g' := fun c => if updC cs t .taken c = .taken then c + 1 else 0) ht (fun a h => by simp only [updC_ne cs _ h])
    simp only [updC_at, if_pos, if_neg h1] at this
    unfold takenS; omega

/-- what a family begins with -/
structure Par where
  tl : List (List UInt8)
  pieces : Int
  base : Int
  b0 : Nat
  b1 : Nat
  b2 : Nat
  gs : Hr
abbrev Par.n (p : Par) : Nat := p.tl.length
structure Par.Ok (p : Par) : Prop where
  n8 : p.n ≤ 8
  len : ∀ (c : Nat) (t : List UInt8), p.tl[c]? = some t → t.length ≤ 100
  p0 : 1 ≤ p.pieces
  p1 : p.pieces ≤ 100
  base0 : 1 ≤ p.base
  base1 : p.base ≤ 1000
/-- how far a family is: children born, children taken up, whether the parent has gone, stands in its call, sleeps; each child, and what it has yet to write -/
structure Fam where
  t : Nat
  k : Nat
  gone : Bool
  st : Bool
  blk : Bool
  cs : Nat → Kid
  rem : Nat → List UInt8
structure ParentOk (p : Par) (f : Fam) (q : Qs) : Prop where
  re : q.re = 0
  rm0 : 0 ≤ q.rm
  rn : f.k = 0 → 1 ≤ f.t → q.rn ≠ 0
  child : q.fp.child = false
  own : q.fp.own = none
  tl : q.fp.tl = p.tl
  pieces : q.fp.pieces = p.pieces
  step : q.fp.step = (f.t : Int) + f.k + if f.st then 1 else 0
  s0 : 0 ≤ q.fp.sum
  sum : f.st = false → q.fp.sum + q.rm = takenS p.n f.cs
  sumS : f.st = true → q.fp.sum = takenS p.n f.cs
  st : q.st = f.st
  call : f.st = true → q.ck = 9 ∧ q.cf = 0 ∧ q.cd = []
structure ChildOk (p : Par) (c : Nat) (rem : List UInt8) (q : Qs) : Prop where
  re : q.re = 0
  st : q.st = false
  pieces : q.fp.pieces = p.pieces
  len : rem.length ≤ 100
  how : (q.rn = 0 ∧ q.fp.child = false ∧ q.fp.step = (c : Int) + 1 ∧ q.fp.tl[c]? = some rem) ∨
    ∃ (tt : List UInt8) (rn : Nat), q.rn = (rn : Int) ∧ q.fp.child = true ∧ q.fp.at_ = (c : Int) ∧ 2 ≤ q.fp.step ∧ q.fp.step + rem.length ≤ 200 ∧ q.fp.tl[c]? = some tt ∧ rn ≤ tt.length ∧ tt.length ≤ 100 ∧ rem = tt.drop rn
structure Inv (p : Par) (f : Fam) (s : Ks) (x : Wx) : Prop where
  F : FamK p.n p.base f.gone f.blk f.cs p.b0 p.b1 p.b2 s
  tn : f.t ≤ p.n
  born : ∀ c, f.cs c = .unborn ↔ f.t ≤ c
  kn : f.k = takenN p.n f.cs
  late : f.k ≠ 0 ∨ f.st = true ∨ f.gone = true → f.t = p.n
  stand : f.st = true → f.k < p.n ∧ ((f.blk = true ∧ ∀ c, f.cs c ≠ .zombie) ∨ (f.blk = false ∧ ∃ c, f.cs c = .zombie))
  awake : f.st = false → f.blk = false
  done : f.gone = true → f.st = false ∧ f.k = p.n ∧ s.k.status = takenS p.n f.cs ∧ s.k.ended = true ∧ s.x.many = 0
  xk : ∀ i, i ∈ x.m.keys ↔ alivePid f.gone f.cs i
  ol : x.ol = p.tl
  par : f.gone = false → ParentOk p f (x.qs 1)
  kid : ∀ c, f.cs c = .live → ChildOk p c (f.rem c) (x.qs (pidC c))
  unb : ∀ c, f.cs c = .unborn → c < p.n → p.tl[c]? = some (f.rem c)
  dead : ∀ c, f.cs c = .zombie ∨ f.cs c = .taken → f.rem c = []
  out : ∀ b, s.h.out.count b + sumN p.n (fun c => (f.rem c).count b) = sumN p.n (fun c => (p.tl.getD c []).count b)
  outl : s.h.out.length + sumN p.n (fun c => (f.rem c).length) ≤ 800
  gs : s.h.gs = p.gs
/-- how much is left to do -/
def wOf (k : Kid) (r : List UInt8) : Nat := match k with
  | .unborn => r.length + 1
  | .live => r.length + 1
  | _ => 0
def Fam.mu (f : Fam) (n : Nat) : Nat := (n - f.t) + (2 * (n - f.k) - (if f.st then 1 else 0)) + (if f.gone then 0 else 1) + sumN n fun c => wOf (f.cs c) (f.rem c)
section
variable {p : Par} {f : Fam} {s : Ks} {x : Wx}
theorem Inv.cn (h : Inv p f s x) {c : Nat} (hc : f.cs c ≠ .unborn) : c < p.n := by
  rcases Nat.lt_or_ge c p.n with q | q
  · exact q
  · exact absurd (h.F.small c q) hc
theorem Inv.mu_le (h : Inv p f s x) (hp : p.Ok) : f.mu p.n ≤ 900 := by
  have := hp.n8
  have h2 : sumN p.n (fun c => wOf (f.cs c) (f.rem c)) ≤ sumN p.n (fun c => (f.rem c).length) + p.n := by
    generalize p.n = n
    induction n with
    | zero => simp [sumN]
    | succ n ih =>
      rw [sumN, sumN]
      have : wOf (f.cs n) (f.rem n) ≤ (f.rem n).length + 1 := by unfold wOf; split <;> omega
      omega
  have h3 := h.outl
  unfold Fam.mu
  split <;> split <;> omega

/-- a fork -/
def Fam.fork (f : Fam) : Fam := { f with t := f.t + 1, cs := updC f.cs f.t .live, blk := false }
theorem Inv.fork (h : Inv p f s x) (hp : p.Ok) (hg : f.gone = false) (hs : f.st = false) (ht : f.t < p.n) (z : Nat) :
    Inv p f.fork ((s.awoke 1 false).forked 1 (pidC f.t) stdSlots z)
      ((x.setQ 1 (((((x.qs 1).withFp { (x.qs 1).fp with step := (x.qs 1).fp.step + 1 }).asks 7 0 []).stood false).told 0 (pidC f.t) 0)).forkQ 1 (pidC f.t)) := by
  have hu : f.cs f.t = .unborn := (h.born _).2 (Nat.le_refl _)
  have hk0 : f.k = 0 := by
    rcases Nat.eq_zero_or_pos f.k with q | q
    · exact q
    · have := h.late (.inl (by omega)); omega
  have hc1 : ∀ c, pidC c ≠ 1 := fun c => by unfold pidC; omega
  have hne : ∀ a c, a ≠ c → pidC a ≠ pidC c := fun a c h e => h (pidC_inj e)
  have P := h.par hg
  have TS := taken_same (n := p.n) (t := f.t) (cs := f.cs) (k := .live) (by rw [hu]; simp) (by simp)
  have hF := h.F
  rw [hg, h.awake hs] at hF
  have hq : pidC f.t ∉ x.m.keys := fun q => by
    rcases (h.xk _).1 q with ⟨q, _⟩ | ⟨c, q, hc⟩
    · exact hc1 _ q
    · rw [pidC_inj q] at hu; rw [hu] at hc; cases hc
  refine
   { F := by rw [show f.fork.gone = false from hg]; exact hF.forked f.t ht hu z
     tn := ht
     born := fun c => ?_
     kn := by show f.k = _; rw [h.kn]; exact TS.1.symm
     late := fun q => ?_
     stand := fun q => by rw [show f.fork.st = f.st from rfl, hs] at q; cases q
     awake := fun _ => rfl
     done := fun q => by rw [show f.fork.gone = f.gone from rfl, hg] at q; cases q
     xk := fun i => ?_
     ol := h.ol
     par := fun _ => ?_
     kid := fun c hc => ?_
     unb := fun c hc hn => ?_
     dead := fun c hc => ?_
     out := h.out
     outl := h.outl
     gs := h.gs }
  · show updC f.cs f.t .live c = _ ↔ f.t + 1 ≤ c
    by_cases q : c = f.t
    · subst q; rw [updC_at]; simp
    · rw [updC_ne _ _ q, h.born]; omega
  · rw [show f.fork.k = f.k from rfl, show f.fork.st = f.st from rfl, show f.fork.gone = f.gone from rfl, hs, hg] at q
    rcases q with q | q | q
    · exact absurd hk0 q
    · cases q
    · cases q
  · show i ∈ (x.m.add (pidC f.t)).keys ↔ _
    rw [PMap.mem_add, h.xk i]
    exact (alive_upd (by rw [hu]; simp) i).symm
  · have e1 : ((x.setQ 1 (((((x.qs 1).withFp { (x.qs 1).fp with step := (x.qs 1).fp.step + 1 }).asks 7 0 []).stood false).told 0 (pidC f.t) 0)).forkQ 1 (pidC f.t)).qs 1 = ((((x.qs 1).withFp { (x.qs 1).fp with step := (x.qs 1).fp.step + 1 }).asks 7 0 []).stood false).told 0 (pidC f.t) 0 := by
      simp [Wx.forkQ, Wx.setQ, Ne.symm (hc1 f.t)]
    rw [e1]
    have hst := P.step
    have hsu := P.sum hs
    have h0 : takenS p.n f.cs = 0 := by
      have : takenN p.n f.cs = 0 := by rw [← h.kn]; exact hk0
      have hz : ∀ c, f.cs c ≠ .taken := fun c hc => by
        have hcn := h.cn (c := c) (by rw [hc]; simp)
        have := sumN_upd (n := p.n) (c := c) (g := fun c => if f.cs c = .taken then 1 else 0) (g' := fun a => if a = c then 0 else if f.cs a = .taken then 1 else 0) hcn (fun a q => by simp only [if_neg q])
        simp only [hc, if_true] at this
        unfold takenN at *
        omega
      unfold takenS
      rw [sumN_congr (g := fun _ => 0) (fun a _ => if_neg (hz a))]
      have := sumN_le (n := p.n) (K := 0) (g := fun _ => 0) (fun _ _ => Nat.le_refl _)
      omega
    have hs0 := P.s0
    have hr0 := P.rm0
    exact { re := rfl, rm0 := by simp [Qs.told], rn := fun _ _ => (by show pidC f.t ≠ 0; unfold pidC; omega), child := P.child, own := P.own, tl := P.tl, pieces := P.pieces,
            step := by
              show (x.qs 1).fp.step + 1 = _
              rw [hst, show f.fork.st = f.st from rfl, hs]
              show _ = ((f.t + 1 : Nat) : Int) + f.k + _
              simp; omega
            s0 := P.s0
            sum := fun _ => by
              show (x.qs 1).fp.sum + 0 = ((takenS p.n (updC f.cs f.t .live) : Nat) : Int)
              rw [TS.2]; omega
            sumS := fun q => by rw [show f.fork.st = f.st from rfl, hs] at q; cases q
            st := hs.symm
            call := fun q => by rw [show f.fork.st = f.st from rfl, hs] at q; cases q }
  · by_cases q : c = f.t
    · subst q
      have e1 : ((x.setQ 1 (((((x.qs 1).withFp { (x.qs 1).fp with step := (x.qs 1).fp.step + 1 }).asks 7 0 []).stood false).told 0 (pidC f.t) 0)).forkQ 1 (pidC f.t)).qs (pidC f.t) = zeroQ { (x.qs 1).fp with step := (x.qs 1).fp.step + 1 } := by
        simp [Wx.forkQ, Wx.setQ, Qs.told, Qs.stood, Qs.asks, Qs.withFp]
      rw [e1]
      have hr := h.unb f.t hu ht
      exact { re := rfl, st := rfl, pieces := P.pieces, len := hp.len _ _ hr, how := .inl ⟨rfl, P.child, by
        show (x.qs 1).fp.step + 1 = _
        rw [P.step, hs, hk0]; simp, by
        show (x.qs 1).fp.tl[f.t]? = _
        rw [P.tl]; exact hr⟩ }
    · have hc' : f.cs c = .live := by
        have : updC f.cs f.t .live c = .live := hc
        rwa [updC_ne _ _ q] at this
      have e1 : ((x.setQ 1 (((((x.qs 1).withFp { (x.qs 1).fp with step := (x.qs 1).fp.step + 1 }).asks 7 0 []).stood false).told 0 (pidC f.t) 0)).forkQ 1 (pidC f.t)).qs (pidC c) = x.qs (pidC c) := by
        simp [Wx.forkQ, Wx.setQ, hne _ _ q, hc1]
      rw [e1]
      exact h.kid c hc'
  · have q : c ≠ f.t := fun q => by subst q; have : updC f.cs f.t .live f.t = .unborn := hc; rw [updC_at] at this; cases this
    have : updC f.cs f.t .live c = .unborn := hc
    rw [updC_ne _ _ q] at this
    exact h.unb c this hn
  · have q : c ≠ f.t := fun q => by
      subst q
      have : updC f.cs f.t .live f.t = .zombie ∨ updC f.cs f.t .live f.t = .taken := hc
      rw [updC_at] at this
      rcases this with q | q <;> cases q
    have : updC f.cs f.t .live c = .zombie ∨ updC f.cs f.t .live c = .taken := hc
    rw [updC_ne _ _ q] at this
    exact h.dead c this
theorem Fam.fork_mu (h : Inv p f s x) (ht : f.t < p.n) : f.fork.mu p.n < f.mu p.n := by
  have hu : f.cs f.t = .unborn := (h.born _).2 (Nat.le_refl _)
  unfold Fam.mu
  have : sumN p.n (fun c => wOf (f.fork.cs c) (f.fork.rem c)) = sumN p.n (fun c => wOf (f.cs c) (f.rem c)) := sumN_congr fun a _ => by
    show wOf (updC f.cs f.t .live a) (f.rem a) = _
    by_cases q : a = f.t
    · subst q; rw [updC_at, hu]; rfl
    · rw [updC_ne _ _ q]
  rw [this]
  show p.n - (f.t + 1) + _ + _ + _ < _
  have : f.fork.k = f.k := rfl
  rw [this, show f.fork.st = f.st from rfl, show f.fork.gone = f.gone from rfl]
  omega
end
end Go.Proofs.YtelohloaoocoaaaGreatDoor
