/- Texts: the printer: a builder within a struct. -/
import Derived.Test.YtmhgehnkhhlbkaaGreatDoorTxP
import Derived.Lib.AppendStr
import Derived.Lib.UnsafeStr
import Derived.Lib.Builder
import Derived.RegionTactic
namespace Go.Proofs.YtmhgehnkhhlbkaaGreatDoor
open Go.RowKit

/-- the printer in block pb: what it has written, the slice of texts that are left, whether it took one up -/
def Prt (base : Nat) (w : World) (pb : Nat) (out : List UInt8) (rv : Value) (took : Bool) : Prop :=
  base ≤ pb ∧ ∃ a v, w.heap[pb]? = some (.cells #[a, v, rv, .bool took] 61 (0, 0)) ∧ (a = .pointer none ∨ a = .pointer (some ⟨pb, 0, none⟩)) ∧ OwnB w base v out ∧ v.ownBlock ≠ some pb ∧ (out = [] → v = .slice none 0 0)
theorem cell_heap {w : World} {b : Nat} {cs : Array Value} {t : TypeId} (h : w.heap[b]? = some (.cells cs t (0, 0))) (i : Nat) : w.cell? ⟨b, i, none⟩ = cs[i]? := by simp [World.cell?, h]
theorem free_heap {w : World} {b : Nat} {cs : Array Value} {t : TypeId} (h : w.heap[b]? = some (.cells cs t (0, 0))) (i : Nat) : w.frozen? ⟨b, i, none⟩ = false := by simp [World.frozen?, h]
theorem lt_heap {w : World} {b : Nat} {o : Obj} (h : w.heap[b]? = some o) : b < w.heap.size := by
  rcases Nat.lt_or_ge b w.heap.size with h' | h'
  · exact h'
  · rw [Array.getElem?_eq_none h'] at h; cases h
theorem OwnB.set {w : World} {base : Nat} {v : Value} {l : List UInt8} (h : OwnB w base v l) (b j : Nat) (u : Value) (hne : v.ownBlock ≠ some b) : OwnB (w.setCell ⟨b, j, none⟩ u) base v l :=
  h.other (r := some b) ⟨rfl, rfl, rfl, by simp [World.setCell], fun k _ hk => heap_setCell_other w ⟨b, j, none⟩ k u (fun e => hk (by rw [e]))⟩ (.inr hne)
set_option maxRecDepth 100000 in
theorem pcopy_used (pb : Nat) (w : World) (h0 : w.cell? ⟨pb, 0, none⟩ = some (.pointer (some ⟨pb, 0, none⟩))) : Calls Tryz.prog 44 #[.pointer (some ⟨pb, 0, none⟩)] w fun e w' => e = .returned (.tuple #[]) ∧ w = w' := by
  obtain ⟨j, hj, hjs⟩ : ∃ j, Tryz.prog.info? 48 = some j ∧ j.size = 2 := by
    have : (Tryz.prog.info? 48).map (·.size) = some 2 := by kernel_rfl
    exact Option.map_eq_some_iff.1 this
  have hu1 : Tryz.prog.underlying 45 = some (.pointer 48) := by kernel_rfl
  go_enter Tryz.func44, Tryz.ntmps44
  go_wp2_with fail
  rw [Lib.run_neq_ptr_same w _ hu1 hj]
  go_wp2_with fail
  go_end0
  exact ⟨rfl, rfl⟩
set_option maxRecDepth 100000 in
theorem pcopy_fresh (pb : Nat) (w : World) (h0 : w.cell? ⟨pb, 0, none⟩ = some (.pointer none)) (hsh : w.shape? pb = some (61, 4)) (hfz : w.frozen? ⟨pb, 0, none⟩ = false) :
    Calls Tryz.prog 44 #[.pointer (some ⟨pb, 0, none⟩)] w fun e w' => e = .returned (.tuple #[]) ∧ w' = w.setCell ⟨pb, 0, none⟩ (.pointer (some ⟨pb, 0, none⟩)) := by
  obtain ⟨j, hj, hjs⟩ : ∃ j, Tryz.prog.info? 48 = some j ∧ j.size = 2 := by
    have : (Tryz.prog.info? 48).map (·.size) = some 2 := by kernel_rfl
    exact Option.map_eq_some_iff.1 this
  have hu1 : Tryz.prog.underlying 45 = some (.pointer 48) := by kernel_rfl
  have hu2 : Tryz.prog.underlying 94 = some .unsafePointer := by kernel_rfl
  have hlies : liesAt Tryz.prog Tryz.prog.depth 61 (4 / Tryz.prog.cellsOf 61) 0 48 1 = true := by kernel_rfl
  go_enter Tryz.func44, Tryz.ntmps44
  go_wp2_with fail
  rw [Lib.run_to_unsafe w ⟨pb, 0, none⟩ hu1 hu2 hj (by rw [hjs]; decide) hsh (show (0 : Nat) < 4 by decide)]
  simp only [Result.andThen]
  rw [Oper.upon_value]
  go_wp2_with fail
  rw [run_callFunc_extern Tryz.func59 (by kernel_rfl) (by kernel_rfl) (by kernel_rfl) (e := Extern.AbiNoEscape.same) (by kernel_rfl)]
  rw [Lib.run_noEscape]
  simp only [Result.andThen]
  rw [Oper.upon_value]
  go_wp2_with fail
  rw [Lib.run_from_unsafe w ⟨pb, 0, none⟩ hu2 hu1 hj hsh hlies]
  simp only [Result.andThen]
  rw [Oper.upon_value]
  go_wp2_with fail
  go_end0
  exact ⟨rfl, rfl⟩
theorem pcopy_any (base pb : Nat) (w : World) (out : List UInt8) (rv : Value) (took : Bool) (h : Prt base w pb out rv took) :
    Calls Tryz.prog 44 #[.pointer (some ⟨pb, 0, none⟩)] w fun e w' => e = .returned (.tuple #[]) ∧ Prt base w' pb out rv took ∧ Below base w w' := by
  obtain ⟨hb, a, v, hp, ha, hown, hne, hnil⟩ := h
  rcases ha with rfl | rfl
  · refine (pcopy_fresh pb w (by rw [cell_heap hp]; rfl) (by simp [World.shape?, hp]) (free_heap hp 0)).mono ?_
    rintro e w' ⟨rfl, rfl⟩
    refine ⟨rfl, ⟨hb, _, v, by rw [heap_setCell_same w pb 0 _ _ _ hp]; rfl, .inr rfl, hown.set _ _ _ hne, hne, hnil⟩, below_set (Below.refl _ _) hb _⟩
  · refine (pcopy_used pb w (by rw [cell_heap hp]; rfl)).mono ?_
    rintro e w' ⟨rfl, rfl⟩
    exact ⟨rfl, ⟨hb, _, v, hp, .inr rfl, hown, hne, hnil⟩, Below.refl _ _⟩
theorem own_str {w : World} {base : Nat} {v : Value} {out l : List UInt8} (h : w.ownsRow base 5 1 v (out.length + (ByteArray.mk l.toArray).size) ((out.map fun c => Value.int .u8 c.toNat) ++ Lib.strCells ⟨l.toArray⟩)) : OwnB w base v (out ++ l) := by
  rw [str_size] at h
  simpa [OwnB, Lib.strCells] using h
theorem own_ne {w : World} {base b : Nat} {v : Value} {l : List UInt8} {cs : Array Value} {t : TypeId} (h : OwnB w base v l) (hp : w.heap[b]? = some (.cells cs t (0, 0))) (ht : t ≠ 5) : v.ownBlock ≠ some b := by
  obtain ⟨hxs, hr⟩ := h
  rcases hr with ⟨rfl, hn⟩ | ⟨g, cap, cur, rfl, _, hg, _⟩
  · exact fun e => by cases e
  · intro e
    have e2 : g = b := by cases e; rfl
    rw [e2, hp] at hg
    cases hg
    exact ht rfl
theorem nil_str {out l : List UInt8} {v v1 : Value} (hnil : out = [] → v = .slice none 0 0) (hiff : v1 = .slice none 0 0 ↔ v = .slice none 0 0 ∧ (ByteArray.mk l.toArray).size = 0) : out ++ l = [] → v1 = .slice none 0 0 := by
  intro e
  rw [List.append_eq_nil_iff] at e
  exact hiff.2 ⟨hnil e.1, by rw [str_size, e.2]; rfl⟩
theorem prt_app {base pb : Nat} {w w1 w2 : World} {a v v1 rv : Value} {took : Bool} {out out' : List UInt8} (hb : base ≤ pb) (hp : w1.heap[pb]? = some (.cells #[a, v, rv, .bool took] 61 (0, 0)))
    (ha : a = .pointer none ∨ a = .pointer (some ⟨pb, 0, none⟩)) (hne : v.ownBlock ≠ some pb) (hown : OwnB w1 base v out) (hB1 : Below base w w1) (hs : base ≤ w1.heap.size) (hown1 : OwnB w2 base v1 out') (hg : w1.grownBy w2 v.ownBlock) (hnil : out' = [] → v1 = .slice none 0 0) :
    ∃ a1 n1 c1, v1 = .slice a1 n1 c1 ∧ w2.cell? ⟨pb, 1, none⟩ = some v ∧ w2.frozen? ⟨pb, 1, none⟩ = false ∧ Prt base (w2.setCell ⟨pb, 1, none⟩ v1) pb out' rv took ∧ Below base w (w2.setCell ⟨pb, 1, none⟩ v1) := by
  have hB2 := below_own hB1 hown hg hs
  have hp2 : w2.heap[pb]? = some (.cells #[a, v, rv, .bool took] 61 (0, 0)) := by rw [hg.block pb (lt_heap hp) (fun e => hne e.symm)]; exact hp
  have hne2 := own_ne hown1 hp2 (by decide)
  obtain ⟨a1, c1, hv1⟩ := hown1.len
  exact ⟨a1, _, c1, hv1, by rw [cell_heap hp2]; rfl, free_heap hp2 1, ⟨hb, a, v1, by rw [heap_setCell_same w2 pb 1 _ _ _ hp2]; rfl, ha, hown1.set _ _ _ hne2, hne2, hnil⟩, below_set hB2 hb _⟩
set_option maxRecDepth 100000 in
theorem pbyte_any (base pb : Nat) (w : World) (out : List UInt8) (rv : Value) (took : Bool) (c : UInt8) (hl : out.length + 1 ≤ 100000000000) (h : Prt base w pb out rv took) :
    Calls Tryz.prog 49 #[.pointer (some ⟨pb, 0, none⟩), .int .u8 c.toNat] w fun e w' => e = .returned .nilIface ∧ Prt base w' pb (out ++ [c]) rv took ∧ Below base w w' := by
  have H := Lib.hid (pcopy_any base pb w out rv took h)
  go_enter Tryz.func49, Tryz.ntmps49
  go_wp2_with fail
  refine H.out.mono ?_
  rintro e w1 ⟨rfl, ⟨hb, a, v, hp, ha, hown, hne, hnil⟩, hB1⟩
  have hs1 : base ≤ w1.heap.size := by have := lt_heap hp; omega
  have c1 : w1.cell? ⟨pb, 1, none⟩ = some v := by rw [cell_heap hp]; rfl
  go_wp2_with (at_builtin; refine append_lit rfl _ _ rfl base _ _ rfl hown [c] _ rfl 1 rfl rfl (by first | omega | (simp; omega)) hs1 ?_; intro v1 w2 hown1 hg1; obtain ⟨a1, n1, k1, rfl, c2, hf2, hP, hB⟩ := prt_app hb hp ha hne hown hB1 hs1 hown1 hg1 (fun e => absurd e (by simp)); clear hnil)
  go_ret
  exact ⟨rfl, hP, hB⟩
set_option maxRecDepth 100000 in
theorem pstr_any (base pb : Nat) (w : World) (out : List UInt8) (rv : Value) (took : Bool) (l : List UInt8) (hl : out.length + l.length ≤ 100000000000) (h : Prt base w pb out rv took) :
    Calls Tryz.prog 24 #[.pointer (some ⟨pb, 0, none⟩), .string ⟨l.toArray⟩] w fun e w' => e = .returned (.tuple #[.int .i64 l.length, .nilIface]) ∧ Prt base w' pb (out ++ l) rv took ∧ Below base w w' := by
  have H := Lib.hid (pcopy_any base pb w out rv took h)
  obtain ⟨i0, hi, hz0, hz1, hz2⟩ := info_parts info_u8
  go_enter Tryz.func24, Tryz.ntmps24
  go_wp2_with fail
  refine H.out.mono ?_
  rintro e w1 ⟨rfl, ⟨hb, a, v, hp, ha, hown, hne, hnil⟩, hB1⟩
  have hs1 : base ≤ w1.heap.size := by have := lt_heap hp; omega
  have c1 : w1.cell? ⟨pb, 1, none⟩ = some v := by rw [cell_heap hp]; rfl
  have hlm : out.length + (ByteArray.mk l.toArray).size ≤ maxLen := by rw [str_size]; unfold maxLen; omega
  have hlm2 : out.length + (ByteArray.mk l.toArray).size ≤ 140737488355328 := by rw [str_size]; omega
  go_wp2_with (at_builtin; refine Lib.wpList_append_own_string _ rfl _ _ 46 9 rfl base 5 i0 (by kernel_rfl) (by kernel_rfl) hi hz0 hz1 hz2 _ _ _ rfl hown ⟨l.toArray⟩ rfl hlm hlm2 hs1 ?_; intro v1 w2 hown1' hg1 hiff; have hown1 : OwnB w2 base v1 (out ++ l) := own_str hown1'; obtain ⟨a1, n1, k1, rfl, c2, hf2, hP, hB⟩ := prt_app hb hp ha hne hown hB1 hs1 hown1 hg1 (nil_str hnil hiff); clear hown1' hiff hnil)
  go_ret2
  exact ⟨rfl, hP, hB⟩
set_option maxRecDepth 100000 in
set_option maxHeartbeats 1600000 in
theorem pout_any (base pb : Nat) (w : World) (out : List UInt8) (rv : Value) (took : Bool) (hl : out.length ≤ 100000000000) (h : Prt base w pb out rv took) :
    Calls Tryz.prog 25 #[.pointer (some ⟨pb, 0, none⟩)] w fun e w' => e = .returned (.string ⟨out.toArray⟩) ∧ Below base w w' := by
  obtain ⟨hb, a, v, hp, ha, hown, hne, hnil⟩ := h
  by_cases h0 : out = []
  · subst h0
    obtain rfl := hnil rfl
    have hUS : ∀ W : World, (Builtin.unsafeString_ #[76, 3] 9 #[.pointer none, .int .i64 0]).run Tryz.prog W = .ok (.string .empty) W := fun W => Lib.run_unsafeString_none W _ _ _ none
    have hSD : ∀ W : World, (Builtin.unsafeSliceData_ #[46] 76 #[.slice none 0 0]).run Tryz.prog W = .ok (.pointer none) W := fun W => rfl
    have c1 : w.cell? ⟨pb, 1, none⟩ = some (.slice none 0 0) := by rw [cell_heap hp]; rfl
    clear hnil hown hp
    go_enter Tryz.func25, Tryz.ntmps25
    go_wp2_with fail
    go_region
    all_goals
      go_wp2_with fail
      go_ret
      exact ⟨rfl, (Below.refl _ _).drew⟩
  · obtain ⟨g, cap, rfl, hbg, hglt, hcs, hfz⟩ := hown.at h0
    have hrow : ∃ cur, w.heap[g]? = some (.cells cur 5 (0, 0)) ∧ out.length ≤ cur.size := by
      obtain ⟨hxs, hr⟩ := hown
      rcases hr with ⟨hv, _⟩ | ⟨g', cap', cur, hv, _, hg, hnc, _, hcz, _⟩
      · cases hv
      · cases hv; exact ⟨cur, hg, by omega⟩
    obtain ⟨cur, hg, hcl⟩ := hrow
    have hlc : out.length ≤ cap := by
      obtain ⟨hxs, hr⟩ := hown
      rcases hr with ⟨hv, _⟩ | ⟨g', cap', cur', hv, _, _, hnc, _⟩
      · cases hv
      · cases hv; exact hnc
    have hlp : 0 < out.length := List.length_pos_iff.2 h0
    have hSD : (Builtin.unsafeSliceData_ #[46] 76 #[.slice (some ⟨g, 0, none⟩) out.length cap]).run Tryz.prog w.drew = .ok (.pointer (some ⟨g, 0, none⟩)) w.drew :=
      Lib.run_unsafeSliceData_row _ _ _ _ _ _ (by omega)
    have hUS : (Builtin.unsafeString_ #[76, 3] 9 #[.pointer (some ⟨g, 0, none⟩), .int .i64 out.length]).run Tryz.prog w.drew = .ok (.string ⟨out.toArray⟩) (w.drew.freeze ⟨g, 0, none⟩ out.length) := by
      refine Lib.run_unsafeString_row w.drew 76 3 9 5 (by kernel_rfl) (by kernel_rfl) g cur.size (by have hg' : w.drew.heap[g]? = some (.cells cur 5 (0, 0)) := hg; simp [World.shape?, hg']) out h0 hcl (by omega) ?_
      intro j x hx
      have e : (⟨g, 0, none⟩ : Addr).add j = ⟨g, j, none⟩ := by unfold Addr.add; split <;> simp_all
      rw [e]
      exact hcs j x hx
    have c1 : w.cell? ⟨pb, 1, none⟩ = some (.slice (some ⟨g, 0, none⟩) out.length cap) := by rw [cell_heap hp]; rfl
    obtain ⟨n, hn⟩ : ∃ n, out.length = n := ⟨_, rfl⟩
    rw [hn] at hSD hUS c1
    have hB := below_freeze ((Below.refl base w).drew) ⟨g, 0, none⟩ n hbg
    clear hnil hown hp hn hcs hfz hg hcl h0
    go_enter Tryz.func25, Tryz.ntmps25
    go_wp2_with fail
    go_region
    all_goals
      go_wp2_with fail
      go_ret
      exact ⟨rfl, hB⟩
end Go.Proofs.YtmhgehnkhhlbkaaGreatDoor
