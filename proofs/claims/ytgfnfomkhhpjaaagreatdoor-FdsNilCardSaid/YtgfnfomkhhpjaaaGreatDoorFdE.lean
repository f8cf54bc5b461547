/- Fds: which numbers are open, which are free; forks. -/
import Derived.Test.YtgfnfomkhhpjaaaGreatDoorFdD
import Derived.Deep.MidRow
namespace Go.Proofs.YtgfnfomkhhpjaaaGreatDoor
open Go.RowKit

def tabL (tab : Nat → Option Addr) : List Value := (List.range 16).map fun i => Value.pointer (tab i)
theorem tabL_len (tab) : (tabL tab).length = 16 := by simp [tabL]
theorem tabL_at (tab : Nat → Option Addr) (i : Nat) (h : i < 16) : (tabL tab)[i]? = some (.pointer (tab i)) := by simp [tabL, h]
/-- what is read of a whole table -/
theorem tab_load {S F tab} {ops : Array Oper} {rest : List Oper} {op : Oper} {a : Act} {w : World} {Q : Exit → Act → World → Prop} (hS : SetIs w S F tab) (A : Array Value) (hA : (tabL tab).toArray = A) (hgd : op.guard = none) (x : Operand) (ho : op.op = .load 54 x)
    (hx : a.eval x = .pointer (some ⟨S, 1, none⟩)) (h : wpList Tryz.prog ops Q rest (a.put op.dst (.agg A)) w) : wpList Tryz.prog ops Q (op :: rest) a w := by
  subst hA
  exact wpList_load_mid hgd 54 x ho S 1 hx (tabL tab) (.array 16 53) (fun j v hj => by
    have hj16 : j < 16 := by have := (List.getElem?_eq_some_iff.1 hj).1; rw [tabL_len] at this; exact this
    rw [tabL_at tab j hj16] at hj
    cases hj
    exact hS.fd j hj16) (by kernel_rfl) rfl (by rw [tabL_len]; kernel_rfl) h
theorem tab_index (A : Array Value) (v : Option Addr) (k : Nat) (hk : k < 16) (hA : A[k]? = some (.pointer v)) (w : World) : (Instr.index 54 (.agg A) (.int .i64 k)).run Tryz.prog w = .ok (.pointer v) w := by
  have hu : Tryz.prog.underlying 54 = some (.array 16 53) := by kernel_rfl
  have hi : (Tryz.prog.info? 53).map (fun i => (i.zero, i.size, i.bytes)) = some (some (.pointer none), 1, 8) := by kernel_rfl
  obtain ⟨i0, hi0, hz0, hz1, hz2⟩ := info_parts hi
  have hk1 : (k : Int) < 16 := by omega
  simp [Instr.index, run_underlying hu, part, sizeOf, typeInfo, hi0, hz1, hA, asIntOf]
  intro h; omega
set_option maxRecDepth 100000 in
theorem list_empty {S F tab} (w : World) (hS : SetIs w S F tab) (ht : ∀ i, i < 16 → tab i = none) : Calls Tryz.prog 18 #[.pointer (some ⟨S, 0, none⟩)] w fun e w' => e = .returned (.slice none 0 0) ∧ w = w' := by
  obtain ⟨A, hA⟩ : ∃ A : Array Value, (tabL tab).toArray = A := ⟨_, rfl⟩
  have HA := Lib.hid (show ∀ i, i < 16 → A[i]? = some (.pointer none) from fun i hi => by rw [← hA, List.getElem?_toArray, tabL_at tab i hi, ht i hi])
  have hsz : A.size = 16 := by rw [← hA]; simp [tabL]
  have HA0 := Lib.hid hA
  clear hA ht
  go_enter Tryz.func18, Tryz.ntmps18
  go_wp2_with (refine tab_load hS A HA0.out rfl _ rfl rfl ?_)
  go_loop [3, 12] (fun l i => ∃ k : Nat, k ≤ 16 ∧ i = .int .i64 k ∧ l = .slice none 0 0) (fun _ i => 16 - (intOf i).toNat)
  case atStart => exact ⟨0, by omega, rfl, rfl⟩
  case round =>
    obtain ⟨k, hk, rfl, rfl⟩ := hrel
    by_cases hk16 : k < 16
    · have hak := HA.out k hk16
      have hki : (k : Int) < 16 := by omega
      have hix := tab_index A none k hk16 hak
      go_wp2_with fail
      go_round
      case rel => exact ⟨k + 1, by omega, by go_num, rfl⟩
      case measure => simp [intOf]; omega
    · obtain rfl : k = 16 := by omega
      go_wp2_with fail
      go_ret
      exact ⟨rfl, rfl⟩
/-- v is a slice of these numbers, in a block of the call's own -/
def OwnI (w : World) (base : Nat) (v : Value) (l : List Nat) : Prop := w.ownsRow base 3 1 v l.length (l.map fun c => Value.int .i64 (c : Nat))
theorem info_int : (Tryz.prog.info? 3).map (fun i => (i.zero, i.size, i.bytes)) = some (some (.int .i64 0), 1, 8) := by kernel_rfl
theorem append_i {ops : Array Oper} {rest : List Oper} {o : Oper} {a : Act} {Q : Exit → Act → World → Prop} {w : World} (hgd : o.guard = none) (s x : Operand)
    (ho : o.op = .call { callee := .builtin .append, args := #[s, x], argTypes := #[41, 41] }) (base : Nat) (v : Value) (L : List Nat) (hs : a.eval s = v) (hown : OwnI w base v L)
    (b : Nat) (z : Int) (hz : z = b) (hx : a.eval x = .slice (some ⟨w.heap.size, 0, none⟩) 1 1)
    (hlen : L.length + 1 ≤ 1000000000000) (hbase : base ≤ w.heap.size)
    (h : ∀ v' w', OwnI w' base v' (L ++ [b]) → w.grownBy w' v.ownBlock → wpList Tryz.prog ops Q rest (a.put o.dst v') w') :
    wpList Tryz.prog ops Q (o :: rest) a (w.alloc (.cells #[.int .i64 z] 3)) := by
  subst hz
  obtain ⟨i0, hi, hz0, hz1, hz2⟩ := info_parts info_int
  refine wpList_append_own _ hgd s x 41 ho base 3 i0 (.int .i64 0) 1 8 (by kernel_rfl) hi hz0 hz1 hz2 rfl (by omega) v L.length _ hs (World.ownsRow.alloc hown _) ⟨w.heap.size, 0, none⟩ 1 1 [.int .i64 b] hx rfl ?_ ?_ (by simp only [maxLen]; omega) (by omega) (by simp; omega) ?_
  · intro j u hj
    match j, hj with
    | 0, hj => simp at hj; subst hj; simp [Addr.add]
  · intro u hu; simp at hu; subst hu; rfl
  · intro v' w' h1 h2 _
    refine h v' w' (by simpa [OwnI] using h1) ?_
    exact ⟨h2.os, h2.tape, h2.output, by have := h2.size; simp at this; omega, fun k hk hne => by
      rw [h2.block k (by simp; omega) hne, Below.heap_alloc _ _ _ hk]⟩
theorem OwnI.at {w : World} {base v L} (h : OwnI w base v L) : (L = [] ∧ v = .slice none 0 0) ∨ ∃ g cap, v = .slice (some ⟨g, 0, none⟩) L.length cap ∧ base ≤ g ∧ g < w.heap.size ∧ ∀ (j c : Nat), L[j]? = some c → w.cell? ⟨g, j, none⟩ = some (.int .i64 c) := by
  obtain ⟨hxs, hr⟩ := h
  rcases hr with ⟨rfl, hn⟩ | ⟨g, cap, cur, rfl, hb, hg, hnc, hcm, hcs, htk⟩
  · exact .inl ⟨List.eq_nil_of_length_eq_zero hn, rfl⟩
  · refine .inr ⟨g, cap, rfl, hb, ?_, fun j c hj => ?_⟩
    · rcases Nat.lt_or_ge g w.heap.size with h' | h'
      · exact h'
      · rw [Array.getElem?_eq_none h'] at hg; cases hg
    · have hjl : j < L.length := (List.getElem?_eq_some_iff.1 hj).1
      have h1 : (cur.toList.take (L.length * 1))[j]? = some (.int .i64 c) := by rw [htk, List.getElem?_map, hj]; rfl
      rw [List.getElem?_take_of_lt (by omega), Array.getElem?_toList] at h1
      simp [World.cell?, hg, h1]
theorem OwnI.len {w : World} {base v L} (h : OwnI w base v L) : ∃ a cap, v = .slice a L.length cap := by
  rcases h.at with ⟨rfl, rfl⟩ | ⟨g, cap, rfl, _⟩
  · exact ⟨_, _, rfl⟩
  · exact ⟨_, _, rfl⟩
set_option maxRecDepth 100000 in
theorem free_two {S F tab} (w : World) (hS : SetIs w S F tab) (ht : ∀ i, i < 16 → tab i = none) : Calls Tryz.prog 22 #[.pointer (some ⟨S, 0, none⟩), .int .i64 2] w fun e w' => ∃ v, e = .returned v ∧ OwnI w' w.heap.size v [0, 1] ∧ Below w.heap.size w w' := by
  obtain ⟨A, hA⟩ : ∃ A : Array Value, (tabL tab).toArray = A := ⟨_, rfl⟩
  have HA := Lib.hid (show ∀ i, i < 16 → A[i]? = some (.pointer none) from fun i hi => by rw [← hA, List.getElem?_toArray, tabL_at tab i hi, ht i hi])
  have hsz : A.size = 16 := by rw [← hA]; simp [tabL]
  have HA0 := Lib.hid hA
  clear hA ht
  go_enter Tryz.func22, Tryz.ntmps22
  go_wp2_with (refine tab_load hS A HA0.out rfl _ rfl rfl ?_)
  go_loopw [5, 12] (fun l i W => ∃ (k : Nat), k ≤ 16 ∧ i = .int .i64 k ∧ OwnI W w.heap.size l (List.range (min k 2)) ∧ Below w.heap.size w W) (fun _ i _ => 16 - (intOf i).toNat)
  case atStart => exact ⟨0, by omega, rfl, World.ownsRow_nil _ _ _ _, Below.refl _ _⟩
  case round =>
    obtain ⟨k, hk, rfl, hO, hB⟩ := hrel
    have hsz' := hB.size
    by_cases hk16 : k < 16
    · have hak := HA.out k hk16
      have hki : (k : Int) < 16 := by omega
      have hix := tab_index A none k hk16 hak
      obtain ⟨va, vc, hv⟩ := hO.len
      rw [List.length_range] at hv
      by_cases hk2 : k < 2
      · have hm : min k 2 = k := by omega
        rw [hm] at hO hv
        subst hv
        have hki2 : (k : Int) < 2 := by omega
        go_wp2_with (at_builtin; refine append_i rfl _ _ rfl w.heap.size _ _ rfl hO k _ rfl rfl (by simp; omega) hsz' ?_; intro v1 w1 hown1 hg1; have hB1 := hB.grown hg1 hsz' (fun x e => (World.ownsRow.lt hO x e).1))
        go_round
        case rel => exact ⟨k + 1, by omega, by go_num, by rw [show min (k + 1) 2 = k + 1 by omega, List.range_succ]; exact hown1, hB1⟩
        case measure => simp [intOf]; omega
      · have hm : min k 2 = 2 := by omega
        rw [hm] at hO hv
        subst hv
        go_wp2_with fail
        go_round
        case rel => exact ⟨k + 1, by omega, by go_num, by rw [show min (k + 1) 2 = 2 by omega]; exact hO, hB⟩
        case measure => simp [intOf]; omega
    · obtain rfl : k = 16 := by omega
      go_wp2_with fail
      go_ret
      exact ⟨_, rfl, hO, hB⟩
/-- an end of a pipe, as an interface's value -/
def endV (p : Nat) (b : Bool) : Value := .iface 65 (.agg #[.pointer (some ⟨p, 0, none⟩), .bool b])
set_option maxRecDepth 100000 in
/-- the first two numbers of an empty set are opened for the ends of a pipe -/
theorem pipe_any {S F tab p sv} (w : World) (hS : SetIs w S F tab) (ht : ∀ i, i < 16 → tab i = none) (hF : FilesIs w F p 0 sv) (hSF : S ≠ F) : Calls Tryz.prog 7 #[.pointer (some ⟨S, 0, none⟩)] w fun e w' => ∃ P O1 O2,
    e = .returned (.tuple #[.int .i64 0, .int .i64 1, .int .i64 0]) ∧ w.heap.size ≤ P ∧ P < O1 ∧ O1 < O2 ∧ SetIs w' S F (updT (updT tab 0 (some ⟨O1, 0, none⟩)) 1 (some ⟨O2, 0, none⟩)) ∧ FilesIs w' F p 2 sv ∧
      OpenIs w' O1 (endV P false) 1 ∧ OpenIs w' O2 (endV P true) 1 ∧ PipeSt w' P [] 1 1 ∧ Kept [S, F] w w' := by
  have HF := Lib.hid (free_two w hS ht)
  go_enter Tryz.func7, Tryz.ntmps7
  go_wp2_with fail
  refine HF.out.mono ?_
  rintro e w1 ⟨v, rfl, hO, hB1⟩
  obtain ⟨g, cap, rfl, hg, hgl, hc⟩ := hO.at.resolve_left (fun h => by cases h.1)
  have hc0 := hc 0 0 rfl
  have hc1 := hc 1 1 rfl
  have k1 : Kept [] w w1 := Kept.of_below hB1
  have hS1 := hS.kept k1 (by simp)
  have hF1 := hF.kept k1 (by simp)
  have hs1 := hB1.size
  clear hO hc
  go_wp2_with fail
  refine (new_st w1).mono ?_
  rintro e w2 ⟨rfl, hB2, hP2⟩
  have k2 : Kept [] w1 w2 := Kept.of_below hB2
  have hS2 := hS1.kept k2 (by simp)
  have hF2 := hF1.kept k2 (by simp)
  have hc0' := keep_cell hc0 hB2
  have hc1' := keep_cell hc1 hB2
  have hl1 := hP2.lt
  have hsl := hS.lt
  have hfl := hF.lt
  go_wp2_with fail
  refine (put_any 0 65 _ w2 hS2 hF2 hSF (by omega) (by omega)).mono ?_
  rintro e w3 ⟨rfl, a1, a2, a3, a4⟩
  have hs3 := a4.size
  have b1 : w3.cell? ⟨g, 1, none⟩ = some (.int .i64 (1 : Nat)) := (cell_blk (a4.block g (by omega) (by simp; omega))).trans hc1'
  have b0 : w3.cell? ⟨g, 0, none⟩ = some (.int .i64 (0 : Nat)) := (cell_blk (a4.block g (by omega) (by simp; omega))).trans hc0'
  have bP : PipeSt w3 w1.heap.size [] 1 1 := hP2.keep (a4.block _ (by omega) (by simp; omega))
  have hl3 := a3.lt
  go_wp2_with fail
  refine (put_any 1 65 _ w3 a1 a2 hSF (by omega) (by omega)).mono ?_
  rintro e w4 ⟨rfl, c1, c2, c3, c4⟩
  have d1 : w4.cell? ⟨g, 1, none⟩ = some (.int .i64 (1 : Nat)) := (cell_blk (c4.block g (by omega) (by simp; omega))).trans b1
  have d0 : w4.cell? ⟨g, 0, none⟩ = some (.int .i64 (0 : Nat)) := (cell_blk (c4.block g (by omega) (by simp; omega))).trans b0
  have dP : PipeSt w4 w1.heap.size [] 1 1 := bP.keep (c4.block _ (by omega) (by simp; omega))
  have dO := a3.kept c4 (by simp; omega)
  have kk : Kept [S, F] w w4 := (((k1.trans k2).more (by simp)).step a4 (by simp)).step c4 (by simp)
  clear hc0 hc1 hc0' hc1' b0 b1 a1 a2 a3 a4 c4 hF hS HF hS1 hF1 hS2 hF2 k1 k2 hB1 hB2 hP2 bP
  go_wp2_with fail
  go_quiet (fail)
  go_wp2_with fail
  go_ret3
  exact ⟨w1.heap.size, w2.heap.size, w3.heap.size, rfl, hs1, hl1, by omega, c1.keep rfl, c2.keep rfl, dO.keep rfl, c3.keep rfl, dP.keep rfl, kk.drewN _⟩
end Go.Proofs.YtgfnfomkhhpjaaaGreatDoor
