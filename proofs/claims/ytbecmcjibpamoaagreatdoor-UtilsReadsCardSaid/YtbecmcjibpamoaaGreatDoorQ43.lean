/- UrC UrF UrD UrE TxV TxEc -/
import Derived.Test.YtbecmcjibpamoaaGreatDoorQ42
import Derived.Test.YtbecmcjibpamoaaGreatDoorQ41
import Derived.Lib.ItoaLen
import Derived.Lib.Join
set_option linter.unusedVariables false
set_option linter.unusedSimpArgs false
set_option linter.deprecated false
set_option linter.unnecessarySimpa false
namespace Go.Proofs.YtbecmcjibpamoaaGreatDoor
open Go.RowKit IntWalk
structure PlanC (w : World) (D : Nat) (x opts : List UInt8) (n : Int) (v : Value) : Prop where
  c0 : w.cell? ⟨D, 0, none⟩ = some (.string ⟨x.toArray⟩)
  c1 : w.cell? ⟨D, 1, none⟩ = some (.string ⟨opts.toArray⟩)
  c2 : w.cell? ⟨D, 2, none⟩ = some (.int .i64 n)
  c3 : w.cell? ⟨D, 3, none⟩ = some v
theorem PlanC.of {w : World} {D : Nat} {x opts : List UInt8} {n : Int} {v : Value} (h : w.heap[D]? = some (planQ x opts n v)) : PlanC w D x opts n v := by
  obtain ⟨h0, h1, h2, h3⟩ := planQ_cell h
  exact ⟨h0, h1, h2, h3⟩
theorem PlanC.below {w w' : World} {D : Nat} {x opts : List UInt8} {n : Int} {v : Value} (h : PlanC w D x opts n v) (hb : Below w.heap.size w w') : PlanC w' D x opts n v :=
  ⟨keep_cell h.c0 hb, keep_cell h.c1 hb, keep_cell h.c2 hb, keep_cell h.c3 hb⟩
def TurnsP (opts : List UInt8) (k : Nat) : Prop := (hasB opts 100 = true ∧ k = 1) ∨ (hasB opts 100 = false ∧ k = 2)
theorem txt_weak {w w' : World} {e : Ending} {o : Option (List UInt8)} (h : TxtRes w w' e o) : (∃ (y : List UInt8) (c : Int), e = .returned (.tuple #[.string ⟨y.toArray⟩, .int .i64 c])) ∧ Below w.heap.size w w' := ⟨⟨_, _, h.1⟩, h.2⟩
def TurnsRes (w w' : World) (opts : List UInt8) (k : Nat) (e : Ending) : Prop := (∃ b, e = .returned (.bool b) ∧ (b = true → TurnsP opts k)) ∧ Below w.heap.size w w'
theorem turns_yes {w w' : World} {opts : List UInt8} {k : Nat} (b : Bool) (h : TurnsP opts k) (hb : Below w.heap.size w w') : TurnsRes w w' opts k (.returned (.bool b)) := ⟨⟨_, rfl, fun _ => h⟩, hb⟩
theorem turns_no {w w' : World} {opts : List UInt8} {k : Nat} (hb : Below w.heap.size w w') : TurnsRes w w' opts k (.returned (.bool false)) := ⟨⟨_, rfl, fun q => by cases q⟩, hb⟩
set_option maxRecDepth 100000 in
set_option maxHeartbeats 1000000 in
theorem turns_any {w : World} {D : Nat} {x opts : List UInt8} {n : Int} {v : Value} {L : List (List UInt8)} (h : PlanC w D x opts n v) (hs : Strs w v L) (hE : Env w) (ho : opts.length ≤ 1000) (h5 : ∀ y, y ∈ L → y.length ≤ 500) :
    Calls Tryz.prog 76 #[.pointer (some ⟨D, 0, none⟩)] w fun e w' => TurnsRes w w' opts L.length e := by
  obtain ⟨c0, c1, c2, c3⟩ := h
  have HH := Lib.hid (has_any2 opts 100 c1 (by omega) hE)
  obtain ⟨a, cap, rfl, hcap, hat⟩ := hs.shape
  cases hb : hasB opts 100 with
  | true =>
    rw [hb] at HH
    by_cases h1 : L.length = 1
    · obtain ⟨y, rfl⟩ : ∃ y, L = [y] := by
        match L, h1 with
        | [y], _ => exact ⟨y, rfl⟩
      obtain ⟨b, off, rfl, hbl, hat⟩ := hat (by simp)
      have d0 := hat 0 y rfl
      simp only [Nat.add_zero] at d0
      have HD := Lib.hid (dropT_any [] y (h5 y (by simp)) (by simp) w)
      clear hE hat hs h5 h1
      rw [show (List.toArray ([] : List UInt8)) = #[] from rfl] at HD
      go_enter Tryz.func76, Tryz.ntmps76
      go_wp2_with first
        | (go_at_call 74; (refine HH.out.mono ?_); rintro e w' ⟨rfl, rfl⟩)
        | (go_at_call 98; (refine HD.out.mono ?_); intro e w1 hT; obtain ⟨⟨y1, c1', rfl⟩, hB⟩ := txt_weak hT; clear hT)
      go_ret
      exact turns_yes _ (.inl ⟨hb, rfl⟩) hB
    · have hn1 : ((L.length : Int) == 1) = false := by rw [beq_eq_false_iff_ne]; omega
      clear hE hat hs h5
      go_enter Tryz.func76, Tryz.ntmps76
      go_wp2_with first
        | (go_at_call 74; (refine HH.out.mono ?_); rintro e w' ⟨rfl, rfl⟩)
      go_ret
      exact turns_no (Below.refl _ _)
  | false =>
    rw [hb] at HH
    by_cases h1 : L.length = 2
    · obtain ⟨y, z, rfl⟩ : ∃ y z, L = [y, z] := by
        match L, h1 with
        | [y, z], _ => exact ⟨y, z, rfl⟩
      obtain ⟨b, off, rfl, hbl, hat⟩ := hat (by simp)
      have d0 := hat 0 y rfl
      simp only [Nat.add_zero] at d0
      have d1 := hat 1 z rfl
      have HD := Lib.hid (fun (V : World) => tr_any [] y z (h5 y (by simp)) (h5 z (by simp)) (by simp) V)
      clear hE hat hs h5 h1
      rw [show (List.toArray ([] : List UInt8)) = #[] from rfl] at HD
      go_enter Tryz.func76, Tryz.ntmps76
      go_wp2_with first
        | (go_at_call 74; (refine HH.out.mono ?_); rintro e w' ⟨rfl, rfl⟩)
      go_region_with (go_at_call 99; (refine (HD.out _).mono ?_); intro e w1 hT; obtain ⟨⟨y1, c1', rfl⟩, hB⟩ := txt_weak hT; clear hT)
      all_goals
        go_wp2_with fail
        go_ret
        exact turns_yes _ (.inr ⟨hb, rfl⟩) ⟨hB.os, hB.tape, hB.output, hB.size, hB.block⟩
    · have hn1 : ((L.length : Int) == 2) = false := by rw [beq_eq_false_iff_ne]; omega
      clear hE hat hs h5
      go_enter Tryz.func76, Tryz.ntmps76
      go_wp2_with first
        | (go_at_call 74; (refine HH.out.mono ?_); rintro e w' ⟨rfl, rfl⟩)
      go_ret
      exact turns_no (Below.refl _ _)
end Go.Proofs.YtbecmcjibpamoaaGreatDoor
namespace Go.Proofs.YtbecmcjibpamoaaGreatDoor
open Go.RowKit IntWalk
theorem itoa_any (n : Int) (h0 : -9223372036854775808 ≤ n) (h1 : n ≤ 9223372036854775807) (w : World) (hE : Env w) :
    Calls Tryz.prog 41 #[.int .i64 n] w fun e w' => (∃ y : List UInt8, y.length ≤ 21 ∧ e = .returned (.string ⟨y.toArray⟩)) ∧ Below w.heap.size w w' := by
  refine (Tryz.strconv_Itoa n h0 h1 w hE.pow10).mono ?_
  rintro e w' ⟨rfl, kk, os, rfl⟩
  exact ⟨⟨_, Lib.itoa_length_le n h0 h1, rfl⟩, Lib.below_grow w.heap.size w (Nat.le_refl _) kk os⟩
structure Dct where
  x : List UInt8
  opts : List UInt8
  n : Int
  v : Value
  out : List UInt8
  err : List UInt8
  st : Int
  F : Nat
  si : List UInt8
def dctGV (d : Dct) : Array Value := #[.string ⟨d.x.toArray⟩, .string ⟨d.opts.toArray⟩, .int .i64 d.n, d.v, .string ⟨d.out.toArray⟩, .string ⟨d.err.toArray⟩, .int .i64 d.st, ptrTo d.F, .int .i64 1, .string ⟨d.si.toArray⟩]
def dctG (d : Dct) : Obj := .cells (dctGV d) 61 (0, 0)
section
variable {w : World} {D : Nat} {d : Dct}
theorem dctG_cell (h : w.heap[D]? = some (dctG d)) (k : Nat) {u : Value} (hu : (dctGV d)[k]? = some u) : w.cell? ⟨D, k, none⟩ = some u := by
  unfold World.cell?
  dsimp only
  rw [h]
  exact hu
theorem dctG_plan (h : w.heap[D]? = some (dctG d)) : PlanC w D d.x d.opts d.n d.v := ⟨dctG_cell h 0 rfl, dctG_cell h 1 rfl, dctG_cell h 2 rfl, dctG_cell h 3 rfl⟩
theorem dctG4 (h : w.heap[D]? = some (dctG d)) : w.cell? ⟨D, 4, none⟩ = some (.string ⟨d.out.toArray⟩) := dctG_cell h 4 rfl
theorem dctG5 (h : w.heap[D]? = some (dctG d)) : w.cell? ⟨D, 5, none⟩ = some (.string ⟨d.err.toArray⟩) := dctG_cell h 5 rfl
theorem dctG6 (h : w.heap[D]? = some (dctG d)) : w.cell? ⟨D, 6, none⟩ = some (.int .i64 d.st) := dctG_cell h 6 rfl
theorem dctG7 (h : w.heap[D]? = some (dctG d)) : w.cell? ⟨D, 7, none⟩ = some (.pointer (some ⟨d.F, 0, none⟩)) := dctG_cell h 7 rfl
theorem dctG8 (h : w.heap[D]? = some (dctG d)) : w.cell? ⟨D, 8, none⟩ = some (.int .i64 1) := dctG_cell h 8 rfl
theorem dctG9 (h : w.heap[D]? = some (dctG d)) : w.cell? ⟨D, 9, none⟩ = some (.string ⟨d.si.toArray⟩) := dctG_cell h 9 rfl
theorem dctG_fz (h : w.heap[D]? = some (dctG d)) (k : Nat) : w.frozen? ⟨D, k, none⟩ = false := by unfold dctG at h; simp [World.frozen?, h]
theorem dctG_out (h : w.heap[D]? = some (dctG d)) (y : List UInt8) : (w.setCell ⟨D, 4, none⟩ (.string ⟨y.toArray⟩)).heap[D]? = some (dctG { d with out := y }) := set_rowN (k := 4) h
theorem dctG_err (h : w.heap[D]? = some (dctG d)) (y : List UInt8) : (w.setCell ⟨D, 5, none⟩ (.string ⟨y.toArray⟩)).heap[D]? = some (dctG { d with err := y }) := set_rowN (k := 5) h
theorem dctG_st (h : w.heap[D]? = some (dctG d)) (y : Int) : (w.setCell ⟨D, 6, none⟩ (.int .i64 y)).heap[D]? = some (dctG { d with st := y }) := set_rowN (k := 6) h
theorem dctG_si (h : w.heap[D]? = some (dctG d)) (y : List UInt8) : (w.setCell ⟨D, 9, none⟩ (.string ⟨y.toArray⟩)).heap[D]? = some (dctG { d with si := y }) := set_rowN (k := 9) h
end
def WrongRes (w w' : World) (D : Nat) (d : Dct) (e : Ending) : Prop :=
  e = .returned (.tuple #[]) ∧ ∃ (err' : List UInt8) (st' : Int), err'.length ≤ d.err.length + 2000 ∧ (st' = 1 ∨ st' = 2) ∧ w'.heap[D]? = some (dctG { d with err := err', st := st' }) ∧ Turned (fun j => j = D) w w'
set_option maxRecDepth 100000 in
set_option maxHeartbeats 2000000 in
theorem wrong_any {w : World} {D : Nat} {d : Dct} (h : w.heap[D]? = some (dctG d)) (path : List UInt8) (c : Int) (h0 : 0 ≤ c) (h1 : c ≤ 1000) (hE : Env w) (hx : d.x.length ≤ 100) (hp : path.length ≤ 1000) (he : d.err.length ≤ 1000000) :
    Calls Tryz.prog 80 #[.pointer (some ⟨D, 4, none⟩), .pointer (some ⟨D, 0, none⟩), .string ⟨path.toArray⟩, .int .i64 c] w fun e w' => WrongRes w w' D d e := by
  have hlt := (Array.getElem?_eq_some_iff.1 h).1
  have HI := Lib.hid (itoa_any c (by omega) (by omega) w.drew (hE.below ⟨rfl, rfl, rfl, Nat.le_refl _, fun _ _ => rfl⟩))
  have h2 : w.drew.heap[D]? = some (dctG d) := h
  have H := Lib.hid h2
  have m0 := (dctG_plan h2).c0
  have m5 := dctG5 h2
  clear h h2 hE
  go_enter Tryz.func80, Tryz.ntmps80
  have b1 : ¬ 9223372036854775807 < d.x.length + 2 := by omega
  have b2 : ¬ 9223372036854775807 < d.x.length + 2 + path.length := by omega
  have b3 : ¬ 9223372036854775807 < d.x.length + (path.length + 1 + 1) + 8 := by omega
  go_wp2_with fail
  go_region_with (go_at_call 41; (with_reducible refine HI.out.mono ?_); rintro e w1 ⟨⟨y, hyl, rfl⟩, hB⟩; have H1 := Lib.hid ((hB.block D hlt).trans H.out); have n0 := (dctG_plan H1.out).c0; have n5 := dctG5 H1.out; have z5 := dctG_fz H1.out 5; have HB := Lib.hid hB; clear hB; have b4 : ¬ 9223372036854775807 < d.x.length + (path.length + 8 + 1 + 1) + y.length := (by omega); have b5 : ¬ 9223372036854775807 < d.x.length + (path.length + (y.length + 1 + 1 + 1 + 1 + 1 + 1 + 1 + 1) + 1 + 1) + 1 := (by omega))
  all_goals
    generalize hE2 : d.err ++ (d.x ++ 58 :: 32 :: (path ++ 58 :: 32 :: 101 :: 114 :: 114 :: 111 :: 114 :: 32 :: (y ++ [10]))) = err2
    have hl2 : err2.length ≤ d.err.length + 2000 := by rw [← hE2]; simp; omega
    have h5 := dctG_err H1.out err2
    have HT := Lib.hid (((Turned.ofBelow (S := fun j => j = D) (w := w.drew) HB.out)).set1 5 (.string ⟨err2.toArray⟩))
    have H5 := Lib.hid h5
    clear h5 hE2
    first
    | generalize w1.setCell ⟨D, 5, none⟩ (.string ⟨err2.toArray⟩) = w2 at *
    have c0 := (dctG_plan H5.out).c0
    have z6 := dctG_fz H5.out 6
    have n6 := dctG6 H5.out
    have HT2 := Lib.hid (show Turned (fun j => j = D) w w2 from ⟨HT.out.os, HT.out.tape, HT.out.output, HT.out.size, HT.out.block⟩)
    clear HT H1 n0 n5 z5 HB m0 m5 H HI b1 b2 b3 b4 b5
    go_wp2_with fail
    all_goals
      go_end0
      first
      | exact ⟨rfl, err2, 1, hl2, .inl rfl, dctG_st H5.out 1, HT2.out.set1 6 _⟩
      | exact ⟨rfl, err2, 2, hl2, .inr rfl, dctG_st (dctG_st H5.out 1) 2, (HT2.out.set1 6 _).set1 6 _⟩
end Go.Proofs.YtbecmcjibpamoaaGreatDoor
namespace Go.Proofs.YtbecmcjibpamoaaGreatDoor
open Go.RowKit IntWalk
def RightP (x opts : List UInt8) (k : Nat) : Prop := (x = trN → TurnsP opts k) ∧ (x = grepN → 0 < k) ∧ (x = printfN → 0 < k) ∧ (x = lsN → k < 2)
def RightRes (w w' : World) (x opts : List UInt8) (k : Nat) (e : Ending) : Prop := (∃ b, e = .returned (.bool b) ∧ (b = true → RightP x opts k)) ∧ Below w.heap.size w w'
theorem right_true {w : World} {x opts : List UInt8} {k : Nat} (h : RightP x opts k) : RightRes w w x opts k (.returned (.bool true)) := ⟨⟨_, rfl, fun _ => h⟩, Below.refl _ _⟩
theorem right_dec {w : World} {x opts : List UInt8} {k : Nat} {p : Prop} [Decidable p] (h : p → RightP x opts k) : RightRes w w x opts k (.returned (.bool (decide p))) := ⟨⟨_, rfl, fun q => h (of_decide_eq_true q)⟩, Below.refl _ _⟩
set_option maxRecDepth 100000 in
set_option maxHeartbeats 2000000 in
theorem right_rd {w : World} {D : Nat} {x opts : List UInt8} {n : Int} {v : Value} {L : List (List UInt8)} (hx : x ∈ rdL) (h : PlanC w D x opts n v) (hs : Strs w v L) (hE : Env w) (ho : opts.length ≤ 1000) (h5 : ∀ y, y ∈ L → y.length ≤ 500) (hl : L.length ≤ 100) :
    Calls Tryz.prog 44 #[.pointer (some ⟨D, 0, none⟩)] w fun e w' => RightRes w w' x opts L.length e := by
  have HT := Lib.hid (turns_any h hs hE ho h5)
  obtain ⟨c0, c1, c2, c3⟩ := h
  by_cases hpf : x = printfN
  · subst hpf
    obtain ⟨a, cap, hv, hcap, hat⟩ := hs.shape
    subst hv
    unfold printfN at c0
    cases L with
    | nil =>
      rw [List.length_nil] at c3
      clear HT hs hat hE
      go_enter Tryz.func44, Tryz.ntmps44
      go_wp2
      go_ret
      exact ⟨⟨_, rfl, fun q => by cases q⟩, Below.refl _ _⟩
    | cons f L =>
      obtain ⟨b, off, rfl, hbl, hat⟩ := hat (by simp)
      have d0 := hat 0 f rfl
      simp only [Nat.add_zero] at d0
      rw [List.length_cons] at c3 hcap
      have hbd : Below w.heap.size w w.drew := ⟨rfl, rfl, rfl, Nat.le_refl _, fun _ _ => rfl⟩
      have hl1 : L.length ≤ 100 := by simp at hl; omega
      have hs1 : ∀ o', (0 < L.length → o' = off + 1) → Strs w (.slice (some ⟨b, o', none⟩) L.length (cap - 1)) L := fun o' ho' => ⟨by unfold maxLen; omega, ⟨_, _, rfl, by omega, fun hp => ⟨b, o', rfl, hbl, fun i z hz => by have := hat (i + 1) z (by simpa using hz); rw [ho' hp, show off + 1 + i = off + (i + 1) by omega]; exact this⟩⟩, fun i z hz => hs.ok (i + 1) z (by simpa using hz)⟩
      have HP := Lib.hid (fun o' ho' => printf_any f _ L (h5 f (by simp)) w.drew ((hs1 o' ho').below hbd) (fun z hz => h5 z (by simp [hz])) (by omega) (hE.below hbd) |>.mono fun e w' hT => txt_weak hT)
      have h0 : (((L.length + 1 : Nat) : Int) == 0) = false := by rw [beq_eq_false_iff_ne]; omega
      have h12 : (1 : Int) ≤ (L.length : Int) + 1 := by omega
      have h13 : (L.length : Int) + 1 ≤ (cap : Int) := by omega
      clear HT hs hs1 hat hE h5 hl hbd
      have hrr : ∀ (b' : Bool) (w1 : World), Below w.drew.heap.size w.drew w1 → RightRes w w1 printfN opts (L.length + 1) (.returned (.bool b')) := fun b' w1 hB => ⟨⟨_, rfl, fun _ => ⟨(fun q => by cases q), (fun q => by cases q), fun _ => by omega, fun q => by cases q⟩⟩, ⟨hB.os, hB.tape, hB.output, hB.size, hB.block⟩⟩
      have HRR := Lib.hid hrr
      clear hrr
      rw [List.length_cons]
      by_cases hc1 : cap = 1
      · subst hc1
        have hL0 : L.length = 0 := by omega
        have HP1 := Lib.hid (HP.out off (fun q => by omega))
        have hr1 := HRR.out
        rw [hL0] at hr1 c3 h12 h13 h0 HP1 ⊢
        have HR1 := Lib.hid hr1
        clear HP HRR hr1
        go_enter Tryz.func44, Tryz.ntmps44
        go_wp2_with fail
        go_region_with (go_at_call 77; (with_reducible refine HP1.out.mono ?_); rintro e w1 ⟨⟨y1, c1', rfl⟩, hB⟩)
        all_goals
          go_wp2_with fail
          go_ret
          exact HR1.out _ _ hB
      · have HP1 := Lib.hid (HP.out (off + 1) (fun _ => rfl))
        have hc2 : ¬ 1 = cap := by omega
        clear HP
        go_enter Tryz.func44, Tryz.ntmps44
        go_wp2_with fail
        go_region_with (go_at_call 77; (with_reducible refine HP1.out.mono ?_); rintro e w1 ⟨⟨y1, c1', rfl⟩, hB⟩)
        all_goals
          go_wp2_with fail
          go_ret
          exact HRR.out _ _ hB
  · obtain ⟨a, cap, hv, hcap, hat⟩ := hs.shape
    subst hv
    obtain ⟨k, hk⟩ : ∃ k, L.length = k := ⟨_, rfl⟩
    rw [hk] at HT c3 ⊢
    clear hs hE h5 hat
    by_cases htr : x = trN
    · subst htr
      unfold trN at c0
      go_enter Tryz.func44, Tryz.ntmps44
      go_wp2_with (go_at_call 76; (refine HT.out.mono ?_); intro e w1 hT; obtain ⟨⟨b, rfl, hb⟩, hB⟩ := hT; have HTb := Lib.hid hb; clear hb)
      go_ret
      exact ⟨⟨_, rfl, fun q => ⟨fun _ => HTb.out q, (fun q => by cases q), (fun q => by cases q), fun q => by cases q⟩⟩, hB⟩
    · clear HT
      simp only [rdL, List.mem_cons, List.not_mem_nil, or_false] at hx
      rcases hx with rfl | rfl | rfl | rfl | rfl | rfl | rfl | rfl | rfl | rfl | rfl | rfl | rfl
      all_goals first
        | exact absurd rfl hpf
        | exact absurd rfl htr
        | (simp only [catRN, wcN, headN, tailN, grepN, sortN, uniqN, lsN, echoN, trueN, falseN] at c0
           clear hpf htr
           go_enter Tryz.func44, Tryz.ntmps44
           go_wp2
           go_ret
           first
           | exact right_true ⟨(fun q => by cases q), (fun q => by cases q), (fun q => by cases q), fun q => by cases q⟩
           | exact right_dec (fun hh => ⟨(fun q => by cases q), (fun _ => by omega), (fun q => by cases q), fun q => by cases q⟩)
           | exact right_dec (fun hh => ⟨(fun q => by cases q), (fun q => by cases q), (fun q => by cases q), fun _ => by omega⟩))
end Go.Proofs.YtbecmcjibpamoaaGreatDoor
namespace Go.Proofs.YtbecmcjibpamoaaGreatDoor
open Go.RowKit IntWalk
def vblk : Value → Option Nat | .slice (some a) _ _ => some a.block | _ => none
theorem Strs.turned {S : Nat → Prop} {w w' : World} {v : Value} {L : List (List UInt8)} (h : Strs w v L) (ht : Turned S w w') (hn : ∀ b, vblk v = some b → ¬ S b) : Strs w' v L := by
  obtain ⟨a, cap, rfl, h2, h3⟩ := h.shape
  refine ⟨h.len, ⟨a, cap, rfl, h2, fun hp => ?_⟩, h.ok⟩
  obtain ⟨b, off, rfl, e2, e3⟩ := h3 hp
  exact ⟨b, off, rfl, Nat.lt_of_lt_of_le e2 ht.size, fun i x hx => (World.cell?_of_block (a := ⟨b, off + i, none⟩) (ht.block b e2 (hn b rfl))).trans (e3 i x hx)⟩
theorem clone_any (g o c k : Nat) (L : List (List UInt8)) (hk : L.length = k) (w : World) (hL : RowAt w g o L) (hl : L.length ≤ 100000) (h5 : ∀ y, y ∈ L → y.length ≤ 100000) :
    Calls Tryz.prog 43 #[.slice (some ⟨g, o, none⟩) k c] w fun e w' => (∃ v, e = .returned v ∧ Strs w' v L ∧ (∀ b, vblk v = some b → w.heap.size ≤ b ∧ b < w'.heap.size) ∧ ∃ g c, v = .slice (some ⟨g, 0, none⟩) k c) ∧ Below w.heap.size w w' := by
  subst hk
  refine (Tryz.slices_Clone_string g o L.length c (L.map fun y => ⟨y.toArray⟩) w (by simp) (by omega) (fun j hj => ?_)).mono ?_
  · rw [List.length_map] at hj
    have := hL j L[j] (List.getElem?_eq_getElem hj)
    rw [this]
    simp [List.getD_eq_getElem?_getD, hj]
  · rintro e w' ⟨v, rfl, hrow, hnn, hb⟩
    rw [show ((L.map fun y => (⟨y.toArray⟩ : ByteArray)).take L.length) = L.map fun y => ⟨y.toArray⟩ by rw [List.take_of_length_le (by simp)]] at hrow
    refine ⟨⟨v, rfl, ?_, ?_, ?_⟩, hb⟩
    · by_cases h0 : 0 < L.length
      · obtain ⟨g2, c2, rfl, h0c, h1, h2, h3⟩ := row_open hrow h0
        exact ⟨by unfold maxLen; omega, ⟨_, c2, rfl, h0c, fun _ => ⟨g2, 0, rfl, h2, fun i y hy => h3 i ⟨y.toArray⟩ (by rw [List.getElem?_map, hy]; rfl)⟩⟩, fun i y hy => by have := h5 y (List.mem_of_getElem? hy); unfold maxLen; omega⟩
      · obtain rfl : L = [] := by cases L with | nil => rfl | cons a b => simp at h0
        rcases hrow.2 with ⟨rfl, _⟩ | ⟨g, cap, cur, rfl, hbg, hg, hnc, hcm, hcs, htk⟩
        · exact ⟨by simp, ⟨none, 0, rfl, by simp, fun q => by simp at q⟩, fun i y hy => by simp at hy⟩
        · exact ⟨by simp, ⟨_, cap, rfl, by simp, fun q => by simp at q⟩, fun i y hy => by simp at hy⟩
    · intro b hb
      rcases hrow.2 with ⟨rfl, _⟩ | ⟨g, cap, cur, rfl, hbg, hg, hnc, hcm, hcs, htk⟩
      · cases hb
      · cases hb; exact ⟨hbg, (Array.getElem?_eq_some_iff.1 hg).1⟩
    · rcases hrow.2 with ⟨rfl, h0⟩ | ⟨g, cap, cur, rfl, hbg, hg, hnc, hcm, hcs, htk⟩
      · exact absurd rfl hnn
      · exact ⟨g, cap, rfl⟩
def ParseRes (w w' : World) (x : List UInt8) (L : List (List UInt8)) (e : Ending) : Prop :=
  (∃ (opts : List UInt8) (n : Int) (v : Value) (b : Bool) (M : List (List UInt8)), e = .returned (.tuple #[.agg #[.string ⟨x.toArray⟩, .string ⟨opts.toArray⟩, .int .i64 n, v], .bool b]) ∧ opts.length ≤ L.length + 1 ∧ Strs w' v M ∧ (∀ g, vblk v = some g → w.heap.size ≤ g ∧ g < w'.heap.size) ∧ M.length ≤ L.length ∧ (∀ y, y ∈ M → y ∈ L) ∧ (b = true → RightP x opts M.length ∧ ∃ g c, v = .slice (some ⟨g, 0, none⟩) M.length c)) ∧ Below w.heap.size w w'
theorem strs_nil (w : World) : Strs w (.slice none 0 0) [] := ⟨by simp, ⟨none, 0, rfl, by simp, fun q => by simp at q⟩, fun i y hy => by simp at hy⟩
theorem planQ_set {w : World} {D : Nat} {x opts : List UInt8} {n : Int} {v : Value} (h : w.heap[D]? = some (planQ x opts n v)) (v' : Value) : (w.setCell ⟨D, 3, none⟩ v').heap[D]? = some (planQ x opts n v') := set_rowN (k := 3) h
theorem RowAt.from {w : World} {g o : Nat} {L : List (List UInt8)} (h : RowAt w g o L) (k : Nat) : RowAt w g (o + k) (L.drop k) := fun i y hy => by
  rw [List.getElem?_drop] at hy
  have := h (k + i) y hy
  rw [show o + k + i = o + (k + i) by omega]
  exact this
theorem RowAt.turned {S : Nat → Prop} {w w' : World} {g o : Nat} {L : List (List UInt8)} (h : RowAt w g o L) (hg : g < w.heap.size) (ht : Turned S w w') (hn : ¬ S g) : RowAt w' g o L := fun i y hi => (World.cell?_of_block (a := ⟨g, o + i, none⟩) (ht.block g hg hn)).trans (h i y hi)
def slN : Value → Nat | .slice _ m _ => m | _ => 0
theorem row_after {w : World} {g o k c : Nat} {L : List (List UInt8)} (h : RowAt w g o L) (hk : k ≤ L.length) (hc : L.length ≤ c) :
    ∃ o', (if c = k then some (⟨g, o, none⟩ : Addr) else some ⟨g, o + k, none⟩) = some ⟨g, o', none⟩ ∧ RowAt w g o' (L.drop k) := by
  by_cases hck : c = k
  · refine ⟨o, if_pos hck, fun i y hy => ?_⟩
    rw [List.drop_of_length_le (by omega)] at hy
    simp at hy
  · exact ⟨o + k, if_neg hck, h.from k⟩
theorem low_turned {n : Nat} {a b : World} {D : Nat} (h : Turned (fun j => j = D) a b) (hn : n ≤ D) (hs : n ≤ a.heap.size) : Below n a b := ⟨h.os, h.tape, h.output, h.size, fun k hk => h.block k (by omega) (by omega)⟩
theorem Turned.ofSet {w : World} (D k : Nat) (v : Value) : Turned (fun j => j = D) w (w.setCell ⟨D, k, none⟩ v) := Turned.set1 (Turned.refl _ w) k v
theorem zplan_cells {w : World} {D : Nat} (h : w.heap[D]? = some (.cells #[.string ⟨#[]⟩, .string ⟨#[]⟩, .int .i64 0, .slice none 0 0] 55 (0, 0))) :
    (w.cell? ⟨D, 0, none⟩ = some (.string ⟨#[]⟩) ∧ w.cell? ⟨D, 1, none⟩ = some (.string ⟨#[]⟩) ∧ w.cell? ⟨D, 2, none⟩ = some (.int .i64 0) ∧ w.cell? ⟨D, 3, none⟩ = some (.slice none 0 0)) ∧ w.frozen? ⟨D, 0, none⟩ = false ∧ w.frozen? ⟨D, 1, none⟩ = false ∧ w.frozen? ⟨D, 2, none⟩ = false ∧ w.frozen? ⟨D, 3, none⟩ = false := by
  refine ⟨⟨?_, ?_, ?_, ?_⟩, ?_, ?_, ?_, ?_⟩
  all_goals first
    | (unfold World.cell?; dsimp only; rw [h]; rfl)
    | simp [World.frozen?, h]
def zeroPlan : Obj := .cells #[.string ⟨#[]⟩, .string ⟨#[]⟩, .int .i64 0, .slice none 0 0] 55 (0, 0)
theorem parse_end {w w4 w5 : World} {x opts2 : List UInt8} {n2 : Int} {v : Value} {bR : Bool} {M L : List (List UInt8)} (v0 v1 v2 v3 : Value) (hB4 : Below w.heap.size w w4) (hB5 : Below w4.drew.heap.size w4.drew w5) (hS4 : Strs w4 v M) (hvb : ∀ q, vblk v = some q → w.heap.size + 2 ≤ q ∧ q < w4.heap.size) (ho : opts2.length ≤ L.length + 1) (hml : M.length ≤ L.length) (hM : ∀ y, y ∈ M → y ∈ L) (hR : bR = true → RightP x opts2 M.length) (hSM : ∃ g c, v = .slice (some ⟨g, 0, none⟩) M.length c) :
    ParseRes w ((((w5.setCell ⟨w.heap.size, 0, none⟩ v0).setCell ⟨w.heap.size, 1, none⟩ v1).setCell ⟨w.heap.size, 2, none⟩ v2).setCell ⟨w.heap.size, 3, none⟩ v3) x L (.returned (.tuple #[.agg #[.string ⟨x.toArray⟩, .string ⟨opts2.toArray⟩, .int .i64 n2, v], .bool bR])) := by
  have hb4 := ((((Below.refl w.heap.size w5).setCell (p := ⟨w.heap.size, 0, none⟩) (Nat.le_refl _) v0).setCell (p := ⟨w.heap.size, 1, none⟩) (Nat.le_refl _) v1).setCell (p := ⟨w.heap.size, 2, none⟩) (Nat.le_refl _) v2).setCell (p := ⟨w.heap.size, 3, none⟩) (Nat.le_refl _) v3
  have h45 : Below w4.heap.size w4 w5 := ⟨hB5.os, hB5.tape, hB5.output, hB5.size, hB5.block⟩
  have ht := (((Turned.refl (fun j => j = w.heap.size) w5).set1 0 v0).set1 1 v1).set1 2 v2 |>.set1 3 v3
  refine ⟨⟨opts2, n2, v, bR, M, rfl, ho, (hS4.below h45).turned ht (fun q hq hh => by have := (hvb q hq).1; omega), (fun q hq => ⟨by have := (hvb q hq).1; omega, Nat.lt_of_lt_of_le (hvb q hq).2 (Nat.le_trans h45.size ht.size)⟩), hml, hM, fun q => ⟨hR q, hSM⟩⟩, (hB4.trans (h45.mono hB4.size)).trans hb4⟩
structure PSt2 (w : World) (x : List UInt8) (g : Nat) (L : List (List UInt8)) (lv : Value) (W : World) : Prop where
  ex : ∃ (o c : Nat) (M : List (List UInt8)) (opts : List UInt8) (n : Int), lv = .slice (some ⟨g, o, none⟩) M.length c ∧ M.length ≤ c ∧ opts.length + M.length ≤ L.length ∧ (∀ y, y ∈ M → y ∈ L) ∧ RowAt W g o M ∧ W.heap[w.heap.size + 1]? = some (planQ x opts n (.slice none 0 0))
  zero : W.heap[w.heap.size]? = some zeroPlan
  below : Below w.heap.size w W
set_option maxRecDepth 100000 in
set_option maxHeartbeats 4000000 in
theorem parse_rd (x : List UInt8) (L : List (List UInt8)) (hx : x ∈ rdL) (g o c : Nat) (w : World) (hR : RowAt w g o (x :: L)) (hg : g < w.heap.size) (hc : L.length + 1 ≤ c) (hl : L.length ≤ 100) (h5 : ∀ y, y ∈ L → y.length ≤ 500) (hE : Env w) :
    Calls Tryz.prog 22 #[.slice (some ⟨g, o, none⟩) (L.length + 1) c] w fun e w' => ParseRes w w' x L e := by
  have d0 := hR 0 x rfl
  simp only [Nat.add_zero] at d0
  obtain ⟨o1, ho1, hR1⟩ := row_after (k := 1) (c := c) hR (by simp) (by simpa using hc)
  rw [List.drop_succ_cons, List.drop_zero] at hR1
  obtain ⟨w0, hw0⟩ : ∃ w0, (w.alloc (.cells #[.string ⟨#[]⟩, .string ⟨#[]⟩, .int .i64 0, .slice none 0 0] 55)).alloc (planQ x [] 10 (.slice none 0 0)) = w0 := ⟨_, rfl⟩
  have hB0 : Below w.heap.size w w0 := by rw [← hw0]; exact ((Below.refl _ w).alloc (Nat.le_refl _) _).alloc (by simp) _
  have hP0 : w0.heap[w.heap.size + 1]? = some (planQ x [] 10 (.slice none 0 0)) := by
    rw [← hw0]
    have := alloc_at (w.alloc (.cells #[.string ⟨#[]⟩, .string ⟨#[]⟩, .int .i64 0, .slice none 0 0] 55)) (planQ x [] 10 (.slice none 0 0))
    simpa using this
  have hQ0 : w0.heap[w.heap.size]? = some zeroPlan := by
    rw [← hw0]
    exact ((Below.heap_alloc _ _ _ (by simp))).trans (alloc_at _ _)
  have HB0 := Lib.hid hB0
  have HP0 := Lib.hid hP0
  have HQ0 := Lib.hid hQ0
  obtain ⟨all, hall, hO⟩ := options_rd x hx
  have HO := Lib.hid hO
  have HE := Lib.hid (fun V (hb : Below w.heap.size w V) => hE.below hb)
  have HON := Lib.hid (fun (o c : Nat) (M : List (List UInt8)) (hM : ∀ y, y ∈ M → y ∈ L) (opts : List UInt8) (n : Int) (V : World) (hb : Below w.heap.size w V) (hP : V.heap[w.heap.size + 1]? = some (planQ x opts n (.slice none 0 0))) (hk : opts.length + M.length ≤ L.length) (hr : RowAt V g o M) => option_any (w.heap.size + 1) g o c x all opts n (.slice none 0 0) M V hP (HE.out V hb) (by omega) hall hr (by omega) (fun y hy => by have := h5 y (hM y hy); omega) (by omega))
  have HRt := Lib.hid (fun (opts : List UInt8) (n : Int) (v : Value) (M : List (List UInt8)) (V : World) (hb : Below w.heap.size w V) (hP : PlanC V (w.heap.size + 1) x opts n v) (hs : Strs V v M) (hm : ∀ y, y ∈ M → y ∈ L) (hml : M.length ≤ L.length) (hol : opts.length ≤ L.length + 1) => right_rd hx hP hs (HE.out V hb) (by omega) (fun y hy => h5 y (hm y hy)) (by omega))
  have HCL := Lib.hid (fun (o c m : Nat) (M : List (List UInt8)) (hM : ∀ y, y ∈ M → y ∈ L) (hm : M.length = m) (hml : M.length ≤ L.length) (V : World) (hr : RowAt V g o M) => clone_any g o c m M hm V hr (by omega) (fun y hy => by have := h5 y (hM y hy); omega))
  have hxl : x.length ≤ 100 := by
    simp only [rdL, List.mem_cons, List.not_mem_nil, or_false] at hx
    rcases hx with rfl | rfl | rfl | rfl | rfl | rfl | rfl | rfl | rfl | rfl | rfl | rfl | rfl <;> decide
  have HR1 := Lib.hid hR1
  have HO1 := Lib.hid ho1
  obtain ⟨N, hN⟩ : ∃ N, L.length = N := ⟨_, rfl⟩
  have HN := Lib.hid hN
  rw [hN] at hl hc ⊢
  have h12 : (1 : Int) ≤ (N : Int) + 1 := by omega
  have h13 : (N : Int) + 1 ≤ (c : Int) := by omega
  clear hR hR1 hx hB0 hP0 hQ0 hO hE h5 hN ho1
  unfold planQ at hw0
  have HW0 := Lib.hid hw0
  clear hw0
  go_enter Tryz.func22, Tryz.ntmps22
  go_wp2_with first
    | (go_at_call 40; (refine (HO.out _).mono ?_); rintro e w1 ⟨rfl, hb1⟩; rw [HW0.out] at hb1; have HB1 := Lib.hid (HB0.out.trans (hb1.mono HB0.out.size)); have HP1 := Lib.hid ((hb1.block _ (Array.getElem?_eq_some_iff.1 HP0.out).1).trans HP0.out); have HQ1 := Lib.hid ((hb1.block _ (Array.getElem?_eq_some_iff.1 HQ0.out).1).trans HQ0.out); clear hb1)
  all_goals
    have e1 := HO1.out
    first | rw [if_pos (by assumption)] at e1 | rw [if_neg (by assumption)] at e1
    cases e1
    go_loopw [7] (fun lv wr => PSt2 w x g L lv wr) (fun lv _ => slN lv)
    case atStart => exact ⟨⟨_, _, L, [], 10, by rw [HN.out], by rw [HN.out]; omega, by simp, fun y hy => hy, HR1.out.below hg (HB1.out.mono (Nat.le_refl _)), HP1.out⟩, HQ1.out, HB1.out⟩
    case round =>
      obtain ⟨⟨o3, c3, M, opts, n, rfl, hmc, hol, hML, hRM, hP⟩, hz, hb⟩ := hrel
      have hO3 := HON.out o3 c3 M hML opts n wr hb hP hol hRM
      have HO3 := Lib.hid hO3
      have HZ := Lib.hid hz
      have HB := Lib.hid hb
      have HRM := Lib.hid hRM
      have HML := Lib.hid hML
      have hgl : g < wr.heap.size := Nat.lt_of_lt_of_le hg hb.size
      have hzl := (Array.getElem?_eq_some_iff.1 hP).1
      clear HB0 HP0 HQ0 HO HON HB1 HP1 HQ1 HW0 hO3 hz hb hRM hML hP
      go_wp2_with fail
      refine HO3.out.mono ?_
      rintro e w2 ⟨r, opts2, n2, rfl, hr, hol2, hD2, ht2⟩
      have hlow := low_turned (n := w.heap.size) ht2 (by omega) HB.out.size
      have HB2 := Lib.hid (HB.out.trans hlow)
      have HR2 := Lib.hid (HRM.out.turned hgl ht2 (by omega))
      have HZ2 := Lib.hid ((ht2.block w.heap.size (by omega) (by omega)).trans HZ.out)
      have HD2 := Lib.hid hD2
      have hgl2 : g < w2.heap.size := Nat.lt_of_lt_of_le hgl ht2.size
      clear hlow ht2 hD2 HO3 HB HRM HZ
      rcases hr with rfl | rfl | ⟨rfl, h1⟩ | ⟨rfl, h2⟩
      · obtain ⟨p0, p1, p2, p3⟩ := planQ_cell HD2.out
        have hz2 := HZ2.out
        unfold zeroPlan at hz2
        obtain ⟨⟨r0, r1, r2, r3⟩, z0, z1, z2, z3⟩ := zplan_cells hz2
        have HZZ := Lib.hid hz2
        clear hz2
        go_wp2_with fail
        (try simp only [Exit.inBlock, Exit.then])
        refine bodyPost_ret (plan_ret _ _ _ _ _ _ _ (plan_four (w := w2) HZZ.out _ _ _ _) rfl _ rfl rfl) rfl ?_
        have hb4 := ((((Below.refl w.heap.size w2).setCell (p := ⟨w.heap.size, 0, none⟩) (Nat.le_refl _) (.string ⟨x.toArray⟩)).setCell (p := ⟨w.heap.size, 1, none⟩) (Nat.le_refl _) (.string ⟨opts2.toArray⟩)).setCell (p := ⟨w.heap.size, 2, none⟩) (Nat.le_refl _) (.int .i64 n2)).setCell (p := ⟨w.heap.size, 3, none⟩) (Nat.le_refl _) (.slice none 0 0)
        refine ⟨⟨opts2, n2, .slice none 0 0, false, [], rfl, ?_, strs_nil _, (fun q hq => by cases hq), Nat.zero_le _, (fun y hy => by cases hy), fun q => by cases q⟩, HB2.out.trans hb4⟩
        omega
      · have HC := Lib.hid (HCL.out o3 c3 _ M HML.out rfl (by omega) w2 HR2.out)
        have HRR := Lib.hid HRt.out
        clear HRt HCL
        go_wp2_with first
          | (go_at_call 43; (refine HC.out.mono ?_); rintro e w3 ⟨⟨v, rfl, hsv, hvb, hsm⟩, hb3⟩; obtain ⟨av, cv, hve, hcv, hav⟩ := hsv.shape; subst hve; clear hcv hav; have HSM := Lib.hid hsm; clear hsm; have HB3 := Lib.hid (HB2.out.trans (hb3.mono HB2.out.size)); have HD3 := Lib.hid ((hb3.block _ (Array.getElem?_eq_some_iff.1 HD2.out).1).trans HD2.out); have HZ3 := Lib.hid ((hb3.block _ (Array.getElem?_eq_some_iff.1 HZ2.out).1).trans HZ2.out); have HS3 := Lib.hid hsv; have HVB := Lib.hid hvb; have z3 : w3.frozen? ⟨w.heap.size + 1, 3, none⟩ = false := (by have := HD3.out; unfold planQ at this; simp [World.frozen?, this]); have y3 := (planQ_cell HD3.out).2.2.2; clear hb3 hsv hvb)
        have hP3 := planQ_set HD3.out (.slice av M.length cv)
        have hb3 := (Below.refl (w.heap.size + 1) w3).setCell (p := ⟨w.heap.size + 1, 3, none⟩) (Nat.le_refl _) (.slice av M.length cv)
        have HZ4 := Lib.hid ((hb3.block w.heap.size (by omega)).trans HZ3.out)
        have HB4 := Lib.hid (HB3.out.trans (hb3.mono (by omega)))
        have hs23 := HB2.out.size
        have hD2lt := (Array.getElem?_eq_some_iff.1 HD2.out).1
        have HS4 := Lib.hid (HS3.out.turned (Turned.ofSet (w := w3) (w.heap.size + 1) 3 (.slice av M.length cv)) (fun q hq hh => by have := (HVB.out q hq).1; omega))
        have hs34 := hb3.size
        have HP4 := Lib.hid hP3
        clear hP3 hb3 HB3 HD3 HZ3 HS3 HC HD2 HR2 HZ2 z3 y3
        generalize w3.setCell ⟨w.heap.size + 1, 3, none⟩ (.slice av M.length cv) = w4 at *
        obtain ⟨p0, p1, p2, p3⟩ := planQ_cell HP4.out
        have hbd : Below w.heap.size w w4.drew := HB4.out.drew
        have HRi := Lib.hid (HRR.out opts2 n2 _ M w4.drew hbd ⟨p0, p1, p2, p3⟩ (HS4.out.below ⟨rfl, rfl, rfl, Nat.le_refl _, fun _ _ => rfl⟩) HML.out (by omega) (by omega))
        have hlt4 := (Array.getElem?_eq_some_iff.1 HP4.out).1
        have hl4 : w.heap.size < w4.heap.size := by omega
        clear HRR
        go_region_with (go_at_call 44; (with_reducible refine HRi.out.mono ?_); intro e w5 hR5; obtain ⟨⟨bR, rfl, hbR⟩, hB5⟩ := hR5; have HBR := Lib.hid hbR; have HP5 := Lib.hid ((hB5.block _ hlt4).trans HP4.out); have hz5 := (hB5.block _ hl4).trans HZ4.out; unfold zeroPlan at hz5; obtain ⟨⟨r0, r1, r2, r3⟩, z0, z1, z2, z3⟩ := zplan_cells hz5; have HZ5 := Lib.hid hz5; obtain ⟨q0, q1, q2, q3⟩ := planQ_cell HP5.out; have HB5 := Lib.hid hB5; clear hz5 hbR hB5)
        all_goals
          go_wp2_with fail
          (try simp only [Exit.inBlock, Exit.then])
          refine bodyPost_ret (plan_ret _ _ _ _ _ _ _ (plan_four (w := w5) HZ5.out _ _ _ _) rfl _ rfl rfl) rfl ?_
          exact parse_end _ _ _ _ HB4.out HB5.out HS4.out (fun q hq => ⟨by have := (HVB.out q hq).1; omega, Nat.lt_of_lt_of_le (HVB.out q hq).2 hs34⟩) (by omega) (by omega) HML.out HBR.out HSM.out
      · have h11 : (1 : Int) ≤ (M.length : Int) := by omega
        have h13 : (M.length : Int) ≤ (c3 : Int) := by omega
        obtain ⟨o4, ho4, hR4⟩ := row_after (k := 1) (c := c3) HR2.out h1 hmc
        have HR4 := Lib.hid hR4
        have HO4 := Lib.hid ho4
        have hM1 := List.length_drop (i := 1) (l := M)
        obtain ⟨M4, hM4⟩ : ∃ M4, M.drop 1 = M4 := ⟨_, rfl⟩
        have HM4 := Lib.hid (show ∀ y, y ∈ M4 → y ∈ L from fun y hy => HML.out y (List.mem_of_mem_drop (hM4 ▸ hy)))
        rw [hM4] at HR4 hM1
        clear hR4 ho4 hM4 HRt HCL
        go_wp2_with fail
        rw [HO4.out]
        exact ⟨⟨⟨_, _, M4, opts2, n2, by rw [hM1], by omega, by omega, HM4.out, HR4.out, HD2.out⟩, HZ2.out, HB2.out⟩, by simp only [slN]; omega⟩
      · have h11 : (2 : Int) ≤ (M.length : Int) := by omega
        have h13 : (M.length : Int) ≤ (c3 : Int) := by omega
        obtain ⟨o4, ho4, hR4⟩ := row_after (k := 2) (c := c3) HR2.out h2 hmc
        have HR4 := Lib.hid hR4
        have HO4 := Lib.hid ho4
        have hM1 := List.length_drop (i := 2) (l := M)
        obtain ⟨M4, hM4⟩ : ∃ M4, M.drop 2 = M4 := ⟨_, rfl⟩
        have HM4 := Lib.hid (show ∀ y, y ∈ M4 → y ∈ L from fun y hy => HML.out y (List.mem_of_mem_drop (hM4 ▸ hy)))
        rw [hM4] at HR4 hM1
        clear hR4 ho4 hM4 HRt HCL
        go_wp2_with fail
        rw [HO4.out]
        exact ⟨⟨⟨_, _, M4, opts2, n2, by rw [hM1], by omega, by omega, HM4.out, HR4.out, HD2.out⟩, HZ2.out, HB2.out⟩, by simp only [slN]; omega⟩
end Go.Proofs.YtbecmcjibpamoaaGreatDoor
namespace Go.Proofs.YtbecmcjibpamoaaGreatDoor
open Go.RowKit
end Go.Proofs.YtbecmcjibpamoaaGreatDoor
namespace Go.Proofs.YtbecmcjibpamoaaGreatDoor
open Go.RowKit
theorem join_len (n : Nat) : ∀ (l : List (List UInt8)), (∀ x, x ∈ l → x.length ≤ n) → (Lib.join l [32]).length ≤ l.length * (n + 1)
  | [], _ => by simp [Lib.join, List.intercalate]
  | x :: r, h => by
    rw [Lib.join_cons, Lib.joinTail]
    have h1 := h x (by simp)
    have h2 : ∀ r : List (List UInt8), (∀ x, x ∈ r → x.length ≤ n) → ((r.map ([32] ++ ·)).flatten).length ≤ r.length * (n + 1) := by
      intro r
      induction r with
      | nil => intro _; simp
      | cons y t ih =>
        intro hh
        have := ih (fun x hx => hh x (List.mem_cons_of_mem _ hx))
        have hy := hh y (by simp)
        simp only [List.map_cons, List.flatten_cons, List.length_append, List.length_cons, List.length_nil] at this ⊢
        rw [Nat.succ_mul]
        omega
    have := h2 r (fun x hx => h x (List.mem_cons_of_mem _ hx))
    rw [List.length_append, List.length_cons, Nat.succ_mul]
    omega
def echoL (L : List (List UInt8)) : List UInt8 := Lib.join L [32] ++ [10]
theorem strs_bytes (L : List (List UInt8)) : (L.map fun x => ByteArray.mk x.toArray).map (·.data.toList) = L := by
  rw [List.map_map]
  exact (List.map_congr_left (fun x _ => by simp)).trans (List.map_id L)
set_option maxRecDepth 100000 in
theorem join_any (v : Value) (L : List (List UInt8)) (sep : List UInt8) (w : World) (hv : Strs w v L) (hl : (Lib.join L sep).length ≤ 140737488355328) (hL : L.length ≤ 100000) :
    Calls Tryz.prog 128 #[v, .string ⟨sep.toArray⟩] w fun e w' => e = .returned (.string ⟨(Lib.join L sep).toArray⟩) ∧ Below w.heap.size w w' := by
  obtain ⟨a0, cap, rfl, hcap, hat⟩ := hv.shape
  by_cases h0 : L = []
  · subst h0
    exact (Tryz.strings_Join_none a0 cap ⟨sep.toArray⟩ w).mono fun e w' ⟨h1, h2⟩ => ⟨by rw [h1]; rfl, h2 ▸ Below.refl _ _⟩
  · obtain ⟨b, off, rfl, hb, hcs⟩ := hat (List.length_pos_iff.2 h0)
    have hsep : (ByteArray.mk sep.toArray).data.toList = sep := by simp
    have := Tryz.strings_Join b off cap (L.map fun x => ByteArray.mk x.toArray) ⟨sep.toArray⟩ w
      (fun j x hx => by
        rw [List.getElem?_map] at hx
        cases hj : L[j]? with
        | none => rw [hj] at hx; cases hx
        | some y => rw [hj] at hx; cases hx; exact hcs j y hj)
      hb (by simp; omega) (by simpa using hcap) (by rw [strs_bytes, hsep]; exact hl)
    rw [strs_bytes, hsep, List.length_map] at this
    exact this
theorem echo_any (v : Value) (L : List (List UInt8)) (w : World) (hv : Strs w v L) (h5 : ∀ x, x ∈ L → x.length ≤ 500) (hL : L.length ≤ 29) :
    Calls Tryz.prog 91 #[v] w fun e w' => e = .returned (.string ⟨(echoL L).toArray⟩) ∧ Below w.heap.size w w' := by
  have hjl : (Lib.join L [32]).length ≤ 20000 := Nat.le_trans (join_len 500 L h5) (by omega)
  have HJ := Lib.hid (join_any v L [32] w hv (by omega) (by omega))
  have HE := Lib.hid (show echoL L = Lib.join L [32] ++ [10] from rfl)
  obtain ⟨a0, cap, hv0, hcap, hat⟩ := hv.shape
  obtain ⟨n0, hn0⟩ : ∃ n0, L.length = n0 := ⟨_, rfl⟩
  rw [hn0] at hv0
  subst hv0
  clear hv hat hn0
  generalize Lib.join L [32] = q at *
  go_enter Tryz.func91, Tryz.ntmps91
  go_wp2_with fail
  refine HJ.out.mono ?_
  rintro e w1 ⟨rfl, hB⟩
  go_wp2_with fail
  go_ret
  rw [HE.out]
  exact ⟨rfl, hB⟩
end Go.Proofs.YtbecmcjibpamoaaGreatDoor
