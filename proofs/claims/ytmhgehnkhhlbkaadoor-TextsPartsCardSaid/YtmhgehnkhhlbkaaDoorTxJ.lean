/- Texts: lines put together again; the lines that have a text in them. -/
import Derived.Test.YtmhgehnkhhlbkaaDoorTxM
import Derived.Test.YtmhgehnkhhlbkaaDoorTxV
import Derived.Lib.IndexMore
namespace Go.Proofs.YtmhgehnkhhlbkaaDoor
open Go.RowKit Go.Sort

theorem joinL_take {L : List (List UInt8)} {k : Nat} {x : List UInt8} (h : L[k]? = some x) : joinL (L.take (k + 1)) = joinL (L.take k) ++ (x ++ [10]) := by
  rw [List.take_add_one, h]; simp [joinL]
theorem joinL_append (a b : List (List UInt8)) : joinL (a ++ b) = joinL a ++ joinL b := by simp [joinL]
theorem joinL_take_len (L : List (List UInt8)) (k : Nat) : (joinL (L.take k)).length ≤ (joinL L).length := by
  have : joinL L = joinL (L.take k) ++ joinL (L.drop k) := by rw [← joinL_append, List.take_append_drop]
  rw [this, List.length_append]; omega
set_option maxRecDepth 100000 in
set_option maxHeartbeats 1600000 in
theorem joined_any (v : Value) (L : List (List UInt8)) (w : World) (hv : Strs w v L) (hl : (joinL L).length ≤ 1000000) (h5 : ∀ x, x ∈ L → x.length ≤ 100000) (hLn : L.length ≤ 1000000) :
    Calls Tryd.prog 46 #[v] w fun e w' => e = .returned (.string ⟨(joinL L).toArray⟩) ∧ Below w.heap.size w w' := by
  obtain ⟨a0, cap, hv0, hcap, hat⟩ := hv.shape
  obtain ⟨n, hn⟩ : ∃ n, L.length = n := ⟨_, rfl⟩
  have HN := Lib.hid hn
  rw [hn] at hv0 hat hLn
  subst hv0
  have H5 := Lib.hid h5
  have HJ := Lib.hid (joinL_take_len L)
  have HL := Lib.hid hl
  have hA := below_alloc w (.cells #[.pointer none, .slice none 0 0] 59)
  have hB0 : Lib.IsBuilderF 59 5 w.heap.size w.heap.size (Lib.byteCells []) (w.alloc (.cells #[.pointer none, .slice none 0 0] 59)) := by
    refine .inl ⟨Nat.le_refl _, .slice none 0 0, ?_, ⟨by simp [Lib.byteCells], .inl ⟨rfl, rfl⟩⟩, (fun e => by cases e)⟩
    show (w.heap.push _)[w.heap.size]? = _
    simp
  obtain ⟨base, hbase⟩ : ∃ base, base = w.heap.size := ⟨_, rfl⟩
  rw [← hbase] at hA hB0
  have hblt : ∀ b, b < w.heap.size → b < base := fun b h => by omega
  have HB := Lib.hid hbase
  clear hv hn h5 hl hbase
  go_enter Tryd.func46, Tryd.ntmps46
  go_wp2_with fail
  rw [← HB.out]
  go_loopw [8] (fun i W => ∃ k : Nat, k ≤ n ∧ i = .int .i64 k ∧ Lib.IsBuilderF 59 5 base base (Lib.byteCells (joinL (L.take k))) W ∧ Below base w W) (fun i _ => n - (intOf i).toNat)
  case atStart => exact ⟨0, by omega, rfl, hB0, hA⟩
  case round =>
    clear hB0 hA
    obtain ⟨k, hk, rfl, hBd, hB⟩ := hrel
    have hbs : base ≤ wr.heap.size := by have := hB.size; have := HB.out; omega
    by_cases hkn : k < n
    · obtain ⟨b, off, rfl, hb, hcs⟩ := hat (by omega)
      obtain ⟨x, hx⟩ : ∃ x, L[k]? = some x := ⟨L[k]'(by rw [HN.out]; exact hkn), List.getElem?_eq_getElem _⟩
      have hcell := (hB.cell (p := ⟨b, off + k, none⟩) (hblt b hb)).trans (hcs k x hx)
      have hxl := H5.out x (List.mem_of_getElem? hx)
      have hj := joinL_take hx
      have hjl := HJ.out (k + 1)
      rw [hj] at hjl
      have hll := HL.out
      have HW := Lib.hid (Tryd.Builder_WriteString_k base base (Lib.byteCells (joinL (L.take k))) ⟨(x ++ [10]).toArray⟩ wr hBd (by rw [Lib.byteCells_length, str_size]; simp only [List.length_append] at hjl ⊢; omega) hbs)
      have HJ2 := Lib.hid (show Lib.byteCells (joinL (L.take k)) ++ Lib.strCells ⟨(x ++ [10]).toArray⟩ = Lib.byteCells (joinL (L.take (k + 1))) by rw [hj]; simp [Lib.byteCells, Lib.strCells])
      clear hx hj hjl hll hcs hat hBd
      go_wp2_with fail
      refine HW.out.mono ?_
      rintro e w1 ⟨rfl, hAt, hB1, _⟩
      rw [HJ2.out] at hAt
      go_wp2_with fail
      go_round
      case rel => exact ⟨k + 1, by omega, by go_num, .inr hAt, hB.trans hB1⟩
      case measure => simp [intOf]; omega
    · obtain rfl : k = n := by omega
      rw [← HN.out, List.take_length] at hBd
      have HS := Lib.hid (Tryd.Builder_String_any_k base base (joinL L) wr hBd hbs)
      clear hat hBd
      go_wp2_with fail
      refine HS.out.mono ?_
      rintro e w1 ⟨rfl, _, hB1, _⟩
      go_wp2_with fail
      go_ret
      exact ⟨rfl, HB.out ▸ hB.trans hB1⟩
theorem contains_hit {r t : List UInt8} (h : t.isPrefixOf r = true) : Lib.contains r t = true := by
  unfold Lib.contains
  cases r with
  | nil => cases t with
    | nil => rfl
    | cons c u => simp [List.isPrefixOf] at h
  | cons b l => rw [Lib.index, if_pos h]; rfl
theorem contains_step {b : UInt8} {l t : List UInt8} (h : t.isPrefixOf (b :: l) = false) : Lib.contains (b :: l) t = Lib.contains l t := by
  unfold Lib.contains
  have := Lib.index_ge l t
  rw [Lib.index, if_neg (by simp [h])]
  split
  · rename_i e; rw [beq_iff_eq.1 e]
  · rename_i e
    have : Lib.index l t ≠ -1 := fun h => e (beq_iff_eq.2 h)
    rw [decide_eq_decide]; omega
theorem contains_short : ∀ (r t : List UInt8), r.length < t.length → Lib.contains r t = false
  | [], t, h => by
    cases t with
    | nil => simp at h
    | cons c u => rfl
  | b :: l, t, h => by
    have hp : t.isPrefixOf (b :: l) = false := by
      cases hh : t.isPrefixOf (b :: l) with
      | false => rfl
      | true => have := (List.isPrefixOf_iff_prefix.1 hh).length_le; omega
    rw [contains_step hp]
    exact contains_short l t (by simp at h; omega)
theorem prefix_take {r t : List UInt8} : t.isPrefixOf r = (r.take t.length == t) := by
  rw [Bool.eq_iff_iff, List.isPrefixOf_iff_prefix, beq_iff_eq, List.prefix_iff_eq_take]
  exact ⟨fun h => h.symm, fun h => h.symm⟩
set_option maxRecDepth 100000 in
theorem has_any (s t : List UInt8) (hs : s.length ≤ 100000) (ht : t.length ≤ 100000) (w : World) : Calls Tryd.prog 52 #[.string ⟨s.toArray⟩, .string ⟨t.toArray⟩] w fun e w' => e = .returned (.bool (Lib.contains s t)) ∧ w = w' := by
  obtain ⟨n, hn⟩ : ∃ n, s.length = n := ⟨_, rfl⟩
  obtain ⟨m, hm⟩ : ∃ m, t.length = m := ⟨_, rfl⟩
  have HM := Lib.hid hm
  obtain ⟨R, hR⟩ : ∃ R, Lib.contains s t = R := ⟨_, rfl⟩
  have HR := Lib.hid hR
  rw [hR]
  rw [hn] at hs
  rw [hm] at ht
  clear hR
  go_enter Tryd.func52, Tryd.ntmps52
  go_wp2_with fail
  go_loop [5] (fun i => ∃ k : Nat, k ≤ n ∧ i = .int .i64 k ∧ Hid (Lib.contains (s.drop k) t = R)) (fun i => n + 1 - (intOf i).toNat)
  case atStart => exact ⟨0, by omega, rfl, by rw [List.drop_zero]; exact HR⟩
  case round =>
    obtain ⟨k, hk, rfl, HC⟩ := hrel
    by_cases hkm : k + m ≤ n
    · have hkm2 : (k : Int) + m ≤ n := by omega
      have hp := prefix_take (r := s.drop k) (t := t)
      rw [hm] at hp
      have hq1 : k + m - k = m := by omega
      cases he : t.isPrefixOf (s.drop k) with
      | true =>
        rw [he] at hp
        have q1 := hp.symm
        have HRt := Lib.hid (show R = true by rw [← HC.out]; exact contains_hit he)
        clear he hp HC
        go_wp2_with fail
        go_ret
        rw [HRt.out]
        exact ⟨rfl, rfl⟩
      | false =>
        rw [he] at hp
        have q1 := hp.symm
        have hkn : k < n := by
          rcases Nat.lt_or_ge k n with h | h
          · exact h
          · obtain rfl : k = n := by omega
            obtain rfl : m = 0 := by omega
            have : t = [] := List.eq_nil_of_length_eq_zero hm
            subst this
            rw [show s.drop k = [] from List.drop_eq_nil_of_le (by omega)] at he
            cases he
        have HC2 := Lib.hid (show Lib.contains (s.drop (k + 1)) t = R by
          obtain ⟨c, _, _, hc⟩ := str_at s k (by omega)
          rw [drop_cons hc] at he
          rw [← HC.out, drop_cons hc, contains_step he])
        clear he hp HC
        go_wp2_with fail
        go_round
        case rel => exact ⟨k + 1, by omega, by go_num, HC2⟩
        case measure => simp [intOf]; omega
    · have hkm2 : ¬ (k : Int) + m ≤ n := by omega
      have HRt := Lib.hid (show R = false by rw [← HC.out]; exact contains_short _ _ (by simp; omega))
      clear HC
      go_wp2_with fail
      go_ret
      rw [HRt.out]
      exact ⟨rfl, rfl⟩
/-- texts of up to 1000 bytes -/
structure LT where
  val : List UInt8
  ok : val.length ≤ 1000
instance : Inhabited LT := ⟨⟨[], by simp⟩⟩
def encL (x : LT) : Value := .string ⟨x.val.toArray⟩
def lts : (L : List (List UInt8)) → (∀ x, x ∈ L → x.length ≤ 1000) → List LT
  | [], _ => []
  | x :: r, h => ⟨x, h x (by simp)⟩ :: lts r (fun y hy => h y (List.mem_cons_of_mem _ hy))
theorem lts_map : ∀ (L : List (List UInt8)) (h : ∀ x, x ∈ L → x.length ≤ 1000), (lts L h).map (fun x => x.val) = L
  | [], _ => rfl
  | x :: r, h => by rw [lts, List.map_cons, lts_map r]
theorem lts_len (L : List (List UInt8)) (h : ∀ x, x ∈ L → x.length ≤ 1000) : (lts L h).length = L.length := by
  have := congrArg List.length (lts_map L h)
  rwa [List.length_map] at this
theorem lts_get {L : List (List UInt8)} {h : ∀ x, x ∈ L → x.length ≤ 1000} {j : Nat} (hj : j < (lts L h).length) : L[j]? = some (lts L h)[j].val := by
  have h1 := congrArg (fun l => l[j]?) (lts_map L h)
  simp only [List.getElem?_map] at h1
  rw [← h1, List.getElem?_eq_getElem hj]; rfl
theorem SB.holds {w : World} {b : Nat} {L : List (List UInt8)} (h : SB w b L) (h5 : ∀ x, x ∈ L → x.length ≤ 1000) : Holds encL w b 0 (lts L h5).toArray := by
  intro j hj
  rw [Nat.zero_add]
  have hj' : j < (lts L h5).length := by simpa using hj
  refine ⟨?_, h.free j (by rw [← lts_len L h5]; exact hj')⟩
  rw [h.cell j _ (lts_get hj'), getElem!_pos _ j hj]; rfl
theorem SB.of_holds {w : World} {b : Nat} {l : List LT} (hb : b < w.heap.size) (h : Holds encL w b 0 l.toArray) : SB w b (l.map (fun x => x.val)) := by
  refine ⟨hb, fun j c hj => ?_, fun j hj => ?_⟩
  · rw [List.getElem?_map] at hj
    cases hl : l[j]? with
    | none => rw [hl] at hj; cases hj
    | some x =>
      rw [hl] at hj; cases hj
      obtain ⟨h1, h2⟩ := List.getElem?_eq_some_iff.1 hl
      have := (h j (by simpa using h1)).1
      rw [Nat.zero_add, getElem!_pos l.toArray j (by simpa using h1)] at this
      rw [this]
      show some (encL l[j]) = _
      rw [h2]; rfl
  · have := (h j (by simpa using hj)).2
    rwa [Nat.zero_add] at this
/-- does a line go? -/
def gone (t : List UInt8) (others : Bool) (x : List UInt8) : Bool := Lib.contains x t == others
theorem grepf_any (W : World) (pt po : Nat) (t : List UInt8) (others : Bool) (x : List UInt8) (hx : x.length ≤ 1000) (h1 : W.cell? ⟨pt, 0, none⟩ = some (.string ⟨t.toArray⟩)) (h2 : W.cell? ⟨po, 0, none⟩ = some (.bool others)) (m : Int) (hm : W.cell? ⟨0, 0, none⟩ = some (.int .i64 m)) :
    Calls Tryd.prog 50 #[.string ⟨x.toArray⟩, .pointer (some ⟨pt, 0, none⟩), .pointer (some ⟨po, 0, none⟩)] W fun e w' => e = .returned (.bool (gone t others x)) ∧ ∃ q, w' = W.drewN q := by
  have HC := Lib.hid (fun W' (hm' : W'.cell? ⟨0, 0, none⟩ = some (.int .i64 m)) => Tryd.strings_Contains ⟨x.toArray⟩ ⟨t.toArray⟩ m W' (by rw [str_size]; omega) hm')
  have hb : ∀ p q : Bool, (if p = true then q else !q) = (p == q) := by decide
  have HG := Lib.hid (show gone t others x = (Lib.contains x t == others) from rfl)
  go_enter Tryd.func50, Tryd.ntmps50
  go_wp2_with fail
  go_quiet ((go_at_call 51; exact Calls.quiet_of_same (HC.out _ hm)))
  go_wp2_with fail
  go_ret
  exact ⟨rfl, nq, rfl⟩
theorem filter_lts (L : List (List UInt8)) (h : ∀ x, x ∈ L → x.length ≤ 1000) (p : List UInt8 → Bool) : ((lts L h).filter fun x => p x.val).map (fun x => x.val) = L.filter p := by
  conv => rhs; rw [← lts_map L h]
  rw [List.filter_map]; rfl
theorem dels_any (w : World) (b cap pt po : Nat) (L : List (List UInt8)) (t : List UInt8) (others : Bool) (h : SB w b L) (hcap : L.length ≤ cap) (hl : L.length ≤ 100000) (h5 : ∀ x, x ∈ L → x.length ≤ 1000)
    (h1 : w.cell? ⟨pt, 0, none⟩ = some (.string ⟨t.toArray⟩)) (h2 : w.cell? ⟨po, 0, none⟩ = some (.bool others)) (m : Int) (hm : w.cell? ⟨0, 0, none⟩ = some (.int .i64 m))
    (hpt : pt ≠ b) (hpo : po ≠ b) (hmb : 0 ≠ b) :
    Calls Tryd.prog 49 #[.slice (some ⟨b, 0, none⟩) L.length cap, .func (.func 50) #[] #[.pointer (some ⟨pt, 0, none⟩), .pointer (some ⟨po, 0, none⟩)]] w fun e w' =>
      e = .returned (.slice (some ⟨b, 0, none⟩) (L.filter fun x => !gone t others x).length cap) ∧ SB w' b (L.filter fun x => !gone t others x) ∧ w.grownBy w' (some b) := by
  have l1 := World.block_lt_of_cell? w _ h1
  have l2 := World.block_lt_of_cell? w _ h2
  have l3 := World.block_lt_of_cell? w _ hm
  have hmain := Tryd.slices_DeleteFunc (α := LT) encL (fun x => rfl) (fun x => gone t others x.val) 50 #[.pointer (some ⟨pt, 0, none⟩), .pointer (some ⟨po, 0, none⟩)] (enters_of Tryd.func50 (by kernel_rfl) rfl) ⟨[], by simp⟩ (by intro w; kernel_rfl)
    b 0 cap (lts L h5).toArray w
    (fun W x hB => grepf_any W pt po t others x.val x.ok (keep_cell h1 hB) (keep_cell h2 hB) m (keep_cell hm hB))
    (fun n os dk x hdk => by
      have cellk : ∀ g j u, g < w.heap.size → g ≠ b → w.cell? ⟨g, j, none⟩ = some u → (sortWorld encL w b 0 n dk os).cell? ⟨g, j, none⟩ = some u := by
        intro g j u hg hgb hu
        rw [sortWorld, cell?_grow _ _ _ (by rw [size_putRow]; exact hg), cell?_putRow_other _ _ _ _ _ _ (.inl hgb)]
        exact hu
      exact grepf_any _ pt po t others x.val x.ok (cellk _ _ _ l1 hpt h1) (cellk _ _ _ l2 hpo h2) m (cellk _ _ _ l3 hmb hm))
    (h.holds h5) (by simp [lts_len]; omega) (by simpa [lts_len] using hcap)
  have hsz : (lts L h5).toArray.size = L.length := by simp [lts_len]
  have hfl : ((lts L h5).toArray.toList.filter fun x => !gone t others x.val).length = (L.filter fun x => !gone t others x).length := by
    show ((lts L h5).filter fun x => !gone t others x.val).length = _
    have := congrArg List.length (filter_lts L h5 (fun x => !gone t others x))
    rwa [List.length_map] at this
  have hle := List.length_filter_le (fun x => !gone t others x) L
  rw [hsz] at hmain
  rw [hfl] at hmain
  refine hmain.mono ?_
  rintro e w' ⟨rfl, q, rfl⟩
  refine ⟨rfl, ?_, grown_put _ _ _ _ _ _⟩
  have hh := SB.of_holds (w := putRow encL (Sort.ahead w q) b 0 ((((lts L h5).filter fun (x : LT) => !gone t others x.val) ++ List.replicate (L.length - (L.filter fun x => !gone t others x).length) (⟨[], by simp⟩ : LT)).toArray : Array LT)) (b := b) (by rw [size_putRow]; exact h.lt)
    (holds_putRow encL _ b 0 (lts L h5).toArray _ (h.holds h5) (by
      rw [List.size_toArray, List.size_toArray, List.length_append, List.length_replicate, lts_len]
      show ((lts L h5).toArray.toList.filter _).length + _ = _
      rw [hfl]; omega))
  have hmap : ((((lts L h5).filter fun (x : LT) => !gone t others x.val) ++ List.replicate (L.length - (L.filter fun x => !gone t others x).length) (⟨[], by simp⟩ : LT)).map fun x => x.val) = (L.filter fun x => !gone t others x) ++ (List.replicate (L.length - (L.filter fun x => !gone t others x).length) (⟨[], by simp⟩ : LT)).map fun x => x.val := by
    rw [List.map_append, filter_lts L h5 (fun x => !gone t others x)]
  rw [hmap] at hh
  exact hh.take
def grepL (s t : List UInt8) (others : Bool) : List UInt8 := joinL ((linesL s).filter fun x => !gone t others x)
theorem joinL_filter_len (p : List UInt8 → Bool) : ∀ L : List (List UInt8), (joinL (L.filter p)).length ≤ (joinL L).length
  | [] => by simp
  | x :: r => by
    have ih := joinL_filter_len p r
    rw [List.filter_cons]
    split
    · simp [joinL] at ih ⊢; omega
    · simp [joinL] at ih ⊢; omega
theorem joinLines_len (s : List UInt8) : (joinL (linesL s)).length ≤ 2 * s.length := by
  rw [joinL_len]
  have h1 := lines_sum s
  have h2 := lines_len s
  omega
set_option maxRecDepth 100000 in
theorem grep_any (s t : List UInt8) (others : Bool) (hs : s.length ≤ 500) (w : World) (hE : Env w) : Calls Tryd.prog 25 #[.string ⟨s.toArray⟩, .string ⟨t.toArray⟩, .bool others] w fun e w' => e = .returned (.string ⟨(grepL s t others).toArray⟩) ∧ Below w.heap.size w w' := by
  have HG := Lib.hid (show grepL s t others = joinL ((linesL s).filter fun x => !gone t others x) from rfl)
  have HLl := Lib.hid (lines_len s)
  have HL5 := Lib.hid (fun x (h : x ∈ linesL s) => line_len h)
  have HJl := Lib.hid (Nat.le_trans (joinL_filter_len (fun x => !gone t others x) (linesL s)) (joinLines_len s))
  obtain ⟨W, hW⟩ : ∃ W, W = (w.alloc (.cells #[.string ⟨t.toArray⟩] 9)).alloc (.cells #[.bool others] 4) := ⟨_, rfl⟩
  have hBW : Below w.heap.size w W := by rw [hW]; exact below_tr (below_alloc w _) (below_alloc _ _)
  have hWs : W.heap.size = w.heap.size + 2 := by rw [hW]; simp
  have hc1 : W.cell? ⟨w.heap.size, 0, none⟩ = some (.string ⟨t.toArray⟩) := by
    rw [hW, World.cell?_alloc_old _ _ _ (by simp), World.cell?_alloc_new]; rfl
  have hc2 : W.cell? ⟨w.heap.size + 1, 0, none⟩ = some (.bool others) := by
    have h1 := World.cell?_alloc_new (w := w.alloc (.cells #[.string ⟨t.toArray⟩] 9)) #[.bool others] 4 0
    rw [show (w.alloc (.cells #[.string ⟨t.toArray⟩] 9)).heap.size = w.heap.size + 1 by simp] at h1
    rw [hW, h1]; rfl
  have hEW := hE.below hBW
  have HL := Lib.hid (lines_any s (by omega) W hEW)
  have hsz := hBW.size
  go_enter Tryd.func25, Tryd.ntmps25
  go_wp2_with fail
  rw [← hW]
  refine HL.out.mono ?_
  rintro e w1 ⟨b, cap, rfl, hb, hSB, hcap, hB1⟩
  have hE1 := hEW.below hB1
  obtain ⟨m, hm⟩ := hE1.maxlen
  have hm0 := World.block_lt_of_cell? _ _ (hE.maxlen.choose_spec)
  have hm0' : 0 < w.heap.size := hm0
  have HD := Lib.hid (dels_any w1 b cap w.heap.size (w.heap.size + 1) (linesL s) t others hSB hcap (by have := HLl.out; omega) (fun x hx => by have := HL5.out x hx; omega) (keep_cell hc1 hB1) (keep_cell hc2 hB1) m hm (by omega) (by omega) (by omega))
  have hB2 := below_tr hBW hB1
  have hb2 := hB1.size
  have hFc := Lib.hid (show ((linesL s).filter fun x => !gone t others x).length ≤ cap from Nat.le_trans (List.length_filter_le _ _) hcap)
  clear hm hSB hcap hc1 hc2 hm0 hm0' hEW HL
  obtain ⟨n, hn⟩ : ∃ n, (linesL s).length = n := ⟨_, rfl⟩
  rw [hn] at HD ⊢
  have hFl := Lib.hid (show ((linesL s).filter fun x => !gone t others x).length ≤ 500 from Nat.le_trans (List.length_filter_le _ _) (by have := HLl.out; omega))
  have hF5 := Lib.hid (show ∀ x, x ∈ ((linesL s).filter fun x => !gone t others x) → x.length ≤ 500 from fun x hx => by have := HL5.out x (List.mem_filter.1 hx).1; omega)
  obtain ⟨F, hF⟩ : ∃ F, ((linesL s).filter fun x => !gone t others x) = F := ⟨_, rfl⟩
  rw [hF] at HD HJl hFl hF5 HG hFc
  clear hF hn hW
  go_wp2_with fail
  refine HD.out.mono ?_
  rintro e w2 ⟨rfl, hSB2, hg2⟩
  have hB3 := hB2.grown hg2 hB2.size (fun k hk => by cases hk; omega)
  have HJ := Lib.hid (joined_any (.slice (some ⟨b, 0, none⟩) F.length cap) F w2 (hSB2.strs hFc.out (by have := hFl.out; omega) (fun x hx => by have := hF5.out x hx; omega)) (by have := HJl.out; omega) (fun x hx => by have := hF5.out x hx; omega) (by have := hFl.out; omega))
  clear hSB2 hg2
  obtain ⟨nf, hnf⟩ : ∃ nf, F.length = nf := ⟨_, rfl⟩
  rw [hnf] at HJ ⊢
  clear hnf
  go_wp2_with fail
  refine HJ.out.mono ?_
  rintro e w3 ⟨rfl, hB4⟩
  go_wp2_with fail
  go_ret
  rw [HG.out]
  exact ⟨rfl, below_tr hB3 hB4⟩
theorem gone_ne (t : List UInt8) (others : Bool) (x : List UInt8) : (!gone t others x) = (Lib.contains x t != others) := rfl
set_option maxRecDepth 100000 in
set_option maxHeartbeats 1600000 in
theorem rgrep_any (s t : List UInt8) (others : Bool) (hs : s.length ≤ 500) (ht : t.length ≤ 500) (w : World) : Calls Tryd.prog 26 #[.string ⟨s.toArray⟩, .string ⟨t.toArray⟩, .bool others] w fun e w' => e = .returned (.string ⟨(grepL s t others).toArray⟩) ∧ Below w.heap.size w w' := by
  have HL := Lib.hid (rlines_any s (by omega) w)
  have HLl := Lib.hid (lines_len s)
  have HL5 := Lib.hid (fun x (h : x ∈ linesL s) => line_len h)
  have HJ := Lib.hid (joinL_take_len ((linesL s).filter fun x => !gone t others x))
  have HJl := Lib.hid (fun k => Nat.le_trans (joinL_filter_len (fun x => !gone t others x) ((linesL s).take k)) (Nat.le_trans (joinL_take_len _ _) (joinLines_len s)))
  have HG := Lib.hid (show grepL s t others = joinL ((linesL s).filter fun x => !gone t others x) from rfl)
  obtain ⟨L, hL⟩ : ∃ L, linesL s = L := ⟨_, rfl⟩
  rw [hL] at HL HLl HL5 HJl HG
  clear hL HJ
  go_enter Tryd.func26, Tryd.ntmps26
  go_wp2_with fail
  refine HL.out.mono ?_
  rintro e w1 ⟨v, rfl, hO, hB⟩
  have hst := hO.strs (fun x hx => by have := HL5.out x hx; unfold maxLen; omega)
  obtain ⟨a0, cap, hv0, hcap, hat⟩ := hst.shape
  obtain ⟨n, hn⟩ : ∃ n, L.length = n := ⟨_, rfl⟩
  have HN := Lib.hid hn
  rw [hn] at hv0 hat
  subst hv0
  have hn5 : n ≤ 500 := by have := HLl.out; omega
  clear hn hst hO
  go_wp2_with fail
  go_loop [7, 9] (fun o i => ∃ (k : Nat) (q : List UInt8), k ≤ n ∧ i = .int .i64 k ∧ o = .string ⟨q.toArray⟩ ∧ q.length ≤ 1000 ∧ Hid (q = joinL ((L.take k).filter fun x => !gone t others x))) (fun _ i => n - (intOf i).toNat)
  case atStart => exact ⟨0, [], by omega, rfl, rfl, by simp, Lib.hid (by simp [joinL])⟩
  case round =>
    obtain ⟨k, q, hk, rfl, rfl, hq, HQ⟩ := hrel
    by_cases hkn : k < n
    · obtain ⟨b, off, rfl, hb, hcs⟩ := hat (by omega)
      obtain ⟨x, hx⟩ : ∃ x, L[k]? = some x := ⟨L[k]'(by rw [HN.out]; exact hkn), List.getElem?_eq_getElem _⟩
      have hcell := hcs k x hx
      have hxl := HL5.out x (List.mem_of_getElem? hx)
      have htk : L.take (k + 1) = L.take k ++ [x] := by rw [List.take_add_one, hx]; rfl
      have HC := Lib.hid (has_any x t (by omega) (by omega) w1)
      have hjk := HJl.out (k + 1)
      have hg := gone_ne t others x
      obtain ⟨c, hc⟩ : ∃ c, Lib.contains x t = c := ⟨_, rfl⟩
      rw [hc] at HC hg
      have hstep : joinL ((L.take (k + 1)).filter fun x => !gone t others x) = if (c != others) = true then q ++ x ++ [10] else q := by
        rw [htk, List.filter_append, joinL_append, ← HQ.out]
        simp only [List.filter_cons, List.filter_nil, hg]
        split
        · simp [joinL]
        · simp [joinL]
      cases hcc : c != others with
      | true =>
        rw [hcc, if_pos rfl] at hstep
        have HS := Lib.hid hstep.symm
        rw [hstep] at hjk
        have hcc2 : (c == others) = false := by simpa using hcc
        clear hx hcs hat hg hc hstep htk
        go_wp2_with fail
        refine HC.out.mono ?_
        rintro e w' ⟨rfl, rfl⟩
        have hjk2 : (q ++ x ++ [10]).length ≤ 1000 := by omega
        go_wp2_with fail
        go_round
        case rel => exact ⟨k + 1, q ++ x ++ [10], by omega, by go_num, by simp, hjk2, HS⟩
        case measure => simp [intOf]; omega
      | false =>
        rw [hcc, if_neg (by simp)] at hstep
        have HS := Lib.hid hstep.symm
        have hcc2 : (c == others) = true := by simpa using hcc
        clear hx hcs hat hg hc hstep htk hjk
        go_wp2_with fail
        refine HC.out.mono ?_
        rintro e w' ⟨rfl, rfl⟩
        go_wp2_with fail
        go_round
        case rel => exact ⟨k + 1, q, by omega, by go_num, rfl, hq, HS⟩
        case measure => simp [intOf]; omega
    · obtain rfl : k = n := by omega
      have HQ2 := Lib.hid (show q = joinL (L.filter fun x => !gone t others x) by rw [HQ.out, ← HN.out, List.take_length])
      clear hat
      go_wp2_with fail
      go_ret
      rw [HG.out, ← HQ2.out]
      exact ⟨rfl, hB⟩
set_option maxRecDepth 100000 in
theorem greps_any (s : List UInt8) (hs : s.length ≤ maxLen) (t : List UInt8) (ht : t.length ≤ maxLen) (w : World) (hE : Env w) :
    Calls Tryd.prog 8 #[.string ⟨s.toArray⟩, .string ⟨t.toArray⟩] w fun e w' => e = .returned (.bool true) ∧ Below w.heap.size w w' := by
  have HF := Lib.hid (few_any (.slice (some ⟨w.heap.size, 0, none⟩) 2 2) [s, t] (w.alloc (.cells #[.string ⟨s.toArray⟩, .string ⟨t.toArray⟩] 9)) (strs_lit w [s, t] _ 2 rfl (by simp) (mem2 hs ht) rfl _) (by simp))
  have hA := below_alloc w (.cells #[.string ⟨s.toArray⟩, .string ⟨t.toArray⟩] 9)
  have hE1 := hE.below hA
  cases hfew : fewL [s, t] with
  | false =>
    rw [hfew] at HF
    clear hfew
    go_enter Tryd.func8, Tryd.ntmps8
    go_wp2_with fail
    refine HF.out.mono ?_
    rintro e w1' ⟨rfl, rfl⟩
    go_wp2_with fail
    refine (awake_any _ hE1).mono ?_
    rintro e w2 ⟨rfl, hB2⟩
    go_wp2_with fail
    go_ret
    exact ⟨rfl, below_tr hA hB2⟩
  | true =>
    rw [hfew] at HF
    have h5 := ((few_iff _).1 hfew).1
    have s5 := h5 s (by simp)
    have t5 := h5 t (by simp)
    have H1 := Lib.hid (fun o => grep_any s t o s5)
    have H2 := Lib.hid (fun o => rgrep_any s t o s5 t5)
    clear hfew h5
    go_enter Tryd.func8, Tryd.ntmps8
    go_wp2_with fail
    refine HF.out.mono ?_
    rintro e w1' ⟨rfl, rfl⟩
    generalize grepL s t = G at *
    generalize hg1 : G false = g1 at *
    have HG1 := Lib.hid hg1
    generalize hg2 : G true = g2 at *
    have HG2 := Lib.hid hg2
    clear hg1 hg2
    have q1 : (g1 == g1) = true := by simp
    have q2 : (g2 == g2) = true := by simp
    go_wp2_with fail
    refine (H1.out false _ hE1).mono ?_
    rintro e w2 ⟨rfl, hB2⟩
    have hB12 := below_tr hA hB2
    rw [HG1.out]
    go_wp2_with fail
    refine (H2.out false _).mono ?_
    rintro e w3 ⟨rfl, hB3⟩
    have hB13 := below_tr hB12 hB3
    have hE3 := hE.below hB13
    rw [HG1.out]
    go_wp2_with fail
    refine (H1.out true _ hE3).mono ?_
    rintro e w4 ⟨rfl, hB4⟩
    have hB14 := below_tr hB13 hB4
    rw [HG2.out]
    go_wp2_with fail
    refine (H2.out true _).mono ?_
    rintro e w5 ⟨rfl, hB5⟩
    have hBB := below_tr hB14 hB5
    have hE5 := hE.below hBB
    rw [HG2.out]
    go_wp2_with fail
    refine (awake_any _ hE5).mono ?_
    rintro e w6 ⟨rfl, hB6⟩
    go_wp2_with fail
    go_ret
    exact ⟨rfl, below_tr hBB hB6⟩
end Go.Proofs.YtmhgehnkhhlbkaaDoor
