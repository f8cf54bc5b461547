/- Texts: the lines of a text, both sides. -/
import Derived.Test.YtmhgehnkhhlbkaaGreatDoorTxU
import Derived.Test.YtmhgehnkhhlbkaaGreatDoorTxL
import Derived.Test.YtmhgehnkhhlbkaaGreatDoorOwnS
import Derived.Lib.SplitLaws
namespace Go.Proofs.YtmhgehnkhhlbkaaGreatDoor
open Go.RowKit

/-- strings that lie in a block of a call's own, and may be written -/
structure SB (w : World) (b : Nat) (L : List (List UInt8)) : Prop where
  lt : b < w.heap.size
  cell : ∀ (j : Nat) (x : List UInt8), L[j]? = some x → w.cell? ⟨b, j, none⟩ = some (.string ⟨x.toArray⟩)
  free : ∀ j, j < L.length → w.frozen? ⟨b, j, none⟩ = false
theorem SB.below {w w' : World} {b L} (h : SB w b L) (hb : Below w.heap.size w w') : SB w' b L :=
  ⟨Nat.lt_of_lt_of_le h.lt hb.size, fun j c hj => keep_cell (h.cell j c hj) hb, fun j hj => (hb.frozen (p := ⟨b, j, none⟩) h.lt).trans (h.free j hj)⟩
theorem SB.take {w : World} {b L R} (h : SB w b (L ++ R)) : SB w b L :=
  ⟨h.lt, fun j c hj => h.cell j c (by rw [List.getElem?_append_left (List.getElem?_eq_some_iff.1 hj).1]; exact hj), fun j hj => h.free j (by simp; omega)⟩
theorem SB.strs {w : World} {b cap : Nat} {L : List (List UInt8)} (h : SB w b L) (hc : L.length ≤ cap) (hl : L.length ≤ 100000) (h5 : ∀ x, x ∈ L → x.length ≤ 100000) : Strs w (.slice (some ⟨b, 0, none⟩) L.length cap) L :=
  ⟨by unfold maxLen; omega, ⟨_, cap, rfl, hc, fun _ => ⟨b, 0, rfl, h.lt, fun i x hx => by rw [Nat.zero_add]; exact h.cell i x hx⟩⟩, fun i x hx => by have := h5 x (List.mem_of_getElem? hx); unfold maxLen; omega⟩
theorem sb_new (w : World) (L : List (List UInt8)) (cs : Array Value) (hcs : cs.toList = L.map fun x => Value.string ⟨x.toArray⟩) (t : TypeId) : SB (w.alloc (.cells cs t)) w.heap.size L := by
  refine ⟨by simp, fun j x hj => ?_, fun j hj => ?_⟩
  · rw [World.cell?_alloc_new]
    show cs[j]? = _
    rw [← Array.getElem?_toList, hcs, List.getElem?_map, hj]; rfl
  · have hn : (w.alloc (.cells cs t)).heap[w.heap.size]? = some (.cells cs t) := by
      show (w.heap.push _)[w.heap.size]? = _
      simp
    simp only [World.frozen?, hn]
    simp
theorem split_any (s : List UInt8) (hs : s.length ≤ 100000) (w : World) (hE : Env w) : Calls Tryz.prog 21 #[.string ⟨s.toArray⟩, .string ⟨#[10]⟩] w fun e w' =>
    e = .returned (.slice (some ⟨w.heap.size, 0, none⟩) (cutL [] s).length (cutL [] s).length) ∧ SB w' w.heap.size (cutL [] s) ∧ Below w.heap.size w w' := by
  obtain ⟨m, hm⟩ := hE.maxlen
  have h := Tryz.strings_Split ⟨s.toArray⟩ ⟨#[10]⟩ m w (by rw [str_size]; omega) hm (by decide)
  have hd : (ByteArray.mk s.toArray).data.toList = s := by simp
  have hd2 : (ByteArray.mk #[10]).data.toList = [10] := rfl
  have hc : Lib.countB ⟨s.toArray⟩ ⟨#[10]⟩ = s.count 10 := by
    show Lib.count _ _ = _
    rw [hd, hd2, Lib.count_one]
  have hcut := splitB_cut 0 (by decide) s
  have hlen : (cutL [] s).length = s.count 10 + 1 := by
    have := congrArg List.length hcut
    rw [List.length_map, ← hc, Lib.splitB_all _ (by decide) 0 _ _ rfl] at this
    rw [← hc]; exact this.symm
  rw [hc, ← hlen] at h
  refine h.mono ?_
  rintro e w' ⟨rfl, rfl⟩
  refine ⟨rfl, sb_new w _ _ ?_ _, below_alloc w _⟩
  show ((Lib.splitB ⟨#[10]⟩ 0 (s.count 10) ⟨s.toArray⟩).map Value.string) = _
  rw [show cutL [] s = cutL (List.replicate 0 10) s from rfl, ← hcut, List.map_map]
  refine List.map_congr_left (fun x _ => ?_)
  show Value.string x = Value.string ⟨x.data.toList.toArray⟩
  rw [Array.toArray_toList]
theorem flat_len (l : List (List UInt8)) (x : List UInt8) (h : x ∈ l) : x.length ≤ l.flatten.length := mem_flat_len l x h
theorem line_len {s x : List UInt8} (h : x ∈ linesL s) : x.length ≤ s.length := Nat.le_trans (mem_flat_len _ _ h) (lines_sum s)
/-- what lines gives: a slice of the call's own -/
def LinesRes (w w' : World) (e : Ending) (L : List (List UInt8)) : Prop :=
  ∃ b cap, e = .returned (.slice (some ⟨b, 0, none⟩) L.length cap) ∧ w.heap.size ≤ b ∧ SB w' b L ∧ L.length ≤ cap ∧ Below w.heap.size w w'
set_option maxRecDepth 100000 in
theorem lines_any (s : List UInt8) (hs : s.length ≤ 100000) (w : World) (hE : Env w) : Calls Tryz.prog 12 #[.string ⟨s.toArray⟩] w fun e w' => LinesRes w w' e (linesL s) := by
  have H := Lib.hid (split_any s hs w hE)
  have hcut := cut_lines s
  have hll := lines_len s
  rcases hcut with ⟨r, h1, h2⟩ | ⟨h1, r, x, h2, h3⟩
  · rw [h1] at H
    rw [h2]
    have hrl : r.length ≤ 100000 := by rw [h2] at hll; omega
    clear h1 h2 hll
    obtain ⟨n, hn⟩ : ∃ n, (r ++ [[]]).length = n := ⟨_, rfl⟩
    rw [hn] at H
    have hn1 : n = r.length + 1 := by rw [← hn]; simp
    have HN := Lib.hid hn1
    have hn2 : (n : Int) - 1 = (r.length : Int) := by omega
    have hn3 : r.length < n := by omega
    have hn4 : n ≤ 200000 := by omega
    clear hn hn1
    go_enter Tryz.func12, Tryz.ntmps12
    go_wp2_with fail
    refine H.out.mono ?_
    rintro e w1 ⟨rfl, hSB, hB⟩
    have hc := hSB.cell r.length [] (by rw [List.getElem?_append_right (Nat.le_refl _)]; simp)
    have hSB2 := hSB.take
    clear hSB
    go_wp2_with fail
    go_ret
    exact ⟨w.heap.size, n, rfl, Nat.le_refl _, hSB2, by omega, hB⟩
  · rw [h2] at H
    rw [h1, h2]
    have hrl : (r ++ [x]).length ≤ 100000 := by rw [← h2, ← h1]; omega
    clear h1 h2 hll
    obtain ⟨n, hn⟩ : ∃ n, (r ++ [x]).length = n := ⟨_, rfl⟩
    rw [hn] at H hrl
    have hn1 : n = r.length + 1 := by rw [← hn]; simp
    have hn2 : (n : Int) - 1 = (r.length : Int) := by omega
    have hn3 : r.length < n := by omega
    have HN := Lib.hid hn
    have hx1 : (x == []) = false := by simp [h3]
    have hx2 : x.isEmpty = false := by simp [h3]
    clear hn hn1 h3
    go_enter Tryz.func12, Tryz.ntmps12
    go_wp2_with fail
    refine H.out.mono ?_
    rintro e w1 ⟨rfl, hSB, hB⟩
    have hc := hSB.cell r.length x (by rw [List.getElem?_append_right (Nat.le_refl _)]; simp)
    go_wp2_with fail
    go_ret
    exact ⟨w.heap.size, n, by rw [HN.out]; rfl, Nat.le_refl _, hSB, Nat.le_of_eq HN.out, hB⟩
theorem lines_done (x t : List UInt8) (h : (10 : UInt8) ∉ x) : linesL (x ++ 10 :: t) = x :: linesL t := by
  induction x with
  | nil => rw [List.nil_append, linesL, if_pos rfl]
  | cons c r ih =>
    rw [List.cons_append, linesL, if_neg (fun e => h (by rw [e]; simp)), ih (fun e => h (List.mem_cons_of_mem _ e))]; rfl
theorem lines_one : ∀ (x : List UInt8), (10 : UInt8) ∉ x → x ≠ [] → linesL x = [x]
  | [], _, h => absurd rfl h
  | [c], h, _ => by rw [linesL, if_neg (fun e => h (by rw [e]; simp))]; rfl
  | c :: d :: t, h, _ => by
    rw [linesL, if_neg (fun e => h (by rw [e]; simp)), lines_one (d :: t) (fun e => h (List.mem_cons_of_mem _ e)) (by simp)]; rfl
def RLinesRes (w w' : World) (e : Ending) (L : List (List UInt8)) : Prop := ∃ v, e = .returned v ∧ OwnS w' w.heap.size v L ∧ Below w.heap.size w w'
set_option maxRecDepth 100000 in
set_option maxHeartbeats 1600000 in
theorem rlines_any (s : List UInt8) (hs : s.length ≤ 100000) (w : World) : Calls Tryz.prog 10 #[.string ⟨s.toArray⟩] w fun e w' => RLinesRes w w' e (linesL s) := by
  obtain ⟨n, hn⟩ : ∃ n, s.length = n := ⟨_, rfl⟩
  have HN := Lib.hid hn
  rw [hn] at hs
  obtain ⟨R, hR⟩ : ∃ R, linesL s = R := ⟨_, rfl⟩
  have HR := Lib.hid hR
  have HRl := Lib.hid (lines_len s)
  rw [hR]
  clear hR
  go_enter Tryz.func10, Tryz.ntmps10
  go_wp2_with fail
  go_loopw [3, 4, 5] (fun v x i W => ∃ (k : Nat) (O : List (List UInt8)) (l : List UInt8), k ≤ n ∧ i = .int .i64 k ∧ x = .string ⟨l.toArray⟩ ∧ OwnS W w.heap.size v O ∧ Below w.heap.size w W ∧ Hid (R = O ++ linesL (l ++ s.drop k)) ∧ Hid ((10 : UInt8) ∉ l) ∧ l.length ≤ k ∧ O.length ≤ k) (fun _ _ i _ => n - (intOf i).toNat)
  case atStart => exact ⟨0, [], [], by omega, rfl, rfl, OwnS.nil _ _, Below.refl _ _, Lib.hid (by rw [← HR.out]; simp), Lib.hid (by simp), by simp, by simp⟩
  case round =>
    obtain ⟨k, O, l, hk, rfl, rfl, hO, hB, HS, H10, hl, hol⟩ := hrel
    have hsz := hB.size
    by_cases hkn : k < n
    · obtain ⟨c, _, hg, hc⟩ := str_at s k (by omega)
      have hd := drop_cons hc
      by_cases h10 : c = 10
      · subst h10
        have HS2 := Lib.hid (show R = (O ++ [l]) ++ linesL ([] ++ s.drop (k + 1)) by rw [HS.out, hd, lines_done _ _ H10.out]; simp)
        clear hd hc
        go_wp2_with (at_builtin; refine append_s rfl _ _ rfl w.heap.size _ _ rfl hO l rfl (by omega) hsz ?_; intro v1 w1 hown1 hg1'; have hB1 := below_ownS hB hO hg1' hsz)
        go_round
        case rel => exact ⟨k + 1, _, [], by omega, by go_num, rfl, hown1, hB1, HS2, Lib.hid (by simp), by simp, by simp; omega⟩
        case measure => simp [intOf]; omega
      · have HS2 := Lib.hid (show R = O ++ linesL ((l ++ [c]) ++ s.drop (k + 1)) by rw [HS.out, hd]; simp)
        have H102 := Lib.hid (show (10 : UInt8) ∉ l ++ [c] from fun e => by
          rcases List.mem_append.1 e with e | e
          · exact H10.out e
          · simp at e; exact h10 e.symm)
        have n10 := ne_int (k := 10) (by omega) h10
        have m10 : ((c.toNat : Int) == 10) = false := by rw [beq_eq_false_iff_ne]; exact n10
        have HT := Lib.hid (show (s.drop k).take 1 = [c] by rw [hd]; rfl)
        clear hd hc h10
        go_wp2_with fail
        rw [HT.out]
        go_round
        case rel => exact ⟨k + 1, O, _, by omega, by go_num, rfl, hO, hB, HS2, H102, by simp; omega, by omega⟩
        case measure => simp [intOf]; omega
    · obtain rfl : k = n := by omega
      have hs2 := HS.out
      rw [← hn, List.drop_length, List.append_nil] at hs2
      by_cases h0 : l = []
      · have HS2 := Lib.hid (show R = O by rw [hs2, h0]; simp [linesL])
        have q1 : (l == []) = true := by simp [h0]
        have q2 : l.isEmpty = true := by simp [h0]
        have q3 : (l != []) = false := by simp [h0]
        clear hs2 HS h0
        go_wp2_with fail
        go_ret
        rw [HS2.out]
        exact ⟨u3, rfl, hO, hB⟩
      · have HS2 := Lib.hid (show R = O ++ [l] by rw [hs2, lines_one l H10.out h0])
        have q1 : (l == []) = false := by simp [h0]
        have q2 : l.isEmpty = false := by simp [h0]
        have q3 : (l != []) = true := by simp [h0]
        clear hs2 HS h0
        go_wp2_with (at_builtin; refine append_s rfl _ _ rfl w.heap.size _ _ rfl hO l rfl (by omega) hsz ?_; intro v1 w1 hown1 hg1'; have hB1 := below_ownS hB hO hg1' hsz)
        go_ret
        rw [HS2.out]
        exact ⟨v1, rfl, hown1, hB1⟩
end Go.Proofs.YtmhgehnkhhlbkaaGreatDoor
