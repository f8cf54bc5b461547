/- Chars: the reference's quotes; the law CharsQuotes. -/
import Derived.Test.YtlfnoadnnkkegaaDoorChM
import Derived.Test.YtlfnoadnnkkegaaDoorOwn
namespace Go.Proofs.YtlfnoadnnkkegaaDoor
open Go.RowKit

set_option maxRecDepth 100000 in
set_option maxHeartbeats 1600000 in
theorem rquote_any (l : List UInt8) (hl : l.length ≤ 2000) (w : World) : Calls Tryd.prog 21 #[.string ⟨l.toArray⟩] w fun e w' => e = .returned (.string ⟨(quoteL l).toArray⟩) ∧ Below w.heap.size w w' := by
  have h0 : OwnB (w.alloc (.cells #[.int .u8 39] 5)) w.heap.size (.slice (some ⟨w.heap.size, 0, none⟩) 1 1) [39] := OwnB.lit w _ (Nat.le_refl _) [39] 1 rfl (by simp) _ rfl
  go_enter Tryd.func21, Tryd.ntmps21
  go_wp2_with fail

  go_loopw [3, 4] (fun v i W => ∃ k : Nat, k ≤ l.length ∧ i = .int .i64 k ∧ OwnB W w.heap.size v (39 :: (l.take k).flatMap esc) ∧ Below w.heap.size w W) (fun _ i _ => l.length - (intOf i).toNat)
  case atStart => exact ⟨0, by omega, rfl, h0, (Below.refl _ _).alloc (Nat.le_refl _) _⟩
  case round =>
    obtain ⟨k, hk, rfl, hown, hB⟩ := hrel
    have hsz := hB.size
    by_cases hkl : k < l.length
    · obtain ⟨c, _, hg, hc⟩ := str_at l k hkl
      have hlen := flat_len (l.take k)
      have htk := Lib.hid (show (l.take (k + 1)).flatMap esc = (l.take k).flatMap esc ++ esc c by rw [List.take_add_one, hc]; simp)
      rw [List.length_take] at hlen
      have hlen2 : ((l.take k).flatMap esc).length ≤ 8000 := by omega
      clear hlen hc
      generalize (l.take k).flatMap esc = m at *
      by_cases he : c = 39
      · subst he
        go_wp2_with (first
          | (at_builtin; refine append_lit rfl _ _ rfl w.heap.size _ _ rfl hown [39, 92, 39] _ rfl 3 rfl rfl (by simp; omega) hsz ?_; intro v1 w1 hown1 hg1; have hsz1 := hg1.size; have hB1 := below_own hB hown hg1 hsz)
          | (at_builtin; refine append_lit rfl _ _ rfl w.heap.size _ _ rfl hown1 [39] _ rfl 1 rfl rfl (by simp; omega) (by omega) ?_; intro v2 w2 hown2 hg2; have hB2 := below_own hB1 hown1 hg2 (by omega)))
        go_round
        case rel => exact ⟨k + 1, by omega, by go_num, by rw [htk.out]; simpa [esc, List.append_assoc] using hown2, hB2⟩
        case measure => simp [intOf]; omega
      · have he' : ((c.toNat : Int) == 39) = false := by
          rw [beq_eq_false_iff_ne]; intro h; apply he; apply UInt8.toNat_inj.1; show c.toNat = 39; omega
        go_wp2_with (at_builtin; refine append_lit rfl _ _ rfl w.heap.size _ _ rfl hown [c] _ rfl 1 rfl rfl (by simp; omega) hsz ?_; intro v1 w1 hown1 hg1; have hB1 := below_own hB hown hg1 hsz)
        have hesc : esc c = [c] := by simp [esc, he]
        go_round
        case rel => exact ⟨k + 1, by omega, by go_num, by rw [htk.out, hesc]; exact hown1, hB1⟩
        case measure => simp [intOf]; omega
    · obtain rfl : k = l.length := by omega
      have hlen := flat_len l
      rw [List.take_length] at hown
      have hq := Lib.hid (show quoteL l = 39 :: l.flatMap esc ++ [39] from rfl)
      generalize l.flatMap esc = m at *
      go_wp2_with (at_builtin; refine append_lit rfl _ _ rfl w.heap.size _ _ rfl hown [39] _ rfl 1 rfl rfl (by simp; omega) hsz ?_; intro v1 w1 hown1 hg1; have hB1 := below_own hB hown hg1 hsz; have hcv := hown1.conv)
      go_ret
      rw [hq.out]
      exact ⟨rfl, hB1⟩
/-- where the reference's loop stops -/
def Stuck (r : List UInt8) : Prop := ∀ c, r[0]? = some c → c = 39 ∧ r.take 4 ≠ [39, 92, 39, 39]
theorem esc39 : esc 39 = [39, 92, 39, 39] := by simp [esc]
theorem escn {c : UInt8} (h : c ≠ 39) : esc c = [c] := by simp [esc, h]
theorem stuck_end : ∀ (o u r : List UInt8), Stuck r → u.flatMap esc ++ [39] = o.flatMap esc ++ r → r = [39]
  | [], [], r, _, h => by simpa using h.symm
  | [], c :: t, r, hs, h => by
    by_cases hc : c = 39
    · subst hc
      simp only [List.flatMap_cons, List.flatMap_nil, esc39, List.nil_append] at h
      have := (hs 39 (by rw [← h]; rfl)).2
      exact absurd (by rw [← h]; rfl) this
    · simp only [List.flatMap_cons, List.flatMap_nil, escn hc, List.nil_append] at h
      exact absurd ((hs c (by rw [← h]; rfl)).1) hc
  | d :: o, [], r, _, h => by
    by_cases hd : d = 39
    · subst hd; simp [esc39] at h
    · simp only [List.flatMap_cons, List.flatMap_nil, escn hd] at h
      simp at h; exact absurd h.1.symm hd
  | d :: o, c :: t, r, hs, h => by
    by_cases hd : d = 39
    · by_cases hc : c = 39
      · subst hd hc
        simp only [List.flatMap_cons, esc39, List.append_assoc] at h
        exact stuck_end o t r hs (List.append_cancel_left h)
      · subst hd
        simp only [List.flatMap_cons, esc39, escn hc] at h
        simp at h; exact absurd h.1 hc
    · by_cases hc : c = 39
      · subst hc
        simp only [List.flatMap_cons, esc39, escn hd] at h
        simp at h; exact absurd h.1.symm hd
      · simp only [List.flatMap_cons, escn hd, escn hc] at h
        simp at h
        exact stuck_end o t r hs (by simpa using h.2)
/-- the reference gives what the code gives -/
theorem unq_stuck {q o : List UInt8} {k : Nat} (h0 : q[0]? = some 39) (h1 : q.drop 1 = o.flatMap esc ++ q.drop k) (hs : Stuck (q.drop k)) : unqRes q = if q.drop k = [39] then (o, 0) else ([], 11) := by
  have hq : q = 39 :: q.drop 1 := by
    cases q with
    | nil => cases h0
    | cons c t => simp at h0; simp [h0]
  by_cases hk : q.drop k = [39]
  · rw [if_pos hk]
    have : q = quoteL o := by rw [hq, h1, hk]; rfl
    rw [this]; exact unq_quote o
  · rw [if_neg hk]
    rcases unq_cases q with ⟨u, hu⟩ | hu
    · have e := unq_some hu
      exfalso; apply hk
      apply stuck_end o u _ hs
      have e2 : q.drop 1 = u.flatMap esc ++ [39] := by rw [← e]; simp [quoteL]
      rw [← e2, h1]
    · exact hu
theorem unq_no {q : List UInt8} (h0 : q[0]? ≠ some 39) : unqRes q = ([], 11) := by
  simp only [unqRes, unquoteL]; rw [if_neg (fun h => h0 h.2.1)]
set_option maxRecDepth 100000 in
set_option maxHeartbeats 1600000 in
theorem runquote_any (q : List UInt8) (hq : q.length ≤ 2000) (w : World) : Calls Tryd.prog 19 #[.string ⟨q.toArray⟩] w fun e w' => e = .returned (.tuple #[.string ⟨(unqRes q).1.toArray⟩, .int .i64 (unqRes q).2]) ∧ Below w.heap.size w w' := by
  go_enter Tryd.func19, Tryd.ntmps19
  go_wp2_with fail
  go_loopw [4, 5] (fun v i W => ∃ (k : Nat) (o : List UInt8), 1 ≤ k ∧ (q ≠ [] → k ≤ q.length ∧ q.drop 1 = o.flatMap esc ++ q.drop k) ∧ o.length ≤ k ∧ k ≤ q.length + 1 ∧ i = .int .i64 k ∧ OwnB W w.heap.size v o ∧ Below w.heap.size w W) (fun _ i _ => q.length - (intOf i).toNat)
  case atStart => exact ⟨1, [], by omega, fun h => ⟨List.length_pos_iff.2 h, by simp⟩, by simp, by omega, rfl, OwnB.nil _ _, Below.refl _ _⟩
  case round =>
    obtain ⟨k, o, hk1, hinv, hol, hkl, rfl, hown, hB⟩ := hrel
    have hsz := hB.size
    have hcv := hown.conv
    by_cases hq0 : q = []
    · subst hq0
      obtain rfl : k = 1 := by simp at hkl; omega
      go_wp2_with fail
      go_ret2
      exact ⟨rfl, hB⟩
    obtain ⟨hkq, hdr⟩ := hinv hq0
    have hne1 : (q == []) = false := by simp [hq0]
    have hne2 : q.isEmpty = false := by simp [hq0]
    have hpos : 0 < q.length := List.length_pos_iff.2 hq0
    have hdr' := Lib.hid hdr
    clear hdr hinv hq0
    obtain ⟨c0, _, hg0, hc0⟩ := str_at q 0 hpos
    have hc0' := Lib.hid hc0
    clear hc0
    by_cases hlt : k < q.length
    · obtain ⟨c, _, hg, hc⟩ := str_at q k hlt
      have hc' := Lib.hid hc
      have hdk : q.drop k = c :: q.drop (k + 1) := by
        have := List.getElem?_eq_some_iff.1 hc
        obtain ⟨h1, h2⟩ := this
        rw [← h2]; exact List.drop_eq_getElem_cons h1
      have hdk' := Lib.hid hdk
      clear hdk hc
      by_cases he : c = 39
      · subst he
        by_cases hk3 : (k : Int) + 3 < q.length
        · by_cases ht : (q.drop k).take 4 = [39, 92, 39, 39]
          · have hteq : ((q.drop k).take 4 == [39, 92, 39, 39]) = true := by simp [ht]
            have ht' := Lib.hid ht
            clear ht
            obtain ⟨c3, _, hg3, hc3⟩ := str_at q (k + 3) (by omega)
            have hc3' := Lib.hid hc3
            clear hc3
            obtain rfl : c3 = 39 := by
              have h1 : ((q.drop k).take 4)[3]? = some c3 := by rw [List.getElem?_take_of_lt (by omega), List.getElem?_drop, hc3'.out]
              rw [ht'.out] at h1; cases h1; rfl
            go_wp2_with (at_builtin; refine append_lit rfl _ _ rfl w.heap.size _ _ rfl hown [39] _ rfl 1 rfl rfl (by simp; omega) hsz ?_; intro v1 w1 hown1 hg1; have hB1 := below_own hB hown hg1 hsz)
            have hdk2 : q.drop k = [39, 92, 39, 39] ++ q.drop (k + 4) := by rw [← ht'.out, ← List.drop_drop]; exact (List.take_append_drop 4 _).symm
            go_round
            case rel => exact ⟨k + 4, o ++ [39], by omega, fun _ => ⟨by omega, by rw [hdr'.out, hdk2]; simp [esc39]⟩, by simp; omega, by omega, by go_num, hown1, hB1⟩
            case measure => simp [intOf]; omega
          · have hteq : ((q.drop k).take 4 == [39, 92, 39, 39]) = false := by simp [ht]
            have ht' := Lib.hid ht
            clear ht
            have hr0 := Lib.hid (fun (h : ¬ (c0.toNat : Int) = 39) => unq_no (q := q) (by rw [hc0'.out]; intro e; cases e; exact h rfl))
            have hres := Lib.hid (fun (h : (c0.toNat : Int) = 39) => unq_stuck (by rw [hc0'.out, (show c0 = 39 from UInt8.toNat_inj.1 (by show c0.toNat = 39; omega))]) hdr'.out (fun c h => by rw [hdk'.out] at h; cases h; exact ⟨rfl, ht'.out⟩))
            have hr1 := Lib.hid (fun (h : (c0.toNat : Int) = 39) (h2 : (k : Int) = q.length - 1) => (hres.out h).trans (if_pos (by rw [hdk'.out, List.drop_eq_nil_of_le (by omega)])))
            have hr2 := Lib.hid (fun (h : (c0.toNat : Int) = 39) (h2 : ¬ (k : Int) = q.length - 1) => (hres.out h).trans (if_neg (by rw [hdk'.out]; intro e; have := congrArg List.length e; simp at this; omega)))
            obtain ⟨cl, _, hgl, hcl⟩ := str_at q (q.length - 1) (by omega)
            have hcl' := Lib.hid (fun (h2 : (k : Int) = q.length - 1) => show cl = 39 from Option.some.inj (hcl.symm.trans ((congrArg (q[·]?) (show q.length - 1 = k by omega)).trans hc'.out)))
            clear hcl hres hc'
            by_cases h2 : (k : Int) = q.length - 1
            · obtain rfl := hcl'.out h2
              go_wp2_with fail
              all_goals go_ret2
              all_goals first | rw [hr0.out (by omega)] | rw [hr1.out (by omega) (by omega)]
              all_goals exact ⟨rfl, hB⟩
            · go_wp2_with fail
              all_goals go_ret2
              all_goals first | rw [hr0.out (by omega)] | rw [hr2.out (by omega) (by omega)]
              all_goals exact ⟨rfl, hB⟩
        · have hr0 := Lib.hid (fun (h : ¬ (c0.toNat : Int) = 39) => unq_no (q := q) (by rw [hc0'.out]; intro e; cases e; exact h rfl))
          have hres := Lib.hid (fun (h : (c0.toNat : Int) = 39) => unq_stuck (by rw [hc0'.out, (show c0 = 39 from UInt8.toNat_inj.1 (by show c0.toNat = 39; omega))]) hdr'.out (fun c h => by rw [hdk'.out] at h; cases h; exact ⟨rfl, fun e => by have := congrArg List.length e; simp at this; omega⟩))
          have hr1 := Lib.hid (fun (h : (c0.toNat : Int) = 39) (h2 : (k : Int) = q.length - 1) => (hres.out h).trans (if_pos (by rw [hdk'.out, List.drop_eq_nil_of_le (by omega)])))
          have hr2 := Lib.hid (fun (h : (c0.toNat : Int) = 39) (h2 : ¬ (k : Int) = q.length - 1) => (hres.out h).trans (if_neg (by rw [hdk'.out]; intro e; have := congrArg List.length e; simp at this; omega)))
          obtain ⟨cl, _, hgl, hcl⟩ := str_at q (q.length - 1) (by omega)
          have hcl' := Lib.hid (fun (h2 : (k : Int) = q.length - 1) => show cl = 39 from Option.some.inj (hcl.symm.trans ((congrArg (q[·]?) (show q.length - 1 = k by omega)).trans hc'.out)))
          clear hcl hres hc'
          by_cases h2 : (k : Int) = q.length - 1
          · obtain rfl := hcl'.out h2
            go_wp2_with fail
            all_goals go_ret2
            all_goals first | rw [hr0.out (by omega)] | rw [hr1.out (by omega) (by omega)]
            all_goals exact ⟨rfl, hB⟩
          · go_wp2_with fail
            all_goals go_ret2
            all_goals first | rw [hr0.out (by omega)] | rw [hr2.out (by omega) (by omega)]
            all_goals exact ⟨rfl, hB⟩
      · have he3 : ¬ (c.toNat : Int) = 39 := by intro h; apply he; apply UInt8.toNat_inj.1; show c.toNat = 39; omega
        have he' : ((c.toNat : Int) == 39) = false := by rw [beq_eq_false_iff_ne]; exact he3
        have he4 : ((c.toNat : Int) != 39) = true := by rw [bne_iff_ne]; exact he3
        go_wp2_with (at_builtin; refine append_lit rfl _ _ rfl w.heap.size _ _ rfl hown [c] _ rfl 1 rfl rfl (by simp; omega) hsz ?_; intro v1 w1 hown1 hg1; have hB1 := below_own hB hown hg1 hsz)
        have hdk2 := hdk'.out
        go_round
        case rel => exact ⟨k + 1, o ++ [c], by omega, fun _ => ⟨by omega, by rw [hdr'.out, hdk2]; simp [escn he]⟩, by simp; omega, by omega, by go_num, hown1, hB1⟩
        case measure => simp [intOf]; omega
    · obtain rfl : k = q.length := by omega
      have hr0 := Lib.hid (fun (h : ¬ (c0.toNat : Int) = 39) => unq_no (q := q) (by rw [hc0'.out]; intro e; cases e; exact h rfl))
      have hres := Lib.hid (fun (h : (c0.toNat : Int) = 39) => unq_stuck (by rw [hc0'.out, (show c0 = 39 from UInt8.toNat_inj.1 (by show c0.toNat = 39; omega))]) hdr'.out (fun c h => by rw [List.drop_length] at h; cases h))
      have hr1 := Lib.hid (fun (h : (c0.toNat : Int) = 39) => (hres.out h).trans (if_neg (by rw [List.drop_length]; intro e; cases e)))
      clear hres
      go_wp2_with fail
      all_goals go_ret2
      all_goals first | rw [hr0.out (by omega)] | rw [hr1.out (by omega)]
      all_goals exact ⟨rfl, hB⟩
set_option maxRecDepth 100000 in
set_option maxHeartbeats 1600000 in
theorem cquotes_any (s : List UInt8) (hs : s.length ≤ maxLen) (q : List UInt8) (hq : q.length ≤ maxLen) (w : World) (hE : Env w) :
    Calls Tryd.prog 5 #[.string ⟨s.toArray⟩, .string ⟨q.toArray⟩] w fun e w' => e = .returned (.bool true) ∧ Below w.heap.size w w' := by
  unfold maxLen at hs hq
  by_cases hbig : (2000 : Int) < s.length ∨ (2000 : Int) < q.length
  · have ha := Lib.hid (awake_any w hE)
    rcases hbig with hbig | hbig
    · go_enter Tryd.func5, Tryd.ntmps5
      go_wp2_with (go_at_call 13; refine ha.out.mono ?_; rintro e w' ⟨rfl, hB⟩)
      go_ret
      exact ⟨rfl, hB⟩
    · by_cases hb2 : (2000 : Int) < s.length
      all_goals
        go_enter Tryd.func5, Tryd.ntmps5
        go_wp2_with (go_at_call 13; refine ha.out.mono ?_; rintro e w' ⟨rfl, hB⟩)
        go_ret
        exact ⟨rfl, hB⟩
  have hb1 : ¬ (2000 : Int) < s.length := fun h => hbig (.inl h)
  have hb2 : ¬ (2000 : Int) < q.length := fun h => hbig (.inr h)
  clear hbig
  go_enter Tryd.func5, Tryd.ntmps5
  go_wp2_with fail
  refine (unquote_any q (by omega) w hE).mono ?_
  rintro e w1 ⟨rfl, hB1⟩
  have hE1 := hE.below hB1
  go_wp2_with fail
  refine (runquote_any q (by omega) w1).mono ?_
  rintro e w2 ⟨rfl, hB2'⟩
  have hB2 := hB1.trans (hB2'.mono hB1.size)
  have hE2 := hE.below hB2
  clear hB2' hE1 hB1
  go_wp2_with fail
  refine (quote_any s (by omega) w2 hE2).mono ?_
  rintro e w3 ⟨rfl, hB3'⟩
  have hB3 := hB2.trans (hB3'.mono hB2.size)
  clear hB3' hE2 hB2
  go_wp2_with fail
  refine (rquote_any s (by omega) w3).mono ?_
  rintro e w4 ⟨rfl, hB4'⟩
  have hB4 := hB3.trans (hB4'.mono hB3.size)
  have ha := awake_at w4 (hE.below hB4)
  clear hB4' hB3
  go_wp2_with fail
  refine ha.out.mono ?_
  rintro e w5 ⟨rfl, hB5⟩
  go_wp2_with fail
  go_ret
  exact ⟨rfl, hB4.trans (hB5.mono hB4.size)⟩
end Go.Proofs.YtlfnoadnnkkegaaDoor
