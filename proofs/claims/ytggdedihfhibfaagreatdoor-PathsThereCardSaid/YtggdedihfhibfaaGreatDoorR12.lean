/- Texts of one proof, packed: GlC -/
import Derived.Test.YtggdedihfhibfaaGreatDoorR10
import Derived.Test.YtggdedihfhibfaaGreatDoorR11
import Derived.Shelf.Abstract
import Derived.Shelf.RegionOpen
import Derived.OwnWalkIn
import Derived.TacticsInMore
import Derived.LoopNIn
import Derived.LoopIn
set_option linter.unusedVariables false
set_option linter.unusedSimpArgs false
set_option linter.deprecated false
set_option linter.unnecessarySimpa false
/- glob.pattern.tokens: the iterator. -/
namespace Go.Proofs.YtggdedihfhibfaaGreatDoor
open Go.RowKit IntWalk Go.Shelf
set_option linter.unusedVariables false
set_option linter.unusedSimpArgs false
attribute [local go_sem] Oper.semAt_some

/-- the token at a place, and where what is behind it begins -/
def tokS (s : List UInt8) (q : List Bool) (i : Nat) : GTok × Nat :=
  if plainS s q i 63 then (⟨2, 0, false, []⟩, i + 1)
  else if plainS s q i 42 then (⟨3, 0, false, []⟩, i + 1)
  else if plainS s q i 91 then (match classS s q i with | some r => r | none => (⟨1, atB s i, false, []⟩, i + 1))
  else (⟨1, atB s i, false, []⟩, i + 1)
def tokensS (s : List UInt8) (q : List Bool) : Nat → Nat → List GTok
  | 0, _ => []
  | f + 1, i => if i < s.length then (tokS s q i).1 :: tokensS s q f (tokS s q i).2 else []
def parseS (s : List UInt8) (q : List Bool) : List GTok := tokensS s q s.length 0
theorem endS_ge (s : List UInt8) (q : List Bool) : ∀ (f e : Nat), e ≤ endS s q f e
  | 0, e => Nat.le_refl _
  | f + 1, e => by
    unfold endS
    split
    · have := endS_ge s q f (e + 1); omega
    · exact Nat.le_refl _
theorem classRest_at {s : List UInt8} {q : List Bool} {neg : Bool} {i : Nat} {r : GTok × Nat} (h : classRest s q neg i = some r) : i < r.2 ∧ r.2 ≤ s.length ∧ r.1.k = 4 ∧ r.1.c = 0 := by
  unfold classRest at h
  split at h
  · cases h
  · have := endS_ge s q s.length (i + 1)
    cases h
    exact ⟨by show i < _ + 1; omega, by show _ + 1 ≤ _; omega, rfl, rfl⟩
theorem classS_at {s : List UInt8} {q : List Bool} {i : Nat} {r : GTok × Nat} (h : classS s q i = some r) : i < r.2 ∧ r.2 ≤ s.length ∧ r.1.k = 4 ∧ r.1.c = 0 := by
  unfold classS at h
  split at h
  · have := classRest_at h; exact ⟨by omega, this.2⟩
  · have := classRest_at h; exact ⟨by omega, this.2⟩
/-- a token, and the slice of its ranges -/
structure TokX where
  t : GTok
  rv : Value
def encX (x : TokX) : Array Value := #[tokV x.t.k x.t.c x.t.neg x.rv]
def TX (x : TokX) (W : World) : Prop := OwnR W 0 x.rv x.t.rs
def keepP (n₀ Bp : Nat) (W W' : World) : Prop := Below n₀ W W' ∧ W'.heap[Bp]? = W.heap[Bp]?
/-- what a round of the iterator knows -/
structure RD (w0 wr : World) (Bp tb : Nat) (s : List UInt8) (v : Value) (W : World) (c : UInt8) : Prop where
  p : W.heap[Bp]? = some (.cells #[.string ⟨s.toArray⟩, v] 88 (0, 0))
  t : W.heap[tb]? = some (.cells #[.int .i64 1, .int .u8 c.toNat, .bool false, .slice none 0 0] 49 (0, 0))
  kw : Below w0.heap.size w0 W
  kr : Below wr.heap.size wr W
  new : wr.heap.size ≤ tb
section
variable {w0 wr W W' : World} {Bp tb : Nat} {s : List UInt8} {v : Value} {c : UInt8}
theorem RD.next (h : RD w0 wr Bp tb s v W c) (hb : Below W.heap.size W W') : RD w0 wr Bp tb s v W' c :=
  ⟨(hb.block _ (blk_lt h.p)).trans h.p, (hb.block _ (blk_lt h.t)).trans h.t, h.kw.trans (hb.mono h.kw.size), h.kr.trans (hb.mono h.kr.size), h.new⟩
theorem RD.cells (h : RD w0 wr Bp tb s v W c) : W.cell? ⟨Bp, 0, none⟩ = some (.string ⟨s.toArray⟩) ∧ W.cell? ⟨Bp, 1, none⟩ = some v ∧ W.cell? ⟨tb, 0, none⟩ = some (.int .i64 1) ∧ W.cell? ⟨tb, 1, none⟩ = some (.int .u8 c.toNat) ∧ W.cell? ⟨tb, 2, none⟩ = some (.bool false) ∧ W.cell? ⟨tb, 3, none⟩ = some (.slice none 0 0) ∧ (∀ k, W.frozen? ⟨tb, k, none⟩ = false) := by
  have hp := h.p
  have ht := h.t
  exact ⟨by simp [World.cell?, hp], by simp [World.cell?, hp], by simp [World.cell?, ht], by simp [World.cell?, ht], by simp [World.cell?, ht], by simp [World.cell?, ht], fun k => by simp [World.frozen?, ht]⟩
theorem RD.set (h : RD w0 wr Bp tb s v W c) (x : TokX) (hw : w0.heap.size ≤ wr.heap.size) (hne : Bp < wr.heap.size) : (putTok W tb (.int .i64 x.t.k) (.int .u8 x.t.c.toNat) (.bool x.t.neg) x.rv).heap[Bp]? = some (.cells #[.string ⟨s.toArray⟩, v] 88 (0, 0)) ∧ Below w0.heap.size w0 (putTok W tb (.int .i64 x.t.k) (.int .u8 x.t.c.toNat) (.bool x.t.neg) x.rv) ∧ Below wr.heap.size wr (putTok W tb (.int .i64 x.t.k) (.int .u8 x.t.c.toNat) (.bool x.t.neg) x.rv) :=
  have hn := h.new
  ⟨(putTok_ne (by omega)).trans h.p, putTok_below h.kw (by omega), putTok_below h.kr hn⟩
theorem RD.own (h : RD w0 wr Bp tb s v W c) {base : Nat} {rv : Value} {rs : List (UInt8 × UInt8)} (ho : OwnR W base rv rs) (hb : tb < base) (x : TokX) : OwnR (putTok W tb (.int .i64 x.t.k) (.int .u8 x.t.c.toNat) (.bool x.t.neg) x.rv) 0 rv rs :=
  (ho.kept (fun k hk => putTok_ne (by have := (ho.lt k hk).1; omega))).mono (Nat.zero_le _)
theorem grown_none {W W' : World} (hb : Below W.heap.size W W') : W.grownBy W' none := ⟨hb.os, hb.tape, hb.output, hb.size, fun k hk _ => hb.block k hk⟩
end
set_option maxRecDepth 100000 in
set_option maxHeartbeats 4000000 in
theorem tokens_seq (n : Nat) (s : List UInt8) (q : List Bool) (v : Value) (w0 w : World) (Bp : Nat) (hq : BoolsAt w0 v q) (hw : Below w0.heap.size w0 w) (hp : w.heap[Bp]? = some (.cells #[.string ⟨s.toArray⟩, v] 88 (0, 0)))
    (hs : s.length ≤ 100000) (hql : q.length ≤ 9223372036854775807) :
    SeqU Fence.wide n Tryz.prog 73 #[.pointer (some ⟨Bp, 0, none⟩)] encX (keepP w0.heap.size Bp) TX (fun xs => xs.map TokX.t = parseS s q) s.length w := by
  intro l J W hW hJ hY h0
  have HPL := Lib.hid (fun (W : World) (hb : Below w0.heap.size w0 W) (k : Nat) (hk : k ≤ 100100) (c : UInt8) (y : Int) (hy : y = c.toNat) (t : Bool) (ht : plainS s q k c = t) => (show Calls Tryz.prog 74 #[patV s v, .int .i64 k, .int .u8 y] W fun e w' => e = .returned (.bool t) ∧ Below W.heap.size W w' by
    subst hy; subst ht; exact plain_any s q v k c W (hq.below hb) hs hk hql))
  have HCL := Lib.hid (fun (W : World) (hb : Below w0.heap.size w0 W) (k : Nat) (hk : k < s.length) => class_any s q v k W (hq.below hb) hs hk hql)
  have HP1 := Lib.hid (show W.heap[Bp]? = some (.cells #[.string ⟨s.toArray⟩, v] 88 (0, 0)) from (hW.block _ (blk_lt hp)).trans hp)
  have HW1 := Lib.hid (show Below w0.heap.size w0 W from hw.trans (hW.mono hw.size))
  have HBp := Lib.hid (show Bp < W.heap.size from Nat.lt_of_lt_of_le (blk_lt hp) hW.size)
  obtain ⟨a0, cap0, rfl, _⟩ := hq
  have HJ := Lib.hid hJ
  have HY := Lib.hid hY
  clear hJ hY hp hw hW
  unfold patV at *
  refine callsIn_of_wp Tryz.func73 rfl trivial ?_ rfl
  simp only [Tryz.ntmps73, List.size_toArray, List.length_cons, List.length_nil, Nat.reduceAdd, Nat.reduceSub, Array.replicate_succ, Array.replicate_zero, List.push_toArray, List.append_toArray, List.nil_append, List.cons_append]
  gi_wp2
  gi_loopw [3] (fun iv wr => ∃ (i f : Nat) (pre : List TokX), iv = .int .i64 i ∧ i ≤ s.length ∧ s.length ≤ i + f ∧ pre.length ≤ i ∧ RowKit.Hid (pre.map TokX.t ++ tokensS s q f i = parseS s q) ∧ RowKit.Hid (wr.heap[Bp]? = some (.cells #[.string ⟨s.toArray⟩, .slice a0 q.length cap0] 88 (0, 0))) ∧ RowKit.Hid (Below w0.heap.size w0 wr) ∧ RowKit.Hid (W.heap.size ≤ wr.heap.size) ∧ RowKit.Hid (J pre wr)) (fun iv _ => s.length - (intOf iv).toNat)
  case atStart => exact ⟨0, s.length, [], rfl, by omega, by omega, by simp, Lib.hid rfl, HP1, HW1, Lib.hid (Nat.le_refl _), Lib.hid h0⟩
  case round =>
    obtain ⟨i, f, pre, rfl, hi, hf, hpre, HT, HP, HW, HS, HJJ⟩ := hrel
    have b0 : wr.cell? ⟨Bp, 0, none⟩ = some (.string ⟨s.toArray⟩) := by have := HP.out; simp [World.cell?, this]
    have b1 : wr.cell? ⟨Bp, 1, none⟩ = some (.slice a0 q.length cap0) := by have := HP.out; simp [World.cell?, this]
    by_cases hlt : i < s.length
    · obtain ⟨f, rfl⟩ : ∃ f', f = f' + 1 := ⟨f - 1, by omega⟩
      obtain ⟨c, _, hc, hcs⟩ := str_at s i hlt
      obtain ⟨W3, hW3⟩ : ∃ W3, wr.alloc (.cells #[.int .i64 1, .int .u8 c.toNat, .bool false, .slice none 0 0] 49) = W3 := ⟨_, rfl⟩
      have HD := Lib.hid (show RD w0 wr Bp wr.heap.size s (.slice a0 q.length cap0) W3 c by
        rw [← hW3]
        exact ⟨(Below.heap_alloc _ _ _ (blk_lt HP.out)).trans HP.out, r_alloc_at _ _, HW.out.alloc HW.out.size _, (Below.refl _ wr).alloc (Nat.le_refl _) _, Nat.le_refl _⟩)
      have HW3 := Lib.hid hW3
      have HYJ := Lib.hid (fun (V : World) (hb : Below wr.heap.size wr V) (x : TokX) (hx : TX x V) => HY.out pre x V (HJ.out pre wr V none HJJ.out (grown_none hb) (fun r e => by cases e)) hx (by omega))
      have hai : atB s i = c := atB_some hcs
      have HTT := Lib.hid (show ∀ (t : GTok) (m : Nat) (x : TokX), tokS s q i = (t, m) → x.t = t → (pre ++ [x]).map TokX.t ++ tokensS s q f m = parseS s q by
        intro t m x h1 h2
        rw [← HT.out, List.map_append, List.append_assoc, show tokensS s q (f + 1) i = (tokS s q i).1 :: tokensS s q f (tokS s q i).2 by simp [tokensS, hlt], h1]
        simp [h2])
      have HSB := Lib.hid (show W.heap.size ≤ wr.heap.size ∧ Bp < wr.heap.size ∧ w0.heap.size ≤ wr.heap.size from ⟨HS.out, Nat.lt_of_lt_of_le HBp.out HS.out, HW.out.size⟩)
      obtain ⟨x0, x1, x2, x3, x4, x5, x6⟩ := HD.out.cells
      have e0 : (wr.alloc (.cells #[.int .i64 1, .int .u8 c.toNat, .bool false, .slice none 0 0] 49)).cell? ⟨Bp, 0, none⟩ = some (.string ⟨s.toArray⟩) := by rw [hW3]; exact x0
      have e1 : (wr.alloc (.cells #[.int .i64 1, .int .u8 c.toNat, .bool false, .slice none 0 0] 49)).cell? ⟨Bp, 1, none⟩ = some (.slice a0 q.length cap0) := by rw [hW3]; exact x1
      clear hW3
      cases h63 : plainS s q i 63
      · have HPa := Lib.hid (HPL.out W3 HD.out.kw i (by omega) 63 63 rfl _ h63)
        cases h42 : plainS s q i 42
        · cases h91 : plainS s q i 91
          · have HTS := Lib.hid (show tokS s q i = (⟨1, c, false, []⟩, i + 1) by unfold tokS; rw [h63, h42, h91, hai]; rfl)
            gi_wp2_with first
              | (refine ⟨trivial, (fun h => by cases h), ?_⟩; gi_at_call 74; (refine (callsIn_wide.2 (HPL.out w5 HD5.out.kw i (by omega) 91 91 rfl _ h91)).mono ?_); rintro e w6 ⟨rfl, hb4⟩; have HD6 := Lib.hid (HD5.out.next hb4); obtain ⟨y03, y13, y23, y33, y43, y53, y63⟩ := HD6.out.cells; clear hb4; obtain ⟨fn, tmps, assign, body, hy, hR⟩ := (show YieldAt Fence.wide (n - 1) Tryz.prog l #[.agg #[.int .i64 1, .int .u8 c.toNat, .bool false, .slice none 0 0]] w6 (fun e W' => e = .returned (.bool true) ∧ J (pre ++ [⟨⟨1, c, false, []⟩, .slice none 0 0⟩]) W' ∧ keepP w0.heap.size Bp w6 W') from HYJ.out _ (show w6.heap[Bp]? = some (.cells #[.string ⟨s.toArray⟩, .slice a0 q.length cap0] 88 (0, 0)) ∧ Below w0.heap.size w0 w6 ∧ Below wr.heap.size wr w6 from ⟨HD6.out.p, HD6.out.kw, HD6.out.kr⟩).2.2 ⟨⟨1, c, false, []⟩, .slice none 0 0⟩ (OwnR.nil _ _)); have HK := Lib.hid (show w6.heap[Bp]? = some (.cells #[.string ⟨s.toArray⟩, .slice a0 q.length cap0] 88 (0, 0)) ∧ Below w0.heap.size w0 w6 ∧ Below wr.heap.size wr w6 from ⟨HD6.out.p, HD6.out.kw, HD6.out.kr⟩))
              | (refine ⟨trivial, (fun h => by cases h), ?_⟩; gi_at_call 74; (refine (callsIn_wide.2 (HPL.out w4 HD4.out.kw i (by omega) 42 42 rfl _ h42)).mono ?_); rintro e w5 ⟨rfl, hb4⟩; have HD5 := Lib.hid (HD4.out.next hb4); obtain ⟨y02, y12, y22, y32, y42, y52, y62⟩ := HD5.out.cells; clear hb4)
              | (refine ⟨trivial, (fun h => by cases h), ?_⟩; gi_at_call 74; rw [HW3.out]; (refine (callsIn_wide.2 HPa.out).mono ?_); rintro e w4 ⟨rfl, hb4⟩; have HD4 := Lib.hid (HD.out.next hb4); obtain ⟨y01, y11, y21, y31, y41, y51, y61⟩ := HD4.out.cells; clear hb4)
            refine ⟨(fun h => by cases h), hR.mono ?_⟩
            rintro e W9 ⟨rfl, hJ9, hk9⟩
            have HN9 := Lib.hid (show W9.heap[Bp]? = some (.cells #[.string ⟨s.toArray⟩, .slice a0 q.length cap0] 88 (0, 0)) ∧ Below w0.heap.size w0 W9 ∧ W.heap.size ≤ W9.heap.size from ⟨hk9.2.trans HK.out.1, HK.out.2.1.trans hk9.1, Nat.le_trans (Nat.le_trans HSB.out.1 HK.out.2.2.size) hk9.1.size⟩)
            have HJ9 := Lib.hid hJ9
            clear hk9 hJ9 hR
            gi_wp2
            go_roundw
            case rel => exact ⟨i + 1, f, pre ++ [_], by go_num, by omega, by omega, by simp; omega, Lib.hid (HTT.out _ _ _ HTS.out rfl), Lib.hid HN9.out.1, Lib.hid HN9.out.2.1, Lib.hid HN9.out.2.2, HJ9⟩
            case measure => simp [intOf]; omega
          · cases hcl : classS s q i with
            | none =>
              have HTS := Lib.hid (show tokS s q i = (⟨1, c, false, []⟩, i + 1) by unfold tokS; rw [h63, h42, h91, hcl, hai]; rfl)
              have HCC := Lib.hid (fun (V : World) (hb : Below w0.heap.size w0 V) => (show Calls Tryz.prog 75 #[.agg #[.string ⟨s.toArray⟩, .slice a0 q.length cap0], .int .i64 i] V fun e w' => e = .returned (.tuple #[.agg #[.int .i64 0, .int .u8 0, .bool false, .slice none 0 0], .int .i64 0, .bool false]) ∧ Below V.heap.size V w' from (HCL.out V hb i hlt).mono fun e w' hcp => by rw [hcl] at hcp; exact ⟨hcp.2, hcp.1⟩))
              gi_wp2_with first
                | (refine ⟨trivial, (fun h => by cases h), ?_⟩; gi_at_call 75; refine (callsIn_wide.2 (HCC.out w6 HD6.out.kw)).mono ?_; rintro e w7 ⟨rfl, hb7⟩; have HD8 := Lib.hid ((HD6.out.next hb7).next ((Below.refl _ w7).alloc (Nat.le_refl _) (.cells #[.int .i64 0, .int .u8 0, .bool false, .slice none 0 0] 49))); obtain ⟨y08, y18, y28, y38, y48, y58, y68⟩ := HD8.out.cells; clear hb7; obtain ⟨fn, tmps, assign, body, hy, hR⟩ := (show YieldAt Fence.wide (n - 1) Tryz.prog l #[.agg #[.int .i64 1, .int .u8 c.toNat, .bool false, .slice none 0 0]] (w7.alloc (.cells #[.int .i64 0, .int .u8 0, .bool false, .slice none 0 0] 49)) (fun e W' => e = .returned (.bool true) ∧ J (pre ++ [⟨⟨1, c, false, []⟩, .slice none 0 0⟩]) W' ∧ keepP w0.heap.size Bp (w7.alloc (.cells #[.int .i64 0, .int .u8 0, .bool false, .slice none 0 0] 49)) W') from HYJ.out _ (show (w7.alloc (.cells #[.int .i64 0, .int .u8 0, .bool false, .slice none 0 0] 49)).heap[Bp]? = some (.cells #[.string ⟨s.toArray⟩, .slice a0 q.length cap0] 88 (0, 0)) ∧ Below w0.heap.size w0 (w7.alloc (.cells #[.int .i64 0, .int .u8 0, .bool false, .slice none 0 0] 49)) ∧ Below wr.heap.size wr (w7.alloc (.cells #[.int .i64 0, .int .u8 0, .bool false, .slice none 0 0] 49)) from ⟨HD8.out.p, HD8.out.kw, HD8.out.kr⟩).2.2 ⟨⟨1, c, false, []⟩, .slice none 0 0⟩ (OwnR.nil _ _)); have HK := Lib.hid (show (w7.alloc (.cells #[.int .i64 0, .int .u8 0, .bool false, .slice none 0 0] 49)).heap[Bp]? = some (.cells #[.string ⟨s.toArray⟩, .slice a0 q.length cap0] 88 (0, 0)) ∧ Below w0.heap.size w0 (w7.alloc (.cells #[.int .i64 0, .int .u8 0, .bool false, .slice none 0 0] 49)) ∧ Below wr.heap.size wr (w7.alloc (.cells #[.int .i64 0, .int .u8 0, .bool false, .slice none 0 0] 49)) from ⟨HD8.out.p, HD8.out.kw, HD8.out.kr⟩))
                | (refine ⟨trivial, (fun h => by cases h), ?_⟩; gi_at_call 74; (refine (callsIn_wide.2 (HPL.out w5 HD5.out.kw i (by omega) 91 91 rfl _ h91)).mono ?_); rintro e w6 ⟨rfl, hb4⟩; have HD6 := Lib.hid (HD5.out.next hb4); obtain ⟨y03, y13, y23, y33, y43, y53, y63⟩ := HD6.out.cells; clear hb4)
                | (refine ⟨trivial, (fun h => by cases h), ?_⟩; gi_at_call 74; (refine (callsIn_wide.2 (HPL.out w4 HD4.out.kw i (by omega) 42 42 rfl _ h42)).mono ?_); rintro e w5 ⟨rfl, hb4⟩; have HD5 := Lib.hid (HD4.out.next hb4); obtain ⟨y02, y12, y22, y32, y42, y52, y62⟩ := HD5.out.cells; clear hb4)
                | (refine ⟨trivial, (fun h => by cases h), ?_⟩; gi_at_call 74; rw [HW3.out]; (refine (callsIn_wide.2 HPa.out).mono ?_); rintro e w4 ⟨rfl, hb4⟩; have HD4 := Lib.hid (HD.out.next hb4); obtain ⟨y01, y11, y21, y31, y41, y51, y61⟩ := HD4.out.cells; clear hb4)
              refine ⟨(fun h => by cases h), hR.mono ?_⟩
              rintro e W9 ⟨rfl, hJ9, hk9⟩
              have HN9 := Lib.hid (show W9.heap[Bp]? = some (.cells #[.string ⟨s.toArray⟩, .slice a0 q.length cap0] 88 (0, 0)) ∧ Below w0.heap.size w0 W9 ∧ W.heap.size ≤ W9.heap.size from ⟨hk9.2.trans HK.out.1, HK.out.2.1.trans hk9.1, Nat.le_trans (Nat.le_trans HSB.out.1 HK.out.2.2.size) hk9.1.size⟩)
              have HJ9 := Lib.hid hJ9
              clear hk9 hJ9 hR
              gi_wp2
              go_roundw
              case rel => exact ⟨i + 1, f, pre ++ [_], by go_num, by omega, by omega, by simp; omega, Lib.hid (HTT.out _ _ _ HTS.out rfl), Lib.hid HN9.out.1, Lib.hid HN9.out.2.1, Lib.hid HN9.out.2.2, HJ9⟩
              case measure => simp [intOf]; omega
            | some r =>
              obtain ⟨⟨k9, c9, neg, rs⟩, m⟩ := r
              obtain ⟨hm1, hm2, hk9, hc9⟩ := classS_at hcl
              obtain rfl : k9 = 4 := hk9
              obtain rfl : c9 = 0 := hc9
              have hm1 : i < m := hm1
              have hm2 : m ≤ s.length := hm2
              have HTS := Lib.hid (show tokS s q i = (⟨4, 0, neg, rs⟩, m) by unfold tokS; rw [h63, h42, h91, hcl]; rfl)
              have HCC := Lib.hid (fun (V : World) (hb : Below w0.heap.size w0 V) => (show Calls Tryz.prog 75 #[.agg #[.string ⟨s.toArray⟩, .slice a0 q.length cap0], .int .i64 i] V fun e w' => (∃ a c, e = .returned (.tuple #[.agg #[.int .i64 4, .int .u8 0, .bool neg, .slice a rs.length c], .int .i64 m, .bool true]) ∧ OwnR w' V.heap.size (.slice a rs.length c) rs) ∧ Below V.heap.size V w' from (HCL.out V hb i hlt).mono fun e w' hcp => by
                rw [hcl] at hcp
                obtain ⟨h1, rv, h2, h3⟩ := hcp
                obtain ⟨a, c, rfl⟩ := h3.form
                exact ⟨⟨a, c, h2, h3⟩, h1⟩))
              gi_wp2_with first
                | (refine ⟨trivial, (fun h => by cases h), ?_⟩; gi_at_call 75; refine (callsIn_wide.2 (HCC.out w6 HD6.out.kw)).mono ?_; rintro e w7 ⟨⟨a9, c9, rfl, ho7⟩, hb7⟩; have HD8 := Lib.hid ((HD6.out.next hb7).next ((Below.refl _ w7).alloc (Nat.le_refl _) (.cells #[.int .i64 4, .int .u8 0, .bool neg, .slice a9 rs.length c9] 49))); obtain ⟨y08, y18, y28, y38, y48, y58, y68⟩ := HD8.out.cells; have z0 := y68 0; have z1 := y68 1; have z2 := y68 2; have z3 := y68 3; have HO8 := HD8.out.own (ho7.below ((Below.refl _ w7).alloc (Nat.le_refl _) (.cells #[.int .i64 4, .int .u8 0, .bool neg, .slice a9 rs.length c9] 49))) (blk_lt HD6.out.t) ⟨⟨4, 0, neg, rs⟩, .slice a9 rs.length c9⟩; clear hb7 ho7; obtain ⟨fn, tmps, assign, body, hy, hR⟩ := (show YieldAt Fence.wide (n - 1) Tryz.prog l #[.agg #[.int .i64 4, .int .u8 0, .bool neg, .slice a9 rs.length c9]] (((((w7.alloc (.cells #[.int .i64 4, .int .u8 0, .bool neg, .slice a9 rs.length c9] 49)).setCell ⟨wr.heap.size, 0, none⟩ (.int .i64 4)).setCell ⟨wr.heap.size, 1, none⟩ (.int .u8 0)).setCell ⟨wr.heap.size, 2, none⟩ (.bool neg)).setCell ⟨wr.heap.size, 3, none⟩ (.slice a9 rs.length c9)) (fun e W' => e = .returned (.bool true) ∧ J (pre ++ [⟨⟨4, 0, neg, rs⟩, .slice a9 rs.length c9⟩]) W' ∧ keepP w0.heap.size Bp (((((w7.alloc (.cells #[.int .i64 4, .int .u8 0, .bool neg, .slice a9 rs.length c9] 49)).setCell ⟨wr.heap.size, 0, none⟩ (.int .i64 4)).setCell ⟨wr.heap.size, 1, none⟩ (.int .u8 0)).setCell ⟨wr.heap.size, 2, none⟩ (.bool neg)).setCell ⟨wr.heap.size, 3, none⟩ (.slice a9 rs.length c9)) W') from HYJ.out _ (HD8.out.set ⟨⟨4, 0, neg, rs⟩, .slice a9 rs.length c9⟩ HSB.out.2.2 HSB.out.2.1).2.2 ⟨⟨4, 0, neg, rs⟩, .slice a9 rs.length c9⟩ HO8); have HK := Lib.hid (HD8.out.set ⟨⟨4, 0, neg, rs⟩, .slice a9 rs.length c9⟩ HSB.out.2.2 HSB.out.2.1); clear HO8)
                | (refine ⟨trivial, (fun h => by cases h), ?_⟩; gi_at_call 74; (refine (callsIn_wide.2 (HPL.out w5 HD5.out.kw i (by omega) 91 91 rfl _ h91)).mono ?_); rintro e w6 ⟨rfl, hb4⟩; have HD6 := Lib.hid (HD5.out.next hb4); obtain ⟨y03, y13, y23, y33, y43, y53, y63⟩ := HD6.out.cells; clear hb4)
                | (refine ⟨trivial, (fun h => by cases h), ?_⟩; gi_at_call 74; (refine (callsIn_wide.2 (HPL.out w4 HD4.out.kw i (by omega) 42 42 rfl _ h42)).mono ?_); rintro e w5 ⟨rfl, hb4⟩; have HD5 := Lib.hid (HD4.out.next hb4); obtain ⟨y02, y12, y22, y32, y42, y52, y62⟩ := HD5.out.cells; clear hb4)
                | (refine ⟨trivial, (fun h => by cases h), ?_⟩; gi_at_call 74; rw [HW3.out]; (refine (callsIn_wide.2 HPa.out).mono ?_); rintro e w4 ⟨rfl, hb4⟩; have HD4 := Lib.hid (HD.out.next hb4); obtain ⟨y01, y11, y21, y31, y41, y51, y61⟩ := HD4.out.cells; clear hb4)
              refine ⟨(fun h => by cases h), hR.mono ?_⟩
              rintro e W9 ⟨rfl, hJ9, hk9⟩
              have HN9 := Lib.hid (show W9.heap[Bp]? = some (.cells #[.string ⟨s.toArray⟩, .slice a0 q.length cap0] 88 (0, 0)) ∧ Below w0.heap.size w0 W9 ∧ W.heap.size ≤ W9.heap.size from ⟨hk9.2.trans HK.out.1, HK.out.2.1.trans hk9.1, Nat.le_trans (Nat.le_trans HSB.out.1 HK.out.2.2.size) hk9.1.size⟩)
              have HJ9 := Lib.hid hJ9
              clear hk9 hJ9 hR
              gi_wp2
              go_roundw
              case rel => exact ⟨m, f, pre ++ [_], rfl, by omega, by omega, by simp; omega, Lib.hid (HTT.out _ _ _ HTS.out rfl), Lib.hid HN9.out.1, Lib.hid HN9.out.2.1, Lib.hid HN9.out.2.2, HJ9⟩
              case measure => simp [intOf]; omega
        · have HTS := Lib.hid (show tokS s q i = (⟨3, 0, false, []⟩, i + 1) by unfold tokS; rw [h63, h42]; rfl)
          gi_wp2_with first
            | (refine ⟨trivial, (fun h => by cases h), ?_⟩; gi_at_call 74; (refine (callsIn_wide.2 (HPL.out w4 HD4.out.kw i (by omega) 42 42 rfl _ h42)).mono ?_); rintro e w5 ⟨rfl, hb4⟩; have HD5 := Lib.hid (HD4.out.next hb4); obtain ⟨y02, y12, y22, y32, y42, y52, y62⟩ := HD5.out.cells; clear hb4; have z0 := y62 0; have z1 := y62 1; have z2 := y62 2; have z3 := y62 3; obtain ⟨fn, tmps, assign, body, hy, hR⟩ := (show YieldAt Fence.wide (n - 1) Tryz.prog l #[.agg #[.int .i64 3, .int .u8 0, .bool false, .slice none 0 0]] ((((w5.setCell ⟨wr.heap.size, 0, none⟩ (.int .i64 3)).setCell ⟨wr.heap.size, 1, none⟩ (.int .u8 0)).setCell ⟨wr.heap.size, 2, none⟩ (.bool false)).setCell ⟨wr.heap.size, 3, none⟩ (.slice none 0 0)) (fun e W' => e = .returned (.bool true) ∧ J (pre ++ [⟨⟨3, 0, false, []⟩, .slice none 0 0⟩]) W' ∧ keepP w0.heap.size Bp ((((w5.setCell ⟨wr.heap.size, 0, none⟩ (.int .i64 3)).setCell ⟨wr.heap.size, 1, none⟩ (.int .u8 0)).setCell ⟨wr.heap.size, 2, none⟩ (.bool false)).setCell ⟨wr.heap.size, 3, none⟩ (.slice none 0 0)) W') from HYJ.out _ (HD5.out.set ⟨⟨3, 0, false, []⟩, .slice none 0 0⟩ HSB.out.2.2 HSB.out.2.1).2.2 ⟨⟨3, 0, false, []⟩, .slice none 0 0⟩ (OwnR.nil _ _)); have HK := Lib.hid (HD5.out.set ⟨⟨3, 0, false, []⟩, .slice none 0 0⟩ HSB.out.2.2 HSB.out.2.1))
            | (refine ⟨trivial, (fun h => by cases h), ?_⟩; gi_at_call 74; rw [HW3.out]; (refine (callsIn_wide.2 HPa.out).mono ?_); rintro e w4 ⟨rfl, hb4⟩; have HD4 := Lib.hid (HD.out.next hb4); obtain ⟨y01, y11, y21, y31, y41, y51, y61⟩ := HD4.out.cells; clear hb4)
          refine ⟨(fun h => by cases h), hR.mono ?_⟩
          rintro e W9 ⟨rfl, hJ9, hk9⟩
          have HN9 := Lib.hid (show W9.heap[Bp]? = some (.cells #[.string ⟨s.toArray⟩, .slice a0 q.length cap0] 88 (0, 0)) ∧ Below w0.heap.size w0 W9 ∧ W.heap.size ≤ W9.heap.size from ⟨hk9.2.trans HK.out.1, HK.out.2.1.trans hk9.1, Nat.le_trans (Nat.le_trans HSB.out.1 HK.out.2.2.size) hk9.1.size⟩)
          have HJ9 := Lib.hid hJ9
          clear hk9 hJ9 hR
          gi_wp2
          go_roundw
          case rel => exact ⟨i + 1, f, pre ++ [_], by go_num, by omega, by omega, by simp; omega, Lib.hid (HTT.out _ _ _ HTS.out rfl), Lib.hid HN9.out.1, Lib.hid HN9.out.2.1, Lib.hid HN9.out.2.2, HJ9⟩
          case measure => simp [intOf]; omega
      · have HPa := Lib.hid (HPL.out W3 HD.out.kw i (by omega) 63 63 rfl _ h63)
        have HTS := Lib.hid (show tokS s q i = (⟨2, 0, false, []⟩, i + 1) by unfold tokS; rw [h63]; rfl)
        gi_wp2_with (refine ⟨trivial, (fun h => by cases h), ?_⟩; gi_at_call 74; rw [HW3.out]; (refine (callsIn_wide.2 HPa.out).mono ?_); rintro e w4 ⟨rfl, hb4⟩; have HD4 := Lib.hid (HD.out.next hb4); obtain ⟨y01, y11, y21, y31, y41, y51, y61⟩ := HD4.out.cells; clear hb4; have z0 := y61 0; have z1 := y61 1; have z2 := y61 2; have z3 := y61 3; obtain ⟨fn, tmps, assign, body, hy, hR⟩ := (show YieldAt Fence.wide (n - 1) Tryz.prog l #[.agg #[.int .i64 2, .int .u8 0, .bool false, .slice none 0 0]] ((((w4.setCell ⟨wr.heap.size, 0, none⟩ (.int .i64 2)).setCell ⟨wr.heap.size, 1, none⟩ (.int .u8 0)).setCell ⟨wr.heap.size, 2, none⟩ (.bool false)).setCell ⟨wr.heap.size, 3, none⟩ (.slice none 0 0)) (fun e W' => e = .returned (.bool true) ∧ J (pre ++ [⟨⟨2, 0, false, []⟩, .slice none 0 0⟩]) W' ∧ keepP w0.heap.size Bp ((((w4.setCell ⟨wr.heap.size, 0, none⟩ (.int .i64 2)).setCell ⟨wr.heap.size, 1, none⟩ (.int .u8 0)).setCell ⟨wr.heap.size, 2, none⟩ (.bool false)).setCell ⟨wr.heap.size, 3, none⟩ (.slice none 0 0)) W') from HYJ.out _ (HD4.out.set ⟨⟨2, 0, false, []⟩, .slice none 0 0⟩ HSB.out.2.2 HSB.out.2.1).2.2 ⟨⟨2, 0, false, []⟩, .slice none 0 0⟩ (OwnR.nil _ _)); have HK := Lib.hid (HD4.out.set ⟨⟨2, 0, false, []⟩, .slice none 0 0⟩ HSB.out.2.2 HSB.out.2.1))
        refine ⟨(fun h => by cases h), hR.mono ?_⟩
        rintro e W9 ⟨rfl, hJ9, hk9⟩
        have HN9 := Lib.hid (show W9.heap[Bp]? = some (.cells #[.string ⟨s.toArray⟩, .slice a0 q.length cap0] 88 (0, 0)) ∧ Below w0.heap.size w0 W9 ∧ W.heap.size ≤ W9.heap.size from ⟨hk9.2.trans HK.out.1, HK.out.2.1.trans hk9.1, Nat.le_trans (Nat.le_trans HSB.out.1 HK.out.2.2.size) hk9.1.size⟩)
        have HJ9 := Lib.hid hJ9
        clear hk9 hJ9 hR
        gi_wp2
        go_roundw
        case rel => exact ⟨i + 1, f, pre ++ [_], by go_num, by omega, by omega, by simp; omega, Lib.hid (HTT.out _ _ _ HTS.out rfl), Lib.hid HN9.out.1, Lib.hid HN9.out.2.1, Lib.hid HN9.out.2.2, HJ9⟩
        case measure => simp [intOf]; omega
    · have hil : i = s.length := by omega
      have HF := Lib.hid (show pre.map TokX.t = parseS s q by rw [← HT.out]; cases f with | zero => simp [tokensS] | succ f => simp [tokensS, hlt])
      gi_wp2
      go_end0
      exact ⟨⟨_, rfl⟩, pre, HF.out, HJJ.out⟩
end Go.Proofs.YtggdedihfhibfaaGreatDoor
