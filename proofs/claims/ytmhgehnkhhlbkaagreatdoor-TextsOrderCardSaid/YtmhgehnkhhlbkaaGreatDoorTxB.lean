/- Texts: sets of bytes. -/
import Derived.Test.YtmhgehnkhhlbkaaGreatDoorOwn
import Derived.BigRegion
namespace Go.Proofs.YtmhgehnkhhlbkaaGreatDoor
open Go.RowKit

def escV (c : UInt8) : Option UInt8 := if c = 110 then some 10 else if c = 116 then some 9 else if c = 92 then some 92 else none
theorem fescape_any (c : UInt8) (w : World) : Calls Tryz.prog 48 #[.int .u8 c.toNat] w fun e w' => e = .returned (.tuple #[.int .u8 ((escV c).getD 0).toNat, .bool (escV c).isSome]) ∧ w = w' := by
  have h2 : ∀ k : UInt8, ((c.toNat : Int) == (k.toNat : Int)) = (c == k) := fun k => by rw [Bool.eq_iff_iff, beq_iff_eq, beq_iff_eq, ← UInt8.toNat_inj]; omega
  have h110 := h2 110
  have h116 := h2 116
  have h92 := h2 92
  change ((c.toNat : Int) == 110) = _ at h110
  change ((c.toNat : Int) == 116) = _ at h116
  change ((c.toNat : Int) == 92) = _ at h92
  clear h2
  by_cases e1 : c = 110
  · subst e1
    go_enter Tryz.func48, Tryz.ntmps48
    go_wp2
    go_ret2
    exact ⟨rfl, rfl⟩
  by_cases e2 : c = 116
  · subst e2
    go_enter Tryz.func48, Tryz.ntmps48
    go_wp2
    go_ret2
    exact ⟨rfl, rfl⟩
  by_cases e3 : c = 92
  · subst e3
    go_enter Tryz.func48, Tryz.ntmps48
    go_wp2
    go_ret2
    exact ⟨rfl, rfl⟩
  have hv := Lib.hid (show escV c = none by simp [escV, e1, e2, e3])
  have g1 : ((c.toNat : Int) == 110) = false := by rw [h110]; simp [e1]
  have g2 : ((c.toNat : Int) == 116) = false := by rw [h116]; simp [e2]
  have g3 : ((c.toNat : Int) == 92) = false := by rw [h92]; simp [e3]
  clear h110 h116 h92
  go_enter Tryz.func48, Tryz.ntmps48
  go_wp2
  go_ret2
  rw [hv.out]
  exact ⟨rfl, rfl⟩
/-- the bytes of a stretch -/
def rngN (b k : Nat) : List UInt8 := (List.range k).map fun j => UInt8.ofNat (b + j)
/-- a set's bytes, in order -/
def setL : List UInt8 → Option (List UInt8)
  | [] => some []
  | b :: t =>
    if 2 ≤ t.length ∧ t.getD 0 0 = 45 then
      if t.getD 1 0 < b then none else (setL (t.drop 2)).map (rngN b.toNat ((t.getD 1 0).toNat + 1 - b.toNat) ++ ·)
    else if b = 92 ∧ t ≠ [] ∧ (escV (t.getD 0 0)).isSome then (setL (t.drop 1)).map (((escV (t.getD 0 0)).getD 0) :: ·)
    else (setL t).map (b :: ·)
termination_by l => l.length
decreasing_by all_goals simp <;> omega
theorem rngN_succ (b k : Nat) : rngN b (k + 1) = rngN b k ++ [UInt8.ofNat (b + k)] := by simp [rngN, List.range_succ]
theorem rngN_len (b k : Nat) : (rngN b k).length = k := by simp [rngN]
theorem setL_nil : setL [] = some [] := by rw [setL]
theorem setL_bad (b e : UInt8) (r : List UInt8) (h : e < b) : setL (b :: 45 :: e :: r) = none := by
  rw [setL, if_pos ⟨by simp, rfl⟩, if_pos (show (45 :: e :: r).getD 1 0 < b from h)]
theorem setL_range (b e : UInt8) (r : List UInt8) (h : ¬ e < b) : setL (b :: 45 :: e :: r) = (setL r).map (rngN b.toNat (e.toNat + 1 - b.toNat) ++ ·) := by
  rw [setL, if_pos ⟨by simp, rfl⟩, if_neg (show ¬ (45 :: e :: r).getD 1 0 < b from h)]; rfl
theorem setL_esc (c v : UInt8) (r : List UInt8) (h : ¬ (2 ≤ (c :: r).length ∧ c = 45)) (hv : escV c = some v) : setL (92 :: c :: r) = (setL r).map (v :: ·) := by
  rw [setL, if_neg (show ¬ (2 ≤ (c :: r).length ∧ (c :: r).getD 0 0 = 45) from h), if_pos ⟨rfl, by simp, by simp [hv]⟩]; simp [hv]
theorem setL_one (b : UInt8) (t : List UInt8) (h : ¬ (2 ≤ t.length ∧ t.getD 0 0 = 45)) (h2 : ¬ (b = 92 ∧ t ≠ [] ∧ (escV (t.getD 0 0)).isSome)) : setL (b :: t) = (setL t).map (b :: ·) := by
  rw [setL, if_neg h, if_neg h2]
/-- what a call of set gives -/
def SetRes (w w' : World) (e : Ending) : Option (List UInt8) → Prop
  | none => e = .returned (.tuple #[.slice none 0 0, .bool false]) ∧ Below w.heap.size w w'
  | some o => ∃ v, e = .returned (.tuple #[v, .bool true]) ∧ OwnB w' w.heap.size v o ∧ o.length ≤ 128000 ∧ Below w.heap.size w w'
def strLen : Value → Nat | .string s => s.size | _ => 0
theorem strLen_str (l : List UInt8) : strLen (.string ⟨l.toArray⟩) = l.length := by simp [strLen, ByteArray.size]
theorem drop_cons {r : List UInt8} {k : Nat} {c : UInt8} (h : r[k]? = some c) : r.drop k = c :: r.drop (k + 1) := by
  obtain ⟨h1, h2⟩ := List.getElem?_eq_some_iff.1 h
  rw [← h2]; exact List.drop_eq_getElem_cons h1
theorem ne_int {c : UInt8} {k : Nat} (hk : k < 256) (h : c ≠ UInt8.ofNat k) : ¬ (c.toNat : Int) = (k : Int) := fun e => h (UInt8.toNat_inj.1 (by rw [UInt8.toNat_ofNat']; omega))
set_option maxRecDepth 100000 in
set_option maxHeartbeats 3200000 in
theorem set_any (l : List UInt8) (hl : l.length ≤ 500) (w : World) : Calls Tryz.prog 29 #[.string ⟨l.toArray⟩] w fun e w' => SetRes w w' e (setL l) := by
  go_enter Tryz.func29, Tryz.ntmps29
  go_wp2_with fail
  go_loopw [0, 4] (fun s v W => ∃ (r o : List UInt8), s = .string ⟨r.toArray⟩ ∧ setL l = (setL r).map (o ++ ·) ∧ o.length + 256 * r.length ≤ 128000 ∧ OwnB W w.heap.size v o ∧ Below w.heap.size w W) (fun s _ _ => strLen s)
  case atStart => exact ⟨l, [], rfl, by simp, by simp; omega, OwnB.nil _ _, Below.refl _ _⟩
  case round =>
    obtain ⟨r, o, rfl, hset, hlen, hown, hB⟩ := hrel
    have hsz := hB.size
    by_cases h0 : r = []
    · subst h0
      have hs := Lib.hid (show setL l = some o by rw [hset, setL_nil]; simp)
      clear hset
      go_wp2_with fail
      go_ret2
      rw [hs.out]
      exact ⟨u4, rfl, hown, by omega, hB⟩
    have hpos : 0 < r.length := List.length_pos_iff.2 h0
    have hne1 : (r == []) = false := by simp [h0]
    have hne2 : r.isEmpty = false := by simp [h0]
    have hset' := Lib.hid hset
    clear h0 hset
    obtain ⟨b, _, hg0, hb0⟩ := str_at r 0 hpos
    have hd0 := drop_cons hb0
    rw [List.drop_zero] at hd0
    by_cases hr2 : 2 < r.length
    · obtain ⟨c, _, hg1, hc1⟩ := str_at r 1 (by omega)
      have hd1 := drop_cons hc1
      by_cases h45 : c = 45
      · subst h45
        obtain ⟨e, _, hg2, hc2⟩ := str_at r 2 (by omega)
        have hd2 := drop_cons hc2
        by_cases heb : e < b
        · have hlt : (e.toNat : Int) < b.toNat := by have := UInt8.lt_iff_toNat_lt.1 heb; omega
          have hs := Lib.hid (show setL l = none by rw [hset'.out, hd0, hd1, hd2, setL_bad _ _ _ heb]; rfl)
          clear hd0 hd1 hd2 hb0 hc1 hc2 heb
          go_wp2_with fail
          go_ret2
          rw [hs.out]
          exact ⟨rfl, hB⟩
        · have hlt : (b.toNat : Int) ≤ e.toNat := by have := mt UInt8.lt_iff_toNat_lt.2 heb; omega
          have hltn : ¬ e.toNat < b.toNat := by omega
          have hdec : decide (e.toNat < b.toNat) = false := by simp; omega
          have hs := Lib.hid (show setL l = (setL (r.drop 3)).map ((o ++ rngN b.toNat (e.toNat + 1 - b.toNat)) ++ ·) by
            rw [hset'.out]; conv => lhs; rw [hd0, hd1, hd2]
            rw [setL_range _ _ _ heb, Option.map_map]; congr 1; funext x; simp)
          clear hd0 hd1 hd2 hb0 hc1 hc2 heb
          have hbn := b.toNat_lt
          have hen := e.toNat_lt
          obtain ⟨n, hn⟩ : ∃ n, e.toNat + 1 - b.toNat = n := ⟨_, rfl⟩
          rw [hn] at hs
          go_wp2_with fail
          go_loopw [4, 6] (fun v c W => ∃ j : Nat, j ≤ n ∧ c = .int .i64 (b.toNat + j : Nat) ∧ OwnB W w.heap.size v (o ++ rngN b.toNat j) ∧ Below w.heap.size w W) (fun _ c _ => (256 - intOf c).toNat)
          case atStart => exact ⟨0, by omega, by go_num, by simpa [rngN] using hown, hB⟩
          case round =>
            obtain ⟨j, hj, rfl, hown2, hB2⟩ := hrel
            have hsz2 := hB2.size
            have hrl := rngN_len b.toNat j
            by_cases hjn : j < n
            · have hle : ((b.toNat + j : Nat) : Int) ≤ e.toNat := by omega
              have hsu := Lib.hid (rngN_succ b.toNat j)
              have hcb : (UInt8.ofNat (b.toNat + j)).toNat = b.toNat + j := by rw [UInt8.toNat_ofNat']; omega
              generalize UInt8.ofNat (b.toNat + j) = c at *
              generalize rngN b.toNat j = R at *
              go_wp2_with (at_builtin; refine append_lit rfl _ _ rfl w.heap.size _ _ rfl hown2 [c] _ (by simp only [List.map_cons, List.map_nil]; congr 2; omega) 1 rfl rfl (by simp; omega) hsz2 ?_; intro v1 w1 hown1 hg1'; have hB1 := below_own hB2 hown2 hg1' hsz2)
              go_round
              case rel => exact ⟨j + 1, by omega, by go_num, by rw [hsu.out, ← List.append_assoc]; exact hown1, hB1⟩
              case measure => simp [intOf]; omega
            · have hle : ¬ ((b.toNat + j : Nat) : Int) ≤ e.toNat := by omega
              have hjn' : j = n := by omega
              rw [hjn'] at hown2
              have hrl2 := rngN_len b.toNat n
              have hlen3 : (o ++ rngN b.toNat n).length + 256 * (r.drop 3).length ≤ 128000 := by simp; omega
              generalize o ++ rngN b.toNat n = O at *
              go_wp2_with fail
              go_round
              case rel => exact ⟨r.drop 3, O, rfl, hs.out, hlen3, hown2, hB2⟩
              case measure => rw [strLen_str, strLen_str, List.length_drop]; omega
      · have hn45 := ne_int (k := 45) (by omega) h45
        have hn45' : ((c.toNat : Int) == 45) = false := by rw [beq_eq_false_iff_ne]; exact hn45
        have hrange : ¬ (2 ≤ (r.drop 1).length ∧ (r.drop 1).getD 0 0 = 45) := fun h => h45 (by have := h.2; rw [hd1] at this; exact this)
        clear hd1 hc1 h45
        obtain ⟨T, hT⟩ : ∃ T, r.drop 1 = T := ⟨_, rfl⟩
        rw [hT] at hd0 hrange
        have hTl := Lib.hid (show T.length + 1 = r.length by rw [← hT]; simp; omega)
        by_cases hb92 : b = 92
        · subst hb92
          by_cases hr1 : T = []
          · have hs := Lib.hid (show setL l = (setL T).map ((o ++ [92]) ++ ·) by
              rw [hset'.out]; conv => lhs; rw [hd0]
              rw [setL_one _ _ hrange (fun h => h.2.1 hr1), Option.map_map]; congr 1; funext x; simp)
            have hTe1 : (T == []) = true := by simp [hr1]
            have hTe2 : T.isEmpty = true := by simp [hr1]
            clear hrange hd0 hb0 hr1
            go_wp2_with (first
              | (go_at_call 48; refine (fescape_any _ _).mono ?_; rintro e w' ⟨rfl, rfl⟩)
              | (at_builtin; refine append_lit rfl _ _ rfl w.heap.size _ _ rfl hown [92] _ rfl 1 rfl rfl (by first | omega | (simp; omega)) hsz ?_; intro v1 w1 hown1 hg1'; have hB1 := below_own hB hown hg1' hsz))
            go_round
            case rel => exact ⟨T, o ++ [92], rfl, hs.out, by have := hTl.out; first | omega | (simp; omega), hown1, hB1⟩
            case measure => have := hTl.out; rw [strLen_str, strLen_str]; first | omega | (simp; omega)
          · have hTp : 0 < T.length := List.length_pos_iff.2 hr1
            have hTe1 : (T == []) = false := by simp [hr1]
            have hTe2 : T.isEmpty = false := by simp [hr1]
            obtain ⟨c, _, hgT, hcT⟩ := str_at T 0 hTp
            have hTd := drop_cons hcT
            rw [List.drop_zero, Nat.zero_add, List.drop_one] at hTd
            have hgd : T.getD 0 0 = c := by simp [List.getD, hcT]
            cases hv : escV c with
            | none =>
              have hs := Lib.hid (show setL l = (setL T).map ((o ++ [92]) ++ ·) by
                rw [hset'.out]; conv => lhs; rw [hd0]
                rw [setL_one _ _ hrange (fun h => by have := h.2.2; rw [hgd, hv] at this; cases this), Option.map_map]; congr 1; funext x; simp)
              have hv1 : (escV c).isSome = false := by rw [hv]; rfl
              clear hrange hd0 hb0 hr1 hTd hgd hcT
              go_wp2_with (first
                | (go_at_call 48; refine (fescape_any _ _).mono ?_; rintro e w' ⟨rfl, rfl⟩)
                | (at_builtin; refine append_lit rfl _ _ rfl w.heap.size _ _ rfl hown [92] _ rfl 1 rfl rfl (by first | omega | (simp; omega)) hsz ?_; intro v1 w1 hown1 hg1'; have hB1 := below_own hB hown hg1' hsz))
              go_round
              case rel => exact ⟨T, o ++ [92], rfl, hs.out, by have := hTl.out; first | omega | (simp; omega), hown1, hB1⟩
              case measure => have := hTl.out; rw [strLen_str, strLen_str]; first | omega | (simp; omega)
            | some v =>
              have hs := Lib.hid (show setL l = (setL (T.tail)).map ((o ++ [v]) ++ ·) by
                rw [hset'.out]; conv => lhs; rw [hd0, hTd]
                rw [setL_esc c v _ (by rw [hTd] at hrange; simpa using hrange) hv, Option.map_map]; congr 1; funext x; simp)
              have hv1 : (escV c).isSome = true := by rw [hv]; rfl
              have hv2 : (escV c).getD 0 = v := by rw [hv]; rfl
              clear hrange hd0 hb0 hr1 hTd hgd hcT
              go_wp2_with (go_at_call 48; refine (fescape_any _ _).mono ?_; rintro e w' ⟨rfl, rfl⟩)
              go_region
              have hownd := hown.drew
              have hBd := hB.drew
              have hszd : w.heap.size ≤ wr.drew.heap.size := hsz
              generalize wr.drew = wd at *

              go_wp2_with (at_builtin; refine append_lit rfl _ _ rfl w.heap.size _ _ rfl hownd [v] _ rfl 1 rfl rfl (by first | omega | (simp; omega)) hszd ?_; intro v1 w1 hown1 hg1'; have hB1 := below_own hBd hownd hg1' hszd)
              go_round
              case rel => exact ⟨T.tail, o ++ [v], rfl, hs.out, by have := hTl.out; first | omega | (simp; omega), hown1, hB1⟩
              case measure => have := hTl.out; rw [strLen_str, strLen_str]; first | omega | (simp; omega)
        · have hn92 := ne_int (k := 92) (by omega) hb92
          have hn92' : ((b.toNat : Int) == 92) = false := by rw [beq_eq_false_iff_ne]; exact hn92
          have hs := Lib.hid (show setL l = (setL T).map ((o ++ [b]) ++ ·) by
            rw [hset'.out]; conv => lhs; rw [hd0]
            rw [setL_one _ _ hrange (fun h => hb92 h.1), Option.map_map]; congr 1; funext x; simp)
          clear hrange hd0 hb0
          go_wp2_with (first
            | (go_at_call 48; refine (fescape_any _ _).mono ?_; rintro e w' ⟨rfl, rfl⟩)
            | (at_builtin; refine append_lit rfl _ _ rfl w.heap.size _ _ rfl hown [b] _ rfl 1 rfl rfl (by first | omega | (simp; omega)) hsz ?_; intro v1 w1 hown1 hg1'; have hB1 := below_own hB hown hg1' hsz))
          go_round
          case rel => exact ⟨T, o ++ [b], rfl, hs.out, by have := hTl.out; first | omega | (simp; omega), hown1, hB1⟩
          case measure => have := hTl.out; rw [strLen_str, strLen_str]; first | omega | (simp; omega)
    · have hrange : ¬ (2 ≤ (r.drop 1).length ∧ (r.drop 1).getD 0 0 = 45) := fun h => by have := h.1; simp at this; omega
      obtain ⟨T, hT⟩ : ∃ T, r.drop 1 = T := ⟨_, rfl⟩
      rw [hT] at hd0 hrange
      have hTl := Lib.hid (show T.length + 1 = r.length by rw [← hT]; simp; omega)
      by_cases hb92 : b = 92
      · subst hb92
        by_cases hr1 : T = []
        · have hs := Lib.hid (show setL l = (setL T).map ((o ++ [92]) ++ ·) by
            rw [hset'.out]; conv => lhs; rw [hd0]
            rw [setL_one _ _ hrange (fun h => h.2.1 hr1), Option.map_map]; congr 1; funext x; simp)
          have hTe1 : (T == []) = true := by simp [hr1]
          have hTe2 : T.isEmpty = true := by simp [hr1]
          clear hrange hd0 hb0 hr1
          go_wp2_with (first
            | (go_at_call 48; refine (fescape_any _ _).mono ?_; rintro e w' ⟨rfl, rfl⟩)
            | (at_builtin; refine append_lit rfl _ _ rfl w.heap.size _ _ rfl hown [92] _ rfl 1 rfl rfl (by first | omega | (simp; omega)) hsz ?_; intro v1 w1 hown1 hg1'; have hB1 := below_own hB hown hg1' hsz))
          go_round
          case rel => exact ⟨T, o ++ [92], rfl, hs.out, by have := hTl.out; first | omega | (simp; omega), hown1, hB1⟩
          case measure => have := hTl.out; rw [strLen_str, strLen_str]; first | omega | (simp; omega)
        · have hTp : 0 < T.length := List.length_pos_iff.2 hr1
          have hTe1 : (T == []) = false := by simp [hr1]
          have hTe2 : T.isEmpty = false := by simp [hr1]
          obtain ⟨c, _, hgT, hcT⟩ := str_at T 0 hTp
          have hTd := drop_cons hcT
          rw [List.drop_zero, Nat.zero_add, List.drop_one] at hTd
          have hgd : T.getD 0 0 = c := by simp [List.getD, hcT]
          cases hv : escV c with
          | none =>
            have hs := Lib.hid (show setL l = (setL T).map ((o ++ [92]) ++ ·) by
              rw [hset'.out]; conv => lhs; rw [hd0]
              rw [setL_one _ _ hrange (fun h => by have := h.2.2; rw [hgd, hv] at this; cases this), Option.map_map]; congr 1; funext x; simp)
            have hv1 : (escV c).isSome = false := by rw [hv]; rfl
            clear hrange hd0 hb0 hr1 hTd hgd hcT
            go_wp2_with (first
              | (go_at_call 48; refine (fescape_any _ _).mono ?_; rintro e w' ⟨rfl, rfl⟩)
              | (at_builtin; refine append_lit rfl _ _ rfl w.heap.size _ _ rfl hown [92] _ rfl 1 rfl rfl (by first | omega | (simp; omega)) hsz ?_; intro v1 w1 hown1 hg1'; have hB1 := below_own hB hown hg1' hsz))
            go_round
            case rel => exact ⟨T, o ++ [92], rfl, hs.out, by have := hTl.out; first | omega | (simp; omega), hown1, hB1⟩
            case measure => have := hTl.out; rw [strLen_str, strLen_str]; first | omega | (simp; omega)
          | some v =>
            have hs := Lib.hid (show setL l = (setL (T.tail)).map ((o ++ [v]) ++ ·) by
              rw [hset'.out]; conv => lhs; rw [hd0, hTd]
              rw [setL_esc c v _ (by rw [hTd] at hrange; simpa using hrange) hv, Option.map_map]; congr 1; funext x; simp)
            have hv1 : (escV c).isSome = true := by rw [hv]; rfl
            have hv2 : (escV c).getD 0 = v := by rw [hv]; rfl
            clear hrange hd0 hb0 hr1 hTd hgd hcT
            go_wp2_with (go_at_call 48; refine (fescape_any _ _).mono ?_; rintro e w' ⟨rfl, rfl⟩)
            go_region
            have hownd := hown.drew
            have hBd := hB.drew
            have hszd : w.heap.size ≤ wr.drew.heap.size := hsz
            generalize wr.drew = wd at *

            go_wp2_with (at_builtin; refine append_lit rfl _ _ rfl w.heap.size _ _ rfl hownd [v] _ rfl 1 rfl rfl (by first | omega | (simp; omega)) hszd ?_; intro v1 w1 hown1 hg1'; have hB1 := below_own hBd hownd hg1' hszd)
            go_round
            case rel => exact ⟨T.tail, o ++ [v], rfl, hs.out, by have := hTl.out; first | omega | (simp; omega), hown1, hB1⟩
            case measure => have := hTl.out; rw [strLen_str, strLen_str]; first | omega | (simp; omega)
      · have hn92 := ne_int (k := 92) (by omega) hb92
        have hn92' : ((b.toNat : Int) == 92) = false := by rw [beq_eq_false_iff_ne]; exact hn92
        have hs := Lib.hid (show setL l = (setL T).map ((o ++ [b]) ++ ·) by
          rw [hset'.out]; conv => lhs; rw [hd0]
          rw [setL_one _ _ hrange (fun h => hb92 h.1), Option.map_map]; congr 1; funext x; simp)
        clear hrange hd0 hb0
        go_wp2_with (first
          | (go_at_call 48; refine (fescape_any _ _).mono ?_; rintro e w' ⟨rfl, rfl⟩)
          | (at_builtin; refine append_lit rfl _ _ rfl w.heap.size _ _ rfl hown [b] _ rfl 1 rfl rfl (by first | omega | (simp; omega)) hsz ?_; intro v1 w1 hown1 hg1'; have hB1 := below_own hB hown hg1' hsz))
        go_round
        case rel => exact ⟨T, o ++ [b], rfl, hs.out, by have := hTl.out; first | omega | (simp; omega), hown1, hB1⟩
        case measure => have := hTl.out; rw [strLen_str, strLen_str]; first | omega | (simp; omega)
end Go.Proofs.YtmhgehnkhhlbkaaGreatDoor
