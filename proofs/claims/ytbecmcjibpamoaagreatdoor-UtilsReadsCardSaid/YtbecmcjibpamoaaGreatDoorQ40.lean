/- Env TxN Own TxB TxC TxD -/
import Derived.Test.YtbecmcjibpamoaaGreatDoorQ01
import Derived.Test.YtbecmcjibpamoaaGreatDoorQ20
import Derived.Lib.AtoiAll
import Derived.Lib.SlTrimSet
import Derived.Lib.ItoaNum
import Derived.BigRegion
import Derived.Outline
import Derived.Laws.IdiomStrings
import Derived.Lib.ConvBytes
set_option linter.unusedVariables false
set_option linter.unusedSimpArgs false
set_option linter.deprecated false
set_option linter.unnecessarySimpa false
namespace Go.Proofs.YtbecmcjibpamoaaGreatDoor
open Go.RowKit
structure Env (w : World) : Prop where
  maxlen : ∃ m, w.cell? ⟨0, 0, none⟩ = some (.int .i64 m)
  pow10 : Lib.TabIs Tryz.prog w "internal/strconv.uint64pow10" .u64 Lib.pow10Tab
  syn : ∃ te pe, w.cell? ⟨2, 0, none⟩ = some (.iface te pe)
  rng : ∃ te pe, w.cell? ⟨3, 0, none⟩ = some (.iface te pe)
theorem gPow10 : Tryz.prog.globalNamed "internal/strconv.uint64pow10" = some 1 := by kernel_rfl
theorem tab_below {n : String} {g : Nat} {k : IntKind} {zs : List Int} {w w' : World} (hg : Tryz.prog.globalNamed n = some g) (h : Lib.TabIs Tryz.prog w n k zs) (hb : Below w.heap.size w w') : Lib.TabIs Tryz.prog w' n k zs := by
  unfold Lib.TabIs World.var? at h ⊢
  rw [hg] at h ⊢
  simp only [Option.bind_some] at h ⊢
  have hlt : g < w.heap.size := by
    rcases Nat.lt_or_ge g w.heap.size with h' | h'
    · exact h'
    · rw [Array.getElem?_eq_none h'] at h; simp at h
  rw [hb.block g hlt]; exact h
theorem Env.below {w w' : World} (h : Env w) (hb : Below w.heap.size w w') : Env w' :=
  ⟨let ⟨m, hm⟩ := h.maxlen; ⟨m, keep_cell hm hb⟩, tab_below gPow10 h.pow10 hb, let ⟨a, b, hm⟩ := h.syn; ⟨a, b, keep_cell hm hb⟩, let ⟨a, b, hm⟩ := h.rng; ⟨a, b, keep_cell hm hb⟩⟩
end Go.Proofs.YtbecmcjibpamoaaGreatDoor
namespace Go.Proofs.YtbecmcjibpamoaaGreatDoor
open Go.Lib
def digB (c : UInt8) : Bool := 48 ≤ c && c ≤ 57
theorem digB_iff (c : UInt8) : digB c = true ↔ 48 ≤ c.toNat ∧ c.toNat ≤ 57 := by
  simp [digB, UInt8.le_iff_toNat_le]
def decFrom : Nat → List UInt8 → Nat
  | a, [] => a
  | a, c :: r => decFrom (a * 10 + (c.toNat - 48)) r
def decVal (l : List UInt8) : Nat := decFrom 0 l
theorem decFrom_ge : ∀ (l : List UInt8) (a : Nat), a ≤ decFrom a l
  | [], a => Nat.le_refl _
  | c :: r, a => Nat.le_trans (by omega) (decFrom_ge r (a * 10 + (c.toNat - 48)))
theorem parse_eq : ∀ (l : List UInt8) (acc : Nat), l.all digB = true → acc < 18446744073709551616 → parseUint10 acc l = if decFrom acc l < 18446744073709551616 then .ok (decFrom acc l) else .range
  | [], acc, _, h => by show NumEnd.ok acc = if acc < _ then .ok acc else .range; rw [if_pos h]
  | c :: r, acc, hd, h => by
    simp only [List.all_cons, Bool.and_eq_true] at hd
    have hc := (digB_iff c).1 hd.1
    have hge := decFrom_ge r (acc * 10 + (c.toNat - 48))
    show parseUint10 acc (c :: r) = if decFrom (acc * 10 + (c.toNat - 48)) r < _ then .ok (decFrom (acc * 10 + (c.toNat - 48)) r) else .range
    rw [parseUint10, if_pos hc]
    by_cases h1 : 1844674407370955162 ≤ acc
    · rw [if_pos h1, if_neg (by omega)]
    · rw [if_neg h1]
      by_cases h2 : 18446744073709551616 ≤ acc * 10 + (c.toNat - 48)
      · rw [if_pos h2, if_neg (by omega)]
      · rw [if_neg h2, parse_eq r _ hd.2 (by omega)]
theorem atoi_digits (l : List UInt8) (hl : l ≠ []) (hd : l.all digB = true) : atoiAll l = if decVal l < 9223372036854775808 then .ok (decVal l : Int) else .range := by
  cases l with
  | nil => exact absurd rfl hl
  | cons c r =>
    have hc := (digB_iff c).1 (by simp only [List.all_cons, Bool.and_eq_true] at hd; exact hd.1)
    have h1 : ¬ (c.toNat = 43 ∨ c.toNat = 45) := by omega
    have h2 : ¬ c.toNat = 45 := by omega
    unfold atoiAll
    simp only [h1, if_false]
    unfold parseMag
    rw [if_neg hl, parse_eq (c :: r) 0 hd (by omega)]
    show _ = if decFrom 0 (c :: r) < 9223372036854775808 then NumEnd.ok (decFrom 0 (c :: r) : Int) else NumEnd.range
    generalize decFrom 0 (c :: r) = v
    by_cases hv : v < 18446744073709551616
    · rw [if_pos hv]
      simp only [h2, not_false_eq_true, true_and, false_and, if_false]
      by_cases hv2 : 9223372036854775808 ≤ v
      · rw [if_pos hv2, if_neg (by omega)]
      · rw [if_neg hv2, if_pos (by omega)]
    · rw [if_neg hv, if_neg (by omega)]
def digs : List UInt8 := [48, 49, 50, 51, 52, 53, 54, 55, 56, 57]
theorem digs_contains (c : UInt8) : digs.contains c = digB c := by
  have h : ∀ n : Fin 256, digs.contains (UInt8.ofNat n) = digB (UInt8.ofNat n) := by decide +kernel
  have := h ⟨c.toNat, c.toNat_lt⟩
  simpa using this
theorem dropWhile_nil_iff (p : UInt8 → Bool) : ∀ l : List UInt8, l.dropWhile p = [] ↔ l.all p = true
  | [] => by simp
  | c :: t => by
    rw [List.dropWhile_cons]
    cases h : p c <;> simp [h, dropWhile_nil_iff p t]
theorem trim_nil_iff (l : List UInt8) : trimS l digs = [] ↔ l.all digB = true := by
  have hp : (fun c => digs.contains c) = digB := funext digs_contains
  unfold trimS trimLeftS trimRightS
  rw [hp]
  constructor
  · intro h
    rw [dropWhile_nil_iff, List.all_reverse] at h
    -- what is left at the end of a dropWhile begins with a byte that is no digit
    cases hr : l.reverse.dropWhile digB with
    | nil => rw [dropWhile_nil_iff, List.all_reverse] at hr; exact hr
    | cons c t =>
      rw [hr] at h
      simp only [List.all_cons, Bool.and_eq_true] at h
      have : digB c = false := by
        have := List.head_dropWhile_not digB (l := l.reverse) (by rw [hr]; simp)
        simpa [hr] using this
      rw [h.1] at this; cases this
  · intro h
    rw [(dropWhile_nil_iff digB l.reverse).2 (by rw [List.all_reverse]; exact h)]; rfl
def strip : List UInt8 → List UInt8
  | [] => []
  | [c] => [c]
  | c :: d :: t => if c = 48 then strip (d :: t) else c :: d :: t
theorem dec_pos : ∀ (r : List UInt8) (a : Nat), 0 < a → r.all digB = true → decDigits (decFrom a r) = decDigits a ++ r
  | [], a, _, _ => by rw [show decFrom a [] = a from rfl, List.append_nil]
  | c :: t, a, ha, hd => by
    simp only [List.all_cons, Bool.and_eq_true] at hd
    have hc := (digB_iff c).1 hd.1
    have e : decDigits (a * 10 + (c.toNat - 48)) = decDigits a ++ [c] := by
      rw [decDigits, dif_neg (by omega)]
      have h1 : (a * 10 + (c.toNat - 48)) / 10 = a := by omega
      have h2 : 48 + (a * 10 + (c.toNat - 48)) % 10 = c.toNat := by omega
      rw [h1, h2]; simp
    have := dec_pos t (a * 10 + (c.toNat - 48)) (by omega) hd.2
    rw [show decFrom a (c :: t) = decFrom (a * 10 + (c.toNat - 48)) t from rfl, this, e]; simp
theorem dec_one (c : UInt8) (hc : 48 ≤ c.toNat ∧ c.toNat ≤ 57) : decDigits (c.toNat - 48) = [c] := by
  rw [decDigits, dif_pos (by omega)]
  have : 48 + (c.toNat - 48) = c.toNat := by omega
  rw [this]; simp
theorem dec_strip : ∀ r : List UInt8, r ≠ [] → r.all digB = true → decDigits (decVal r) = strip r
  | [], h, _ => absurd rfl h
  | [c], _, hd => by
    simp only [List.all_cons, List.all_nil, Bool.and_true] at hd
    have hc := (digB_iff c).1 hd
    rw [strip, show decVal [c] = c.toNat - 48 by show 0 * 10 + (c.toNat - 48) = _; omega]
    exact dec_one c hc
  | c :: d :: t, _, hd => by
    simp only [List.all_cons, Bool.and_eq_true] at hd
    have hc := (digB_iff c).1 hd.1
    have hdt : (d :: t).all digB = true := by simp [hd.2]
    show decDigits (decFrom (0 * 10 + (c.toNat - 48)) (d :: t)) = _
    rw [strip]
    by_cases h0 : c = 48
    · subst h0
      rw [if_pos rfl]
      exact dec_strip (d :: t) (by simp) hdt
    · have hne : c.toNat ≠ 48 := fun e => h0 (UInt8.toNat_inj.1 e)
      rw [if_neg h0, dec_pos _ _ (by omega) hdt, show 0 * 10 + (c.toNat - 48) = c.toNat - 48 by omega, dec_one c hc]; simp
theorem decFrom_lt : ∀ (r : List UInt8) (a k : Nat), r.all digB = true → a < 10 ^ k → decFrom a r < 10 ^ (k + r.length)
  | [], _, _, _, h => h
  | c :: t, a, k, hd, h => by
    simp only [List.all_cons, Bool.and_eq_true] at hd
    have hc := (digB_iff c).1 hd.1
    have h2 : a * 10 + (c.toNat - 48) < 10 ^ (k + 1) := by rw [Nat.pow_succ]; omega
    have := decFrom_lt t _ (k + 1) hd.2 h2
    rw [show k + (c :: t).length = k + 1 + t.length by simp; omega]
    exact this
theorem decVal_lt (r : List UInt8) (hd : r.all digB = true) (hl : r.length ≤ 18) : decVal r < 1000000000000000000 := by
  have h := decFrom_lt r 0 0 hd (by decide)
  have h2 : 10 ^ (0 + r.length) ≤ 10 ^ 18 := Nat.pow_le_pow_right (by decide) (by omega)
  show decFrom 0 r < _
  omega
theorem dec0 : decDigits 0 = [48] := by rw [decDigits, dif_pos (by decide)]; rfl
theorem strip_zero : ∀ r : List UInt8, r ≠ [] → r.all digB = true → (strip r = [48] ↔ decVal r = 0) := by
  intro r h hd
  rw [← dec_strip r h hd]
  constructor
  · intro e
    rcases Nat.eq_zero_or_pos (decVal r) with h0 | h0
    · exact h0
    · have : (decDigits (decVal r)).length = 1 := by rw [e]; rfl
      rw [decDigits] at e this
      split at e
      · rename_i hlt
        rw [List.cons.injEq] at e
        have := congrArg UInt8.toNat e.1
        rw [UInt8.toNat_ofNat'] at this
        have h48 : (48 : UInt8).toNat = 48 := rfl
        omega
      · rename_i hlt
        rw [dif_neg hlt] at this
        have hne : (decDigits (decVal r / 10)).length ≠ 0 := by
          rw [decDigits]; split <;> simp
        simp at this
        exact absurd (by rw [this]; rfl) hne
  · intro e; rw [e]; exact dec0
def sg (neg : Bool) (z : List UInt8) : List UInt8 := if neg = true ∧ z ≠ [48] then 45 :: z else z
def unsg (x : List UInt8) : List UInt8 := if x.head? = some 45 then x.tail else x
def badNum (r : List UInt8) : Bool := r.isEmpty || decide (18 < r.length) || !r.all digB
def numL (x : List UInt8) : Option (List UInt8) :=
  if x = [] then some [48] else if badNum (unsg x) then none else some (sg (x.head? == some 45) (strip (unsg x)))
theorem num_atoi (x : List UInt8) (hx : x ≠ []) (hb : badNum (unsg x) = false) : ∃ v : Int, atoiAll x = .ok v ∧ -9223372036854775808 ≤ v ∧ v ≤ 9223372036854775807 ∧ itoa v = sg (x.head? == some 45) (strip (unsg x)) := by
  simp only [badNum, Bool.or_eq_false_iff, decide_eq_false_iff_not, Bool.not_eq_false'] at hb
  obtain ⟨⟨h1, h2⟩, h3⟩ := hb
  have hne : unsg x ≠ [] := by simpa using h1
  have hlt := decVal_lt _ h3 (by omega)
  have hstr := dec_strip _ hne h3
  have hz := strip_zero _ hne h3
  cases x with
  | nil => exact absurd rfl hx
  | cons c t =>
    by_cases h45 : c = 45
    · subst h45
      have hu : unsg (45 :: t) = t := by simp [unsg]
      rw [hu] at h1 h2 h3 hne hlt hstr hz ⊢
      refine ⟨-(decVal t : Int), ?_, by omega, by omega, ?_⟩
      · have ha := atoi_digits t hne h3
        rw [if_pos (by omega)] at ha
        have hp := parse_eq t 0 h3 (by decide)
        have hv : decFrom 0 t = decVal t := rfl
        rw [hv, if_pos (by omega)] at hp
        have hm : parseMag t = .ok (decVal t) := by
          unfold parseMag; cases t with
          | nil => exact absurd rfl hne
          | cons d r => exact hp
        have e : (if (45 : UInt8).toNat = 43 ∨ (45 : UInt8).toNat = 45 then t else 45 :: t) = t := if_pos (.inr rfl)
        have h45 : (45 : UInt8).toNat = 45 := rfl
        unfold atoiAll
        simp only [e, hm]
        rw [if_neg (fun h => h.1 h45), if_neg (by omega), if_pos h45]
      · rw [show ((45 :: t).head? == some (45 : UInt8)) = true by rfl]
        by_cases h0 : decVal t = 0
        · have hs := hz.2 h0
          rw [h0, hs]; show itoa (-(0:Int)) = [48]; rw [itoa, if_neg (by decide)]; exact dec0
        · have hs : strip t ≠ [48] := fun e => h0 (hz.1 e)
          rw [sg, if_pos ⟨rfl, hs⟩, ← hstr, itoa, if_pos (by omega)]
          congr 2
          omega
    · have hu : unsg (c :: t) = c :: t := by simp [unsg, h45]
      rw [hu] at h1 h2 h3 hne hlt hstr hz ⊢
      refine ⟨(decVal (c :: t) : Int), ?_, by omega, by omega, ?_⟩
      · have ha := atoi_digits (c :: t) hne h3
        rw [if_pos (by omega)] at ha
        exact ha
      · have hn : ((c :: t).head? == some (45 : UInt8)) = false := by simp [h45]
        rw [hn, sg, if_neg (by simp), ← hstr, itoa, if_neg (by omega)]
        congr 1
theorem trimPrefix_unsg (x : List UInt8) : trimPrefix x [45] = unsg x := by
  cases x with
  | nil => rfl
  | cons c t =>
    by_cases h : c = 45
    · subst h; simp [trimPrefix, hasPrefix, unsg, List.isPrefixOf]
    · simp [trimPrefix, hasPrefix, unsg, List.isPrefixOf, h, Ne.symm h]
theorem strip_len : ∀ r : List UInt8, (strip r).length ≤ r.length
  | [] => by simp [strip]
  | [c] => by simp [strip]
  | c :: d :: t => by
    have := strip_len (d :: t)
    rw [strip]; split
    · simp at this ⊢; omega
    · simp
theorem numL_len {x y : List UInt8} (h : numL x = some y) : y.length ≤ 20 := by
  unfold numL at h
  split at h
  · cases h; simp
  · split at h
    · cases h
    · rename_i hb
      cases h
      simp only [badNum, Bool.or_eq_true, decide_eq_true_eq, not_or] at hb
      have := strip_len (unsg x)
      unfold sg; split <;> simp <;> omega
end Go.Proofs.YtbecmcjibpamoaaGreatDoor
namespace Go.Proofs.YtbecmcjibpamoaaGreatDoor
open Go.RowKit
def OwnB (w : World) (base : Nat) (v : Value) (l : List UInt8) : Prop := w.ownsRow base 5 1 v l.length (l.map fun c => Value.int .u8 c.toNat)
theorem info_u8 : (Tryz.prog.info? 5).map (fun i => (i.zero, i.size, i.bytes)) = some (some (.int .u8 0), 1, 1) := by kernel_rfl
theorem OwnB.nil (w : World) (base : Nat) : OwnB w base (.slice none 0 0) [] := World.ownsRow_nil w base _ _
theorem OwnB.drew {w : World} {base v l} (h : OwnB w base v l) : OwnB w.drew base v l := h
theorem OwnB.alloc {w : World} {base v l} (h : OwnB w base v l) (o : Obj) : OwnB (w.alloc o) base v l := World.ownsRow.alloc h o
theorem OwnB.below {w w' : World} {base v l} (h : OwnB w base v l) (hb : Below w.heap.size w w') : OwnB w' base v l :=
  World.ownsRow.kept h (w' := w') (row := none) ⟨hb.os, hb.tape, hb.output, hb.size, fun k hk _ => hb.block k hk⟩ (by cases v.ownBlock <;> simp)
theorem below_own {w w1 w2 : World} {v : Value} {l : List UInt8} {base : Nat} (hb : Below base w w1) (hown : OwnB w1 base v l) (hg : w1.grownBy w2 v.ownBlock) (hs : base ≤ w1.heap.size) : Below base w w2 :=
  hb.grown hg hs (fun k e => (World.ownsRow.lt hown k e).1)
theorem append_bytes {ops : Array Oper} {rest : List Oper} {o : Oper} {a : Act} {Q : Exit → Act → World → Prop} {w : World} (hgd : o.guard = none) (s x : Operand)
    (ho : o.op = .call { callee := .builtin .append, args := #[s, x], argTypes := #[23, 23] }) (base : Nat) (v : Value) (l : List UInt8) (hs : a.eval s = v) (hown : OwnB w base v l)
    (g c : Nat) (m : List UInt8) (hx : a.eval x = .slice (some ⟨g, 0, none⟩) m.length c) (hm : ∀ (j : Nat) (b : UInt8), m[j]? = some b → w.cell? ⟨g, j, none⟩ = some (.int .u8 b.toNat))
    (hlen : l.length + m.length ≤ 100000000000) (hbase : base ≤ w.heap.size)
    (h : ∀ v' w', OwnB w' base v' (l ++ m) → w.grownBy w' v.ownBlock → wpList Tryz.prog ops Q rest (a.put o.dst v') w') : wpList Tryz.prog ops Q (o :: rest) a w := by
  obtain ⟨i0, hi, hz0, hz1, hz2⟩ := info_parts info_u8
  refine wpList_append_own w hgd s x 23 ho base 5 i0 (.int .u8 0) 1 1 (by kernel_rfl) hi hz0 hz1 hz2 rfl (by omega) v l.length _ hs hown ⟨g, 0, none⟩ m.length c (m.map fun c => Value.int .u8 c.toNat) hx (by simp) ?_ ?_ (by simp only [maxLen]; omega) (by omega) hbase ?_
  · intro j u hj
    rw [List.getElem?_map] at hj
    cases hb : m[j]? with
    | none => rw [hb] at hj; cases hj
    | some b =>
      rw [hb] at hj; cases hj
      have := hm j b hb
      unfold Addr.add; split <;> simp_all
  · intro u hu
    simp at hu
    obtain ⟨b, _, rfl⟩ := hu
    rfl
  · intro v' w' h1 h2 _
    exact h v' w' (by simpa [OwnB] using h1) h2
theorem append_lit {ops : Array Oper} {rest : List Oper} {o : Oper} {a : Act} {Q : Exit → Act → World → Prop} {w : World} (hgd : o.guard = none) (s x : Operand)
    (ho : o.op = .call { callee := .builtin .append, args := #[s, x], argTypes := #[23, 23] }) (base : Nat) (v : Value) (l : List UInt8) (hs : a.eval s = v) (hown : OwnB w base v l)
    (m : List UInt8) (cs : Array Value) (hcs : cs.toList = m.map fun c => Value.int .u8 c.toNat) (n : Nat) (hn : n = m.length) (hx : a.eval x = .slice (some ⟨w.heap.size, 0, none⟩) n n)
    (hlen : l.length + m.length ≤ 100000000000) (hbase : base ≤ w.heap.size)
    (h : ∀ v' w', OwnB w' base v' (l ++ m) → w.grownBy w' v.ownBlock → wpList Tryz.prog ops Q rest (a.put o.dst v') w') :
    wpList Tryz.prog ops Q (o :: rest) a (w.alloc (.cells cs 5)) := by
  subst hn
  refine append_bytes hgd s x ho base v l hs (hown.alloc _) w.heap.size m.length m hx ?_ hlen (by simp; omega) ?_
  · intro j b' hj
    have h1 : cs.toList[j]? = some (.int .u8 b'.toNat) := by rw [hcs, List.getElem?_map, hj]; rfl
    rw [Array.getElem?_toList] at h1
    rw [World.cell?_alloc_new]; exact h1
  · intro v' w' h1 h2
    refine h v' w' h1 ?_
    exact ⟨h2.os, h2.tape, h2.output, by have := h2.size; simp at this; omega, fun k hk hne => by
      rw [h2.block k (by simp; omega) hne, Below.heap_alloc _ _ _ hk]⟩
theorem OwnB.lit (w : World) (base : Nat) (hb : base ≤ w.heap.size) (l : List UInt8) (n : Nat) (hn : n = l.length) (hm : l.length ≤ 100000000000) (cs : Array Value) (hc : cs.toList = l.map fun c => Value.int .u8 c.toNat) :
    OwnB (w.alloc (.cells cs 5)) base (.slice (some ⟨w.heap.size, 0, none⟩) n n) l := by
  subst hn
  have := World.ownsRow_lit (base := base) (e := 5) (size := 1) w cs l.length hb (by simp only [maxLen]; omega) (by rw [← Array.length_toList, hc]; simp)
  rw [hc] at this
  exact this
theorem OwnB.conv {w : World} {base v l} (h : OwnB w base v l) : (convert 23 9 v).run Tryz.prog w = .ok (.string ⟨l.toArray⟩) w := by
  obtain ⟨hxs, hr⟩ := h
  rcases hr with ⟨rfl, hn⟩ | ⟨g, cap, cur, rfl, _, hg, hnc, _, _, htk⟩
  · have : l = [] := List.eq_nil_of_length_eq_zero hn
    subst this
    exact run_convert_bytes_nil w 23 5 (by kernel_rfl) (by kernel_rfl) 0 0 9 (by kernel_rfl)
  · refine run_convert_bytes_back w 23 9 5 ⟨g, 0, none⟩ cap l (by kernel_rfl) (by kernel_rfl) (by kernel_rfl) ?_
    intro j hj
    have e : (⟨g, 0, none⟩ : Addr).add j = ⟨g, j, none⟩ := by unfold Addr.add; split <;> simp_all
    rw [e]
    have h1 : (cur.toList.take (l.length * 1))[j]? = some (.int .u8 l[j].toNat) := by rw [htk]; simp [hj]
    rw [List.getElem?_take_of_lt (by omega), Array.getElem?_toList] at h1
    simp [World.cell?, hg, h1]
theorem OwnB.at {w : World} {base v l} (h : OwnB w base v l) (hl : l ≠ []) : ∃ g cap, v = .slice (some ⟨g, 0, none⟩) l.length cap ∧ base ≤ g ∧ g < w.heap.size ∧ (∀ (j : Nat) (b : UInt8), l[j]? = some b → w.cell? ⟨g, j, none⟩ = some (.int .u8 b.toNat)) ∧ ∀ j, w.frozen? ⟨g, j, none⟩ = false := by
  obtain ⟨hxs, hr⟩ := h
  rcases hr with ⟨rfl, hn⟩ | ⟨g, cap, cur, rfl, hb, hg, hnc, _, _, htk⟩
  · exact absurd (List.eq_nil_of_length_eq_zero hn) hl
  · refine ⟨g, cap, rfl, hb, ?_, fun j b hj => ?_, fun j => by simp [World.frozen?, hg]⟩
    · rcases Nat.lt_or_ge g w.heap.size with h' | h'
      · exact h'
      · rw [Array.getElem?_eq_none h'] at hg; cases hg
    · have hjl : j < l.length := (List.getElem?_eq_some_iff.1 hj).1
      have h1 : (cur.toList.take (l.length * 1))[j]? = some (.int .u8 b.toNat) := by rw [htk, List.getElem?_map, hj]; rfl
      rw [List.getElem?_take_of_lt (by omega), Array.getElem?_toList] at h1
      simp [World.cell?, hg, h1]
theorem OwnB.len {w : World} {base v l} (h : OwnB w base v l) : ∃ a cap, v = .slice a l.length cap := by
  obtain ⟨hxs, hr⟩ := h
  rcases hr with ⟨rfl, hn⟩ | ⟨g, cap, cur, rfl, _⟩
  · exact ⟨none, 0, by rw [hn]⟩
  · exact ⟨_, cap, rfl⟩
theorem OwnB.other {w w' : World} {base v l} (h : OwnB w base v l) {r : Option Nat} (hg : w.grownBy w' r) (hne : v.ownBlock = none ∨ v.ownBlock ≠ r) : OwnB w' base v l := World.ownsRow.kept h hg hne
theorem OwnB.lt {w : World} {base v l} (h : OwnB w base v l) : ∀ k, v.ownBlock = some k → base ≤ k ∧ k < w.heap.size := World.ownsRow.lt h
end Go.Proofs.YtbecmcjibpamoaaGreatDoor
namespace Go.Proofs.YtbecmcjibpamoaaGreatDoor
open Go.RowKit
def escV (c : UInt8) : Option UInt8 := if c = 110 then some 10 else if c = 116 then some 9 else if c = 92 then some 92 else none
theorem fescape_any (c : UInt8) (w : World) : Calls Tryz.prog 167 #[.int .u8 c.toNat] w fun e w' => e = .returned (.tuple #[.int .u8 ((escV c).getD 0).toNat, .bool (escV c).isSome]) ∧ w = w' := by
  have h2 : ∀ k : UInt8, ((c.toNat : Int) == (k.toNat : Int)) = (c == k) := fun k => by rw [Bool.eq_iff_iff, beq_iff_eq, beq_iff_eq, ← UInt8.toNat_inj]; omega
  have h110 := h2 110
  have h116 := h2 116
  have h92 := h2 92
  change ((c.toNat : Int) == 110) = _ at h110
  change ((c.toNat : Int) == 116) = _ at h116
  change ((c.toNat : Int) == 92) = _ at h92
  clear h2
  by_cases e1 : c = 110
  · subst e1
    go_enter Tryz.func167, Tryz.ntmps167
    go_wp2
    go_ret2
    exact ⟨rfl, rfl⟩
  by_cases e2 : c = 116
  · subst e2
    go_enter Tryz.func167, Tryz.ntmps167
    go_wp2
    go_ret2
    exact ⟨rfl, rfl⟩
  by_cases e3 : c = 92
  · subst e3
    go_enter Tryz.func167, Tryz.ntmps167
    go_wp2
    go_ret2
    exact ⟨rfl, rfl⟩
  have hv := Lib.hid (show escV c = none by simp [escV, e1, e2, e3])
  have g1 : ((c.toNat : Int) == 110) = false := by rw [h110]; simp [e1]
  have g2 : ((c.toNat : Int) == 116) = false := by rw [h116]; simp [e2]
  have g3 : ((c.toNat : Int) == 92) = false := by rw [h92]; simp [e3]
  clear h110 h116 h92
  go_enter Tryz.func167, Tryz.ntmps167
  go_wp2
  go_ret2
  rw [hv.out]
  exact ⟨rfl, rfl⟩
def rngN (b k : Nat) : List UInt8 := (List.range k).map fun j => UInt8.ofNat (b + j)
def setL : List UInt8 → Option (List UInt8)
  | [] => some []
  | b :: t =>
    if 2 ≤ t.length ∧ t.getD 0 0 = 45 then
      if t.getD 1 0 < b then none else (setL (t.drop 2)).map (rngN b.toNat ((t.getD 1 0).toNat + 1 - b.toNat) ++ ·)
    else if b = 92 ∧ t ≠ [] ∧ (escV (t.getD 0 0)).isSome then (setL (t.drop 1)).map (((escV (t.getD 0 0)).getD 0) :: ·)
    else (setL t).map (b :: ·)
termination_by l => l.length
decreasing_by all_goals simp <;> omega
theorem rngN_succ (b k : Nat) : rngN b (k + 1) = rngN b k ++ [UInt8.ofNat (b + k)] := by simp [rngN, List.range_succ]
theorem rngN_len (b k : Nat) : (rngN b k).length = k := by simp [rngN]
theorem setL_nil : setL [] = some [] := by rw [setL]
theorem setL_bad (b e : UInt8) (r : List UInt8) (h : e < b) : setL (b :: 45 :: e :: r) = none := by
  rw [setL, if_pos ⟨by simp, rfl⟩, if_pos (show (45 :: e :: r).getD 1 0 < b from h)]
theorem setL_range (b e : UInt8) (r : List UInt8) (h : ¬ e < b) : setL (b :: 45 :: e :: r) = (setL r).map (rngN b.toNat (e.toNat + 1 - b.toNat) ++ ·) := by
  rw [setL, if_pos ⟨by simp, rfl⟩, if_neg (show ¬ (45 :: e :: r).getD 1 0 < b from h)]; rfl
theorem setL_esc (c v : UInt8) (r : List UInt8) (h : ¬ (2 ≤ (c :: r).length ∧ c = 45)) (hv : escV c = some v) : setL (92 :: c :: r) = (setL r).map (v :: ·) := by
  rw [setL, if_neg (show ¬ (2 ≤ (c :: r).length ∧ (c :: r).getD 0 0 = 45) from h), if_pos ⟨rfl, by simp, by simp [hv]⟩]; simp [hv]
theorem setL_one (b : UInt8) (t : List UInt8) (h : ¬ (2 ≤ t.length ∧ t.getD 0 0 = 45)) (h2 : ¬ (b = 92 ∧ t ≠ [] ∧ (escV (t.getD 0 0)).isSome)) : setL (b :: t) = (setL t).map (b :: ·) := by
  rw [setL, if_neg h, if_neg h2]
def SetRes (w w' : World) (e : Ending) : Option (List UInt8) → Prop
  | none => e = .returned (.tuple #[.slice none 0 0, .bool false]) ∧ Below w.heap.size w w'
  | some o => ∃ v, e = .returned (.tuple #[v, .bool true]) ∧ OwnB w' w.heap.size v o ∧ o.length ≤ 128000 ∧ Below w.heap.size w w'
def strLenT : Value → Nat | .string s => s.size | _ => 0
theorem strLenT_str (l : List UInt8) : strLenT (.string ⟨l.toArray⟩) = l.length := by simp [strLenT, ByteArray.size]
theorem drop_cons {r : List UInt8} {k : Nat} {c : UInt8} (h : r[k]? = some c) : r.drop k = c :: r.drop (k + 1) := by
  obtain ⟨h1, h2⟩ := List.getElem?_eq_some_iff.1 h
  rw [← h2]; exact List.drop_eq_getElem_cons h1
theorem ne_int {c : UInt8} {k : Nat} (hk : k < 256) (h : c ≠ UInt8.ofNat k) : ¬ (c.toNat : Int) = (k : Int) := fun e => h (UInt8.toNat_inj.1 (by rw [UInt8.toNat_ofNat']; omega))
set_option maxRecDepth 100000 in
set_option maxHeartbeats 3200000 in
theorem set_any (l : List UInt8) (hl : l.length ≤ 500) (w : World) : Calls Tryz.prog 137 #[.string ⟨l.toArray⟩] w fun e w' => SetRes w w' e (setL l) := by
  go_enter Tryz.func137, Tryz.ntmps137
  go_wp2_with fail
  go_loopw [0, 4] (fun s v W => ∃ (r o : List UInt8), s = .string ⟨r.toArray⟩ ∧ setL l = (setL r).map (o ++ ·) ∧ o.length + 256 * r.length ≤ 128000 ∧ OwnB W w.heap.size v o ∧ Below w.heap.size w W) (fun s _ _ => strLenT s)
  case atStart => exact ⟨l, [], rfl, by simp, by simp; omega, OwnB.nil _ _, Below.refl _ _⟩
  case round =>
    obtain ⟨r, o, rfl, hset, hlen, hown, hB⟩ := hrel
    have hsz := hB.size
    by_cases h0 : r = []
    · subst h0
      have hs := Lib.hid (show setL l = some o by rw [hset, setL_nil]; simp)
      clear hset
      go_wp2_with fail
      go_ret2
      rw [hs.out]
      exact ⟨u4, rfl, hown, by omega, hB⟩
    have hpos : 0 < r.length := List.length_pos_iff.2 h0
    have hne1 : (r == []) = false := by simp [h0]
    have hne2 : r.isEmpty = false := by simp [h0]
    have hset' := Lib.hid hset
    clear h0 hset
    obtain ⟨b, _, hg0, hb0⟩ := str_at r 0 hpos
    have hd0 := drop_cons hb0
    rw [List.drop_zero] at hd0
    by_cases hr2 : 2 < r.length
    · obtain ⟨c, _, hg1, hc1⟩ := str_at r 1 (by omega)
      have hd1 := drop_cons hc1
      by_cases h45 : c = 45
      · subst h45
        obtain ⟨e, _, hg2, hc2⟩ := str_at r 2 (by omega)
        have hd2 := drop_cons hc2
        by_cases heb : e < b
        · have hlt : (e.toNat : Int) < b.toNat := by have := UInt8.lt_iff_toNat_lt.1 heb; omega
          have hs := Lib.hid (show setL l = none by rw [hset'.out, hd0, hd1, hd2, setL_bad _ _ _ heb]; rfl)
          clear hd0 hd1 hd2 hb0 hc1 hc2 heb
          go_wp2_with fail
          go_ret2
          rw [hs.out]
          exact ⟨rfl, hB⟩
        · have hlt : (b.toNat : Int) ≤ e.toNat := by have := mt UInt8.lt_iff_toNat_lt.2 heb; omega
          have hltn : ¬ e.toNat < b.toNat := by omega
          have hdec : decide (e.toNat < b.toNat) = false := by simp; omega
          have hs := Lib.hid (show setL l = (setL (r.drop 3)).map ((o ++ rngN b.toNat (e.toNat + 1 - b.toNat)) ++ ·) by
            rw [hset'.out]; conv => lhs; rw [hd0, hd1, hd2]
            rw [setL_range _ _ _ heb, Option.map_map]; congr 1; funext x; simp)
          clear hd0 hd1 hd2 hb0 hc1 hc2 heb
          have hbn := b.toNat_lt
          have hen := e.toNat_lt
          obtain ⟨n, hn⟩ : ∃ n, e.toNat + 1 - b.toNat = n := ⟨_, rfl⟩
          rw [hn] at hs
          go_wp2_with fail
          go_loopw [4, 6] (fun v c W => ∃ j : Nat, j ≤ n ∧ c = .int .i64 (b.toNat + j : Nat) ∧ OwnB W w.heap.size v (o ++ rngN b.toNat j) ∧ Below w.heap.size w W) (fun _ c _ => (256 - intOf c).toNat)
          case atStart => exact ⟨0, by omega, by go_num, by simpa [rngN] using hown, hB⟩
          case round =>
            obtain ⟨j, hj, rfl, hown2, hB2⟩ := hrel
            have hsz2 := hB2.size
            have hrl := rngN_len b.toNat j
            by_cases hjn : j < n
            · have hle : ((b.toNat + j : Nat) : Int) ≤ e.toNat := by omega
              have hsu := Lib.hid (rngN_succ b.toNat j)
              have hcb : (UInt8.ofNat (b.toNat + j)).toNat = b.toNat + j := by rw [UInt8.toNat_ofNat']; omega
              generalize UInt8.ofNat (b.toNat + j) = c at *
              generalize rngN b.toNat j = R at *
              go_wp2_with (at_builtin; refine append_lit rfl _ _ rfl w.heap.size _ _ rfl hown2 [c] _ (by simp only [List.map_cons, List.map_nil]; congr 2; omega) 1 rfl rfl (by simp; omega) hsz2 ?_; intro v1 w1 hown1 hg1'; have hB1 := below_own hB2 hown2 hg1' hsz2)
              go_round
              case rel => exact ⟨j + 1, by omega, by go_num, by rw [hsu.out, ← List.append_assoc]; exact hown1, hB1⟩
              case measure => simp [intOf]; omega
            · have hle : ¬ ((b.toNat + j : Nat) : Int) ≤ e.toNat := by omega
              have hjn' : j = n := by omega
              rw [hjn'] at hown2
              have hrl2 := rngN_len b.toNat n
              have hlen3 : (o ++ rngN b.toNat n).length + 256 * (r.drop 3).length ≤ 128000 := by simp; omega
              generalize o ++ rngN b.toNat n = O at *
              go_wp2_with fail
              go_round
              case rel => exact ⟨r.drop 3, O, rfl, hs.out, hlen3, hown2, hB2⟩
              case measure => rw [strLenT_str, strLenT_str, List.length_drop]; omega
      · have hn45 := ne_int (k := 45) (by omega) h45
        have hn45' : ((c.toNat : Int) == 45) = false := by rw [beq_eq_false_iff_ne]; exact hn45
        have hrange : ¬ (2 ≤ (r.drop 1).length ∧ (r.drop 1).getD 0 0 = 45) := fun h => h45 (by have := h.2; rw [hd1] at this; exact this)
        clear hd1 hc1 h45
        obtain ⟨T, hT⟩ : ∃ T, r.drop 1 = T := ⟨_, rfl⟩
        rw [hT] at hd0 hrange
        have hTl := Lib.hid (show T.length + 1 = r.length by rw [← hT]; simp; omega)
        by_cases hb92 : b = 92
        · subst hb92
          by_cases hr1 : T = []
          · have hs := Lib.hid (show setL l = (setL T).map ((o ++ [92]) ++ ·) by
              rw [hset'.out]; conv => lhs; rw [hd0]
              rw [setL_one _ _ hrange (fun h => h.2.1 hr1), Option.map_map]; congr 1; funext x; simp)
            have hTe1 : (T == []) = true := by simp [hr1]
            have hTe2 : T.isEmpty = true := by simp [hr1]
            clear hrange hd0 hb0 hr1
            go_wp2_with (first
              | (go_at_call 167; refine (fescape_any _ _).mono ?_; rintro e w' ⟨rfl, rfl⟩)
              | (at_builtin; refine append_lit rfl _ _ rfl w.heap.size _ _ rfl hown [92] _ rfl 1 rfl rfl (by first | omega | (simp; omega)) hsz ?_; intro v1 w1 hown1 hg1'; have hB1 := below_own hB hown hg1' hsz))
            go_round
            case rel => exact ⟨T, o ++ [92], rfl, hs.out, by have := hTl.out; first | omega | (simp; omega), hown1, hB1⟩
            case measure => have := hTl.out; rw [strLenT_str, strLenT_str]; first | omega | (simp; omega)
          · have hTp : 0 < T.length := List.length_pos_iff.2 hr1
            have hTe1 : (T == []) = false := by simp [hr1]
            have hTe2 : T.isEmpty = false := by simp [hr1]
            obtain ⟨c, _, hgT, hcT⟩ := str_at T 0 hTp
            have hTd := drop_cons hcT
            rw [List.drop_zero, Nat.zero_add, List.drop_one] at hTd
            have hgd : T.getD 0 0 = c := by simp [List.getD, hcT]
            cases hv : escV c with
            | none =>
              have hs := Lib.hid (show setL l = (setL T).map ((o ++ [92]) ++ ·) by
                rw [hset'.out]; conv => lhs; rw [hd0]
                rw [setL_one _ _ hrange (fun h => by have := h.2.2; rw [hgd, hv] at this; cases this), Option.map_map]; congr 1; funext x; simp)
              have hv1 : (escV c).isSome = false := by rw [hv]; rfl
              clear hrange hd0 hb0 hr1 hTd hgd hcT
              go_wp2_with (first
                | (go_at_call 167; refine (fescape_any _ _).mono ?_; rintro e w' ⟨rfl, rfl⟩)
                | (at_builtin; refine append_lit rfl _ _ rfl w.heap.size _ _ rfl hown [92] _ rfl 1 rfl rfl (by first | omega | (simp; omega)) hsz ?_; intro v1 w1 hown1 hg1'; have hB1 := below_own hB hown hg1' hsz))
              go_round
              case rel => exact ⟨T, o ++ [92], rfl, hs.out, by have := hTl.out; first | omega | (simp; omega), hown1, hB1⟩
              case measure => have := hTl.out; rw [strLenT_str, strLenT_str]; first | omega | (simp; omega)
            | some v =>
              have hs := Lib.hid (show setL l = (setL (T.tail)).map ((o ++ [v]) ++ ·) by
                rw [hset'.out]; conv => lhs; rw [hd0, hTd]
                rw [setL_esc c v _ (by rw [hTd] at hrange; simpa using hrange) hv, Option.map_map]; congr 1; funext x; simp)
              have hv1 : (escV c).isSome = true := by rw [hv]; rfl
              have hv2 : (escV c).getD 0 = v := by rw [hv]; rfl
              clear hrange hd0 hb0 hr1 hTd hgd hcT
              go_wp2_with (go_at_call 167; refine (fescape_any _ _).mono ?_; rintro e w' ⟨rfl, rfl⟩)
              go_region
              have hownd := hown.drew
              have hBd := hB.drew
              have hszd : w.heap.size ≤ wr.drew.heap.size := hsz
              generalize wr.drew = wd at *
              go_wp2_with (at_builtin; refine append_lit rfl _ _ rfl w.heap.size _ _ rfl hownd [v] _ rfl 1 rfl rfl (by first | omega | (simp; omega)) hszd ?_; intro v1 w1 hown1 hg1'; have hB1 := below_own hBd hownd hg1' hszd)
              go_round
              case rel => exact ⟨T.tail, o ++ [v], rfl, hs.out, by have := hTl.out; first | omega | (simp; omega), hown1, hB1⟩
              case measure => have := hTl.out; rw [strLenT_str, strLenT_str]; first | omega | (simp; omega)
        · have hn92 := ne_int (k := 92) (by omega) hb92
          have hn92' : ((b.toNat : Int) == 92) = false := by rw [beq_eq_false_iff_ne]; exact hn92
          have hs := Lib.hid (show setL l = (setL T).map ((o ++ [b]) ++ ·) by
            rw [hset'.out]; conv => lhs; rw [hd0]
            rw [setL_one _ _ hrange (fun h => hb92 h.1), Option.map_map]; congr 1; funext x; simp)
          clear hrange hd0 hb0
          go_wp2_with (first
            | (go_at_call 167; refine (fescape_any _ _).mono ?_; rintro e w' ⟨rfl, rfl⟩)
            | (at_builtin; refine append_lit rfl _ _ rfl w.heap.size _ _ rfl hown [b] _ rfl 1 rfl rfl (by first | omega | (simp; omega)) hsz ?_; intro v1 w1 hown1 hg1'; have hB1 := below_own hB hown hg1' hsz))
          go_round
          case rel => exact ⟨T, o ++ [b], rfl, hs.out, by have := hTl.out; first | omega | (simp; omega), hown1, hB1⟩
          case measure => have := hTl.out; rw [strLenT_str, strLenT_str]; first | omega | (simp; omega)
    · have hrange : ¬ (2 ≤ (r.drop 1).length ∧ (r.drop 1).getD 0 0 = 45) := fun h => by have := h.1; simp at this; omega
      obtain ⟨T, hT⟩ : ∃ T, r.drop 1 = T := ⟨_, rfl⟩
      rw [hT] at hd0 hrange
      have hTl := Lib.hid (show T.length + 1 = r.length by rw [← hT]; simp; omega)
      by_cases hb92 : b = 92
      · subst hb92
        by_cases hr1 : T = []
        · have hs := Lib.hid (show setL l = (setL T).map ((o ++ [92]) ++ ·) by
            rw [hset'.out]; conv => lhs; rw [hd0]
            rw [setL_one _ _ hrange (fun h => h.2.1 hr1), Option.map_map]; congr 1; funext x; simp)
          have hTe1 : (T == []) = true := by simp [hr1]
          have hTe2 : T.isEmpty = true := by simp [hr1]
          clear hrange hd0 hb0 hr1
          go_wp2_with (first
            | (go_at_call 167; refine (fescape_any _ _).mono ?_; rintro e w' ⟨rfl, rfl⟩)
            | (at_builtin; refine append_lit rfl _ _ rfl w.heap.size _ _ rfl hown [92] _ rfl 1 rfl rfl (by first | omega | (simp; omega)) hsz ?_; intro v1 w1 hown1 hg1'; have hB1 := below_own hB hown hg1' hsz))
          go_round
          case rel => exact ⟨T, o ++ [92], rfl, hs.out, by have := hTl.out; first | omega | (simp; omega), hown1, hB1⟩
          case measure => have := hTl.out; rw [strLenT_str, strLenT_str]; first | omega | (simp; omega)
        · have hTp : 0 < T.length := List.length_pos_iff.2 hr1
          have hTe1 : (T == []) = false := by simp [hr1]
          have hTe2 : T.isEmpty = false := by simp [hr1]
          obtain ⟨c, _, hgT, hcT⟩ := str_at T 0 hTp
          have hTd := drop_cons hcT
          rw [List.drop_zero, Nat.zero_add, List.drop_one] at hTd
          have hgd : T.getD 0 0 = c := by simp [List.getD, hcT]
          cases hv : escV c with
          | none =>
            have hs := Lib.hid (show setL l = (setL T).map ((o ++ [92]) ++ ·) by
              rw [hset'.out]; conv => lhs; rw [hd0]
              rw [setL_one _ _ hrange (fun h => by have := h.2.2; rw [hgd, hv] at this; cases this), Option.map_map]; congr 1; funext x; simp)
            have hv1 : (escV c).isSome = false := by rw [hv]; rfl
            clear hrange hd0 hb0 hr1 hTd hgd hcT
            go_wp2_with (first
              | (go_at_call 167; refine (fescape_any _ _).mono ?_; rintro e w' ⟨rfl, rfl⟩)
              | (at_builtin; refine append_lit rfl _ _ rfl w.heap.size _ _ rfl hown [92] _ rfl 1 rfl rfl (by first | omega | (simp; omega)) hsz ?_; intro v1 w1 hown1 hg1'; have hB1 := below_own hB hown hg1' hsz))
            go_round
            case rel => exact ⟨T, o ++ [92], rfl, hs.out, by have := hTl.out; first | omega | (simp; omega), hown1, hB1⟩
            case measure => have := hTl.out; rw [strLenT_str, strLenT_str]; first | omega | (simp; omega)
          | some v =>
            have hs := Lib.hid (show setL l = (setL (T.tail)).map ((o ++ [v]) ++ ·) by
              rw [hset'.out]; conv => lhs; rw [hd0, hTd]
              rw [setL_esc c v _ (by rw [hTd] at hrange; simpa using hrange) hv, Option.map_map]; congr 1; funext x; simp)
            have hv1 : (escV c).isSome = true := by rw [hv]; rfl
            have hv2 : (escV c).getD 0 = v := by rw [hv]; rfl
            clear hrange hd0 hb0 hr1 hTd hgd hcT
            go_wp2_with (go_at_call 167; refine (fescape_any _ _).mono ?_; rintro e w' ⟨rfl, rfl⟩)
            go_region
            have hownd := hown.drew
            have hBd := hB.drew
            have hszd : w.heap.size ≤ wr.drew.heap.size := hsz
            generalize wr.drew = wd at *
            go_wp2_with (at_builtin; refine append_lit rfl _ _ rfl w.heap.size _ _ rfl hownd [v] _ rfl 1 rfl rfl (by first | omega | (simp; omega)) hszd ?_; intro v1 w1 hown1 hg1'; have hB1 := below_own hBd hownd hg1' hszd)
            go_round
            case rel => exact ⟨T.tail, o ++ [v], rfl, hs.out, by have := hTl.out; first | omega | (simp; omega), hown1, hB1⟩
            case measure => have := hTl.out; rw [strLenT_str, strLenT_str]; first | omega | (simp; omega)
      · have hn92 := ne_int (k := 92) (by omega) hb92
        have hn92' : ((b.toNat : Int) == 92) = false := by rw [beq_eq_false_iff_ne]; exact hn92
        have hs := Lib.hid (show setL l = (setL T).map ((o ++ [b]) ++ ·) by
          rw [hset'.out]; conv => lhs; rw [hd0]
          rw [setL_one _ _ hrange (fun h => hb92 h.1), Option.map_map]; congr 1; funext x; simp)
        clear hrange hd0 hb0
        go_wp2_with (first
          | (go_at_call 167; refine (fescape_any _ _).mono ?_; rintro e w' ⟨rfl, rfl⟩)
          | (at_builtin; refine append_lit rfl _ _ rfl w.heap.size _ _ rfl hown [b] _ rfl 1 rfl rfl (by first | omega | (simp; omega)) hsz ?_; intro v1 w1 hown1 hg1'; have hB1 := below_own hB hown hg1' hsz))
        go_round
        case rel => exact ⟨T, o ++ [b], rfl, hs.out, by have := hTl.out; first | omega | (simp; omega), hown1, hB1⟩
        case measure => have := hTl.out; rw [strLenT_str, strLenT_str]; first | omega | (simp; omega)
end Go.Proofs.YtbecmcjibpamoaaGreatDoor
namespace Go.Proofs.YtbecmcjibpamoaaGreatDoor
open Go.RowKit
end Go.Proofs.YtbecmcjibpamoaaGreatDoor
namespace Go.Proofs.YtbecmcjibpamoaaGreatDoor
open Go.RowKit
structure Bs (w : World) (b : Nat) (l : List UInt8) : Prop where
  lt : b < w.heap.size
  cell : ∀ (j : Nat) (c : UInt8), l[j]? = some c → w.cell? ⟨b, j, none⟩ = some (.int .u8 c.toNat)
  free : ∀ j, j < l.length → w.frozen? ⟨b, j, none⟩ = false
theorem Bs.drew {w : World} {b l} (h : Bs w b l) : Bs w.drew b l := ⟨h.lt, h.cell, h.free⟩
theorem Bs.below {w w' : World} {b l} (h : Bs w b l) (hb : Below w.heap.size w w') : Bs w' b l :=
  ⟨Nat.lt_of_lt_of_le h.lt hb.size, fun j c hj => keep_cell (h.cell j c hj) hb, fun j hj => (hb.frozen (p := ⟨b, j, none⟩) h.lt).trans (h.free j hj)⟩
theorem Bs.set {w : World} {b l} (h : Bs w b l) (j : Nat) (c : UInt8) : Bs (w.setCell ⟨b, j, none⟩ (.int .u8 c.toNat)) b (l.set j c) := by
  refine ⟨by simpa [World.setCell] using h.lt, fun i d hi => ?_, fun i hi => by rw [fz_set]; exact h.free i (by simpa using hi)⟩
  rw [List.getElem?_set] at hi
  split at hi
  · rename_i e; subst e
    split at hi
    · rename_i hl; cases hi
      exact cs_same (h.cell j _ (List.getElem?_eq_getElem hl))
    · cases hi
  · rename_i hne
    rw [cs_other (by intro e; cases e; exact hne rfl)]
    exact h.cell i d hi
theorem Bs.other {w : World} {b l} (h : Bs w b l) {b' j : Nat} (hne : b' ≠ b) (v : Value) : Bs (w.setCell ⟨b', j, none⟩ v) b l :=
  ⟨by simpa [World.setCell] using h.lt, fun i d hi => by rw [cs_block (show (⟨b', j, none⟩ : Addr).block ≠ b from hne)]; exact h.cell i d hi, fun i hi => by rw [fz_set]; exact h.free i hi⟩
theorem below_setT {w0 w : World} {n b j : Nat} (h : Below n w0 w) (hb : n ≤ b) (v : Value) : Below n w0 (w.setCell ⟨b, j, none⟩ v) := h.setCell (p := ⟨b, j, none⟩) hb v
theorem bs_conv (l : List UInt8) (w : World) : ∃ cap w', (convert 9 23 (.string ⟨l.toArray⟩)).run Tryz.prog w = .ok (.slice (some ⟨w.heap.size, 0, none⟩) l.length cap) w' ∧ Bs w' w.heap.size l ∧ Below w.heap.size w w' ∧ l.length ≤ cap := by
  have hr := Lib.run_convert_string_bytes (P := Tryz.prog) w 9 23 5 ⟨l.toArray⟩ (show Tryz.prog.underlying 9 = some .string by kernel_rfl) (by kernel_rfl) (by kernel_rfl)
  rw [str_size] at hr
  have hn := Lib.bytesWorld_at_new w 5 ⟨l.toArray⟩
  refine ⟨_, _, hr, ⟨?_, ?_, ?_⟩, ?_, grownCap_ge _ _ _ _⟩
  · rw [Lib.bytesWorld_size]; omega
  · intro j c hj
    have hjl := (List.getElem?_eq_some_iff.1 hj).1
    rw [Lib.bytesWorld_cell _ _ _ _ (by rw [str_size]; exact hjl)]
    simp [List.getD, hj]
  · intro j hj
    have hc : (Lib.bytesCells w 5 ⟨l.toArray⟩).size ≥ l.length := by simp [Lib.bytesCells]
    simp only [World.frozen?, hn]
    simp; omega
  · exact ⟨rfl, rfl, rfl, by rw [Lib.bytesWorld_size]; omega, fun k hk => Lib.bytesWorld_at_old _ _ _ _ hk⟩
theorem bs_zero (w : World) : Bs (w.alloc (.cells Tryz.zeroCells190 190)) w.heap.size (List.replicate 256 0) := by
  have hz : Tryz.zeroCells190.toList = List.replicate 256 (Value.int .u8 0) := by kernel_rfl
  refine ⟨by simp, fun j c hj => ?_, fun j hj => ?_⟩
  · rw [World.cell?_alloc_new]
    show Tryz.zeroCells190[j]? = _
    rw [← Array.getElem?_toList, hz]
    rw [List.getElem?_replicate] at hj ⊢
    split at hj
    · rename_i h; cases hj; rw [if_pos h]; rfl
    · cases hj
  · have hn : (w.alloc (.cells Tryz.zeroCells190 190)).heap[w.heap.size]? = some (.cells Tryz.zeroCells190 190) := by
      show (w.heap.push _)[w.heap.size]? = _
      simp
    simp only [World.frozen?, hn]
    simp
theorem Bs.conv {w : World} {b cap : Nat} {l : List UInt8} (h : Bs w b l) : (convert 23 9 (.slice (some ⟨b, 0, none⟩) l.length cap)).run Tryz.prog w = .ok (.string ⟨l.toArray⟩) w := by
  refine run_convert_bytes_back w 23 9 5 ⟨b, 0, none⟩ cap l (by kernel_rfl) (by kernel_rfl) (by kernel_rfl) ?_
  intro j hj
  have e : (⟨b, 0, none⟩ : Addr).add j = ⟨b, j, none⟩ := by unfold Addr.add; split <;> simp_all
  rw [e]; exact h.cell j _ (List.getElem?_eq_getElem hj)
def trAt (a b : List UInt8) (x : UInt8) : Nat → UInt8
  | 0 => x
  | k + 1 => if a.getD k 0 = x then b.getD (min k (b.length - 1)) 0 else trAt a b x k
def trL (s f t : List UInt8) : Option (List UInt8) :=
  match setL f, setL t with
  | some a, some b => if b = [] ∧ a ≠ [] then none else some (s.map fun x => trAt a b x a.length)
  | _, _ => none
def txtRet (o : Option (List UInt8)) : Ending := .returned (.tuple #[.string ⟨(o.getD []).toArray⟩, .int .i64 (if o.isSome then 0 else 1)])
def TxtRes (w w' : World) (e : Ending) (o : Option (List UInt8)) : Prop := e = txtRet o ∧ Below w.heap.size w w'
theorem tr_step {a b T : List UInt8} {k : Nat} {x y : UInt8} (h : ∀ j, j < 256 → T[j]? = some (trAt a b (UInt8.ofNat j) k)) (hl : T.length = 256) (hx : a[k]? = some x) (hy : b[min k (b.length - 1)]? = some y) :
    ∀ j, j < 256 → (T.set x.toNat y)[j]? = some (trAt a b (UInt8.ofNat j) (k + 1)) := by
  intro j hj
  have hxk : a.getD k 0 = x := by simp [List.getD, hx]
  have hyk : b.getD (min k (b.length - 1)) 0 = y := by unfold List.getD; rw [hy]; rfl
  rw [trAt, hxk, hyk, List.getElem?_set]
  by_cases e : x.toNat = j
  · rw [if_pos e, if_pos (by omega), if_pos (by rw [← e]; simp)]
  · rw [if_neg e, if_neg (fun h' => e (by rw [h', UInt8.toNat_ofNat']; omega))]
    exact h j hj
theorem set_step (f : UInt8 → UInt8) {s : List UInt8} {j : Nat} {x : UInt8} (h : s[j]? = some x) : ((s.take j).map f ++ s.drop j).set j (f x) = (s.take (j + 1)).map f ++ s.drop (j + 1) := by
  obtain ⟨hl, hx⟩ := List.getElem?_eq_some_iff.1 h
  have e : ((s.take j).map f).length = j := by simp; omega
  have hd := drop_cons h
  rw [List.set_append_right _ _ (by omega), e, Nat.sub_self, hd, List.set_cons_zero, List.take_add_one, h]
  simp
set_option maxRecDepth 100000 in
set_option maxHeartbeats 3200000 in
theorem tr_any (s f t : List UInt8) (hf : f.length ≤ 500) (ht : t.length ≤ 500) (hs : s.length ≤ 900) (w : World) : Calls Tryz.prog 99 #[.string ⟨s.toArray⟩, .string ⟨f.toArray⟩, .string ⟨t.toArray⟩] w fun e w' => TxtRes w w' e (trL s f t) := by
  go_enter Tryz.func99, Tryz.ntmps99
  go_wp2_with fail
  refine (set_any f hf w).mono ?_
  rintro e w1 hr1
  cases ha : setL f with
  | none =>
    rw [ha] at hr1
    obtain ⟨rfl, hB1⟩ := hr1
    have hres := Lib.hid (show trL s f t = none by simp [trL, ha])
    clear ha
    go_wp2_with fail
    refine (set_any t ht _).mono ?_
    rintro e w2 hr2
    cases hb : setL t with
    | none =>
      rw [hb] at hr2
      obtain ⟨rfl, hB2⟩ := hr2
      clear hb
      go_wp2_with fail
      go_ret2
      rw [hres.out]
      exact ⟨rfl, hB1.trans (hB2.mono hB1.size)⟩
    | some b =>
      rw [hb] at hr2
      obtain ⟨v2, rfl, hown2, hl2, hB2⟩ := hr2
      clear hb
      go_wp2_with fail
      go_ret2
      rw [hres.out]
      exact ⟨rfl, hB1.trans (hB2.mono hB1.size)⟩
  | some a =>
    rw [ha] at hr1
    obtain ⟨v1, rfl, hown1, hl1, hB1⟩ := hr1
    go_wp2_with fail
    refine (set_any t ht _).mono ?_
    rintro e w2 hr2
    cases hb : setL t with
    | none =>
      rw [hb] at hr2
      obtain ⟨rfl, hB2⟩ := hr2
      have hres := Lib.hid (show trL s f t = none by simp [trL, ha, hb])
      clear ha hb
      go_wp2_with fail
      go_ret2
      rw [hres.out]
      exact ⟨rfl, hB1.trans (hB2.mono hB1.size)⟩
    | some b =>
      rw [hb] at hr2
      obtain ⟨v2, rfl, hown2, hl2, hB2⟩ := hr2
      have hown1 := hown1.below hB2
      have hBB := hB1.trans (hB2.mono hB1.size)
      have hsz1 := hB1.size
      have hsz2 := hBB.size
      obtain ⟨a1, c1, hv1⟩ := hown1.len
      obtain ⟨a2, c2, hv2⟩ := hown2.len
      obtain ⟨na, hna⟩ : ∃ na, a.length = na := ⟨_, rfl⟩
      obtain ⟨nb, hnb⟩ : ∃ nb, b.length = nb := ⟨_, rfl⟩
      rw [hna] at hv1 hl1
      rw [hnb] at hv2 hl2
      subst hv1 hv2
      have HA := Lib.hid hna
      have HB := Lib.hid hnb
      by_cases hbad : nb = 0 ∧ 0 < na
      · have hres := Lib.hid (show trL s f t = none by
          simp only [trL, ha, hb]; rw [if_pos ⟨List.eq_nil_of_length_eq_zero (hnb.trans hbad.1), fun e => by rw [e] at hna; simp at hna; omega⟩])
        clear ha hb hna hnb
        obtain ⟨rfl, hpos⟩ := hbad
        go_wp2_with fail
        go_ret2
        rw [hres.out]
        exact ⟨rfl, hBB⟩
      · have hok : 0 < na → 0 < nb := fun h => by omega
        have hres := Lib.hid (show trL s f t = some (s.map fun x => trAt a b x na) by
          simp only [trL, ha, hb]; rw [if_neg (fun e => hbad ⟨by rw [← hnb, e.1]; rfl, by rw [← hna]; exact List.length_pos_iff.2 e.2⟩), hna])
        clear ha hb hna hnb
        have hcase : nb ≤ 0 ∧ na ≤ 0 ∨ 0 < nb := by omega
        clear hbad
        have hz := bs_zero w2
        have hzb : Below w2.heap.size w2 (w2.alloc (.cells Tryz.zeroCells190 190)) := (Below.refl _ _).alloc (Nat.le_refl _) _
        rcases hcase with ⟨hz1, hz2⟩ | hnb0
        all_goals go_wp2_with fail
        all_goals
          go_loopw [45] (fun i W => ∃ (k : Nat) (T : List UInt8), k ≤ 256 ∧ i = .int .i64 k ∧ T.length = 256 ∧ Bs W w2.heap.size T ∧ Below w2.heap.size w2 W ∧ ∀ j, j < k → T[j]? = some (UInt8.ofNat j)) (fun i _ => 256 - (intOf i).toNat)
          case atStart => exact ⟨0, _, by omega, rfl, by simp, hz, hzb, fun j hj => by omega⟩
          case round =>
            obtain ⟨k, T, hk, rfl, hTl, hT, hTB, hTk⟩ := hrel
            by_cases hkl : k < 256
            · obtain ⟨c, hc⟩ : ∃ c, T[k]? = some c := ⟨T[k], by simp [hTl, hkl]⟩
              have hcell := hT.cell k c hc
              have hfree := hT.free k (by omega)
              have hT' := hT.set k (UInt8.ofNat k)
              rw [show (UInt8.ofNat k).toNat = k by rw [UInt8.toNat_ofNat']; omega] at hT'
              have HT := Lib.hid (show ∀ j, j < k + 1 → (T.set k (UInt8.ofNat k))[j]? = some (UInt8.ofNat j) from fun j hj => by
                rw [List.getElem?_set]
                split
                · rename_i e; subst e; rw [if_pos (by omega)]
                · exact hTk j (by omega))
              have HTl := Lib.hid hTl
              clear hTk hc hTl
              go_wp2_with fail
              go_round
              case rel => exact ⟨k + 1, _, by omega, by go_num, by rw [List.length_set]; exact HTl.out, hT', below_setT hTB (Nat.le_refl _) _, HT.out⟩
              case measure => simp [intOf]; omega
            · obtain rfl : k = 256 := by omega
              have hW := hTB.size
              have HTk := Lib.hid hTk
              have HTl := Lib.hid hTl
              clear hTk hTl hz hzb hk
              have hA := hown1.below hTB
              have hBo := hown2.below hTB
              have hB3 := hBB.trans (hTB.mono hsz2)
              go_wp2_with fail
              go_loopw [55] (fun i W => ∃ (k : Nat) (T : List UInt8), k ≤ na ∧ i = .int .i64 k ∧ Hid (T.length = 256) ∧ Bs W w2.heap.size T ∧ Below w2.heap.size w2 W ∧ Hid (∀ j, j < 256 → T[j]? = some (trAt a b (UInt8.ofNat j) k))) (fun i _ => na - (intOf i).toNat)
              case atStart => exact ⟨0, T, by omega, rfl, HTl, hT, hTB, Lib.hid (fun j hj => by rw [HTk.out j hj]; rfl)⟩
              case round =>
                clear hT hTB HTk HTl hA hBo hB3 hW
                obtain ⟨k, T, hk, rfl, HTl, hT, hTB, HTk⟩ := hrel
                have hW := hTB.size
                have hA := hown1.below hTB
                have hBo := hown2.below hTB
                have hB3 := hBB.trans (hTB.mono hsz2)
                by_cases hkl : k < na
                · have hnb1 := hok (by omega)
                  try (exfalso; omega)
                  all_goals
                    have hae : a ≠ [] := fun e => by have := HA.out; rw [e] at this; simp at this; omega
                    have hbe : b ≠ [] := fun e => by have := HB.out; rw [e] at this; simp at this; omega
                    obtain ⟨ga, ca, hva, _, _, hcA, _⟩ := hA.at hae
                    obtain ⟨gb, cb, hvb, _, _, hcB, _⟩ := hBo.at hbe
                    rw [HA.out] at hva
                    rw [HB.out] at hvb
                    cases hva
                    cases hvb
                    obtain ⟨x, hx⟩ : ∃ x, a[k]? = some x := ⟨a[k]'(by rw [HA.out]; exact hkl), List.getElem?_eq_getElem _⟩
                    obtain ⟨m, hm⟩ : ∃ m, min k (nb - 1) = m := ⟨_, rfl⟩
                    have hmb : m < nb := by omega
                    obtain ⟨y, hy⟩ : ∃ y, b[m]? = some y := ⟨b[m]'(by rw [HB.out]; exact hmb), List.getElem?_eq_getElem _⟩
                    have hx' := hcA k x hx
                    have hy' := hcB m y hy
                    have hxn := x.toNat_lt
                    obtain ⟨z, hz⟩ : ∃ z, T[x.toNat]? = some z := ⟨T[x.toNat]'(by rw [HTl.out]; exact hxn), List.getElem?_eq_getElem _⟩
                    have hcell := hT.cell _ z hz
                    have hfree := hT.free x.toNat (by rw [HTl.out]; exact hxn)
                    have hT' := hT.set x.toNat y
                    have HTS := Lib.hid (tr_step HTk.out (by rw [HTl.out]) hx (by rw [HB.out, hm]; exact hy))
                    clear hcA hcB hx hy hz hA hBo
                    obtain ⟨n1, hn1⟩ : ∃ n1, nb - 1 = n1 := ⟨_, rfl⟩
                    have hq : (nb : Int) - 1 = (n1 : Int) := by omega
                    rw [hn1] at hm
                    by_cases hkm : k ≤ n1
                    · obtain rfl : k = m := by omega
                      have hmin : (k : Int) ≤ (n1 : Int) := by omega
                      have hmin2 : min (k : Int) (n1 : Int) = k := by omega
                      clear hm hn1
                      go_wp2_with fail
                      go_round
                      case rel => exact ⟨k + 1, _, by omega, by go_num, Lib.hid (by rw [List.length_set]; exact HTl.out), hT', below_setT hTB (Nat.le_refl _) _, HTS⟩
                      case measure => simp [intOf]; omega
                    · obtain rfl : m = n1 := by omega
                      have hmin : ¬ (k : Int) ≤ (m : Int) := by omega
                      have hmin2 : min (k : Int) (m : Int) = m := by omega
                      clear hm hn1
                      go_wp2_with fail
                      go_round
                      case rel => exact ⟨k + 1, _, by omega, by go_num, Lib.hid (by rw [List.length_set]; exact HTl.out), hT', below_setT hTB (Nat.le_refl _) _, HTS⟩
                      case measure => simp [intOf]; omega
                · obtain rfl : k = na := by omega
                  clear hk
                  obtain ⟨cap, w3, hconv, hO, hBo3, _⟩ := bs_conv s wr
                  obtain ⟨ob, hob⟩ : ∃ ob, wr.heap.size = ob := ⟨_, rfl⟩
                  rw [hob] at hconv hO hBo3
                  have hne : w2.heap.size ≠ ob := by have := hT.lt; omega
                  have hT3 := hT.below (hob ▸ hBo3)
                  have hT3l := hT3.lt
                  have hob2 : w.heap.size ≤ ob := by omega
                  have hB4 := hB3.trans (hBo3.mono hob2)
                  clear hT hA hBo hTB hB3 hW
                  obtain ⟨sl, hsl⟩ : ∃ sl, s.length = sl := ⟨_, rfl⟩
                  rw [hsl] at hconv
                  have HSL := Lib.hid hsl
                  have hsl5 : sl ≤ 900 := by omega
                  go_wp2_with fail
                  go_loopw [75] (fun i W => ∃ (j : Nat) (R : List UInt8), j ≤ sl ∧ i = .int .i64 j ∧ Bs W ob R ∧ Bs W w2.heap.size T ∧ Below w.heap.size w W ∧ Hid (R = (s.take j).map (fun x => trAt a b x k) ++ s.drop j)) (fun i _ => sl - (intOf i).toNat)
                  case atStart => exact ⟨0, s, by omega, rfl, hO, hT3, hB4, Lib.hid (by simp)⟩
                  case round =>
                    clear hO hT3 hB4 hconv hBo3 hT3l hob
                    obtain ⟨j, R, hj, rfl, hR, hT3, hB4, HR⟩ := hrel
                    by_cases hjl : j < sl
                    · obtain ⟨x, hx⟩ : ∃ x, s[j]? = some x := ⟨s[j]'(by rw [HSL.out]; exact hjl), List.getElem?_eq_getElem _⟩
                      have hRx : R[j]? = some x := by
                        rw [HR.out, List.getElem?_append_right (by simp; omega)]
                        simp [HSL.out, Nat.min_eq_left (Nat.le_of_lt hjl), hx]
                      have hxn := x.toNat_lt
                      have HTx := HTk.out x.toNat hxn
                      rw [UInt8.ofNat_toNat] at HTx
                      have hc1 := hR.cell j x hRx
                      have hc2 := hT3.cell _ _ HTx
                      have hfree := hR.free j (List.getElem?_eq_some_iff.1 hRx).1
                      have hR' := hR.set j (trAt a b x k)
                      have hT4 := hT3.other (b' := ob) (j := j) (fun e => hne e.symm) (.int .u8 (trAt a b x k).toNat)
                      have HR' := Lib.hid (show R.set j (trAt a b x k) = (s.take (j + 1)).map (fun x => trAt a b x k) ++ s.drop (j + 1) by
                        rw [HR.out]; exact set_step _ hx)
                      clear hx hRx HTx
                      generalize trAt a b x k = y at *
                      clear hsl
                      go_wp2_with fail
                      go_round
                      case rel => exact ⟨j + 1, _, by omega, by go_num, hR', hT4, below_setT hB4 hob2 _, HR'⟩
                      case measure => simp [intOf]; omega
                    · obtain rfl : j = sl := by omega
                      have hcv := hR.conv (cap := cap)
                      rw [show R.length = j by rw [HR.out]; simp [HSL.out]] at hcv
                      have HRe := Lib.hid (show R = s.map (fun x => trAt a b x k) by rw [HR.out, ← hsl]; simp)
                      clear hsl
                      go_wp2_with fail
                      go_ret2
                      refine ⟨?_, hB4⟩
                      rw [hres.out, HRe.out]
                      rfl
end Go.Proofs.YtbecmcjibpamoaaGreatDoor
