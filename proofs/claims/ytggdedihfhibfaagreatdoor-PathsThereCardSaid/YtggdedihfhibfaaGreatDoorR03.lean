/- Texts of one proof, packed: GlA -/
import Derived.Test.YtggdedihfhibfaaGreatDoorR02
set_option linter.unusedVariables false
set_option linter.unusedSimpArgs false
set_option linter.deprecated false
set_option linter.unnecessarySimpa false
/- Patterns: bytes that stand for themselves. -/
namespace Go.Proofs.YtggdedihfhibfaaGreatDoor
open Go.RowKit IntWalk
set_option linter.unusedVariables false
set_option linter.unusedSimpArgs false

/-- truth values in a row -/
def BoolsAt (W : World) (v : Value) (q : List Bool) : Prop := ∃ a cap, v = .slice a q.length cap ∧ (0 < q.length → ∃ b off, a = some ⟨b, off, none⟩ ∧ b < W.heap.size ∧ ∀ (i : Nat) (t : Bool), q[i]? = some t → W.cell? ⟨b, off + i, none⟩ = some (.bool t))
theorem BoolsAt.below {W W' : World} {v : Value} {q : List Bool} (h : BoolsAt W v q) (hb : Below W.heap.size W W') : BoolsAt W' v q := by
  obtain ⟨a, cap, rfl, hs⟩ := h
  refine ⟨a, cap, rfl, fun h0 => ?_⟩
  obtain ⟨b, off, rfl, hl, hc⟩ := hs h0
  exact ⟨b, off, rfl, Nat.lt_of_lt_of_le hl hb.size, fun i t ht => (hb.cell (p := ⟨b, off + i, none⟩) hl).trans (hc i t ht)⟩
theorem BoolsAt.alloc {W : World} {v : Value} {q : List Bool} (h : BoolsAt W v q) (o : Obj) : BoolsAt (W.alloc o) v q := h.below ((Below.refl _ W).alloc (Nat.le_refl _) o)
/-- is a byte there, and this one, and not quoted? -/
def plainS (s : List UInt8) (q : List Bool) (i : Nat) (c : UInt8) : Bool := match s[i]? with
  | some b => b == c && !(q[i]?.getD false)
  | none => false
def patV (s : List UInt8) (v : Value) : Value := .agg #[.string ⟨s.toArray⟩, v]
theorem byte_eq (a b : UInt8) : ((a.toNat : Int) == (b.toNat : Int)) = (a == b) := by
  rw [Bool.eq_iff_iff, beq_iff_eq, beq_iff_eq, ← UInt8.toNat_inj]; omega
set_option maxRecDepth 100000 in
theorem plain_any (s : List UInt8) (q : List Bool) (v : Value) (i : Nat) (c : UInt8) (w : World) (hq : BoolsAt w v q) (hs : s.length ≤ 100000) (hi : i ≤ 100100) (hql : q.length ≤ 9223372036854775807) :
    Calls Tryz.prog 74 #[patV s v, .int .i64 i, .int .u8 c.toNat] w fun e w' => e = .returned (.bool (plainS s q i c)) ∧ Below w.heap.size w w' := by
  have hB := (Below.refl w.heap.size w).alloc (Nat.le_refl _) (.cells #[.string ⟨s.toArray⟩, v] 88)
  have hq2 := hq.alloc (.cells #[.string ⟨s.toArray⟩, v] 88)
  obtain ⟨a, cap, rfl, hsh⟩ := hq2
  clear hq
  unfold patV plainS
  by_cases hlt : i < s.length
  · obtain ⟨b, _, hg, hb⟩ := str_at s i hlt
    rw [hb]
    dsimp only
    have hbe := byte_eq b c
    have hlt2 : (i : Int) < s.length := by omega
    by_cases hbc : b = c
    · subst hbc
      by_cases hqi : i < q.length
      · obtain ⟨g, off, rfl, hl, hc⟩ := hsh (by omega)
        have hqg : q[i]? = some (q[i]) := List.getElem?_eq_getElem hqi
        have hcell := hc i _ hqg
        rw [hqg]
        have hqi2 : (i : Int) < q.length := by omega
        clear hc hsh
        generalize q[i] = t at *
        cases t
        · go_enter Tryz.func74, Tryz.ntmps74
          go_wp2
          go_ret
          exact ⟨by (simp <;> omega), hB⟩
        · go_enter Tryz.func74, Tryz.ntmps74
          go_wp2
          go_ret
          exact ⟨by (simp <;> omega), hB⟩
      · have hqn : q[i]? = none := List.getElem?_eq_none (by omega)
        have hqi2 : (q.length : Int) ≤ i := by omega
        rw [hqn]
        go_enter Tryz.func74, Tryz.ntmps74
        go_wp2
        go_ret
        exact ⟨by simp, hB⟩
    · have hbf : (b == c) = false := by simpa using hbc
      rw [hbf] at hbe
      go_enter Tryz.func74, Tryz.ntmps74
      go_wp2
      go_ret
      exact ⟨by simp [hbf], hB⟩
  · rw [List.getElem?_eq_none (by omega)]
    have hlt2 : (s.length : Int) ≤ i := by omega
    go_enter Tryz.func74, Tryz.ntmps74
    go_wp2
    go_ret
    exact ⟨rfl, hB⟩
end Go.Proofs.YtggdedihfhibfaaGreatDoor
