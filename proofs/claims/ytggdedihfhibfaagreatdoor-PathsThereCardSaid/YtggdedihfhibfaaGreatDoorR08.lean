/- Texts of one proof, packed: RfC -/
import Derived.Test.YtggdedihfhibfaaGreatDoorR02
import Derived.StillTailTactics
import Derived.Deep.MidRow
set_option linter.unusedVariables false
set_option linter.unusedSimpArgs false
set_option linter.deprecated false
set_option linter.unnecessarySimpa false
/- The document's table: Tie, Untie, Make, used. -/
namespace Go.Proofs.YtggdedihfhibfaaGreatDoor
open Go.RowKit IntWalk
set_option linter.unusedVariables false
set_option linter.unusedSimpArgs false

section
variable {N M M' : Nat} {b : RB} {O O' : Nat → Prop} {w w' : World}
theorem set_heap_ne {w : World} {a : Addr} {v : Value} : ∀ k, k ≠ a.block → (w.setCell a v).heap[k]? = w.heap[k]? := fun k hk => Below.heap_setCell _ _ _ _ (fun q => hk q)
theorem set_row {w : World} {b k : Nat} {cs : Array Value} {ty : TypeId} {fz : Nat × Nat} {v : Value} (h : w.heap[b]? = some (.cells cs ty fz)) : (w.setCell ⟨b, k, none⟩ v).heap[b]? = some (.cells (cs.setIfInBounds k v) ty fz) := by
  simp [World.setCell, Array.getElem?_modify, h]
theorem setB_get (cs : Array Value) (i j : Nat) (v : Value) (x : Value) (h : cs[j]? = some x) : (cs.setIfInBounds i v)[j]? = some (if i = j then v else x) := by
  have hj := (Array.getElem?_eq_some_iff.1 h).1
  rw [Array.getElem?_setIfInBounds]
  by_cases e : i = j
  · subst e; simp [hj]
  · simp [e, h]
/-- a number of a node is another (not its kind) -/
theorem RIs.setNU (h : RIs N M b O w) (i d : Nat) (hi : i ≤ N) (hd : d = 1 ∨ d = 2) (n : Int) : RIs N M b O (w.setCell ⟨b.L, i * 5 + d, none⟩ (.int .i64 n)) := by
  obtain ⟨cs, l1, l2, l3⟩ := h.l
  refine h.putL (fun k hk => set_heap_ne k hk) (set_row l1) (by simpa using l2) fun j hj => ?_
  obtain ⟨k, n0, u, s, v, h1, h2, h3, h4, h5, h6⟩ := l3 j hj
  have e1 := setB_get cs (i * 5 + d) _ (.int .i64 n) _ h1
  have e2 := setB_get cs (i * 5 + d) _ (.int .i64 n) _ h2
  have e3 := setB_get cs (i * 5 + d) _ (.int .i64 n) _ h3
  have e4 := setB_get cs (i * 5 + d) _ (.int .i64 n) _ h4
  have e5 := setB_get cs (i * 5 + d) _ (.int .i64 n) _ h5
  rw [if_neg (by omega)] at e1 e4 e5
  refine ⟨k, if i * 5 + d = j * 5 + 1 then n else n0, if i * 5 + d = j * 5 + 2 then n else u, s, v, e1, ?_, ?_, e4, e5, h6⟩
  · rw [e2]; split <;> rfl
  · rw [e3]; split <;> rfl
theorem RIs.stepSet (h : RIs N M b O w) {w1 : World} (hs : RStep N M b O w M' O' w1) (a : Addr) (v : Value) (ho : O' a.block) (hi : RIs N M' b O' (w1.setCell a v)) : RStep N M b O w M' O' (w1.setCell a v) :=
  ⟨hi, hs.turned.set a v (fun q => (hs.own _ ho).resolve_right (by omega)), hs.own⟩
set_option maxRecDepth 100000 in
theorem tie_r (h : RIs N M b O w) (i : Int) : Calls Tryz.prog 91 #[ptrTo b.T, .int .i64 i] w fun e w' => (∃ c, e = .returned (.int .i64 c)) ∧ RStep N M b O w M O w' := by
  have hN := h.small
  by_cases hi : 1 ≤ i ∧ i ≤ N
  · obtain ⟨j, rfl⟩ : ∃ j : Nat, i = j := ⟨i.toNat, by omega⟩
    obtain ⟨k, n, u, s, v, hn, hv, hk, hs⟩ := h.node (i := j) (by omega)
    have HI := Lib.hid (is_yes h j (by omega) (by omega) hn)
    have n1 := hn.c1
    have z1 := hn.fz (j * 5 + 1)
    have c0 := h.t0
    have hlt : (j : Int) < (N : Int) + 1 := by omega
    by_cases hkk : 0 < k
    · have hd : decide (0 < k) = true := by simpa using hkk
      rw [hd] at HI
      have hfin := fun m => Lib.hid (h.stepSet ((RStep.refl h).drewN 1) ⟨b.L, j * 5 + 1, none⟩ (.int .i64 m) h.oL ((h.drewN 1).setNU j 1 (by omega) (.inl rfl) m))
      clear hn hv hk hs h
      unfold ptrTo at *
      go_enter Tryz.func91, Tryz.ntmps91
      go_wp2_with (go_at_call 129; (with_reducible refine HI.out.mono ?_); rintro e w' ⟨rfl, rfl⟩)
      go_still_tail 16, (by kernel_rfl)
      change wpList _ _ _ _ _ w.drew
      go_wp2_with fail
      go_ret
      exact ⟨⟨_, rfl⟩, (hfin _).out⟩
    · have hd : decide (0 < k) = false := by simpa using hkk
      rw [hd] at HI
      have HR := Lib.hid (RStep.refl h)
      clear hn hv hk hs h
      unfold ptrTo at *
      go_enter Tryz.func91, Tryz.ntmps91
      go_wp2_with (go_at_call 129; (with_reducible refine HI.out.mono ?_); rintro e w' ⟨rfl, rfl⟩)
      go_ret
      exact ⟨⟨_, rfl⟩, HR.out⟩
  · have HI := Lib.hid (is_no h i hi)
    have HR := Lib.hid (RStep.refl h)
    clear h
    unfold ptrTo at *
    go_enter Tryz.func91, Tryz.ntmps91
    go_wp2_with (go_at_call 129; (with_reducible refine HI.out.mono ?_); rintro e w' ⟨rfl, rfl⟩)
    go_ret
    exact ⟨⟨_, rfl⟩, HR.out⟩
/-- a node is another -/
theorem RIs.setNd5 (h : RIs N M b O w) (i : Nat) (hi : i ≤ N) (k n u : Int) (s : List UInt8) (v : Value) (hv : HasAt O w v) (hk : k = 0 ∨ v ≠ .slice none 0 0) (hs : s.length ≤ 5000) : RIs N M b O (w.setCells b.L (i * 5) [.int .i64 k, .int .i64 n, .int .i64 u, .string ⟨s.toArray⟩, v]) := by
  obtain ⟨cs, l1, l2, l3⟩ := h.l
  simp only [World.setCells]
  have r1 := set_row (k := i * 5) (v := .int .i64 k) l1
  have r2 := set_row (k := i * 5 + 1) (v := .int .i64 n) r1
  have r3 := set_row (k := i * 5 + 1 + 1) (v := .int .i64 u) r2
  have r4 := set_row (k := i * 5 + 1 + 1 + 1) (v := .string ⟨s.toArray⟩) r3
  have r5 := set_row (k := i * 5 + 1 + 1 + 1 + 1) (v := v) r4
  have hne : ∀ q, q ≠ b.L → (((((w.setCell ⟨b.L, i * 5, none⟩ (.int .i64 k)).setCell ⟨b.L, i * 5 + 1, none⟩ (.int .i64 n)).setCell ⟨b.L, i * 5 + 1 + 1, none⟩ (.int .i64 u)).setCell ⟨b.L, i * 5 + 1 + 1 + 1, none⟩ (.string ⟨s.toArray⟩)).setCell ⟨b.L, i * 5 + 1 + 1 + 1 + 1, none⟩ v).heap[q]? = w.heap[q]? := fun q hq => by
    rw [set_heap_ne q hq, set_heap_ne q hq, set_heap_ne q hq, set_heap_ne q hq, set_heap_ne q hq]
  refine h.putL hne r5 (by simpa using l2) fun j hj => ?_
  by_cases e : j = i
  · subst e
    have hsz : j * 5 + 4 < cs.size := by rw [l2]; omega
    refine ⟨k, n, u, s, v, ?_, ?_, ?_, ?_, ?_, hv, hk, hs⟩ <;> (simp only [Array.getElem?_setIfInBounds, Array.size_setIfInBounds, if_true]; repeat first | rw [if_pos (by omega)] | rw [if_neg (by omega)])
  · obtain ⟨k', n', u', s', v', h1, h2, h3, h4, h5, h6⟩ := l3 j hj
    refine ⟨k', n', u', s', v', ?_, ?_, ?_, ?_, ?_, h6⟩ <;> (simp only [Array.getElem?_setIfInBounds]; repeat rw [if_neg (by omega)]) <;> assumption
theorem RIs.thereNd (h : RIs N M b O w) (i : Nat) (hi : i ≤ N) : w.there b.L (i * 5) 5 := by
  obtain ⟨cs, l1, l2, l3⟩ := h.l
  intro j hj
  have hsz : i * 5 + j < cs.size := by rw [l2]; omega
  exact ⟨by simp [World.cell?, l1, hsz], by simp [World.frozen?, l1]⟩
theorem Turned.setCells {S : Nat → Prop} {w : World} (b : Nat) (hs : b < w.heap.size → S b) : ∀ (vs : List Value) (o : Nat) (w1 : World), Turned S w w1 → Turned S w (w1.setCells b o vs)
  | [], _, _, h => h
  | v :: r, o, w1, h => by rw [World.setCells]; exact Turned.setCells b hs r (o + 1) _ (h.set _ _ hs)
end
end Go.Proofs.YtggdedihfhibfaaGreatDoor
