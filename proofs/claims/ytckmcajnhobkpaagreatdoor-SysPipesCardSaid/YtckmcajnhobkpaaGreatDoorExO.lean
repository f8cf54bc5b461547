/- The executor: maps, assertions, conversions, built-in functions. -/
import Derived.Test.YtckmcajnhobkpaaGreatDoorExN
import Derived.MapKept
set_option linter.unusedVariables false
set_option linter.unusedSimpArgs false
set_option linter.deprecated false
namespace Go.Proofs.YtckmcajnhobkpaaGreatDoor.Zz
open Go Go.RowKit

section
variable {P : Program} {ρ : Nat → Value} {w0 : World} {base : Nat} {m : BMap}
theorem keyOk_run {t : TypeId} {k : AV} {u : Value} (h : keyOk P t k = true) (hk : VR ρ m k u) (b : Bool) (w : World) : (Instr.checkKey b 10000 t u).run P w = .ok () w := by
  unfold keyOk at h
  split at h
  · rename_i hu; cases hk; exact (fun (n : Nat) => (by simp [Instr.checkKey, run_und hu] : (Instr.checkKey b (n + 1) t _).run P w = .ok () w)) 9999
  · rename_i hu; cases hk; exact (fun (n : Nat) => (by simp [Instr.checkKey, run_und hu] : (Instr.checkKey b (n + 1) t _).run P w = .ok () w)) 9999
  · rename_i hu; cases hk; exact (fun (n : Nat) => (by simp [Instr.checkKey, run_und hu] : (Instr.checkKey b (n + 1) t _).run P w = .ok () w)) 9999
  · cases h
/-- map entries that lie in a world -/
def ER (ρ : Nat → Value) (m : BMap) (es : List (AV × AV × Nat)) (es' : List MapEntry) : Prop := es.length = es'.length ∧ ∀ (i : Nat) (k v : AV) (b : Nat), es[i]? = some (k, v, b) → ∃ en : MapEntry, es'[i]? = some en ∧ en.born = b ∧ VR ρ m k en.key ∧ VR ρ m v en.val
theorem ER.tail {e : AV × AV × Nat} {es : List (AV × AV × Nat)} {e' : MapEntry} {es' : List MapEntry} (h : ER ρ m (e :: es) (e' :: es')) : ER ρ m es es' :=
  ⟨by simpa using h.1, fun i k v b hi => by simpa using h.2 (i + 1) k v b (by simpa using hi)⟩
theorem findA_ok {t : TypeId} {k : AV} {u : Value} {d : TypeDesc} (hu : P.underlying t = some d) (h : keyOk P t k = true) (hk : VR ρ m k u) : ∀ {es : List (AV × AV × Nat)} {es' : List MapEntry} {i : Nat} {r : Option (Nat × AV)}, ER ρ m es es' → findA k es i = some r →
    ∃ r' : Option (Nat × Value), Instr.findNow d u es' i = some r' ∧ (match r, r' with | none, none => True | some (a, x), some (b, v) => a = b ∧ VR ρ m x v ∧ i ≤ a ∧ a < i + es.length | _, _ => False)
  | [], es', i, r, he, hf => by
    cases hf
    have : es' = [] := by have := he.1; cases es' with | nil => rfl | cons _ _ => cases this
    subst this
    exact ⟨none, rfl, trivial⟩
  | (k', v, b) :: es, [], i, r, he, hf => by have := he.1; cases this
  | (k', v, b) :: es, e' :: es', i, r, he, hf => by
    obtain ⟨en, h1, h2, h3, h4⟩ := he.2 0 k' v b rfl
    cases h1
    have hs : ∀ q, sameKey k k' = some q → Instr.sameNow d u e'.key = some q := fun q hq => by
      unfold keyOk at h
      rw [hu] at h
      revert h3
      generalize e'.key = kk
      intro h3
      unfold sameKey at hq
      split at hq
      · rename_i ka a kb b'
        cases hk; cases h3
        cases hkk : (ka == kb) with
        | false => rw [hkk] at hq; cases hq
        | true =>
          rw [hkk] at hq
          obtain rfl := beq_kind hkk
          cases hq
          cases d <;> first | (cases h; done) | (simp [Instr.sameNow, eqInt_iff])
      · cases hk; cases h3
        cases hq
        cases d <;> first | (cases h; done) | (simp [Instr.sameNow, str_beq', eqB_iff])
      · cases hk; cases h3
        cases hq
        cases d <;> first | (cases h; done) | (simp [Instr.sameNow])
      · cases hq
    unfold findA at hf
    cases hsk : sameKey k k' with
    | none => rw [hsk] at hf; cases hf
    | some q =>
      rw [hsk] at hf
      have := hs q hsk
      cases q with
      | true =>
        cases hf
        exact ⟨some (i, e'.val), by simp [Instr.findNow, this], rfl, h4, Nat.le_refl _, by simp⟩
      | false =>
        simp only at hf
        obtain ⟨r', g1, g2⟩ := findA_ok hu h hk he.tail hf
        refine ⟨r', by simp [Instr.findNow, this, g1], ?_⟩
        cases r with
        | none =>
          cases r' with
          | none => trivial
          | some p' => exact g2.elim
        | some p =>
          cases r' with
          | none => exact g2.elim
          | some p' => exact ⟨g2.1, g2.2.1, by have := g2.2.2.1; omega, by have := g2.2.2.2; simp; omega⟩
theorem run_findKey {t : TypeId} {d : TypeDesc} {u : Value} {es : List MapEntry} {r : Option (Nat × Value)} (hu : P.underlying t = some d) (h : Instr.findNow d u es 0 = some r) (w : World) : (Instr.findKey t u es).run P w = .ok r w := by
  simp [Instr.findKey, run_und hu, h]
theorem run_getMap {r : Nat} {es : Array MapEntry} {c : Nat} {w : World} (h : w.heap[r]? = some (.map es c)) : (Go.getObj r).run P w = .ok (.map es c) w := by
  simp [Go.getObj, Sem.run, h]
theorem keyOk_und {t : TypeId} {k : AV} (h : keyOk P t k = true) : ∃ d, P.underlying t = some d := by
  unfold keyOk at h
  split at h <;> first | exact ⟨_, by assumption⟩ | cases h
theorem lookFin_ok {kt et : TypeId} {k : AV} {v : Value} {d : TypeDesc} {ok : Bool} (hd : P.underlying kt = some d) (hko : keyOk P kt k = true) (hk : VR ρ m k v) {es : List (AV × AV × Nat)} {es' : List MapEntry} {st st' : ASt} {a : AV} (he : ER ρ m es es') (h : lookFin P et k ok es st = some (a, st')) :
    st' = st ∧ ((∃ i x', Instr.findNow d v es' 0 = some (some (i, x')) ∧ VR ρ m a (if ok then Value.tuple #[x', .bool true] else x')) ∨
      (Instr.findNow d v es' 0 = some none ∧ ∃ zv, (∀ w, (zeroValue et).run P w = .ok zv w) ∧ VR ρ m a (if ok then Value.tuple #[zv, .bool false] else zv))) := by
  unfold lookFin at h
  cases hf : findA k es 0 with
  | none => rw [hf] at h; cases h
  | some r =>
    rw [hf] at h
    obtain ⟨r', g1, g2⟩ := findA_ok hd hko hk he hf
    cases r with
    | some p =>
      cases r' with
      | none => exact g2.elim
      | some p' =>
        cases h
        refine ⟨rfl, .inl ⟨p'.1, p'.2, g1, ?_⟩⟩
        cases ok
        · exact g2.2.1
        · exact .tup _ _ (.cons _ _ _ _ g2.2.1 (.cons _ _ _ _ (.bool _) .nil))
    | none =>
      cases r' with
      | some _ => exact g2.elim
      | none =>
        simp only at h
        cases hz : zeroT P et with
        | none => rw [hz] at h; cases h
        | some z =>
          rw [hz] at h
          cases h
          obtain ⟨zv, e1, e2⟩ := run_zero hz
          refine ⟨rfl, .inr ⟨g1, zv, e1, ?_⟩⟩
          cases ok
          · exact e2 ρ m
          · exact .tup _ _ (.cons _ _ _ _ (e2 ρ m) (.cons _ _ _ _ (.bool _) .nil))
theorem rdMap_eq {A : Nat} {st st' : ASt} {α : Type} {a : α} {f : List (AV × AV × Nat) → Nat → M α} (h : (Zz.bnd (Zz.rd A) fun b => (match b with | .map es c => f es c | _ => Zz.fail)) st = some (a, st')) :
    ∃ es clk st1, st.heap.get A = some (.map es clk) ∧ st1.heap = st.heap ∧ st1.next = st.next ∧ f es clk st1 = some (a, st') := by
  unfold Zz.bnd at h
  cases h2 : Zz.rd A st with
  | none => rw [h2] at h; cases h
  | some q =>
    obtain ⟨blk, s2⟩ := q
    rw [h2] at h
    obtain ⟨r1, r2, r3⟩ := rd_eq h2
    cases blk with
    | map es' clk => exact ⟨es', clk, s2, r1, r2, r3, h⟩
    | _ => cases h
theorem rel_map {g : Nat → Option ABlk} {w : World} {A b d z clk : Nat} {es : List (AV × AV × Nat)} (hr : Rel ρ w0 base m g w) (hA : g A = some (.map es clk)) (hm : m A = some (b, d, z)) : ∃ es' : Array MapEntry, w.heap[b]? = some (.map es' clk) ∧ ER ρ m es es'.toList := by
  obtain ⟨p, f1, f2, es', f3, f4, f5⟩ := hr.blk A _ hA
  rw [hm] at f1; cases f1
  exact ⟨es', f3, by simpa using f4, fun i k v b hi => by simpa using f5 i k v b hi⟩
theorem lookA_ok {t : TypeId} {x k : AV} {u v : Value} {ok : Bool} (hx : VR ρ m x u) (hk : VR ρ m k v) : Ok P ρ w0 base (VRr ρ) m (lookA P t x k ok) (Instr.lookup t u v ok) := by
  unfold lookA
  split
  · rename_i kt et hu
    cases hx
    refine Ok.cond (fun hko => ?_) (fun _ => Ok.fail)
    obtain ⟨d, hd⟩ := keyOk_und hko
    intro st w a st' h hr hf
    obtain ⟨rfl, h1⟩ := lookFin_ok hd hko hk (es' := []) ⟨rfl, fun i k v b h => by cases h⟩ h
    rcases h1 with ⟨i, x', g1, g2⟩ | ⟨g1, zv, e1, g2⟩
    · cases g1
    · exact ⟨_, w, m, by simp [Instr.lookup, run_und hu, keyOk_run hko hk, run_findKey hd g1, e1], Ext.refl m, fun A h1 h2 => absurd h1 h2, hr, g2⟩
  · rename_i kt et A hu
    cases hx with | map _ b d2 z hA => _
    refine Ok.cond (fun hko => ?_) (fun _ => Ok.fail)
    obtain ⟨d, hd⟩ := keyOk_und hko
    intro st w a st' h hr hf
    obtain ⟨es, clk, st1, r1, r2, r3, h2⟩ := rdMap_eq (f := fun es _ => lookFin P et k ok es) h
    obtain ⟨es', f3, he⟩ := rel_map hr r1 hA
    obtain ⟨rfl, h1⟩ := lookFin_ok hd hko hk he h2
    rw [← r2] at hr
    rcases h1 with ⟨i, x', g1, g2⟩ | ⟨g1, zv, e1, g2⟩
    · exact ⟨_, w, m, by simp [Instr.lookup, run_und hu, run_getMap f3, keyOk_run hko hk, run_findKey hd g1], Ext.refl m, fun A h1 h2 => absurd h1 h2, hr, g2⟩
    · exact ⟨_, w, m, by simp [Instr.lookup, run_und hu, run_getMap f3, keyOk_run hko hk, run_findKey hd g1, e1], Ext.refl m, fun A h1 h2 => absurd h1 h2, hr, g2⟩
  · exact Ok.fail
end
end Go.Proofs.YtckmcajnhobkpaaGreatDoor.Zz
