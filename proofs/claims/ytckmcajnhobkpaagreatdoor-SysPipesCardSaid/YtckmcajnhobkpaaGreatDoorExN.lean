/- The executor: one operation without a call. -/
import Derived.Test.YtckmcajnhobkpaaGreatDoorExL
set_option linter.unusedVariables false
set_option linter.unusedSimpArgs false
set_option linter.deprecated false
namespace Go.Proofs.YtckmcajnhobkpaaGreatDoor.Zz
open Go Go.RowKit

section
variable {P : Program} {ρ : Nat → Value} {w0 : World} {base : Nat} {m : BMap}
def NVr (ρ : Nat → Value) (m : BMap) (a : AV) (n : Next) : Prop := (∃ v, n = .value v ∧ VR ρ m a v) ∨ (n = .skip ∧ a = undefA)
theorem vOk {x : M AV} {s : Sem Value} (h : Ok P ρ w0 base (VRr ρ) m x s) : Ok P ρ w0 base (NVr ρ) m x (s >>= fun v => pure (.value v)) := fun st w a st' h' hr hf => by
  obtain ⟨b, w', m', e1, e2, e3, e4, e5⟩ := h st w a st' h' hr hf
  exact ⟨.value b, w', m', by rw [Sem.run_bind, e1]; rfl, e2, e3, e4, .inl ⟨b, rfl, e5⟩⟩
theorem uOk {α : Type} {R : BMap → α → Unit → Prop} {x : M α} {s : Sem Unit} (hx : Fr x) (h : Ok P ρ w0 base R m x s) : Ok P ρ w0 base (NVr ρ) m (Zz.bnd x fun _ => Zz.ret undefA) (s >>= fun _ => pure .skip) :=
  Ok.bnd hx (fun _ => Fr.ret _) h (fun _ _ _ _ _ => Ok.ret (fun w => rfl) (.inr ⟨rfl, rfl⟩))
theorem pOk {a : AV} {v : Value} (h : VR ρ m a v) : Ok P ρ w0 base (NVr ρ) m (Zz.ret a) (pure (.value v)) := Ok.ret (fun w => rfl) (.inl ⟨v, rfl, h⟩)
theorem newVar_ok {t : TypeId} {a : AV} {v : Value} (hq : Opq ρ) (h : VR ρ m a v) : Ok P ρ w0 base (VRr ρ) m (Zz.bnd (newC t (cellsA a)) fun A => Zz.ret (.ptr A 0)) (newVar t v >>= fun ad => pure (.pointer (some ad))) := by
  refine Ok.bnd (Fr.newC _ _) (fun _ => Fr.ret _) (newC_ok (h.cells hq)) (fun A ad m' _ hA => ?_)
  obtain ⟨b, rfl, hm⟩ := hA
  exact Ok.ret (b := .pointer (some ⟨b, 0, none⟩)) (fun w => rfl) (.ptr A 0 b 0 _ hm)
theorem asNat_ok {a : AV} {u : Value} {γ δ : Type} {R : BMap → γ → δ → Prop} {f : Nat → M γ} {s : Sem δ} (hx : VR ρ m a u) (h : ∀ (k : IntKind) (n : Nat), u = .int k (n : Int) → Ok P ρ w0 base R m (f n) s) : Ok P ρ w0 base R m (Zz.bnd (asNat a) f) s := by
  cases hx with
  | int k n =>
    cases n with
    | ofNat n => exact h k n rfl
    | negSucc n => exact fun st w a st' h => by cases h
  | _ => exact fun st w a st' h => by cases h
theorem placesA_ok {pls : List (Nat × Nat)} : ∀ {ps : List (Nat × Operand)} {pl : List (Nat × Nat × Operand)}, placesA pls ps = some pl → pl.length = ps.length ∧ ∀ (k i : Nat) (x : Operand), ps[k]? = some (i, x) → ∃ off z, pls[i]? = some (off, z) ∧ pl[k]? = some (off, z, x)
  | [], pl, h => by cases h; exact ⟨rfl, fun k i x h => by cases h⟩
  | (i, x) :: r, pl, h => by
    unfold placesA at h
    cases h1 : pls[i]? with
    | none => rw [h1] at h; cases h
    | some p =>
      obtain ⟨off, z⟩ := p
      rw [h1] at h
      simp only at h
      cases h3 : placesA pls r with
      | none => rw [h3] at h; cases h
      | some l =>
        rw [h3] at h; cases h
        obtain ⟨g1, g2⟩ := placesA_ok h3
        refine ⟨by simp [g1], fun k j y hk => ?_⟩
        cases k with
        | zero => cases hk; exact ⟨off, z, h1, rfl⟩
        | succ k => simpa using g2 k j y (by simpa using hk)
theorem arrPlaces_ok (n : Nat) : ∀ (ps : List (Nat × Operand)), (arrPlaces n ps).length = ps.length ∧ ∀ (k i : Nat) (x : Operand), ps[k]? = some (i, x) → (arrPlaces n ps)[k]? = some (i * n, n, x)
  | [] => ⟨rfl, fun k i x h => by cases h⟩
  | (i, x) :: r => by
    obtain ⟨g1, g2⟩ := arrPlaces_ok n r
    refine ⟨by simp [arrPlaces, g1], fun k j y hk => ?_⟩
    cases k with
    | zero => cases hk; rfl
    | succ k => simpa [arrPlaces] using g2 k j y (by simpa using hk)
theorem partsA_ok {tm : Tm} {a : Act} (hq : Opq ρ) (ht : TmR ρ m tm a) : ∀ {pl : List (Nat × Nat × Operand)} {l : List (Nat × List AV)}, partsA tm pl = some l → l.length = pl.length ∧ ∀ (k off z : Nat) (x : Operand), pl[k]? = some (off, z, x) → ∃ al : List AV, l[k]? = some (off, al) ∧ al.length = z ∧ LR ρ m al (a.eval x).cells.toList
  | [], l, h => by cases h; exact ⟨rfl, fun k off z x h => by cases h⟩
  | (off, z, x) :: r, l, h => by
    unfold partsA at h
    cases h1 : aval tm x with
    | none => rw [h1] at h; cases h
    | some v =>
      rw [h1] at h
      simp only at h
      cases hc : Nat.beq (cellsA v).length z with
      | false => rw [hc] at h; cases h
      | true =>
        rw [hc, cond_true] at h
        cases h3 : partsA tm r with
        | none => rw [h3] at h; cases h
        | some l' =>
          rw [h3] at h; cases h
          obtain ⟨g1, g2⟩ := partsA_ok hq ht h3
          refine ⟨by simp [g1], fun k off' z' y hk => ?_⟩
          cases k with
          | zero => cases hk; exact ⟨_, rfl, by simpa using hc, (aval_ok h1 ht).cells hq⟩
          | succ k => simpa using g2 k off' z' y (by simpa using hk)
/-- parts that fill their places -/
theorem parts_fill {tm : Tm} {a : Act} {place : Nat → Option (Nat × Nat)} {ps : List (Nat × Operand)} {pl : List (Nat × Nat × Operand)} {l : List (Nat × List AV)} {z : Array Value} {za cs : List AV} (hq : Opq ρ) (ht : TmR ρ m tm a)
    (hlen : pl.length = ps.length) (hpl : ∀ (k i : Nat) (x : Operand), ps[k]? = some (i, x) → ∃ off z, place i = some (off, z) ∧ pl[k]? = some (off, z, x)) (hl : partsA tm pl = some l) (hz : LR ρ m za z.toList) (hc : fillA za l = some cs) :
    ∃ r, Instr.fill place z (ps.map fun p => (p.1, a.eval p.2)) = some r ∧ LR ρ m cs r.toList := by
  obtain ⟨g1, g2⟩ := partsA_ok hq ht hl
  refine fill_ok _ l z za cs (by simp [g1, hlen]) (fun k i v off al hk hla => ?_) hz hc
  rw [List.getElem?_map] at hk
  cases hp : ps[k]? with
  | none => rw [hp] at hk; cases hk
  | some p =>
    obtain ⟨i', x⟩ := p
    rw [hp] at hk; cases hk
    obtain ⟨off', z', h1, h2⟩ := hpl k _ x hp
    obtain ⟨al', h3, h4, h5⟩ := g2 k off' z' x h2
    rw [hla] at h3; cases h3
    exact ⟨by rw [h1, h4], h5⟩
theorem map_pairs (ps : Array (Nat × Operand)) (f : Operand → Value) : (ps.map fun (i, x) => (i, f x)).toList = ps.toList.map fun p => (p.1, f p.2) := by
  rw [Array.toList_map]
theorem build_ok {t : TypeId} {ps : Array (Nat × Operand)} {tm : Tm} {a : Act} (hq : Opq ρ) (ht : TmR ρ m tm a) :
    Ok P ρ w0 base (VRr ρ) m (Zz.bnd (Zz.opt (zeroT P t)) fun z => (match P.underlying t with
      | some (.struct fs) => Zz.bnd (Zz.opt (fs.toList.mapM fun f => (P.info? f.type).map fun i => (f.offset, i.size))) fun pls => Zz.bnd (Zz.opt (placesA pls ps.toList)) fun pl => Zz.bnd (Zz.opt (partsA tm pl)) fun l => Zz.bnd (Zz.opt (fillA (cellsA z) l)) fun cs => Zz.ret (.agg cs)
      | some (.array _ el) => Zz.bnd (Zz.opt (sizeT P el)) fun n => Zz.bnd (Zz.opt (partsA tm (arrPlaces n ps.toList))) fun l => Zz.bnd (Zz.opt (fillA (cellsA z) l)) fun cs => Zz.ret (.agg cs)
      | _ => Zz.fail)) (Instr.build t (ps.map fun (i, x) => (i, a.eval x))) := by
  refine Ok.opt (fun z hz => ?_)
  have hz' := hz
  unfold zeroT at hz
  cases hi : P.info? t with
  | none => rw [hi] at hz; cases hz
  | some it =>
    rw [hi] at hz
    simp only at hz
    cases hzz : it.zero with
    | none => rw [hzz] at hz; cases hz
    | some zv =>
      rw [hzz] at hz
      have hzr : VR ρ m z zv := ofV_ok hz
      split
      · rename_i fs hu
        refine Ok.opt (fun pls hpls => Ok.opt (fun pl hpl => Ok.opt (fun l hl => Ok.opt (fun cs hcs => ?_))))
        obtain ⟨g1, g2⟩ := placesA_ok hpl
        obtain ⟨r, e1, e2⟩ := parts_fill (place := fun i => pls.toArray[i]?) hq ht g1 (fun k i x hk => by
          obtain ⟨off, z, h1, h2⟩ := g2 k i x hk
          exact ⟨off, z, by simpa using h1, h2⟩) hl (hzr.cells hq) hcs
        refine Ok.ret (b := .agg r) (fun w => run_build w t _ r ?_) (.agg _ _ e2)
        unfold Program.built
        rw [hi, hu]
        simp only [hzz, hpls, map_pairs]
        exact e1
      · rename_i nn el hu
        refine Ok.opt (fun n hn => Ok.opt (fun l hl => Ok.opt (fun cs hcs => ?_)))
        obtain ⟨g1, g2⟩ := arrPlaces_ok n ps.toList
        obtain ⟨r, e1, e2⟩ := parts_fill (place := fun i => some (i * n, n)) hq ht g1 (fun k i x hk => ⟨_, _, rfl, g2 k i x hk⟩) hl (hzr.cells hq) hcs
        refine Ok.ret (b := .agg r) (fun w => run_build w t _ r ?_) (.agg _ _ e2)
        unfold sizeT at hn
        cases hie : P.info? el with
        | none => rw [hie] at hn; cases hn
        | some ie =>
          rw [hie] at hn; cases hn
          unfold Program.built
          rw [hi, hu]
          simp only [hzz, hie, map_pairs]
          exact e1
      · exact Ok.fail
theorem fillA_len : ∀ {l : List (Nat × List AV)} {as0 rs : List AV}, fillA as0 l = some rs → rs.length = as0.length
  | [], as0, rs, h => by cases h; rfl
  | (off, al) :: l, as0, rs, h => by
    unfold fillA at h
    cases hc : Nat.ble (off + al.length) as0.length with
    | false => rw [hc] at h; cases h
    | true =>
      rw [hc, cond_true] at h
      have hc' : off + al.length ≤ as0.length := by simpa using hc
      rw [fillA_len h]
      simp
      omega
theorem repeatL_len (z : List AV) (n : Nat) : (repeatL z n).length = n * z.length := by
  induction n with
  | zero => simp [repeatL]
  | succ n ih => simp [repeatL, ih, Nat.add_mul]; omega
theorem repeatL_get (z : List AV) : ∀ (n i : Nat), i < n * z.length → (repeatL z n)[i]? = z[i % z.length]?
  | 0, i, h => by simp at h
  | n + 1, i, h => by
    rw [repeatL]
    by_cases hi : i < z.length
    · rw [List.getElem?_append_left hi, Nat.mod_eq_of_lt hi]
    · rw [List.getElem?_append_right (by omega), repeatL_get z n (i - z.length) (by rw [Nat.add_mul] at h; omega)]
      rw [Nat.mod_eq_sub_mod (a := i) (by omega)]
theorem newR_ok {m : BMap} {e : TypeId} {z : List AV} {k : Nat} {arr : Array Value} (hl : LR ρ m (repeatL z k) arr.toList) :
    Ok P ρ w0 base (fun m' A (ad : Addr) => ∃ b, ad = ⟨b, 0, none⟩ ∧ m' A = some (b, 0, arr.size)) m (newR e z k) (newRow e arr) := by
  have hn : (repeatL z k).length = arr.size := by have := hl.length; simpa using this
  unfold newR
  refine Ok.cond (fun h1 => ?_) (fun _ => Ok.fail)
  refine newRow_get (l := repeatL z k) (fun i a hi => ?_) (by rw [← hn, repeatL_len]) hl (fun a ha => ?_)
  · unfold CT.get at hi
    rw [Tr.get_lf] at hi
    dsimp only at hi
    cases hb : Nat.blt i (k * z.length) with
    | false => rw [hb] at hi; cases hi
    | true =>
      rw [hb, cond_true, nthL_eq] at hi
      have hlt : i < k * z.length := by simpa using hb
      exact ⟨hlt, by rw [repeatL_get z k i hlt]; exact hi⟩
  · have : ∀ k, a ∈ repeatL z k → a ∈ z := fun k => by
      induction k with
      | zero => intro h; cases h
      | succ k ih =>
        intro h
        rw [repeatL] at h
        rcases List.mem_append.1 h with h | h
        · exact h
        · exact ih h
    exact allOne_mem h1 a (this k ha)
theorem repeat_ok {z : List AV} {zv : Array Value} (h : LR ρ m z zv.toList) (n k : Nat) (hk : k = n * z.length) (hz : 0 < z.length) : LR ρ m (repeatL z n) ((Array.range k).map (zv[· % zv.size]!)).toList := by
  have hl := h.length
  simp only [Array.length_toList] at hl
  refine LR.of_get (by rw [repeatL_len]; simp [hk]) (fun i a v ha hv => ?_)
  have hi : i < n * z.length := by
    have := (List.getElem?_eq_some_iff.1 ha).1
    rwa [repeatL_len] at this
  rw [repeatL_get z n i hi] at ha
  obtain ⟨v', h1, h2⟩ := h.get ha
  have hlt : i % zv.size < zv.size := Nat.mod_lt _ (by omega)
  have hv' : v = zv[i % zv.size]! := by
    simp at hv
    obtain ⟨q, h3, h4⟩ := hv
    obtain ⟨hh, he⟩ := List.getElem?_eq_some_iff.1 h3
    have : q = i := by simpa using he.symm
    rw [← h4, this]
  rw [hl] at h1
  rw [Array.getElem?_toList, Array.getElem?_eq_getElem hlt] at h1
  cases h1
  rw [hv', getElem!_pos zv _ hlt]
  exact h2
end
end Go.Proofs.YtckmcajnhobkpaaGreatDoor.Zz
