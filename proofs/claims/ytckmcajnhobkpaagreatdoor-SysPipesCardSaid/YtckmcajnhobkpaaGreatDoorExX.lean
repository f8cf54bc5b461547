/- The executor: hooks, and a whole call. -/
import Derived.Test.YtckmcajnhobkpaaGreatDoorExW
import Derived.Test.YtckmcajnhobkpaaGreatDoorExH
import Derived.Lib.Bytealg
import Derived.Laws.Externs
set_option linter.unusedVariables false
set_option linter.unusedSimpArgs false
set_option linter.deprecated false
namespace Go.Proofs.YtckmcajnhobkpaaGreatDoor.Zz
open Go Go.RowKit

section
variable {P : Program} {ρ : Nat → Value} {w0 : World} {base : Nat}
theorem hookOf_get {l : List (FuncId × (List AV → M AV))} {f : FuncId} {h : List AV → M AV} (e : hookOf l f = some h) : (f, h) ∈ l := by
  induction l with
  | nil => cases e
  | cons p l ih =>
    obtain ⟨g, k⟩ := p
    unfold hookOf at e
    cases hb : Nat.beq g f with
    | true =>
      rw [hb] at e
      cases e
      have : g = f := by simpa using hb
      simp [this]
    | false => rw [hb] at e; exact List.mem_cons_of_mem _ (ih e)
theorem hooks_ok {l : List (FuncId × (List AV → M AV))} {or : Q → Option AV} (h : ∀ p ∈ l, (∀ args, Fr (p.2 args)) ∧ HookFn P ρ w0 base p.1 p.2) (ho : ∀ q r, or q = some r → OraOk P ρ w0 base q r) : HookOk P ρ w0 base ⟨hookOf l, or⟩ ∧ FrH ⟨hookOf l, or⟩ :=
  ⟨⟨fun _ _ e => (h _ (hookOf_get e)).2, ho⟩, fun _ _ e => (h _ (hookOf_get e)).1⟩
/-- the function f is the entry e -/
def IsExtern (P : Program) (f : FuncId) (e : Array Value → Sem Value) : Prop :=
  ∃ fn, P.funcs[f]? = some fn ∧ (fn.name == "runtime.NumGoroutine") = false ∧ fn.body.isNone = true ∧ Extern.findNext fn = none ∧ Extern.find fn = some e
theorem toNat_of (x : UInt8) {c : Nat} (hc : c < 256) : x.toNat = c ↔ x = c.toUInt8 := by
  constructor
  · intro h; apply UInt8.toNat_inj.1; rw [h]; simp [Nat.toUInt8, UInt8.toNat_ofNat']; omega
  · intro h; rw [h]; simp [Nat.toUInt8, UInt8.toNat_ofNat']; omega
theorem countB_eq {c : Nat} (hc : c < 256) : ∀ l, countB c l = Lib.countByte l c.toUInt8
  | [] => rfl
  | x :: l => by
    unfold countB Lib.countByte
    rw [List.count_cons, countB_eq hc l]
    by_cases h : x.toNat = c
    · have h1 : x = c.toUInt8 := (toNat_of x hc).1 h
      have h2 : Nat.beq x.toNat c = true := by simpa using h
      rw [h2, cond_true, if_pos (by simpa using h1)]; rfl
    · have h1 : ¬ x = c.toUInt8 := fun e => h ((toNat_of x hc).2 e)
      have h2 : Nat.beq x.toNat c = false := by cases hb : Nat.beq x.toNat c with | false => rfl | true => exact absurd (by simpa using hb) h
      rw [h2, cond_false, if_neg (by simpa using h1)]; rfl
theorem indexB_eq {c : Nat} : ∀ (l : List UInt8) (i : Nat), indexB c l i = (indexB c l 0).map (· + i)
  | [], i => rfl
  | x :: l, i => by
    unfold indexB
    cases Nat.beq x.toNat c with
    | true => simp
    | false =>
      rw [cond_false, cond_false, indexB_eq l (i + 1), indexB_eq l (0 + 1)]
      cases indexB c l 0 with
      | none => rfl
      | some k => simp; omega
theorem indexByte_eq {c : Nat} (hc : c < 256) : ∀ l, orNeg (indexB c l 0) = Lib.indexByte l c.toUInt8
  | [] => rfl
  | x :: l => by
    have ih := indexByte_eq hc l
    unfold indexB Lib.indexByte
    by_cases h : x.toNat = c
    · have h1 : x = c.toUInt8 := (toNat_of x hc).1 h
      have h2 : Nat.beq x.toNat c = true := by simpa using h
      rw [h2, cond_true, if_pos (by simpa using h1)]; rfl
    · have h1 : ¬ x = c.toUInt8 := fun e => h ((toNat_of x hc).2 e)
      have h2 : Nat.beq x.toNat c = false := by cases hb : Nat.beq x.toNat c with | false => rfl | true => exact absurd (by simpa using hb) h
      rw [h2, cond_false, indexB_eq l (0 + 1), if_neg (by simpa using h1), ← ih]
      cases indexB c l 0 with
      | none => rfl
      | some k =>
        have : ¬ ((orNeg (some k) == -1) = true) := by
          unfold orNeg; simp
        rw [if_neg this]
        unfold orNeg; simp
theorem upon_pure {o : Oper} {a : Act} {K : Act → World → Prop} {Q : Exit → Act → World → Prop} {v : Value} {w : World} (h : K (a.put o.dst v) w) : o.upon P a K Q (.ok (.value v) w) := by
  rw [Oper.upon_value]; exact h
theorem hCount_ok {f : FuncId} (he : IsExtern P f Extern.BytealgCount.count) : (∀ args, Fr (hCount args)) ∧ HookFn P ρ w0 base f hCount := by
  obtain ⟨fn, h1, h2, h3, h4, h5⟩ := he
  refine ⟨fun args => ?_, fun args us m st w v st' h hr hf hl o a K Q hK => ?_⟩
  · unfold hCount
    split
    · exact Fr.cond (Fr.ret _) Fr.fail
    · exact Fr.fail
  · unfold hCount at h
    split at h
    · rename_i s c
      cases hb : Nat.blt c 256 with
      | false => rw [hb] at h; cases h
      | true =>
        rw [hb, cond_true] at h
        cases h
        have hc : c < 256 := by simpa using hb
        have hus : us = #[.string ⟨s.toArray⟩, .int .u8 (Int.ofNat c)] := by
          obtain ⟨l⟩ := us
          cases hl with | cons _ v1 _ r1 q1 hl => _
          cases hl with | cons _ v2 _ r2 q2 hl => _
          cases hl
          cases q1
          cases q2
          rfl
        rw [hus, run_callFunc_extern h1 h2 h3 h4 h5, Lib.run_countString]
        simp only [Result.andThen]
        refine upon_pure (hK _ w m (Ext.refl m) (fun A e1 e2 => absurd e1 e2) hr ?_)
        have : (Int.ofNat c).toNat = c := rfl
        rw [this, countB_eq hc]
        exact .int _ _
    · cases h
theorem hIndexByte_ok {f : FuncId} (he : IsExtern P f Extern.BytealgIndexByte.indexByte) : (∀ args, Fr (hIndexByte args)) ∧ HookFn P ρ w0 base f hIndexByte := by
  obtain ⟨fn, h1, h2, h3, h4, h5⟩ := he
  refine ⟨fun args => ?_, fun args us m st w v st' h hr hf hl o a K Q hK => ?_⟩
  · unfold hIndexByte
    split
    · exact Fr.cond (Fr.ret _) Fr.fail
    · exact Fr.fail
  · unfold hIndexByte at h
    split at h
    · rename_i s c
      cases hb : Nat.blt c 256 with
      | false => rw [hb] at h; cases h
      | true =>
        rw [hb, cond_true] at h
        cases h
        have hc : c < 256 := by simpa using hb
        have hus : us = #[.string ⟨s.toArray⟩, .int .u8 (Int.ofNat c)] := by
          obtain ⟨l⟩ := us
          cases hl with | cons _ v1 _ r1 q1 hl => _
          cases hl with | cons _ v2 _ r2 q2 hl => _
          cases hl
          cases q1
          cases q2
          rfl
        rw [hus, run_callFunc_extern h1 h2 h3 h4 h5, Lib.run_indexByteString]
        simp only [Result.andThen]
        refine upon_pure (hK _ w m (Ext.refl m) (fun A e1 e2 => absurd e1 e2) hr ?_)
        have : (Int.ofNat c).toNat = c := rfl
        rw [this, indexByte_eq hc]
        exact .int _ _
    · cases h
/-- no block yet, the counter at 1000 -/
def st0 : ASt := ⟨.lf, 1000, []⟩
/-- did the run give 'true'? -/
def saysTrue (r : Option (AV × ASt)) : Bool := match r with
  | some (.bool true, _) => true
  | _ => false
/-- what the executor says holds in every world -/
theorem exec_top_ora {l : List (FuncId × (List AV → M AV))} {or : Q → Option AV} (hm : P.follows .mixedOrders = true) (hq : Opq ρ) (w : World) (hk : ∀ p ∈ l, (∀ args, Fr (p.2 args)) ∧ HookFn P ρ w w.heap.size p.1 p.2) (ho : ∀ q r, or q = some r → OraOk P ρ w w.heap.size q r) (n : Nat)
    {f : FuncId} {args : List AV} {us : Array Value} (hl : LR ρ (fun _ => none) args us.toList)
    (h : saysTrue ((exec P ⟨hookOf l, or⟩ n).call f args st0) = true) : Calls P f us w fun e w' => e = .returned (.bool true) ∧ Below w.heap.size w w' := by
  obtain ⟨hH, hF⟩ := hooks_ok hk ho
  cases hc : (exec P ⟨hookOf l, or⟩ n).call f args st0 with
  | none => rw [hc] at h; cases h
  | some r =>
    obtain ⟨v, st'⟩ := r
    rw [hc] at h
    have hv : v = .bool true := by
      unfold saysTrue at h
      split at h
      · rename_i s e; cases e; rfl
      · cases h
    subst hv
    refine Calls.mono (exec_calls hm hq hH hF n f args us (fun _ => none) st0 w _ st' hc ⟨fun A b hb => (by rw [show st0.heap.get A = none from rfl] at hb; cases hb), fun A B a b p q ha => (by rw [show st0.heap.get A = none from rfl] at ha; cases ha), Below.refl _ _, Nat.le_refl _⟩ (fun _ _ _ => rfl) hl) ?_
    rintro e w' ⟨m', _, _, e4, ⟨v', rfl, e5⟩ | ⟨x, u, e5, _⟩⟩
    · cases e5
      exact ⟨rfl, e4.old⟩
    · cases e5
/-- nothing is said -/
def noOra : Q → Option AV := fun _ => none
theorem exec_top {l : List (FuncId × (List AV → M AV))} (hm : P.follows .mixedOrders = true) (hq : Opq ρ) (w : World) (hk : ∀ p ∈ l, (∀ args, Fr (p.2 args)) ∧ HookFn P ρ w w.heap.size p.1 p.2) (n : Nat) {f : FuncId} {args : List AV} {us : Array Value} (hl : LR ρ (fun _ => none) args us.toList)
    (h : saysTrue ((exec P ⟨hookOf l, noOra⟩ n).call f args st0) = true) : Calls P f us w fun e w' => e = .returned (.bool true) ∧ Below w.heap.size w w' :=
  exec_top_ora hm hq w hk (fun _ _ e => by cases e) n hl h
end
end Go.Proofs.YtckmcajnhobkpaaGreatDoor.Zz
