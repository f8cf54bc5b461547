/- The executor: built-in functions; the operations without a call. -/
import Derived.Test.YtckmcajnhobkpaaGreatDoorExQ
set_option linter.unusedVariables false
set_option linter.unusedSimpArgs false
set_option linter.deprecated false
namespace Go.Proofs.YtckmcajnhobkpaaGreatDoor.Zz
open Go Go.RowKit

section
variable {P : Program} {ρ : Nat → Value} {w0 : World} {base : Nat} {m : BMap}
theorem LR.two {x y : AV} {r : List Value} (h : LR ρ m [x, y] r) : ∃ u v, r = [u, v] ∧ VR ρ m x u ∧ VR ρ m y v := by
  cases h with | cons _ u _ r h1 hr => cases hr with | cons _ v _ r h2 hr => cases hr; exact ⟨u, v, rfl, h1, h2⟩
theorem LR.single {x : AV} {r : List Value} (h : LR ρ m [x] r) : ∃ u, r = [u] ∧ VR ρ m x u := by
  cases h with | cons _ u _ r h1 hr => cases hr; exact ⟨u, rfl, h1⟩
theorem arr_of {α : Type} {a : Array α} {l : List α} (h : a.toList = l) : a = l.toArray := by rw [← h]
theorem copy_ok {t e : TypeId} {ts : Array TypeId} {ty : TypeId} {d x : AV} {ud ux : Value} (hq : Opq ρ) (hts : ts[0]? = some t) (hu : P.underlying t = some (.slice e)) (hd : VR ρ m d ud) (hx : VR ρ m x ux) :
    Ok P ρ w0 base (VRr ρ) m (Zz.bnd (Zz.opt (sizeT P e)) fun n => Zz.bnd (cellsIn n x) fun p => copyFin d n p) (Builtin.copy_ ts ty #[ud, ux]) := by
  refine Ok.opt (fun n hn => ?_)
  intro st w a st' h hr hf
  unfold Zz.bnd at h
  cases h1 : cellsIn n x st with
  | none => rw [h1] at h; cases h
  | some p =>
    obtain ⟨⟨k, l⟩, st1⟩ := p
    rw [h1] at h
    simp only at h
    obtain ⟨vs, hlen, hnew, hlr, hh, hnx, hvl⟩ := cellsIn_ok (P := P) h1 hr hx
    have h0 := fun w' => hnew 0 w' (Nat.zero_le _)
    simp only [Nat.zero_mul, List.take_zero] at h0
    unfold copyFin at h
    cases hd with
    | sl0 =>
      cases h
      refine ⟨.int .i64 0, w, m, ?_, Ext.refl m, fun A h1 h2 => absurd h1 h2, by rw [hh]; exact hr, .int _ _⟩
      simp [Builtin.copy_, hts, run_und hu, hlen, run_size hn, h0 w rfl, goInt]
    | sl A i len cap sz ex b dd z off cap' hA hc hexc ho hz hl hdd =>
      simp only at h
      cases hl0 : Nat.beq len 0 with
      | true =>
        rw [hl0] at h; cases h
        have : len = 0 := by simpa using hl0
        subst this
        refine ⟨.int .i64 0, w, m, ?_, Ext.refl m, fun A h1 h2 => absurd h1 h2, by rw [hh]; exact hr, .int _ _⟩
        simp [Builtin.copy_, hts, run_und hu, hlen, run_size hn, h0 w rfl, goInt, storeCells]
      | false =>
        rw [hl0, cond_false] at h
        have hpos : 0 < len := by
          rcases Nat.eq_zero_or_pos len with e0 | e0
          · subst e0; cases hl0
          · exact e0
        cases hs : Nat.beq sz n with
        | false => rw [hs] at h; cases h
        | true =>
          rw [hs, cond_true] at h
          have hs' : sz = n := by simpa using hs
          subst hs'
          unfold Zz.bnd at h
          cases h2 : storeC A i (l.take (min k len * sz)) st1 with
          | none => rw [h2] at h; cases h
          | some q =>
            obtain ⟨u2, st2⟩ := q
            rw [h2] at h; cases h
            have ho' := ho (by omega)
            subst ho'
            rw [← hh] at hr
            rw [← hnx] at hf
            obtain ⟨u3, w2, m2, g1, g2, g3, g4, _⟩ := storeC_ok (P := P) (ρ := ρ) (w0 := w0) (base := base) hq hA (hlr.take (min k len * sz)) st1 w u2 st' h2 hr hf
            refine ⟨.int .i64 (min k len : Nat), w2, m2, ?_, g2, by rw [← hnx]; exact g3, g4, .int _ _⟩
            have hm := hnew (Nat.min k len) w (Nat.min_le_left _ _) rfl
            simp only [Builtin.copy_, List.getElem?_toArray, List.getElem?_cons_zero, List.getElem?_cons_succ, hts, Sem.run_bind, run_und hu, Result.andThen_ok, hlen, run_size hn, hm]
            rw [show (List.take (min k len * sz) vs) = List.take (Nat.min k len * sz) vs from rfl] at g1
            simp [g1, goInt]
    | _ => cases h
theorem built_ok {b : Builtin} {ts : Array TypeId} {ty : TypeId} {cs : Array Bool} {args : List AV} {us : Array Value} (hq : Opq ρ) (hl : LR ρ m args us.toList) : Ok P ρ w0 base (NVr ρ) m (builtA P b ts.toList args) (builtin b ts ty cs us) := by
  unfold builtA
  split
  · rename_i t t' s x hts
    obtain ⟨u, ux, hu2, h1, h2⟩ := hl.two
    obtain rfl := arr_of hu2
    obtain rfl := arr_of hts
    split
    · rename_i e d hu hu'
      exact vOk (append_ok hq hu hu' (.inr ⟨_, rfl⟩) h1 h2)
    · rename_i e hu hu'
      exact vOk (append_ok hq hu hu' (.inl rfl) h1 h2)
    · exact Ok.fail
  · rename_i t r x hts
    obtain ⟨u, hu2, h1⟩ := hl.single
    obtain rfl := arr_of hu2
    obtain rfl := arr_of hts
    refine vOk ?_
    split
    · rename_i s hu
      cases h1
      have hsz : (ByteArray.mk s.toArray).size = s.length := by simp [ByteArray.size]
      exact Ok.ret (fun w => by simp [Builtin.len_, run_und hu, hsz, goInt]) (.int _ _)
    · rename_i x n e hu
      exact Ok.ret (b := .int .i64 n) (fun w => by simp [Builtin.len_, run_und hu, goInt]) (.int _ _)
    · rename_i x a hu
      split
      · rename_i n e hu'
        exact Ok.ret (b := .int .i64 n) (fun w => by simp [Builtin.len_, run_und hu, run_und hu', goInt]) (.int _ _)
      · exact Ok.fail
    · rename_i e hu
      cases h1
      exact Ok.ret (b := .int .i64 0) (fun w => by simp [Builtin.len_, run_und hu, goInt]) (.int _ _)
    · rename_i e A i n cap sz ex hu
      cases h1
      exact Ok.ret (b := .int .i64 n) (fun w => by simp [Builtin.len_, run_und hu, goInt]) (.int _ _)
    · rename_i kt et hu
      cases h1
      exact Ok.ret (b := .int .i64 0) (fun w => by simp [Builtin.len_, run_und hu, goInt]) (.int _ _)
    · rename_i kt et A hu
      cases h1 with | map _ bb d2 z hA => _
      intro st w a st' h hr hf
      obtain ⟨es, clk, st1, r1, r2, r3, h2⟩ := rdMap_eq (f := fun es _ => Zz.ret (AV.int .i64 es.length)) h
      cases h2
      obtain ⟨es', f3, he⟩ := rel_map hr r1 hA
      have hl := he.1
      simp only [Array.length_toList] at hl
      refine ⟨.int .i64 es.length, w, m, ?_, Ext.refl m, fun A h1 h2 => absurd h1 h2, by rw [r2]; exact hr, .int _ _⟩
      simp [Builtin.len_, run_und hu, run_getMap f3, goInt, hl]
    · exact Ok.fail
  · rename_i t r d x hts
    obtain ⟨u, ux, hu2, h1, h2⟩ := hl.two
    obtain rfl := arr_of hu2
    obtain rfl := arr_of hts
    unfold copyA
    cases hu : P.underlying t with
    | none => exact Ok.fail
    | some dd =>
      cases dd with
      | slice e => exact vOk (copy_ok hq rfl hu h1 h2)
      | _ => exact Ok.fail
  · rename_i t r x k hts
    obtain ⟨u, ux, hu2, h1, h2⟩ := hl.two
    obtain rfl := arr_of hu2
    obtain rfl := arr_of hts
    exact vOk (deleteA_ok rfl h1 h2)
  · rename_i k a k' b
    obtain ⟨u, ux, hu2, h1, h2⟩ := hl.two
    obtain rfl := arr_of hu2
    cases h1; cases h2
    refine vOk (Ok.cond (fun h => ?_) (fun _ => Ok.fail))
    exact Ok.ret (fun w => by simp [Builtin.min_, Builtin.min2]) (.int _ _)
  · rename_i k a k' b
    obtain ⟨u, ux, hu2, h1, h2⟩ := hl.two
    obtain rfl := arr_of hu2
    cases h1; cases h2
    refine vOk (Ok.cond (fun h => ?_) (fun _ => Ok.fail))
    exact Ok.ret (fun w => by simp [Builtin.max_, Builtin.max2]) (.int _ _)
  · exact Ok.fail
end
end Go.Proofs.YtckmcajnhobkpaaGreatDoor.Zz
