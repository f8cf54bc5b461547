/- The executor: what may be said of values that are not known. -/
import Derived.Test.YtcgcbaiamkbiiaaGreatDoorExX
set_option linter.unusedVariables false
set_option linter.unusedSimpArgs false
set_option linter.deprecated false
namespace Go.Proofs.YtcgcbaiamkbiiaaGreatDoor.Zz
open Go Go.RowKit

section
variable {P : Program} {ρ : Nat → Value} {w0 : World} {base : Nat}
theorem opq_eval {m : BMap} {tm : Tm} {a : Act} {x : Operand} {k : Nat} (h : aval tm x = some (.opq k)) (ht : TmR ρ m tm a) : a.eval x = ρ k := by
  have := aval_ok h ht
  generalize a.eval x = v at this
  cases this
  rfl
theorem ora_len {t e : TypeId} {k n c : Nat} {p : Option Addr} {r : AV} (hu : P.underlying t = some (.slice e)) (hk : ρ k = .slice p n c) (hr : ∀ m, VR ρ m r (.int .i64 n)) : OraOk P ρ w0 base (.len t k) r := by
  intro o tm a m st w hq ht hR
  unfold oraKey at hq
  split at hq
  · rename_i cl ho
    split at hq
    · rename_i x t' ts hcal hargs hats
      split at hq
      · rename_i k' hx
        cases hq
        have hev := opq_eval hx ht
        have hmap : cl.args.map a.eval = #[ρ k] := by
          have : cl.args = #[x] := by
            have := congrArg List.toArray hargs
            simpa using this
          rw [this]; simp [hev]
        have h0 : cl.argTypes[0]? = some t := by rw [← Array.getElem?_toList, hats]; rfl
        refine ⟨.int .i64 n, w, m, ?_, Ext.refl m, fun A h1 h2 => absurd h1 h2, hR, hr m⟩
        unfold execOp
        rw [ho]
        simp only [resolve, hcal, Sem.run_bind, Sem.run_pure, Result.andThen_ok, invoke, builtin, hmap, hk]
        simp [Builtin.len_, h0, run_und hu, goInt]
      · cases hq
    · cases hq
  · split at hq <;> first | (cases hq; done) | (split at hq <;> cases hq; done) | (cases hb : (isOpq _ || isOpq _) <;> rw [hb] at hq <;> cases hq)
  · split at hq <;> cases hq
  · split at hq <;> cases hq
  · cases hq
theorem ora_bin {op : BinOp} {x y x' y' r : AV} (hx : ∀ m u, VR ρ m x u → VR ρ m x' u) (hy : ∀ m u, VR ρ m y u → VR ρ m y' u) (hg : ∀ t p q, guardA P op t p q x' y' = true) (hb : ∀ t st, binA P op t x' y' st = some (r, st)) : OraOk P ρ w0 base (.bin op x y) r := by
  intro o tm a m st w hq ht hR
  obtain ⟨dst, op', ty, pos, after, guard⟩ := o
  unfold oraKey at hq
  dsimp only at hq
  split at hq
  · split at hq
    · split at hq <;> cases hq
    · cases hq
  · rename_i op2 t p q c
    split at hq
    · rename_i a1 b1 h1 h2
      cases hc : (isOpq a1 || isOpq b1) with
      | false => rw [hc] at hq; cases hq
      | true =>
        rw [hc, cond_true] at hq
        cases hq
        have hok := bin_ok (P := P) (w0 := w0) (base := base) (t := t) (hg t p q) (hx m _ (aval_ok h1 ht)) (hy m _ (aval_ok h2 ht))
        obtain ⟨v, w', m', e1, e2, e3, e4, e5⟩ := hok st w r st (hb t st) hR (fun A h1 h2 => absurd h1 (Nat.not_le.2 h2))
        refine ⟨v, w', m', ?_, e2, e3, e4, e5⟩
        rw [show (execOp a.eval ⟨dst, .binOp op t p q c, ty, pos, after, guard⟩).run P w = ((do eqGuard op t p q (a.eval p) (a.eval q); binOp op t (a.eval p) (a.eval q) : Sem Value).run P w).andThen fun v w' => .ok (.value v) w' by (simp [execOp]; generalize (eqGuard op t p q (a.eval p) (a.eval q)).run P w = rr; cases rr <;> rfl), e1]
        rfl
    · cases hq
  · split at hq <;> cases hq
  · split at hq <;> cases hq
  · cases hq
theorem ora_load {t : TypeId} {k : Nat} {ad : Addr} {v : Value} {r : AV} (hb : isAggT P t = some false) (hk : ρ k = .pointer (some ad)) (hlt : ad.block < base) (hc : w0.cell? ad = some v) (hr : ∀ m, VR ρ m r v) : OraOk P ρ w0 base (.load t k) r := by
  intro o tm a m st w hq ht hR
  obtain ⟨dst, op', ty, pos, after, guard⟩ := o
  unfold oraKey at hq
  dsimp only at hq
  split at hq
  · split at hq
    · split at hq <;> cases hq
    · cases hq
  · split at hq
    · cases hc : (isOpq _ || isOpq _) <;> rw [hc] at hq <;> cases hq
    · cases hq
  · split at hq <;> cases hq
  · rename_i t' x
    split at hq
    · rename_i k' hx
      cases hq
      have hev := opq_eval hx ht
      have hcw : w.cell? ad = some v := by
        rw [← hc]
        unfold World.cell?
        rw [hR.old.block _ hlt]
      refine ⟨v, w, m, ?_, Ext.refl m, fun A h1 h2 => absurd h1 h2, hR, hr m⟩
      simp [execOp, hev, hk, Instr.loadAt, Instr.sureAddr, loadVar, run_isAgg hb, hcw]
    · cases hq
  · cases hq
theorem ora_idx {t e : TypeId} {k j n c z : Nat} {b off : Nat} {r : AV} (hu : P.underlying t = some (.slice e)) (hz : sizeT P e = some z) (hk : ρ k = .slice (some ⟨b, off, none⟩) n c) (hj : j < n) (hr : ∀ m, VR ρ m r (.pointer (some ⟨b, off + j * z, none⟩))) : OraOk P ρ w0 base (.idx t k j) r := by
  intro o tm a m st w hq ht hR
  obtain ⟨dst, op', ty, pos, after, guard⟩ := o
  unfold oraKey at hq
  dsimp only at hq
  split at hq
  · split at hq
    · split at hq <;> cases hq
    · cases hq
  · split at hq
    · cases hc : (isOpq _ || isOpq _) <;> rw [hc] at hq <;> cases hq
    · cases hq
  · rename_i t' x y
    split at hq
    · rename_i k' kk j' hx hy
      cases hq
      have hev := opq_eval hx ht
      have hvy := aval_ok hy ht
      generalize hey : a.eval y = vy at hvy
      cases hvy
      refine ⟨_, w, m, ?_, Ext.refl m, fun A h1 h2 => absurd h1 h2, hR, hr m⟩
      simp only [execOp, hev, hk, hey]
      simp [Instr.indexAt, asIntOf, run_und hu, run_size hz, add_mk', hj]
    · cases hq
  · split at hq <;> cases hq
  · cases hq
end
end Go.Proofs.YtcgcbaiamkbiiaaGreatDoor.Zz
