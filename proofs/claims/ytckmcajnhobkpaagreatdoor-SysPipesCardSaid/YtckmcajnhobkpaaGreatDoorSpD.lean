/- The kernel of SysPipes in a world; what its calls do, as a pipe is. -/
import Derived.Test.YtckmcajnhobkpaaGreatDoorSpC
import Derived.Shelf.Abstract
namespace Go.Proofs.YtckmcajnhobkpaaGreatDoor
open Go.RowKit
set_option linter.unusedVariables false
set_option linter.unusedSimpArgs false

set_option maxRecDepth 1000000

def ptrK (b : Nat) : Value := .pointer (some ⟨b, 0, none⟩)
def notPan : Zz.AV → Bool
  | .pan _ => false
  | _ => true
theorem follows_mixed : Tryz.prog.follows .mixedOrders = true := by kernel_rfl
theorem stands_call {P : Program} {ρ : Nat → Value} {w0 : World} {base : Nat} {H : Zz.Hooks} (hm : P.follows .mixedOrders = true) (hq : Zz.Opq ρ) (hH : Zz.HookOk P ρ w0 base H) (hFH : Zz.FrH H) (n : Nat) {f : FuncId} {args : List Zz.AV} {us : Array Value} {st st' : Zz.ASt} {m : Zz.BMap} {w : World} {v : Zz.AV}
    (hs : Zz.Stands ρ w0 base st m w) (hc : (Zz.exec P H n).call f args st = some (v, st')) (hle : st.next ≤ st'.next) (hl : Zz.LR ρ m args us.toList) (hp : notPan v = true) :
    Calls P f us w fun e w' => ∃ m' v', e = .returned v' ∧ Zz.VR ρ m' v v' ∧ Zz.Ext m m' ∧ Zz.Stands ρ w0 base st' m' w' := by
  refine (Zz.exec_calls hm hq hH hFH n f args us m st w v st' hc hs.rel (fun A h1 _ => hs.new A h1) hl).mono ?_
  rintro e w' ⟨m', hE, hD, hR, he⟩
  rcases he with ⟨v', rfl, hv⟩ | ⟨x, u, rfl, _⟩
  · refine ⟨m', v', rfl, hv, hE, hR, fun A hA => ?_⟩
    cases hmA : m' A with
    | none => rfl
    | some p =>
      have := (hD A (hs.new A (by omega)) (by rw [hmA]; simp)).2
      omega
  · cases hp
theorem okS_all {L : List (Nat × Zz.ABlk)} : ∀ {M : List (Nat × Zz.ABlk)}, okS L M = true → Zz.allOk2 L M = true ∧ ∀ p ∈ M, p.1 < 2000
  | [], _ => ⟨rfl, fun p hp => by cases hp⟩
  | q :: M, h => by
    unfold okS at h
    cases h1 : Zz.okB L q.2 with
    | false => rw [h1] at h; cases h
    | true =>
      rw [h1, cond_true] at h
      cases h2 : Nat.blt q.1 2000 with
      | false => rw [h2] at h; cases h
      | true =>
        rw [h2, cond_true] at h
        obtain ⟨g1, g2⟩ := okS_all h
        refine ⟨by unfold Zz.allOk2; rw [h1, cond_true]; exact g1, fun p hp => ?_⟩
        rcases List.mem_cons.1 hp with rfl | hp
        · simpa using h2
        · exact g2 p hp
theorem chkR_eq {q : Nat} {r : Option (Zz.AV × Zz.ASt)} {v : Zz.AV} {L : List (Nat × Zz.ABlk)} (h : chkR q r v L = true) : ∃ s, r = some (v, s) ∧ Zz.subSt q s L = true ∧ 2000 ≤ s.next := by
  unfold chkR at h
  split at h
  · rename_i x s
    cases h1 : Zz.eqAV x v with
    | false => rw [h1] at h; cases h
    | true =>
      rw [h1, cond_true] at h
      cases h2 : Zz.subSt q s L with
      | false => rw [h2] at h; cases h
      | true =>
        rw [h2, cond_true] at h
        exact ⟨s, by rw [Zz.eqAV_eq h1], h2, by simpa using h⟩
  · cases h
/-- what the numbers stand for -/
def rho (pre post arg res : Value) : Nat → Value
  | 10 => pre
  | 11 => post
  | 1 => arg
  | 2 => res
  | _ => .int .i64 0
def cellV (v : Value) : Prop := (∀ cs, v ≠ .agg cs) ∧ ∀ cs, v ≠ .tuple cs
theorem cellV_pipe (l : List UInt8) (r wr : Nat) : cellV (Zz.pipeV l r wr) := ⟨fun cs h => (by cases h), fun cs h => (by cases h)⟩
theorem cellV_int (k : IntKind) (n : Int) : cellV (.int k n) := ⟨fun cs h => (by cases h), fun cs h => (by cases h)⟩
theorem cellV_str (s : ByteArray) : cellV (.string s) := ⟨fun cs h => (by cases h), fun cs h => (by cases h)⟩
theorem rho_opq {pre post arg res : Value} (h1 : cellV pre) (h2 : cellV post) (h3 : cellV arg) (h4 : cellV res) : Zz.Opq (rho pre post arg res) := by
  intro k
  unfold rho
  split
  · exact h1
  · exact h2
  · exact h3
  · exact h4
  · exact cellV_int _ _
/-- the kernel at K is in the state S, its pipe holds l and has wr writers; the reply at Pb says 3 and 4 -/
def Ker (W0 : World) (S : List (Nat × Zz.ABlk)) (l : List UInt8) (wr K Pb : Nat) (w : World) : Prop :=
  ∃ ρ m z z', ρ 10 = Zz.pipeV l 1 wr ∧ Zz.Stands ρ W0 W0.heap.size (Zz.stL S 2000) m w ∧ m 1014 = some (K, 0, z) ∧ m 1900 = some (Pb, 0, z')
theorem Ker.below {W0 : World} {S : List (Nat × Zz.ABlk)} {l wr K Pb w} (h : Ker W0 S l wr K Pb w) : Below W0.heap.size W0 w := by
  obtain ⟨ρ, m, z, z', _, hs, _⟩ := h
  exact hs.rel.old
theorem Rel_grow {ρ : Nat → Value} {w0 : World} {base : Nat} {m : Zz.BMap} {w : World} {g : Nat → Option Zz.ABlk} {w' : World} (h : Zz.Rel ρ w0 base m g w) (hB : Below w.heap.size w w') : Zz.Rel ρ w0 base m g w' :=
  ⟨fun A b hb => let ⟨p, e1, e2, e3⟩ := h.blk A b hb; ⟨p, e1, e2, e3.keep (fun hd => hB.block _ (e3.lt hd))⟩, h.sep,
   ⟨hB.os.trans h.old.os, hB.tape.trans h.old.tape, hB.output.trans h.old.output, Nat.le_trans h.old.size hB.size, fun k hk => (hB.block k (Nat.lt_of_lt_of_le hk h.le)).trans (h.old.block k hk)⟩, Nat.le_trans h.le hB.size⟩
theorem Ker.grow {W0 : World} {S : List (Nat × Zz.ABlk)} {l wr K Pb w w'} (h : Ker W0 S l wr K Pb w) (hB : Below w.heap.size w w') : Ker W0 S l wr K Pb w' := by
  obtain ⟨ρ, m, z, z', h1, hs, h2, h3⟩ := h
  exact ⟨ρ, m, z, z', h1, ⟨Rel_grow hs.rel hB, hs.new⟩, h2, h3⟩
/-- the numbers may stand for other things -/
theorem Ker.re {W0 : World} {S : List (Nat × Zz.ABlk)} {l wr K Pb w} (h : Ker W0 S l wr K Pb w) (hok : okS S S = true) (hself : Zz.subSt 10 (Zz.stL S 2000) S = true) (h1 : Zz.inL 1014 S = true) (h2 : Zz.inL 1900 S = true) (ρ : Nat → Value) (hρ : ρ 10 = Zz.pipeV l 1 wr) :
    ∃ m z z', Zz.Stands ρ W0 W0.heap.size (Zz.stL S 2000) m w ∧ m 1014 = some (K, 0, z) ∧ m 1900 = some (Pb, 0, z') := by
  obtain ⟨ρ0, m, z, z', g1, hs, g2, g3⟩ := h
  obtain ⟨o1, o2⟩ := okS_all hok
  exact ⟨_, z, z', Zz.Stands.focus (ρ' := ρ) (f := 10) (by rw [hρ, g1]) hs.rel hself o1 o2, Zz.onlyM_in h1 g2, Zz.onlyM_in h2 g3⟩
/-- one call, from state to state -/
theorem ker_do {W0 : World} {S S' : List (Nat × Zz.ABlk)} {hs : List (FuncId × (List Zz.AV → Zz.M Zz.AV))} {q : Nat} {l l' lp : List UInt8} {wr wr' wrp K Pb : Nat} {arg res : Value} {args : List Zz.AV} {v : Zz.AV} {us : Array Value} {w : World}
    (h : Ker W0 S l wr K Pb w) (hok : okS S S = true) (hself : Zz.subSt 10 (Zz.stL S 2000) S = true) (hok' : okS S' S' = true) (ha : cellV arg) (hr : cellV res)
    (hk : ∀ p ∈ hs, (∀ args, Zz.Fr (p.2 args)) ∧ Zz.HookFn Tryz.prog (rho (Zz.pipeV l 1 wr) (Zz.pipeV lp 1 wrp) arg res) W0 W0.heap.size p.1 p.2)
    (hrun : chkR q (spE hs args S) v S' = true) (hq : rho (Zz.pipeV l 1 wr) (Zz.pipeV lp 1 wrp) arg res q = Zz.pipeV l' 1 wr') (hp : notPan v = true) (h1 : Zz.inL 1014 S = true) (h2 : Zz.inL 1900 S = true) (h3 : Zz.inL 1014 S' = true) (h4 : Zz.inL 1900 S' = true)
    (hl : ∀ m z, m 1014 = some (K, 0, z) → Zz.LR (rho (Zz.pipeV l 1 wr) (Zz.pipeV lp 1 wrp) arg res) m args us.toList) :
    Calls Tryz.prog 6 us w fun e w' => ∃ v' m2, e = .returned v' ∧ Zz.VR (rho (Zz.pipeV l 1 wr) (Zz.pipeV lp 1 wrp) arg res) m2 v v' ∧ Ker W0 S' l' wr' K Pb w' := by
  obtain ⟨m, z, z', hst, g1, g2⟩ := h.re hok hself h1 h2 (rho (Zz.pipeV l 1 wr) (Zz.pipeV lp 1 wrp) arg res) rfl
  obtain ⟨s, e1, e2, e3⟩ := chkR_eq hrun
  have hopq : Zz.Opq (rho (Zz.pipeV l 1 wr) (Zz.pipeV lp 1 wrp) arg res) := rho_opq (cellV_pipe _ _ _) (cellV_pipe _ _ _) ha hr
  obtain ⟨hH, hF⟩ := Zz.hooks_ok (P := Tryz.prog) (or := Zz.noOra) hk (fun _ _ e => by cases e)
  refine (stands_call follows_mixed hopq hH hF 400 hst e1 e3 (hl m z g1) hp).mono ?_
  rintro e w' ⟨m', v', rfl, hv, hE, hs'⟩
  obtain ⟨o1, o2⟩ := okS_all hok'
  refine ⟨v', m', rfl, hv, fun k => if k = 10 then Zz.pipeV l' 1 wr' else .int .i64 0, Zz.onlyM m' S', z, z', rfl, Zz.Stands.focus (f := q) (by rw [if_pos rfl, hq]) hs'.rel e2 o1 o2, Zz.onlyM_in h3 (hE _ _ g1), Zz.onlyM_in h4 (hE _ _ g2)⟩
theorem rep_inv {ρ : Nat → Value} {m : Zz.BMap} {e k : Int} {x y : Zz.AV} {v : Value} (h : Zz.VR ρ m (rep e x k y) v) : ∃ vx vy, Zz.VR ρ m x vx ∧ Zz.VR ρ m y vy ∧ v = .agg #[.int .i64 e, vx, .int .i64 k, vy, .slice none 0 0, .int .i64 0, .int .i64 0, .int .i64 0] := by
  unfold rep at h
  cases h with
  | agg l u hl =>
    obtain ⟨u⟩ := u
    cases hl with | cons _ v1 _ r1 q1 hl => _
    cases hl with | cons _ v2 _ r2 q2 hl => _
    cases hl with | cons _ v3 _ r3 q3 hl => _
    cases hl with | cons _ v4 _ r4 q4 hl => _
    cases hl with | cons _ v5 _ r5 q5 hl => _
    cases hl with | cons _ v6 _ r6 q6 hl => _
    cases hl with | cons _ v7 _ r7 q7 hl => _
    cases hl with | cons _ v8 _ r8 q8 hl => _
    cases hl
    cases q1
    cases q3
    cases q5
    cases q6
    cases q7
    cases q8
    exact ⟨v2, v4, q2, q4, rfl⟩
def repV (e : Int) (n : Int) (k : Int) (t : List UInt8) : Value := .agg #[.int .i64 e, .int .i64 n, .int .i64 k, .string ⟨t.toArray⟩, .slice none 0 0, .int .i64 0, .int .i64 0, .int .i64 0]
def callV (kind fd n : Int) (path other : List UInt8) : Value := .agg #[.int .i64 kind, .int .i64 fd, .int .i64 n, .string ⟨path.toArray⟩, .string ⟨other.toArray⟩]
theorem enters_r : ∀ us w, (callFunc 199 us).run Tryz.prog w = .ok (.enter 199 us) w := fun us w => enters_of Tryz.func199 (by kernel_rfl) rfl us w
theorem enters_w : ∀ us w, (callFunc 200 us).run Tryz.prog w = .ok (.enter 200 us) w := fun us w => enters_of Tryz.func200 (by kernel_rfl) rfl us w
theorem enters_l : ∀ us w, (callFunc 204 us).run Tryz.prog w = .ok (.enter 204 us) w := fun us w => enters_of Tryz.func204 (by kernel_rfl) rfl us w
theorem one_hook {ρ : Nat → Value} {w0 : World} {base : Nat} {f : FuncId} {h : List Zz.AV → Zz.M Zz.AV} (hh : (∀ args, Zz.Fr (h args)) ∧ Zz.HookFn Tryz.prog ρ w0 base f h) : ∀ p ∈ [(f, h)], (∀ args, Zz.Fr (p.2 args)) ∧ Zz.HookFn Tryz.prog ρ w0 base p.1 p.2 := by
  intro p hp
  rcases List.mem_cons.1 hp with rfl | hp
  · exact hh
  · cases hp
section
variable {W0 : World} {S S' : List (Nat × Zz.ABlk)} {l : List UInt8} {wr K Pb : Nat} {w : World}
theorem opq1 {ρ : Nat → Value} {m : Zz.BMap} {u : Value} {k : Nat} (h : Zz.VR ρ m (.opq k) u) : u = ρ k := by cases h; rfl
theorem bool1 {ρ : Nat → Value} {m : Zz.BMap} {u : Value} {b : Bool} (h : Zz.VR ρ m (.bool b) u) : u = .bool b := by cases h; rfl
/-- bytes are read -/
theorem do_rok (hrun : chkR 11 (spE (hkR resOk) aRead S) (rep 0 (.int .i64 0) 0 (.opq 2)) S' = true) (hok : okS S S = true) (hself : Zz.subSt 10 (Zz.stL S 2000) S = true) (hok' : okS S' S' = true) (h1 : Zz.inL 1014 S = true) (h2 : Zz.inL 1900 S = true) (h3 : Zz.inL 1014 S' = true) (h4 : Zz.inL 1900 S' = true)
    (h : Ker W0 S l wr K Pb w) (n : Int) (hn : 0 < n) (hne : l ≠ [] ∨ wr = 0) :
    Calls Tryz.prog 6 #[ptrK K, .int .i64 1, callV 1 3 n [] []] w fun e w' => e = .returned (repV 0 0 0 (l.take n.toNat)) ∧ Ker W0 S' (l.drop n.toNat) wr K Pb w' := by
  have hr : readRes l 1 wr n = (l.take n.toNat, 0) := by
    unfold readRes
    rw [if_neg (by decide), if_neg (by omega), if_neg]
    rintro ⟨a, b, c⟩
    rcases hne with q | q
    · exact q a
    · omega
  have hl : readLeft l 1 n = l.drop n.toNat := by
    unfold readLeft
    rw [if_neg (by omega)]
  refine (ker_do (l' := l.drop n.toNat) (lp := l.drop n.toNat) (wr' := wr) (wrp := wr) (arg := .int .i64 n) (res := .string ⟨(l.take n.toNat).toArray⟩) h hok hself hok' (cellV_int _ _) (cellV_str _) (one_hook (hAbs_ok (x := .opq 1) (pre := 10) (post := 11) (res := resOk) (xv := .int .i64 n) enters_r (fun m u hu => opq1 hu) (read_abs (pre := 10) (post := 11) (res := resOk) rfl rfl hr hl (fun m => ?_)))) hrun rfl rfl h1 h2 h3 h4 (fun m z hm => ?_)).mono ?_
  · exact .tup _ _ (.cons _ _ _ _ (.opq 2) (.cons _ _ _ _ (.int _ _) .nil))
  · exact .cons _ _ _ _ (.ptr _ _ _ _ _ hm) (.cons _ _ _ _ (.int _ _) (.cons _ _ _ _ (.agg _ _ (.cons _ _ _ _ (.int _ _) (.cons _ _ _ _ (.int _ _) (.cons _ _ _ _ (.opq 1) (.cons _ _ _ _ (.str _) (.cons _ _ _ _ (.str _) .nil)))))) .nil))
  · rintro e w' ⟨v', m2, rfl, hv, hK⟩
    obtain ⟨vx, vy, q1, q2, rfl⟩ := rep_inv hv
    cases q1
    have := opq1 q2
    subst this
    exact ⟨rfl, hK⟩
/-- nothing is there yet -/
theorem do_rw (hrun : chkR 11 (spE (hkR resRW) aRead S) (rep 30 (.int .i64 0) 0 (.str [])) S' = true) (hok : okS S S = true) (hself : Zz.subSt 10 (Zz.stL S 2000) S = true) (hok' : okS S' S' = true) (h1 : Zz.inL 1014 S = true) (h2 : Zz.inL 1900 S = true) (h3 : Zz.inL 1014 S' = true) (h4 : Zz.inL 1900 S' = true)
    (h : Ker W0 S [] 1 K Pb w) (n : Int) (hn : 0 < n) :
    Calls Tryz.prog 6 #[ptrK K, .int .i64 1, callV 1 3 n [] []] w fun e w' => e = .returned (repV 30 0 0 []) ∧ Ker W0 S' [] 1 K Pb w' := by
  have hr : readRes [] 1 1 n = ([], 30) := by
    unfold readRes
    rw [if_neg (by decide), if_neg (by omega), if_pos ⟨rfl, by omega, hn⟩]
  have hl : readLeft [] 1 n = [] := by
    unfold readLeft
    split <;> simp
  refine (ker_do (l' := []) (lp := []) (wr' := 1) (wrp := 1) (arg := .int .i64 n) (res := .int .i64 0) h hok hself hok' (cellV_int _ _) (cellV_int _ _) (one_hook (hAbs_ok (x := .opq 1) (pre := 10) (post := 11) (res := resRW) (xv := .int .i64 n) enters_r (fun m u hu => opq1 hu) (read_abs (pre := 10) (post := 11) (res := resRW) rfl rfl hr hl (fun m => ?_)))) hrun rfl rfl h1 h2 h3 h4 (fun m z hm => ?_)).mono ?_
  · exact .tup _ _ (.cons _ _ _ _ (.str _) (.cons _ _ _ _ (.int _ _) .nil))
  · exact .cons _ _ _ _ (.ptr _ _ _ _ _ hm) (.cons _ _ _ _ (.int _ _) (.cons _ _ _ _ (.agg _ _ (.cons _ _ _ _ (.int _ _) (.cons _ _ _ _ (.int _ _) (.cons _ _ _ _ (.opq 1) (.cons _ _ _ _ (.str _) (.cons _ _ _ _ (.str _) .nil)))))) .nil))
  · rintro e w' ⟨v', m2, rfl, hv, hK⟩
    obtain ⟨vx, vy, q1, q2, rfl⟩ := rep_inv hv
    cases q1
    cases q2
    exact ⟨rfl, hK⟩
/-- bytes are written -/
theorem do_wok (hrun : chkR 11 (spE (hkW resOk) aWrite S) (rep 0 (.opq 2) 0 (.str [])) S' = true) (hok : okS S S = true) (hself : Zz.subSt 10 (Zz.stL S 2000) S = true) (hok' : okS S' S' = true) (h1 : Zz.inL 1014 S = true) (h2 : Zz.inL 1900 S = true) (h3 : Zz.inL 1014 S' = true) (h4 : Zz.inL 1900 S' = true)
    (h : Ker W0 S l 1 K Pb w) (s : List UInt8) (hs : s.length ≤ 1000) (hne : l.length ≠ 64) :
    Calls Tryz.prog 6 #[ptrK K, .int .i64 2, callV 2 4 0 [] s] w fun e w' => e = .returned (repV 0 (min s.length (64 - l.length) : Nat) 0 []) ∧ Ker W0 S' (l ++ s.take (64 - l.length)) 1 K Pb w' := by
  have hr : writeRes l 1 1 s = (min s.length (64 - l.length), 0) := by
    unfold writeRes
    rw [if_neg (by decide), if_neg (by decide), if_neg (fun q => hne q.1)]
  have hl : writeLeft l 1 1 s = l ++ s.take (64 - l.length) := by
    unfold writeLeft
    rw [if_neg (by omega)]
  refine (ker_do (l' := l ++ s.take (64 - l.length)) (lp := l ++ s.take (64 - l.length)) (wr' := 1) (wrp := 1) (arg := .string ⟨s.toArray⟩) (res := .int .i64 (min s.length (64 - l.length) : Nat)) h hok hself hok' (cellV_str _) (cellV_int _ _) (one_hook (hAbs_ok (x := .opq 1) (pre := 10) (post := 11) (res := resOk) (xv := .string ⟨s.toArray⟩) enters_w (fun m u hu => opq1 hu) (write_abs (pre := 10) (post := 11) (res := resOk) (by unfold maxLen; omega) rfl rfl hr hl (fun m => ?_)))) hrun rfl rfl h1 h2 h3 h4 (fun m z hm => ?_)).mono ?_
  · exact .tup _ _ (.cons _ _ _ _ (.opq 2) (.cons _ _ _ _ (.int _ _) .nil))
  · exact .cons _ _ _ _ (.ptr _ _ _ _ _ hm) (.cons _ _ _ _ (.int _ _) (.cons _ _ _ _ (.agg _ _ (.cons _ _ _ _ (.int _ _) (.cons _ _ _ _ (.int _ _) (.cons _ _ _ _ (.int _ _) (.cons _ _ _ _ (.str _) (.cons _ _ _ _ (.opq 1) .nil)))))) .nil))
  · rintro e w' ⟨v', m2, rfl, hv, hK⟩
    obtain ⟨vx, vy, q1, q2, rfl⟩ := rep_inv hv
    cases q2
    have := opq1 q1
    subst this
    exact ⟨rfl, hK⟩
/-- the pipe is full -/
theorem do_ww (hrun : chkR 11 (spE (hkW resWW) aWrite S) (rep 30 (.int .i64 0) 0 (.str [])) S' = true) (hok : okS S S = true) (hself : Zz.subSt 10 (Zz.stL S 2000) S = true) (hok' : okS S' S' = true) (h1 : Zz.inL 1014 S = true) (h2 : Zz.inL 1900 S = true) (h3 : Zz.inL 1014 S' = true) (h4 : Zz.inL 1900 S' = true)
    (h : Ker W0 S l 1 K Pb w) (s : List UInt8) (hs : s.length ≤ 1000) (hs0 : s ≠ []) (hfull : l.length = 64) :
    Calls Tryz.prog 6 #[ptrK K, .int .i64 2, callV 2 4 0 [] s] w fun e w' => e = .returned (repV 30 0 0 []) ∧ Ker W0 S' l 1 K Pb w' := by
  have hr : writeRes l 1 1 s = (0, 30) := by
    unfold writeRes
    rw [if_neg (by decide), if_neg (by decide), if_pos ⟨hfull, hs0⟩]
  have hl : writeLeft l 1 1 s = l := by
    unfold writeLeft
    rw [if_neg (by omega), hfull]
    simp
  refine (ker_do (l' := l) (lp := l) (wr' := 1) (wrp := 1) (arg := .string ⟨s.toArray⟩) (res := .int .i64 0) h hok hself hok' (cellV_str _) (cellV_int _ _) (one_hook (hAbs_ok (x := .opq 1) (pre := 10) (post := 11) (res := resWW) (xv := .string ⟨s.toArray⟩) enters_w (fun m u hu => opq1 hu) (write_abs (pre := 10) (post := 11) (res := resWW) (by unfold maxLen; omega) rfl rfl hr hl (fun m => ?_)))) hrun rfl rfl h1 h2 h3 h4 (fun m z hm => ?_)).mono ?_
  · exact .tup _ _ (.cons _ _ _ _ (.int _ _) (.cons _ _ _ _ (.int _ _) .nil))
  · exact .cons _ _ _ _ (.ptr _ _ _ _ _ hm) (.cons _ _ _ _ (.int _ _) (.cons _ _ _ _ (.agg _ _ (.cons _ _ _ _ (.int _ _) (.cons _ _ _ _ (.int _ _) (.cons _ _ _ _ (.int _ _) (.cons _ _ _ _ (.str _) (.cons _ _ _ _ (.opq 1) .nil)))))) .nil))
  · rintro e w' ⟨v', m2, rfl, hv, hK⟩
    obtain ⟨vx, vy, q1, q2, rfl⟩ := rep_inv hv
    cases q1
    cases q2
    exact ⟨rfl, hK⟩
/-- the writer ends -/
theorem do_ex (hrun : chkR 11 (spE hkL aExit S) (rep 0 (.int .i64 0) 0 (.str [])) S' = true) (hok : okS S S = true) (hself : Zz.subSt 10 (Zz.stL S 2000) S = true) (hok' : okS S' S' = true) (h1 : Zz.inL 1014 S = true) (h2 : Zz.inL 1900 S = true) (h3 : Zz.inL 1014 S' = true) (h4 : Zz.inL 1900 S' = true)
    (h : Ker W0 S l 1 K Pb w) :
    Calls Tryz.prog 6 #[ptrK K, .int .i64 2, callV 8 5 0 [] []] w fun e w' => e = .returned (repV 0 0 0 []) ∧ Ker W0 S' l 0 K Pb w' := by
  refine (ker_do (l' := l) (lp := l) (wr' := 0) (wrp := 0) (arg := .int .i64 0) (res := .int .i64 0) h hok hself hok' (cellV_int _ _) (cellV_int _ _) (one_hook (hAbs_ok (x := .bool true) (pre := 10) (post := 11) (res := .int .i64 0) (xv := .bool true) enters_l (fun m u hu => bool1 hu) (leave_abs (pre := 10) (post := 11) (res := .int .i64 0) (wr := 0) (l := l) (by omega) rfl rfl (fun m => ?_)))) hrun rfl rfl h1 h2 h3 h4 (fun m z hm => ?_)).mono ?_
  · exact .int _ _
  · exact .cons _ _ _ _ (.ptr _ _ _ _ _ hm) (.cons _ _ _ _ (.int _ _) (.cons _ _ _ _ (.agg _ _ (.cons _ _ _ _ (.int _ _) (.cons _ _ _ _ (.int _ _) (.cons _ _ _ _ (.int _ _) (.cons _ _ _ _ (.str _) (.cons _ _ _ _ (.str _) .nil)))))) .nil))
  · rintro e w' ⟨v', m2, rfl, hv, hK⟩
    obtain ⟨vx, vy, q1, q2, rfl⟩ := rep_inv hv
    cases q1
    cases q2
    exact ⟨rfl, hK⟩
/-- the writer has ended already -/
theorem do_dex (h : Ker W0 spD l 0 K Pb w) : Calls Tryz.prog 6 #[ptrK K, .int .i64 2, callV 8 5 0 [] []] w fun e w' => e = .returned (repV 23 0 0 []) ∧ Ker W0 spD l 0 K Pb w' := by
  refine (ker_do (l' := l) (lp := l) (wr' := 0) (wrp := 0) (arg := .int .i64 0) (res := .int .i64 0) h ok_D self_D ok_D (cellV_int _ _) (cellV_int _ _) (fun p hp => by cases hp) run_D_ex rfl rfl (by kernel_rfl) (by kernel_rfl) (by kernel_rfl) (by kernel_rfl) (fun m z hm => ?_)).mono ?_
  · exact .cons _ _ _ _ (.ptr _ _ _ _ _ hm) (.cons _ _ _ _ (.int _ _) (.cons _ _ _ _ (.agg _ _ (.cons _ _ _ _ (.int _ _) (.cons _ _ _ _ (.int _ _) (.cons _ _ _ _ (.int _ _) (.cons _ _ _ _ (.str _) (.cons _ _ _ _ (.str _) .nil)))))) .nil))
  · rintro e w' ⟨v', m2, rfl, hv, hK⟩
    obtain ⟨vx, vy, q1, q2, rfl⟩ := rep_inv hv
    cases q1
    cases q2
    exact ⟨rfl, hK⟩
/-- the reader takes the writer up -/
theorem do_wait (h : Ker W0 spD l 0 K Pb w) : Calls Tryz.prog 6 #[ptrK K, .int .i64 1, callV 9 0 0 [] []] w fun e w' => e = .returned (repV 0 2 5 []) ∧ Below W0.heap.size W0 w' := by
  obtain ⟨m, z, z', hst, g1, g2⟩ := h.re ok_D self_D (by kernel_rfl) (by kernel_rfl) (rho (Zz.pipeV l 1 0) (Zz.pipeV l 1 0) (.int .i64 0) (.int .i64 0)) rfl
  obtain ⟨s, e1, e2, e3⟩ := chkR_eq run_D_wait
  have hopq : Zz.Opq (rho (Zz.pipeV l 1 0) (Zz.pipeV l 1 0) (.int .i64 0) (.int .i64 0)) := rho_opq (cellV_pipe _ _ _) (cellV_pipe _ _ _) (cellV_int _ _) (cellV_int _ _)
  obtain ⟨hH, hF⟩ := Zz.hooks_ok (P := Tryz.prog) (ρ := rho (Zz.pipeV l 1 0) (Zz.pipeV l 1 0) (.int .i64 0) (.int .i64 0)) (w0 := W0) (base := W0.heap.size) (l := []) (or := Zz.noOra) (fun p hp => by cases hp) (fun _ _ e => by cases e)
  refine (stands_call (us := #[ptrK K, .int .i64 1, callV 9 0 0 [] []]) follows_mixed hopq hH hF 400 hst e1 e3 ?_ rfl).mono ?_
  · exact .cons _ _ _ _ (.ptr _ _ _ _ _ g1) (.cons _ _ _ _ (.int _ _) (.cons _ _ _ _ (.agg _ _ (.cons _ _ _ _ (.int _ _) (.cons _ _ _ _ (.int _ _) (.cons _ _ _ _ (.int _ _) (.cons _ _ _ _ (.str _) (.cons _ _ _ _ (.str _) .nil)))))) .nil))
  · rintro e w' ⟨m', v', rfl, hv, hE, hs'⟩
    obtain ⟨vx, vy, q1, q2, rfl⟩ := rep_inv hv
    cases q1
    cases q2
    exact ⟨rfl, hs'.rel.old⟩
end
end Go.Proofs.YtckmcajnhobkpaaGreatDoor
