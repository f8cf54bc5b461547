/- conchlaw23.WorldNil, by the executor: it returns true at every list of numbers, in every world that holds the list, and changes nothing that was there. No other condition. -/
import Derived.Test.YtcgcbaiamkbiiaaGreatDoorExY
import Derived.Test.YtcgcbaiamkbiiaaGreatDoorBase
import Derived.Test.YtcgcbaiamkbiiaaGreatDoorOpen
namespace Go.Proofs.YtcgcbaiamkbiiaaGreatDoor
open Go.RowKit Go.WideShapes

/-- a list of n numbers of the caller's; z is the first -/
def Nums (W : World) (v : Value) (n : Nat) (z : Int) : Prop :=
  ∃ p c, v = .slice p n c ∧ (0 < n → ∃ b off, p = some ⟨b, off, none⟩ ∧ b < W.heap.size ∧ W.cell? ⟨b, off, none⟩ = some (.int .i64 z))
theorem open_nums {H : Type} {enc : TypeId × Value → H} {P : Program} {W : World} {base : Nat} {t e : TypeId} {v : Value} {d : DataW H} {ps : List MemPlace} {r : Reach}
    (ht : P.underlying t = some (.slice e)) (he : P.underlying e = some (.int .i64)) (hc : P.cellsOf e = 1)
    (hval : Value.okWide P W r base t v) (h : DataW.Trod enc P W 0 (fun _ => true) true t v d ps) : ∃ n z, Nums W v n z := by
  obtain ⟨a0, len, cap, rfl⟩ := okWide_slice ht hval
  obtain ⟨fuel, hf⟩ := h
  rcases Go.Deep.open_slice ht hf with ⟨hcs, _⟩ | ⟨a, l, c, m, k, D, Pl, hcs, _, hl, hm, hmm, _, hx⟩
  · simp [Value.cells] at hcs
    obtain ⟨rfl, rfl, rfl⟩ := hcs
    exact ⟨0, 0, none, 0, rfl, fun h => absurd h (by omega)⟩
  · simp [Value.cells] at hcs
    obtain ⟨rfl, rfl, rfl⟩ := hcs
    simp only [if_true] at hmm
    by_cases h0 : 0 < len
    · obtain ⟨cs, h1, h2⟩ := hx 0 (by omega)
      rw [hc] at h1
      obtain ⟨_, hlen, hcell⟩ := World.cells?_some h1
      match cs, hlen with
      | [c0], _ =>
        obtain ⟨z0, e0, _, w0⟩ := DataW.trod_int he h2
        simp at e0
        subst e0
        have g0 := hcell 0 (by omega)
        have g0' : W.cell? a = some (.int .i64 z0) := by simpa [Addr.add] using g0
        have ha : a = ⟨a.block, a.off, none⟩ := cell_plain g0'
        refine ⟨len, z0, some a, cap, rfl, fun _ => ⟨a.block, a.off, by rw [← ha], World.block_lt_of_cell? W a g0', by rw [← ha]; exact g0'⟩⟩
    · exact ⟨len, 0, some a, cap, rfl, fun h => absurd h h0⟩
theorem hooks_count : Zz.IsExtern Tryz.prog 244 Extern.BytealgCount.count :=
  ⟨_, Tryz.func244, by kernel_rfl, by kernel_rfl, by kernel_rfl, by kernel_rfl⟩
theorem hooks_index : Zz.IsExtern Tryz.prog 219 Extern.BytealgIndexByte.indexByte :=
  ⟨_, Tryz.func219, by kernel_rfl, by kernel_rfl, by kernel_rfl, by kernel_rfl⟩
/-- more than 100 -/
def oraMany : Zz.Q → Option Zz.AV
  | .len 22 0 => some (.opq 1)
  | .bin .gtr (.opq 1) (.int .i64 (.ofNat 100)) => some (.bool true)
  | _ => none
/-- none -/
def oraNone : Zz.Q → Option Zz.AV
  | .len 22 0 => some (.int .i64 0)
  | _ => none
/-- some, and no more than 100 -/
def oraSome : Zz.Q → Option Zz.AV
  | .len 22 0 => some (.opq 1)
  | .bin .gtr (.opq 1) (.int .i64 (.ofNat 100)) => some (.bool false)
  | .bin .eql (.opq 1) (.int .i64 (.ofNat 0)) => some (.bool false)
  | .bin .rem (.int .i64 (.ofNat 0)) (.opq 1) => some (.int .i64 0)
  | .idx 22 0 0 => some (.opq 2)
  | .load 3 2 => some (.opq 3)
  | _ => none
theorem run_many : Zz.saysTrue ((Zz.exec Tryz.prog ⟨Zz.hookOf [(244, Zz.hCount), (219, Zz.hIndexByte)], oraMany⟩ 400).call 3 [.opq 0] Zz.st0) = true := by kernel_rfl
theorem run_none : Zz.saysTrue ((Zz.exec Tryz.prog ⟨Zz.hookOf [(244, Zz.hCount), (219, Zz.hIndexByte)], oraNone⟩ 400).call 3 [.opq 0] Zz.st0) = true := by kernel_rfl
theorem run_some : Zz.saysTrue ((Zz.exec Tryz.prog ⟨Zz.hookOf [(244, Zz.hCount), (219, Zz.hIndexByte)], oraSome⟩ 400).call 3 [.opq 0] Zz.st0) = true := by kernel_rfl
theorem follows_mixed : Tryz.prog.follows .mixedOrders = true := by kernel_rfl
theorem und_ints : Tryz.prog.underlying 22 = some (.slice 3) := Tryz.underlying22
theorem size_int : Zz.sizeT Tryz.prog 3 = some 1 := by kernel_rfl
theorem agg_int : Zz.isAggT Tryz.prog 3 = some false := by kernel_rfl
/-- what the executor's unknown values are -/
def rho (v : Value) (n : Nat) (p : Addr) (z : Int) : Nat → Value
  | 0 => v
  | 1 => .int .i64 n
  | 2 => .pointer (some p)
  | _ => .int .i64 z
theorem opq_rho {p : Option Addr} {n c : Nat} {q : Addr} {z : Int} : Zz.Opq (rho (.slice p n c) n q z) := fun k => by
  match k with
  | 0 => exact ⟨(fun _ h => by cases h), (fun _ h => by cases h)⟩
  | 1 => exact ⟨(fun _ h => by cases h), (fun _ h => by cases h)⟩
  | 2 => exact ⟨(fun _ h => by cases h), (fun _ h => by cases h)⟩
  | k + 3 => exact ⟨(fun _ h => by cases h), (fun _ h => by cases h)⟩
theorem one_rho {v : Value} {n : Nat} {q : Addr} {z : Int} {m : Zz.BMap} {u : Value} (h : Zz.VR (rho v n q z) m (.opq 1) u) : Zz.VR (rho v n q z) m (.int .i64 n) u := by
  cases h
  exact .int _ _
theorem world_nil (W : World) (v : Value) (n : Nat) (z : Int) (hv : Nums W v n z) :
    Calls Tryz.prog 3 #[v] W fun e w' => e = .returned (.bool true) ∧ Below W.heap.size W w' := by
  obtain ⟨p, c, rfl, hp⟩ := hv
  have hk : ∀ ρ, ∀ p ∈ ([(244, Zz.hCount), (219, Zz.hIndexByte)] : List (FuncId × (List Zz.AV → Zz.M Zz.AV))), (∀ args, Zz.Fr (p.2 args)) ∧ Zz.HookFn Tryz.prog ρ W W.heap.size p.1 p.2 := fun ρ p hp => by
    rcases List.mem_cons.1 hp with rfl | hp
    · exact Zz.hCount_ok hooks_count
    · rcases List.mem_cons.1 hp with rfl | hp
      · exact Zz.hIndexByte_ok hooks_index
      · cases hp
  by_cases h100 : 100 < n
  · refine Zz.exec_top_ora (ρ := rho (.slice p n c) n ⟨0, 0, none⟩ 0) follows_mixed opq_rho W (hk _) (fun q r hq => ?_) 400 (.cons _ _ _ _ (.opq 0) .nil) run_many
    unfold oraMany at hq
    split at hq
    · cases hq; exact Zz.ora_len und_ints rfl (fun m => .opq 1)
    · cases hq
      refine Zz.ora_bin (x' := .int .i64 n) (y' := .int .i64 100) (fun m u h => one_rho h) (fun m u h => h) (fun _ _ _ => rfl) (fun t st => ?_)
      simp only [Zz.binA]
      show (bif (IntKind.i64 == IntKind.i64) then Zz.opt (some (Zz.AV.bool (decide ((n : Int) > 100)))) else Zz.fail) st = _
      rw [show decide ((n : Int) > 100) = true by simp; omega]
      rfl
    · cases hq
  · by_cases h0 : 0 < n
    · obtain ⟨b, off, rfl, hb, hcell⟩ := hp h0
      refine Zz.exec_top_ora (ρ := rho (.slice (some ⟨b, off, none⟩) n c) n ⟨b, off, none⟩ z) follows_mixed opq_rho W (hk _) (fun q r hq => ?_) 400 (.cons _ _ _ _ (.opq 0) .nil) run_some
      unfold oraSome at hq
      split at hq
      · cases hq; exact Zz.ora_len und_ints rfl (fun m => .opq 1)
      · cases hq
        refine Zz.ora_bin (x' := .int .i64 n) (y' := .int .i64 100) (fun m u h => one_rho h) (fun m u h => h) (fun _ _ _ => rfl) (fun t st => ?_)
        show (bif (IntKind.i64 == IntKind.i64) then Zz.opt (some (Zz.AV.bool (decide ((n : Int) > 100)))) else Zz.fail) st = _
        rw [show decide ((n : Int) > 100) = false by simp; omega]
        rfl
      · cases hq
        refine Zz.ora_bin (x' := .int .i64 n) (y' := .int .i64 0) (fun m u h => one_rho h) (fun m u h => h) (fun _ _ _ => rfl) (fun t st => ?_)
        show (bif (IntKind.i64 == IntKind.i64) then Zz.opt (some (Zz.AV.bool ((n : Int) == 0))) else Zz.fail) st = _
        rw [show ((n : Int) == 0) = false by simp; omega]
        rfl
      · cases hq
        refine Zz.ora_bin (x' := .int .i64 0) (y' := .int .i64 n) (fun m u h => h) (fun m u h => one_rho h) (fun _ _ _ => rfl) (fun t st => ?_)
        show (bif (IntKind.i64 == IntKind.i64) then Zz.opt (bif Zz.eqInt n 0 then none else some (Zz.AV.int .i64 ((0 : Int).tmod n))) else Zz.fail) st = _
        rw [show Zz.eqInt n 0 = false by (unfold Zz.eqInt; cases n with | zero => omega | succ k => rfl), Int.zero_tmod]
        rfl
      · cases hq; exact Zz.ora_idx und_ints size_int rfl h0 (fun m => by rw [show off + 0 * 1 = off by omega]; exact Zz.VR.opq 2)
      · cases hq; exact Zz.ora_load agg_int rfl hb hcell (fun m => .opq 3)
      · cases hq
    · have hn : n = 0 := by omega
      subst hn
      refine Zz.exec_top_ora (ρ := rho (.slice p 0 c) 0 ⟨0, 0, none⟩ 0) follows_mixed opq_rho W (hk _) (fun q r hq => ?_) 400 (.cons _ _ _ _ (.opq 0) .nil) run_none
      unfold oraNone at hq
      split at hq
      · cases hq; exact Zz.ora_len und_ints rfl (fun m => .int _ _)
      · cases hq
end Go.Proofs.YtcgcbaiamkbiiaaGreatDoor
