/- conchlaw18.SysNil, by the executor: it returns true at every call and number, in every world, and changes nothing that was there. No condition. -/
import Derived.Test.YtehofjjiaaimdaaGreatDoorExX
import Derived.Test.YtehofjjiaaimdaaGreatDoorBase
import Derived.Test.YtehofjjiaaimdaaGreatDoorOpen
namespace Go.Proofs.YtehofjjiaaimdaaGreatDoor
open Go.RowKit Go.WideShapes

/-- one cell's value -/
def Plain1 (v : Value) : Prop := (∀ cs, v ≠ .agg cs) ∧ ∀ cs, v ≠ .tuple cs
/-- five cells: three numbers and two texts -/
def Five (v : Value) (a : Nat → Value) : Prop := v = .agg #[a 0, a 1, a 2, a 3, a 4] ∧ ∀ k, Plain1 (a k)
theorem open_five {H : Type} {enc : TypeId × Value → H} {P : Program} {W : World} {base : Nat} {t : TypeId} {f0 f1 f2 f3 f4 : Field} {v : Value} {d : DataW H} {ps : List MemPlace} {r : Reach}
    (ht : P.underlying t = some (.struct #[f0, f1, f2, f3, f4])) (h0 : P.underlying f0.type = some (.int .i64)) (h1 : P.underlying f1.type = some (.int .i64)) (h2 : P.underlying f2.type = some (.int .i64)) (h3 : P.underlying f3.type = some .string) (h4 : P.underlying f4.type = some .string)
    (ho : (f0.offset, f1.offset, f2.offset, f3.offset, f4.offset) = (0, 1, 2, 3, 4)) (hc : (P.cellsOf f0.type, P.cellsOf f1.type, P.cellsOf f2.type, P.cellsOf f3.type, P.cellsOf f4.type, P.cellsOf t) = (1, 1, 1, 1, 1, 5))
    (hval : Value.okWide P W r base t v) (h : DataW.Trod enc P W 0 (fun _ => true) true t v d ps) : ∃ a, Five v a := by
  obtain ⟨cs, rfl, hsz⟩ := okWide_struct ht hval
  obtain ⟨fuel, hf⟩ := h
  obtain ⟨xs, n, _, _, hl, hlen, hx⟩ := DataW.trod_struct ht hf
  simp only [Prod.mk.injEq] at ho hc
  obtain ⟨o0, o1, o2, o3, o4⟩ := ho
  obtain ⟨c0, c1, c2, c3, c4, ct⟩ := hc
  simp only [Value.cells] at hl hx
  rw [ct] at hsz
  match xs, hlen with
  | [y0, y1, y2, y3, y4], _ =>
    match cs, hsz with
    | ⟨[z0, z1, z2, z3, z4]⟩, _ =>
      have g0 := hx 0 f0 rfl
      have g1 := hx 1 f1 rfl
      have g2 := hx 2 f2 rfl
      have g3 := hx 3 f3 rfl
      have g4 := hx 4 f4 rfl
      rw [o0, c0] at g0; rw [o1, c1] at g1; rw [o2, c2] at g2; rw [o3, c3] at g3; rw [o4, c4] at g4
      simp only [List.getElem?_cons_zero, List.getElem?_cons_succ] at g0 g1 g2 g3 g4
      obtain ⟨u0, e0, _, _⟩ := DataW.trod_int h0 g0
      obtain ⟨u1, e1, _, _⟩ := DataW.trod_int h1 g1
      obtain ⟨u2, e2, _, _⟩ := DataW.trod_int h2 g2
      obtain ⟨u3, e3, _, _⟩ := DataW.trod_string h3 g3
      obtain ⟨u4, e4, _, _⟩ := DataW.trod_string h4 g4
      simp at e0 e1 e2 e3 e4
      subst e0 e1 e2 e3 e4
      refine ⟨fun k => match k with | 0 => .int .i64 u0 | 1 => .int .i64 u1 | 2 => .int .i64 u2 | 3 => .string u3 | _ => .string u4, rfl, fun k => ?_⟩
      rcases k with _ | _ | _ | _ | k <;> exact ⟨(fun _ h => by cases h), (fun _ h => by cases h)⟩
theorem sys_nil_run : Zz.saysTrue ((Zz.exec Tryz.prog ⟨Zz.hookOf []⟩ 400).call 3 [.agg [.opq 0, .opq 1, .opq 2, .opq 3, .opq 4], .opq 5] Zz.st0) = true := by kernel_rfl
theorem follows_mixed : Tryz.prog.follows .mixedOrders = true := by kernel_rfl
theorem sys_nil (v0 : Value) (a0 : Nat → Value) (l0 : Five v0 a0) (a1 : Int) {p1 : Prop} (_ : p1) (W : World) :
    Calls Tryz.prog 3 #[v0, .int .i64 a1] W fun e w' => e = .returned (.bool true) ∧ Below W.heap.size W w' := by
  obtain ⟨rfl, hp⟩ := l0
  refine Zz.exec_top (ρ := fun k => if k = 5 then .int .i64 a1 else a0 k) follows_mixed (fun k => ?_) W (fun p hp => (by cases hp)) 400
    (.cons _ _ _ _ (.agg _ _ (.cons _ _ _ _ (.opq 0) (.cons _ _ _ _ (.opq 1) (.cons _ _ _ _ (.opq 2) (.cons _ _ _ _ (.opq 3) (.cons _ _ _ _ (.opq 4) .nil)))))) (.cons _ _ _ _ (.opq 5) .nil)) sys_nil_run
  dsimp only
  split
  · exact ⟨(fun _ h => by cases h), (fun _ h => by cases h)⟩
  · exact hp k
end Go.Proofs.YtehofjjiaaimdaaGreatDoor
