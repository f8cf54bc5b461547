/- conchlaw13.NamesNil, by the executor: it returns true at every text and number, in every world, and changes nothing that was there. No condition. -/
import Derived.Test.YtncnbmmmdfekeaaGreatDoorExX
import Derived.Test.YtncnbmmmdfekeaaGreatDoorBase
namespace Go.Proofs.YtncnbmmmdfekeaaGreatDoor
open Go.RowKit

theorem hooks_count : Zz.IsExtern Tryz.prog 119 Extern.BytealgCount.count :=
  ⟨_, Tryz.func119, by kernel_rfl, by kernel_rfl, by kernel_rfl, by kernel_rfl⟩
theorem hooks_index : Zz.IsExtern Tryz.prog 145 Extern.BytealgIndexByte.indexByte :=
  ⟨_, Tryz.func145, by kernel_rfl, by kernel_rfl, by kernel_rfl, by kernel_rfl⟩
theorem names_nil_run : Zz.saysTrue ((Zz.exec Tryz.prog ⟨Zz.hookOf [(119, Zz.hCount), (145, Zz.hIndexByte)]⟩ 400).call 3 [.opq 0, .opq 1] Zz.st0) = true := by kernel_rfl
theorem follows_mixed : Tryz.prog.follows .mixedOrders = true := by kernel_rfl
theorem names_nil (a0 : List UInt8) {p0 : Prop} (_ : p0) (a1 : Int) {p1 : Prop} (_ : p1) (W : World) :
    Calls Tryz.prog 3 #[.string ⟨a0.toArray⟩, .int .i64 a1] W fun e w' => e = .returned (.bool true) ∧ Below W.heap.size W w' := by
  refine Zz.exec_top (ρ := fun k => if k = 0 then .string ⟨a0.toArray⟩ else .int .i64 a1) follows_mixed (fun k => ?_) W (fun p hp => ?_) 400 (.cons _ _ _ _ (.opq 0) (.cons _ _ _ _ (.opq 1) .nil)) names_nil_run
  · dsimp only
    split <;> exact ⟨(fun _ h => by cases h), (fun _ h => by cases h)⟩
  · rcases List.mem_cons.1 hp with rfl | hp
    · exact Zz.hCount_ok hooks_count
    · rcases List.mem_cons.1 hp with rfl | hp
      · exact Zz.hIndexByte_ok hooks_index
      · cases hp
end Go.Proofs.YtncnbmmmdfekeaaGreatDoor
