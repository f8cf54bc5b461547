/- IterL -/
import Derived.Shelf.SlIter.Nil
import Derived.Shelf.SortM.Plain
import Derived.Shelf.SortM.SortNone
import Derived.Ground.GgzProg
import Derived.Ground.SlgmProg
import Derived.Test.YtbecmcjibpamoaaGreatDoorProg
set_option linter.unusedVariables false
set_option linter.unusedSimpArgs false
set_option linter.deprecated false
set_option linter.unnecessarySimpa false
namespace Go.Proofs
open Go.Shelf
def Tryz.keys58_ren : Go.Shelf.Ren := ⟨fun | 7 => 58 | 10 => 105 | n => n, fun | 23 => 76 | 26 => 9 | 3 => 3 | 28 => 111 | 0 => 0 | 27 => 110 | 33 => 52 | 4 => 4 | n => n, fun | n => n⟩
theorem Tryz.keys58 : Go.Proofs.SlLaysZ.n7 Tryz.prog Tryz.keys58_ren := {
  mixed := by kernel_rfl
  f7 := ⟨Tryz.f58.name, by decide, Tryz.func58.trans (congrArg some (by kernel_rfl))⟩
  f10 := ⟨Tryz.f105.name, by decide, Tryz.func105.trans (congrArg some (by kernel_rfl))⟩
  t0 := Tryz.underlying0
  a0 := Tryz.isAgg0
  z0 := Tryz.sizeOf0
  v0 := Tryz.zeroValue0
  t4 := Tryz.underlying4
  a4 := Tryz.isAgg4
  z4 := Tryz.sizeOf4
  v4 := Tryz.zeroValue4
  t23 := Tryz.underlying76
  a23 := Tryz.isAgg76
  z23 := Tryz.sizeOf76
  v23 := Tryz.zeroValue76
  t26 := Tryz.underlying9
  a26 := Tryz.isAgg9
  z26 := Tryz.sizeOf9
  v26 := Tryz.zeroValue9
  t27 := Tryz.underlying110
  a27 := Tryz.isAgg110
  z27 := Tryz.sizeOf110
  v27 := Tryz.zeroValue110
  t28 := Tryz.underlying111
  a28 := Tryz.isAgg111
  z28 := Tryz.sizeOf111
  v28 := Tryz.zeroValue111
  t33 := Tryz.underlying52
  a33 := Tryz.isAgg52
  z33 := Tryz.sizeOf52
  v33 := Tryz.zeroValue52 }
def Tryz.sorted57_ren : Go.Shelf.Ren := ⟨fun | 6 => 57 | 8 => 103 | 9 => 104 | 11 => 145 | 13 => 147 | 12 => 146 | 23 => 189 | 24 => 190 | 14 => 180 | 15 => 181 | 16 => 182 | 17 => 183 | 18 => 184 | 19 => 185 | 20 => 186 | 21 => 187 | 22 => 188 | 25 => 211 | 26 => 212 | 27 => 213 | 28 => 214 | 29 => 215 | 30 => 216 | 31 => 228 | n => n, fun | 26 => 9 | 28 => 111 | 24 => 36 | 0 => 0 | 3 => 3 | 37 => 195 | 48 => 231 | 50 => 206 | 4 => 4 | 40 => 225 | 39 => 224 | 45 => 124 | 5 => 5 | 9 => 9 | 51 => 246 | 55 => 126 | 57 => 263 | 58 => 39 | 33 => 52 | n => n, fun | n => n⟩
theorem Tryz.sorted57 : Go.Proofs.SlLaysZ.n6 Tryz.prog Tryz.sorted57_ren := {
  mixed := by kernel_rfl
  f6 := ⟨Tryz.f57.name, by decide, Tryz.func57.trans (congrArg some (by kernel_rfl))⟩
  f8 := ⟨Tryz.f103.name, by decide, Tryz.func103.trans (congrArg some (by kernel_rfl))⟩
  f11 := ⟨Tryz.f145.name, by decide, Tryz.func145.trans (congrArg some (by kernel_rfl))⟩
  t0 := Tryz.underlying0
  a0 := Tryz.isAgg0
  z0 := Tryz.sizeOf0
  v0 := Tryz.zeroValue0
  t24 := Tryz.underlying36
  a24 := Tryz.isAgg36
  z24 := Tryz.sizeOf36
  v24 := Tryz.zeroValue36
  t26 := Tryz.underlying9
  a26 := Tryz.isAgg9
  z26 := Tryz.sizeOf9
  v26 := Tryz.zeroValue9
  t28 := Tryz.underlying111
  a28 := Tryz.isAgg111
  z28 := Tryz.sizeOf111
  v28 := Tryz.zeroValue111
  i26 := by kernel_rfl }
def Tryz.sort104_ren : Go.Shelf.Ren := ⟨fun | 6 => 104 | 8 => 147 | 9 => 146 | 19 => 189 | 20 => 190 | 21 => 180 | 22 => 181 | 23 => 182 | 24 => 183 | 25 => 184 | 26 => 185 | 27 => 186 | 28 => 187 | 29 => 188 | 36 => 211 | 31 => 212 | 32 => 213 | 37 => 214 | 38 => 215 | 39 => 216 | 41 => 228 | n => n, fun | 27 => 36 | 29 => 9 | 3 => 3 | 32 => 195 | 26 => 36 | 0 => 0 | 44 => 231 | 46 => 206 | 4 => 4 | 36 => 225 | 35 => 224 | 41 => 124 | 5 => 5 | 9 => 9 | 53 => 246 | 57 => 126 | 63 => 263 | 64 => 39 | n => n, fun | n => n⟩
theorem Tryz.sort104 : Go.Proofs.SlLaysM.n6 Tryz.prog Tryz.sort104_ren := {
  mixed := by kernel_rfl
  f6 := ⟨Tryz.f104.name, by decide, Tryz.func104.trans (congrArg some (by kernel_rfl))⟩
  f8 := Tryz.func147.trans (congrArg some (by kernel_rfl))
  f9 := ⟨Tryz.f146.name, by decide, Tryz.func146.trans (congrArg some (by kernel_rfl))⟩
  f19 := Tryz.func189.trans (congrArg some (by kernel_rfl))
  f20 := Tryz.func190.trans (congrArg some (by kernel_rfl))
  f21 := ⟨Tryz.f180.name, by decide, Tryz.func180.trans (congrArg some (by kernel_rfl))⟩
  f22 := ⟨Tryz.f181.name, by decide, Tryz.func181.trans (congrArg some (by kernel_rfl))⟩
  f23 := ⟨Tryz.f182.name, by decide, Tryz.func182.trans (congrArg some (by kernel_rfl))⟩
  f24 := ⟨Tryz.f183.name, by decide, Tryz.func183.trans (congrArg some (by kernel_rfl))⟩
  f25 := ⟨Tryz.f184.name, by decide, Tryz.func184.trans (congrArg some (by kernel_rfl))⟩
  f26 := ⟨Tryz.f185.name, by decide, Tryz.func185.trans (congrArg some (by kernel_rfl))⟩
  f27 := ⟨Tryz.f186.name, by decide, Tryz.func186.trans (congrArg some (by kernel_rfl))⟩
  f28 := ⟨Tryz.f187.name, by decide, Tryz.func187.trans (congrArg some (by kernel_rfl))⟩
  f29 := ⟨Tryz.f188.name, by decide, Tryz.func188.trans (congrArg some (by kernel_rfl))⟩
  f31 := Tryz.func212.trans (congrArg some (by kernel_rfl))
  f32 := Tryz.func213.trans (congrArg some (by kernel_rfl))
  f36 := ⟨Tryz.f211.name, by decide, Tryz.func211.trans (congrArg some (by kernel_rfl))⟩
  f37 := ⟨Tryz.f214.name, by decide, Tryz.func214.trans (congrArg some (by kernel_rfl))⟩
  f38 := ⟨Tryz.f215.name, by decide, Tryz.func215.trans (congrArg some (by kernel_rfl))⟩
  f39 := ⟨Tryz.f216.name, by decide, Tryz.func216.trans (congrArg some (by kernel_rfl))⟩
  f41 := ⟨Tryz.f228.name, by decide, Tryz.func228.trans (congrArg some (by kernel_rfl))⟩
  t0 := Tryz.underlying0
  a0 := Tryz.isAgg0
  z0 := Tryz.sizeOf0
  v0 := Tryz.zeroValue0
  t3 := Tryz.underlying3
  a3 := Tryz.isAgg3
  z3 := Tryz.sizeOf3
  v3 := Tryz.zeroValue3
  t4 := Tryz.underlying4
  a4 := Tryz.isAgg4
  z4 := Tryz.sizeOf4
  v4 := Tryz.zeroValue4
  t5 := Tryz.underlying5
  a5 := Tryz.isAgg5
  z5 := Tryz.sizeOf5
  v5 := Tryz.zeroValue5
  t9 := Tryz.underlying9
  a9 := Tryz.isAgg9
  z9 := Tryz.sizeOf9
  v9 := Tryz.zeroValue9
  t26 := Tryz.underlying36
  a26 := Tryz.isAgg36
  z26 := Tryz.sizeOf36
  v26 := Tryz.zeroValue36
  t27 := Tryz.underlying36
  a27 := Tryz.isAgg36
  z27 := Tryz.sizeOf36
  v27 := Tryz.zeroValue36
  t29 := Tryz.underlying9
  a29 := Tryz.isAgg9
  z29 := Tryz.sizeOf9
  v29 := Tryz.zeroValue9
  t32 := Tryz.underlying195
  a32 := Tryz.isAgg195
  z32 := Tryz.sizeOf195
  v32 := Tryz.zeroValue195
  t35 := Tryz.underlying224
  a35 := Tryz.isAgg224
  z35 := Tryz.sizeOf224
  v35 := Tryz.zeroValue224
  t36 := Tryz.underlying225
  a36 := Tryz.isAgg225
  z36 := Tryz.sizeOf225
  v36 := Tryz.zeroValue225
  t41 := Tryz.underlying124
  a41 := Tryz.isAgg124
  z41 := Tryz.sizeOf124
  v41 := Tryz.zeroValue124
  t44 := Tryz.underlying231
  a44 := Tryz.isAgg231
  z44 := Tryz.sizeOf231
  v44 := Tryz.zeroValue231
  t46 := Tryz.underlying206
  a46 := Tryz.isAgg206
  z46 := Tryz.sizeOf206
  v46 := Tryz.zeroValue206
  t53 := Tryz.underlying246
  a53 := Tryz.isAgg246
  z53 := Tryz.sizeOf246
  v53 := Tryz.zeroValue246
  t57 := Tryz.underlying126
  a57 := Tryz.isAgg126
  z57 := Tryz.sizeOf126
  v57 := Tryz.zeroValue126
  t63 := Tryz.underlying263
  a63 := Tryz.isAgg263
  z63 := Tryz.sizeOf263
  v63 := Tryz.zeroValue263
  t64 := Tryz.underlying39
  a64 := Tryz.isAgg39
  z64 := Tryz.sizeOf39
  v64 := Tryz.zeroValue39 }
end Go.Proofs
