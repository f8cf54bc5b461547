/-
  DERIVED: THE SHELF's CONTRACTS AT THIS DUMP, IN PLAIN WORDS (tools/lay-plain.mjs out of 'TryzShelf.lean', which tools/lay-shelf.mjs wrote): THE SAME DECLARATIONS UNDER THE SAME NAMES: 'import', 'namespace', 'open', 'def', 'theorem' AND NOTHING ELSE: no command of the shelf's: FOR A HAND-IN. Each laying: the table of numbers ('.._ren') and one theorem, a field a fact of the dump's own or the kernel's comparison; each contract: ONE APPLICATION.
-/
import Derived.Shelf.Small.Utf8
import Derived.Shelf.Small.Strs
import Derived.Shelf.Strings.Search1
import Derived.Shelf.Strings.Search2
import Derived.Shelf.Strings.Search3
import Derived.Shelf.Strings.Count
import Derived.Shelf.LaysM
import Derived.Shelf.Strings.Shaped
import Derived.Shelf.Sort.Plain
import Derived.Shelf.Strings.Runes
import Derived.Shelf.Strings.AsciiSet
import Derived.Shelf.Unicode.DecodeSlow
import Derived.Shelf.Slices.In.SortNone
import Derived.Test.YtelohloaoocoaaaGreatDoorProg
namespace Go.Proofs
open Go.Shelf
def Tryz.lays189_ren : Go.Shelf.Ren := ⟨fun | 189 => 46 | 125 => 68 | 257 => 67 | 128 => 102 | 129 => 103 | 294 => 93 | 295 => 94 | 296 => 95 | 297 => 96 | 298 => 97 | 299 => 98 | 216 => 99 | 300 => 100 | 301 => 101 | 328 => 128 | 329 => 129 | 330 => 130 | 331 => 131 | 332 => 132 | 215 => 133 | 343 => 174 | n => n, fun | 28 => 22 | 3 => 3 | 46 => 178 | 0 => 0 | 51 => 213 | 53 => 215 | 4 => 4 | 183 => 206 | 182 => 205 | 131 => 52 | 5 => 5 | 9 => 9 | 218 => 249 | 222 => 253 | 228 => 298 | 229 => 299 | n => n, fun | n => n⟩
theorem Tryz.lays189 : Go.Proofs.Lays.n189 Tryz.prog Tryz.lays189_ren := {
  mixed := by kernel_rfl
  f125 := Tryz.func68.trans (congrArg some (by kernel_rfl))
  f128 := Tryz.func102.trans (congrArg some (by kernel_rfl))
  f129 := Tryz.func103.trans (congrArg some (by kernel_rfl))
  f189 := Tryz.func46.trans (congrArg some (by kernel_rfl))
  f215 := Tryz.func133.trans (congrArg some (by kernel_rfl))
  f216 := Tryz.func99.trans (congrArg some (by kernel_rfl))
  f257 := Tryz.func67.trans (congrArg some (by kernel_rfl))
  f294 := Tryz.func93.trans (congrArg some (by kernel_rfl))
  f295 := Tryz.func94.trans (congrArg some (by kernel_rfl))
  f296 := Tryz.func95.trans (congrArg some (by kernel_rfl))
  f297 := Tryz.func96.trans (congrArg some (by kernel_rfl))
  f298 := Tryz.func97.trans (congrArg some (by kernel_rfl))
  f299 := Tryz.func98.trans (congrArg some (by kernel_rfl))
  f300 := Tryz.func100.trans (congrArg some (by kernel_rfl))
  f301 := Tryz.func101.trans (congrArg some (by kernel_rfl))
  f328 := Tryz.func128.trans (congrArg some (by kernel_rfl))
  f329 := Tryz.func129.trans (congrArg some (by kernel_rfl))
  f330 := Tryz.func130.trans (congrArg some (by kernel_rfl))
  f331 := Tryz.func131.trans (congrArg some (by kernel_rfl))
  f332 := Tryz.func132.trans (congrArg some (by kernel_rfl))
  f343 := Tryz.func174.trans (congrArg some (by kernel_rfl))
  t0 := Tryz.underlying0
  a0 := Tryz.isAgg0
  z0 := Tryz.sizeOf0
  v0 := Tryz.zeroValue0
  t3 := Tryz.underlying3
  a3 := Tryz.isAgg3
  z3 := Tryz.sizeOf3
  v3 := Tryz.zeroValue3
  t4 := Tryz.underlying4
  a4 := Tryz.isAgg4
  z4 := Tryz.sizeOf4
  v4 := Tryz.zeroValue4
  t5 := Tryz.underlying5
  a5 := Tryz.isAgg5
  z5 := Tryz.sizeOf5
  v5 := Tryz.zeroValue5
  t9 := Tryz.underlying9
  a9 := Tryz.isAgg9
  z9 := Tryz.sizeOf9
  v9 := Tryz.zeroValue9
  t28 := Tryz.underlying22
  a28 := Tryz.isAgg22
  z28 := Tryz.sizeOf22
  v28 := Tryz.zeroValue22
  t46 := Tryz.underlying178
  a46 := Tryz.isAgg178
  z46 := Tryz.sizeOf178
  v46 := Tryz.zeroValue178
  t51 := Tryz.underlying213
  a51 := Tryz.isAgg213
  z51 := Tryz.sizeOf213
  v51 := Tryz.zeroValue213
  t53 := Tryz.underlying215
  a53 := Tryz.isAgg215
  z53 := Tryz.sizeOf215
  v53 := Tryz.zeroValue215
  t131 := Tryz.underlying52
  a131 := Tryz.isAgg52
  z131 := Tryz.sizeOf52
  v131 := Tryz.zeroValue52
  t182 := Tryz.underlying205
  a182 := Tryz.isAgg205
  z182 := Tryz.sizeOf205
  v182 := Tryz.zeroValue205
  t183 := Tryz.underlying206
  a183 := Tryz.isAgg206
  z183 := Tryz.sizeOf206
  v183 := Tryz.zeroValue206
  t218 := Tryz.underlying249
  a218 := Tryz.isAgg249
  z218 := Tryz.sizeOf249
  v218 := Tryz.zeroValue249
  t222 := Tryz.underlying253
  a222 := Tryz.isAgg253
  z222 := Tryz.sizeOf253
  v222 := Tryz.zeroValue253
  t228 := Tryz.underlying298
  a228 := Tryz.isAgg298
  z228 := Tryz.sizeOf298
  v228 := Tryz.zeroValue298
  t229 := Tryz.underlying299
  a229 := Tryz.isAgg299
  z229 := Tryz.sizeOf299
  v229 := Tryz.zeroValue299 }
open Go.Sort Go.RowKit in
theorem Tryz.slices_Sort_int (blk off cap : Nat) (zs : List Int) (w : World) (hH : Holds (Value.int .i64) w blk off zs.toArray) (hblk : blk < w.heap.size) (hsz : zs.length < 4611686018427387904) :
    Calls Tryz.prog 46 #[.slice (some ⟨blk, off, none⟩) zs.length cap] w fun e w' =>
      e = .returned (.tuple #[]) ∧ ∃ n os, w' = grow (putRow (Value.int .i64) (Sort.ahead w n) blk off (zs.mergeSort fun x y => decide (x ≤ y)).toArray) os := Any.slices_Sort_int Tryz.lays189 blk off cap zs w hH hblk hsz
open Go.RowKit Go.Sort in
/-- .. and plain. (LAID: no walk: one application.) -/
theorem Tryz.slices_Sort_int_none (p : Option Addr) (cap : Nat) (w : World) :
    Calls Tryz.prog 46 #[.slice p 0 cap] w fun e w' => e = .returned (.tuple #[]) ∧ w' = w := Any.slices_Sort_int_none Tryz.lays189 p cap w
end Go.Proofs
