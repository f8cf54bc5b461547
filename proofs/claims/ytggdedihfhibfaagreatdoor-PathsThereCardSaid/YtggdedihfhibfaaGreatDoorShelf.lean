/-
  DERIVED: THE SHELF's CONTRACTS AT THIS DUMP, IN PLAIN WORDS (tools/lay-plain.mjs out of 'TryzShelf.lean', which tools/lay-shelf.mjs wrote): THE SAME DECLARATIONS UNDER THE SAME NAMES: 'import', 'namespace', 'open', 'def', 'theorem' AND NOTHING ELSE: no command of the shelf's: FOR A HAND-IN. Each laying: the table of numbers ('.._ren') and one theorem, a field a fact of the dump's own or the kernel's comparison; each contract: ONE APPLICATION.
-/
import Derived.Shelf.Strings.Builder1
import Derived.Shelf.Strings.Trim
import Derived.Shelf.Small.Utf8
import Derived.Shelf.Small.Strs
import Derived.Shelf.Small.Wraps
import Derived.Shelf.Strconv.Itoa0
import Derived.Shelf.Strings.Search1
import Derived.Shelf.Strings.Search2
import Derived.Shelf.Strings.Search3
import Derived.Shelf.Strings.Count
import Derived.Shelf.LaysM
import Derived.Shelf.Strings.Shaped
import Derived.Shelf.Strings.LastIndex
import Derived.Shelf.Strings.Prefix
import Derived.Shelf.Strings.Split
import Derived.Shelf.Strings.Runes
import Derived.Shelf.Strings.AsciiSet
import Derived.Shelf.Unicode.DecodeSlow
import Derived.Shelf.Slices.In.SortNone
import Derived.Test.YtggdedihfhibfaaGreatDoorProg
namespace Go.Proofs
open Go.Shelf
def Tryz.lays162_ren : Go.Shelf.Ren := ⟨fun | 162 => 153 | 232 => 168 | 227 => 169 | 234 => 170 | 236 => 171 | 228 => 183 | 271 => 184 | 151 => 185 | 120 => 190 | 197 => 158 | 152 => 191 | 260 => 174 | 137 => 192 | 119 => 193 | 224 => 177 | 225 => 176 | 217 => 175 | 266 => 186 | n => n, fun | 9 => 9 | 4 => 4 | 3 => 3 | 5 => 5 | 117 => 259 | 116 => 258 | 0 => 0 | 124 => 262 | 21 => 21 | 105 => 245 | 46 => 123 | 119 => 267 | 139 => 270 | 138 => 269 | n => n, fun | 3 => 2 | 4 => 3 | n => n⟩
theorem Tryz.lays162 : Go.Proofs.Lays.n162 Tryz.prog Tryz.lays162_ren := {
  mixed := by kernel_rfl
  f119 := Tryz.func193.trans (congrArg some (by kernel_rfl))
  f120 := Tryz.func190.trans (congrArg some (by kernel_rfl))
  f137 := Tryz.func192.trans (congrArg some (by kernel_rfl))
  f151 := Tryz.func185.trans (congrArg some (by kernel_rfl))
  f152 := Tryz.func191.trans (congrArg some (by kernel_rfl))
  f162 := Tryz.func153.trans (congrArg some (by kernel_rfl))
  f197 := Tryz.func158.trans (congrArg some (by kernel_rfl))
  f217 := Tryz.func175.trans (congrArg some (by kernel_rfl))
  f224 := Tryz.func177.trans (congrArg some (by kernel_rfl))
  f225 := Tryz.func176.trans (congrArg some (by kernel_rfl))
  f227 := Tryz.func169.trans (congrArg some (by kernel_rfl))
  f228 := Tryz.func183.trans (congrArg some (by kernel_rfl))
  f232 := Tryz.func168.trans (congrArg some (by kernel_rfl))
  f234 := Tryz.func170.trans (congrArg some (by kernel_rfl))
  f236 := Tryz.func171.trans (congrArg some (by kernel_rfl))
  f260 := Tryz.func174.trans (congrArg some (by kernel_rfl))
  f266 := Tryz.func186.trans (congrArg some (by kernel_rfl))
  f271 := Tryz.func184.trans (congrArg some (by kernel_rfl))
  t0 := Tryz.underlying0
  a0 := Tryz.isAgg0
  z0 := Tryz.sizeOf0
  v0 := Tryz.zeroValue0
  t3 := Tryz.underlying3
  a3 := Tryz.isAgg3
  z3 := Tryz.sizeOf3
  v3 := Tryz.zeroValue3
  t4 := Tryz.underlying4
  a4 := Tryz.isAgg4
  z4 := Tryz.sizeOf4
  v4 := Tryz.zeroValue4
  t5 := Tryz.underlying5
  a5 := Tryz.isAgg5
  z5 := Tryz.sizeOf5
  v5 := Tryz.zeroValue5
  t9 := Tryz.underlying9
  a9 := Tryz.isAgg9
  z9 := Tryz.sizeOf9
  v9 := Tryz.zeroValue9
  t21 := Tryz.underlying21
  a21 := Tryz.isAgg21
  z21 := Tryz.sizeOf21
  v21 := Tryz.zeroValue21
  t46 := Tryz.underlying123
  a46 := Tryz.isAgg123
  z46 := Tryz.sizeOf123
  v46 := Tryz.zeroValue123
  t105 := Tryz.underlying245
  a105 := Tryz.isAgg245
  z105 := Tryz.sizeOf245
  v105 := Tryz.zeroValue245
  t116 := Tryz.underlying258
  a116 := Tryz.isAgg258
  z116 := Tryz.sizeOf258
  t117 := Tryz.underlying259
  a117 := Tryz.isAgg259
  z117 := Tryz.sizeOf259
  v117 := Tryz.zeroValue259
  t119 := Tryz.underlying267
  a119 := Tryz.isAgg267
  z119 := Tryz.sizeOf267
  t124 := Tryz.underlying262
  a124 := Tryz.isAgg262
  z124 := Tryz.sizeOf262
  v124 := Tryz.zeroValue262
  t138 := Tryz.underlying269
  a138 := Tryz.isAgg269
  z138 := Tryz.sizeOf269
  v138 := Tryz.zeroValue269
  t139 := Tryz.underlying270
  a139 := Tryz.isAgg270
  z139 := Tryz.sizeOf270
  v139 := Tryz.zeroValue270
  g3 := by kernel_rfl
  g4 := by kernel_rfl }
open Go.RowKit in
/-- strings.TrimRight: "TrimRight returns a slice of the string s, with all trailing Unicode code points contained in cutset removed.": AT A cutset OF ONE ASCII BYTE. The world is as it was. (LAID: no walk: one application.) -/
theorem Tryz.strings_TrimRight_one (s : ByteArray) (c : UInt8) (hc : c.toNat < 128) (w : World) (hs : s.size ≤ 9223372036854775807) :
    Calls Tryz.prog 153 #[.string s, .string ⟨#[c]⟩] w fun e w' => e = .returned (.string ⟨(Lib.trimRightB s.data.toList c).toArray⟩) ∧ w' = w := Any.strings_TrimRight_one Tryz.lays162 s c hc w hs
def Tryz.lays103_ren : Go.Shelf.Ren := ⟨fun | 103 => 71 | 210 => 116 | 206 => 149 | n => n, fun | 9 => 9 | 4 => 4 | 24 => 134 | 3 => 3 | n => n, fun | n => n⟩
theorem Tryz.lays103 : Go.Proofs.Lays.n103 Tryz.prog Tryz.lays103_ren := {
  mixed := by kernel_rfl
  f103 := Tryz.func71.trans (congrArg some (by kernel_rfl))
  f206 := Tryz.func149.trans (congrArg some (by kernel_rfl))
  f210 := Tryz.func116.trans (congrArg some (by kernel_rfl))
  t3 := Tryz.underlying3
  a3 := Tryz.isAgg3
  z3 := Tryz.sizeOf3
  v3 := Tryz.zeroValue3
  t4 := Tryz.underlying4
  a4 := Tryz.isAgg4
  z4 := Tryz.sizeOf4
  v4 := Tryz.zeroValue4
  t9 := Tryz.underlying9
  a9 := Tryz.isAgg9
  z9 := Tryz.sizeOf9
  v9 := Tryz.zeroValue9
  t24 := Tryz.underlying134
  a24 := Tryz.isAgg134
  z24 := Tryz.sizeOf134
  v24 := Tryz.zeroValue134 }
open Go.RowKit in
/-- strings.CutPrefix: "CutPrefix returns s without the provided leading prefix string and reports whether it found the prefix. If s doesn't start with prefix, CutPrefix returns s, false. If prefix is the empty string, CutPrefix returns s, true.": IT RETURNS '(Lib.trimPrefix s p, Lib.hasPrefix s p)'; the world is as it was. (LAID: no walk: one application.) -/
theorem Tryz.strings_CutPrefix (s p : ByteArray) (w : World) :
    Calls Tryz.prog 71 #[.string s, .string p] w fun e w' => e = .returned (.tuple #[.string ⟨(Lib.trimPrefix s.data.toList p.data.toList).toArray⟩, .bool (Lib.hasPrefix s.data.toList p.data.toList)]) ∧ w' = w := Any.strings_CutPrefix Tryz.lays103 s p w
def Tryz.lays149_ren : Go.Shelf.Ren := ⟨fun | 149 => 154 | 222 => 172 | n => n, fun | 9 => 9 | 5 => 5 | 3 => 3 | 4 => 4 | n => n, fun | n => n⟩
theorem Tryz.lays149 : Go.Proofs.Lays.n149 Tryz.prog Tryz.lays149_ren := {
  mixed := by kernel_rfl
  f149 := Tryz.func154.trans (congrArg some (by kernel_rfl))
  f222 := Tryz.func172.trans (congrArg some (by kernel_rfl))
  t3 := Tryz.underlying3
  a3 := Tryz.isAgg3
  z3 := Tryz.sizeOf3
  v3 := Tryz.zeroValue3
  t4 := Tryz.underlying4
  a4 := Tryz.isAgg4
  z4 := Tryz.sizeOf4
  v4 := Tryz.zeroValue4
  t5 := Tryz.underlying5
  a5 := Tryz.isAgg5
  z5 := Tryz.sizeOf5
  v5 := Tryz.zeroValue5
  t9 := Tryz.underlying9
  a9 := Tryz.isAgg9
  z9 := Tryz.sizeOf9
  v9 := Tryz.zeroValue9 }
open Go.RowKit Go.Lib in
/-- strings.LastIndexByte: "LastIndexByte returns the index of the last instance of c in s, or -1 if c is not present in s." (LAID: no walk: one application.) -/
theorem Tryz.strings_LastIndexByte (s : ByteArray) (c : Int) (hs : s.size < 4611686018427387904) (w : World) :
    Calls Tryz.prog 154 #[.string s, .int .u8 c] w fun e w' => e = .returned (.int .i64 (Lib.lastIndexByte s c)) ∧ w' = w := Any.strings_LastIndexByte Tryz.lays149 s c hs w
def Tryz.lays146_ren : Go.Shelf.Ren := ⟨fun | 146 => 59 | 221 => 100 | 268 => 137 | 138 => 138 | 143 => 139 | 195 => 157 | 197 => 158 | 218 => 159 | 219 => 160 | 260 => 174 | 217 => 175 | 225 => 176 | 224 => 177 | 267 => 178 | 266 => 186 | 314 => 187 | n => n, fun | 9 => 9 | 31 => 32 | 3 => 3 | 4 => 4 | 0 => 0 | 105 => 245 | 21 => 21 | 5 => 5 | 46 => 123 | 119 => 267 | 139 => 270 | 138 => 269 | 146 => 271 | 51 => 182 | n => n, fun | 1 => 0 | 3 => 2 | 4 => 3 | n => n⟩
theorem Tryz.lays146 : Go.Proofs.Lays.n146 Tryz.prog Tryz.lays146_ren := {
  mixed := by kernel_rfl
  f138 := Tryz.func138.trans (congrArg some (by kernel_rfl))
  f143 := Tryz.func139.trans (congrArg some (by kernel_rfl))
  f146 := Tryz.func59.trans (congrArg some (by kernel_rfl))
  f195 := Tryz.func157.trans (congrArg some (by kernel_rfl))
  f197 := Tryz.func158.trans (congrArg some (by kernel_rfl))
  f217 := Tryz.func175.trans (congrArg some (by kernel_rfl))
  f218 := Tryz.func159.trans (congrArg some (by kernel_rfl))
  f219 := Tryz.func160.trans (congrArg some (by kernel_rfl))
  f221 := Tryz.func100.trans (congrArg some (by kernel_rfl))
  f224 := Tryz.func177.trans (congrArg some (by kernel_rfl))
  f225 := Tryz.func176.trans (congrArg some (by kernel_rfl))
  f260 := Tryz.func174.trans (congrArg some (by kernel_rfl))
  f266 := Tryz.func186.trans (congrArg some (by kernel_rfl))
  f267 := Tryz.func178.trans (congrArg some (by kernel_rfl))
  f268 := Tryz.func137.trans (congrArg some (by kernel_rfl))
  f314 := Tryz.func187.trans (congrArg some (by kernel_rfl))
  t0 := Tryz.underlying0
  a0 := Tryz.isAgg0
  z0 := Tryz.sizeOf0
  v0 := Tryz.zeroValue0
  t3 := Tryz.underlying3
  a3 := Tryz.isAgg3
  z3 := Tryz.sizeOf3
  v3 := Tryz.zeroValue3
  t4 := Tryz.underlying4
  a4 := Tryz.isAgg4
  z4 := Tryz.sizeOf4
  v4 := Tryz.zeroValue4
  t5 := Tryz.underlying5
  a5 := Tryz.isAgg5
  z5 := Tryz.sizeOf5
  v5 := Tryz.zeroValue5
  t9 := Tryz.underlying9
  a9 := Tryz.isAgg9
  z9 := Tryz.sizeOf9
  v9 := Tryz.zeroValue9
  t21 := Tryz.underlying21
  a21 := Tryz.isAgg21
  z21 := Tryz.sizeOf21
  v21 := Tryz.zeroValue21
  t31 := Tryz.underlying32
  a31 := Tryz.isAgg32
  z31 := Tryz.sizeOf32
  v31 := Tryz.zeroValue32
  t46 := Tryz.underlying123
  a46 := Tryz.isAgg123
  z46 := Tryz.sizeOf123
  v46 := Tryz.zeroValue123
  t51 := Tryz.underlying182
  a51 := Tryz.isAgg182
  z51 := Tryz.sizeOf182
  v51 := Tryz.zeroValue182
  t105 := Tryz.underlying245
  a105 := Tryz.isAgg245
  z105 := Tryz.sizeOf245
  v105 := Tryz.zeroValue245
  t119 := Tryz.underlying267
  a119 := Tryz.isAgg267
  z119 := Tryz.sizeOf267
  t138 := Tryz.underlying269
  a138 := Tryz.isAgg269
  z138 := Tryz.sizeOf269
  v138 := Tryz.zeroValue269
  t139 := Tryz.underlying270
  a139 := Tryz.isAgg270
  z139 := Tryz.sizeOf270
  v139 := Tryz.zeroValue270
  t146 := Tryz.underlying271
  a146 := Tryz.isAgg271
  z146 := Tryz.sizeOf271
  v146 := Tryz.zeroValue271
  g1 := by kernel_rfl
  g3 := by kernel_rfl
  g4 := by kernel_rfl }
open Go.RowKit Go.Lib in
/-- strings.Split. (LAID: no walk: one application.) -/
theorem Tryz.strings_Split (s sep : ByteArray) (m : Int) (w : World) (hs : s.size < 4294967281) (hm : w.cell? ⟨0, 0, none⟩ = some (.int .i64 m)) (h1 : 1 ≤ sep.size) :
    Calls Tryz.prog 59 #[.string s, .string sep] w fun e w' =>
      e = .returned (.slice (some ⟨w.heap.size, 0, none⟩) (Lib.countB s sep + 1) (Lib.countB s sep + 1)) ∧ w' = w.alloc (.cells ((Lib.splitB sep 0 (Lib.countB s sep) s).map Value.string).toArray 9) := Any.strings_Split Tryz.lays146 (by kernel_rfl) s sep m w hs hm h1
end Go.Proofs
