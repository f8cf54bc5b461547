/- The kernel's states of SysPipes, as the executor has them: laid by a program of mine; and its calls from state to state. -/
import Derived.Test.YtckmcajnhobkpaaGreatDoorSpB
namespace Go.Proofs.YtckmcajnhobkpaaGreatDoor
open Go.RowKit
set_option linter.unusedVariables false
set_option linter.unusedSimpArgs false

def putP (l : List Zz.AV) : Zz.Tr Zz.AV := (Zz.putL .lf 0 l).t
def pList : List Zz.AV := [.int .i64 0, .int .i64 3, .int .i64 4, .str [], .sl0, .int .i64 0, .int .i64 0, .int .i64 0]
def pBlk : Zz.ABlk := .cells ⟨putP pList, [], 0, 0⟩ 8 32 0 false
def spRaw : List (Nat × Zz.ABlk) := [
  (1000, .cells ⟨.lf, (.bool false :: List.replicate 64 (.int .u8 0)), 65, 1950⟩ 1950 201 0 false),
  (1001, .cells ⟨(.nd (some (.sl 1000 0 30 30 65 true)) (.nd (some (.int .i64 30)) .lf .lf) .lf), [], 0, 0⟩ 2 145 0 false),
  (1002, .cells ⟨(.nd (some (.ptr 1007 0)) .lf .lf), [.ptr0], 1, 12⟩ 12 93 0 false),
  (1003, .cells ⟨(.nd (some (.sl 1002 0 12 12 1 true)) (.nd (some (.ptr 1001 0)) .lf .lf) .lf), [], 0, 0⟩ 2 92 0 false),
  (1004, .map [(.int .i64 1, .ptr 1009 0, 0)] 1),
  (1005, .cells ⟨(.nd (some (.ptr 1003 0)) (.nd (some (.map 1004)) .lf .lf) .lf), [], 0, 0⟩ 2 59 0 false),
  (1006, .map [] 0),
  (1007, .cells ⟨(.nd (some (.int .i64 1)) (.nd (some (.int .i64 2)) (.nd (some (.int .i64 0)) .lf .lf) .lf) (.nd (some (.int .i64 2)) (.nd (some (.map 1006)) .lf .lf) .lf)), [], 0, 0⟩ 5 98 0 false),
  (1008, .map [] 0),
  (1009, .cells ⟨(.nd (some (.map 1008)) (.nd (some (.int .i64 1)) .lf .lf) .lf), [], 0, 0⟩ 2 65 0 false),
  (1010, .cells ⟨(.nd (some (.ptr 1005 0)) (.nd (some (.int .i64 5)) .lf .lf) (.nd (some (.sl 1025 0 2 2 1 false)) .lf .lf)), [], 0, 0⟩ 3 103 0 false),
  (1011, .map [(.int .i64 1, .ptr 1015 0, 0), (.int .i64 2, .ptr 1906 0, 1)] 2),
  (1012, .cells ⟨(.nd (some (.int .i64 3)) (.nd (some (.map 1011)) .lf .lf) .lf), [], 0, 0⟩ 2 106 0 false),
  (1013, .map [(.int .i64 1, .ptr 1027 0, 0), (.int .i64 2, .ptr 1908 0, 1)] 2),
  (1014, .cells ⟨(.nd (some (.ptr 1005 0)) (.nd (some (.ptr 1010 0)) (.nd (some (.map 1013)) .lf .lf) (.nd (some (.bool false)) .lf .lf)) (.nd (some (.ptr 1012 0)) (.nd (some (.int .i64 0)) .lf .lf) .lf)), [], 0, 0⟩ 6 47 0 false),
  (1015, .cells ⟨(.nd (some (.int .i64 1)) (.nd (some (.int .i64 0)) .lf .lf) (.nd (some (.int .i64 0)) .lf .lf)), [], 0, 0⟩ 3 85 0 false),
  (1016, .cells ⟨(.nd (some (.ptr 1010 0)) (.nd (some (.ptr 1018 0)) (.nd (some (.ptr 1026 0)) (.nd (some (.ptr0)) (.nd (some (.ptr0)) .lf .lf) .lf) (.nd (some (.ptr0)) .lf .lf)) (.nd (some (.ptr0)) (.nd (some (.ptr0)) .lf .lf) (.nd (some (.ptr0)) .lf .lf))) (.nd (some (.ptr 1022 0)) (.nd (some (.ptr 1038 0)) (.nd (some (.ptr0)) (.nd (some (.ptr0)) .lf .lf) .lf) (.nd (some (.ptr0)) .lf .lf)) (.nd (some (.ptr0)) (.nd (some (.ptr0)) .lf .lf) (.nd (some (.ptr0)) .lf .lf)))), [], 0, 0⟩ 17 113 0 false),
  (1017, .cells ⟨(.nd (some (.str [])) .lf .lf), [], 0, 0⟩ 1 117 0 false),
  (1018, .cells ⟨(.nd (some (.ifc 115 (.ptr 1017 0))) (.nd (some (.int .i64 2)) .lf .lf) .lf), [], 0, 0⟩ 2 128 0 false),
  (1019, .cells ⟨(.nd (some (.sl0)) .lf .lf), [], 0, 0⟩ 1 121 0 false),
  (1022, .cells ⟨(.nd (some (.ifc 118 (.ptr 1019 0))) (.nd (some (.int .i64 2)) .lf .lf) .lf), [], 0, 0⟩ 2 128 0 false),
  (1023, .cells ⟨(.nd (some (.sl0)) .lf .lf), [], 0, 0⟩ 1 121 0 false),
  (1025, .cells ⟨(.nd (some (.ptr 1019 0)) (.nd (some (.ptr 1023 0)) .lf .lf) .lf), [], 0, 0⟩ 2 118 0 true),
  (1026, .cells ⟨(.nd (some (.ifc 118 (.ptr 1023 0))) (.nd (some (.int .i64 2)) .lf .lf) .lf), [], 0, 0⟩ 2 128 0 false),
  (1027, .cells ⟨(.nd (some (.ptr 1016 0)) (.nd (some (.int .i64 1)) .lf .lf) (.nd (some (.bool false)) .lf .lf)), [], 0, 0⟩ 3 51 0 false),
  (1037, .cells ⟨(.nd (some (.int .u8 0)) (.nd (some (.int .u8 0)) (.nd (some (.int .u8 0)) (.nd (some (.int .u8 0)) (.nd (some (.int .u8 0)) (.nd (some (.int .u8 0)) (.nd (some (.int .u8 0)) .lf .lf) .lf) (.nd (some (.int .u8 0)) .lf .lf)) (.nd (some (.int .u8 0)) (.nd (some (.int .u8 0)) .lf .lf) (.nd (some (.int .u8 0)) .lf .lf))) (.nd (some (.int .u8 0)) (.nd (some (.int .u8 0)) (.nd (some (.int .u8 0)) (.nd (some (.int .i64 1)) .lf .lf) .lf) (.nd (some (.int .u8 0)) .lf .lf)) (.nd (some (.int .u8 0)) (.nd (some (.int .u8 0)) .lf .lf) (.nd (some (.int .u8 0)) .lf .lf)))) (.nd (some (.int .u8 0)) (.nd (some (.int .u8 0)) (.nd (some (.int .u8 0)) (.nd (some (.int .u8 0)) (.nd (some (.int .i64 0)) .lf .lf) .lf) (.nd (some (.int .u8 0)) .lf .lf)) (.nd (some (.int .u8 0)) (.nd (some (.int .u8 0)) .lf .lf) (.nd (some (.int .u8 0)) .lf .lf))) (.nd (some (.int .u8 0)) (.nd (some (.int .u8 0)) (.nd (some (.int .u8 0)) .lf .lf) (.nd (some (.int .u8 0)) .lf .lf)) (.nd (some (.int .u8 0)) (.nd (some (.int .u8 0)) .lf .lf) (.nd (some (.int .u8 0)) .lf .lf))))) (.nd (some (.int .u8 0)) (.nd (some (.int .u8 0)) (.nd (some (.int .u8 0)) (.nd (some (.int .u8 0)) (.nd (some (.int .u8 0)) (.nd (some (.int .i64 0)) .lf .lf) .lf) (.nd (some (.int .u8 0)) .lf .lf)) (.nd (some (.int .u8 0)) (.nd (some (.int .u8 0)) .lf .lf) (.nd (some (.int .u8 0)) .lf .lf))) (.nd (some (.int .u8 0)) (.nd (some (.int .u8 0)) (.nd (some (.int .u8 0)) .lf .lf) (.nd (some (.int .u8 0)) .lf .lf)) (.nd (some (.int .u8 0)) (.nd (some (.int .u8 0)) .lf .lf) (.nd (some (.int .u8 0)) .lf .lf)))) (.nd (some (.int .u8 0)) (.nd (some (.int .u8 0)) (.nd (some (.int .u8 0)) (.nd (some (.int .u8 0)) (.nd (some (.int .i64 1)) .lf .lf) .lf) (.nd (some (.int .u8 0)) .lf .lf)) (.nd (some (.int .u8 0)) (.nd (some (.int .u8 0)) .lf .lf) (.nd (some (.int .u8 0)) .lf .lf))) (.nd (some (.int .u8 0)) (.nd (some (.int .u8 0)) (.nd (some (.int .u8 0)) .lf .lf) (.nd (some (.int .u8 0)) .lf .lf)) (.nd (some (.int .u8 0)) (.nd (some (.int .u8 0)) .lf .lf) (.nd (some (.int .u8 0)) .lf .lf)))))), [], 0, 0⟩ 68 152 0 false),
  (1038, .cells ⟨(.nd (some (.ifc 138 (.agg [.ptr 1037 0, .bool false]))) (.nd (some (.int .i64 1)) .lf .lf) .lf), [], 0, 0⟩ 2 128 0 false),
  (1039, .cells ⟨(.nd (some (.ifc 138 (.agg [.ptr 1037 0, .bool true]))) (.nd (some (.int .i64 1)) .lf .lf) .lf), [], 0, 0⟩ 2 128 0 false),
  (1906, .cells ⟨(.nd (some (.int .i64 1)) (.nd (some (.int .i64 1)) .lf .lf) (.nd (some (.int .i64 0)) .lf .lf)), [], 0, 0⟩ 3 85 0 false),
  (1907, .cells ⟨(.nd (some (.ptr 1010 0)) (.nd (some (.ptr 1018 0)) (.nd (some (.ptr 1026 0)) (.nd (some (.ptr0)) (.nd (some (.ptr0)) .lf .lf) .lf) (.nd (some (.ptr0)) .lf .lf)) (.nd (some (.ptr 1039 0)) (.nd (some (.ptr0)) .lf .lf) (.nd (some (.ptr0)) .lf .lf))) (.nd (some (.ptr 1022 0)) (.nd (some (.ptr0)) (.nd (some (.ptr0)) (.nd (some (.ptr0)) .lf .lf) .lf) (.nd (some (.ptr0)) .lf .lf)) (.nd (some (.ptr0)) (.nd (some (.ptr0)) .lf .lf) (.nd (some (.ptr0)) .lf .lf)))), [], 0, 0⟩ 17 113 0 false),
  (1908, .cells ⟨(.nd (some (.ptr 1907 0)) (.nd (some (.int .i64 1)) .lf .lf) (.nd (some (.bool false)) .lf .lf)), [], 0, 0⟩ 3 51 0 false),
  (1900, pBlk)]
def spA : List (Nat × Zz.ABlk) := [
  (1000, .cells ⟨.lf, (.bool false :: List.replicate 64 (.int .u8 0)), 65, 1950⟩ 1950 201 0 false),
  (1001, .cells ⟨(.nd (some (.sl 1000 0 30 30 65 true)) (.nd (some (.int .i64 30)) .lf .lf) .lf), [], 0, 0⟩ 2 145 0 false),
  (1002, .cells ⟨(.nd (some (.ptr 1007 0)) .lf .lf), [.ptr0], 1, 12⟩ 12 93 0 false),
  (1003, .cells ⟨(.nd (some (.sl 1002 0 12 12 1 true)) (.nd (some (.ptr 1001 0)) .lf .lf) .lf), [], 0, 0⟩ 2 92 0 false),
  (1004, .map [(.int .i64 1, .ptr 1009 0, 0)] 1),
  (1005, .cells ⟨(.nd (some (.ptr 1003 0)) (.nd (some (.map 1004)) .lf .lf) .lf), [], 0, 0⟩ 2 59 0 false),
  (1006, .map [] 0),
  (1007, .cells ⟨(.nd (some (.int .i64 1)) (.nd (some (.int .i64 2)) (.nd (some (.int .i64 0)) .lf .lf) .lf) (.nd (some (.int .i64 2)) (.nd (some (.map 1006)) .lf .lf) .lf)), [], 0, 0⟩ 5 98 0 false),
  (1008, .map [] 0),
  (1009, .cells ⟨(.nd (some (.map 1008)) (.nd (some (.int .i64 1)) .lf .lf) .lf), [], 0, 0⟩ 2 65 0 false),
  (1010, .cells ⟨(.nd (some (.ptr 1005 0)) (.nd (some (.int .i64 5)) .lf .lf) (.nd (some (.sl 1025 0 2 2 1 false)) .lf .lf)), [], 0, 0⟩ 3 103 0 false),
  (1011, .map [(.int .i64 1, .ptr 1015 0, 0), (.int .i64 2, .ptr 1906 0, 1)] 2),
  (1012, .cells ⟨(.nd (some (.int .i64 3)) (.nd (some (.map 1011)) .lf .lf) .lf), [], 0, 0⟩ 2 106 0 false),
  (1013, .map [(.int .i64 1, .ptr 1027 0, 0), (.int .i64 2, .ptr 1908 0, 1)] 2),
  (1014, .cells ⟨(.nd (some (.ptr 1005 0)) (.nd (some (.ptr 1010 0)) (.nd (some (.map 1013)) .lf .lf) (.nd (some (.bool false)) .lf .lf)) (.nd (some (.ptr 1012 0)) (.nd (some (.int .i64 0)) .lf .lf) .lf)), [], 0, 0⟩ 6 47 0 false),
  (1015, .cells ⟨(.nd (some (.int .i64 1)) (.nd (some (.int .i64 0)) .lf .lf) (.nd (some (.int .i64 0)) .lf .lf)), [], 0, 0⟩ 3 85 0 false),
  (1016, .cells ⟨(.nd (some (.ptr 1010 0)) (.nd (some (.ptr 1018 0)) (.nd (some (.ptr 1026 0)) (.nd (some (.ptr0)) (.nd (some (.ptr0)) .lf .lf) .lf) (.nd (some (.ptr0)) .lf .lf)) (.nd (some (.ptr0)) (.nd (some (.ptr0)) .lf .lf) (.nd (some (.ptr0)) .lf .lf))) (.nd (some (.ptr 1022 0)) (.nd (some (.ptr 1038 0)) (.nd (some (.ptr0)) (.nd (some (.ptr0)) .lf .lf) .lf) (.nd (some (.ptr0)) .lf .lf)) (.nd (some (.ptr0)) (.nd (some (.ptr0)) .lf .lf) (.nd (some (.ptr0)) .lf .lf)))), [], 0, 0⟩ 17 113 0 false),
  (1017, .cells ⟨(.nd (some (.str [])) .lf .lf), [], 0, 0⟩ 1 117 0 false),
  (1018, .cells ⟨(.nd (some (.ifc 115 (.ptr 1017 0))) (.nd (some (.int .i64 2)) .lf .lf) .lf), [], 0, 0⟩ 2 128 0 false),
  (1019, .cells ⟨(.nd (some (.sl0)) .lf .lf), [], 0, 0⟩ 1 121 0 false),
  (1022, .cells ⟨(.nd (some (.ifc 118 (.ptr 1019 0))) (.nd (some (.int .i64 2)) .lf .lf) .lf), [], 0, 0⟩ 2 128 0 false),
  (1023, .cells ⟨(.nd (some (.sl0)) .lf .lf), [], 0, 0⟩ 1 121 0 false),
  (1025, .cells ⟨(.nd (some (.ptr 1019 0)) (.nd (some (.ptr 1023 0)) .lf .lf) .lf), [], 0, 0⟩ 2 118 0 true),
  (1026, .cells ⟨(.nd (some (.ifc 118 (.ptr 1023 0))) (.nd (some (.int .i64 2)) .lf .lf) .lf), [], 0, 0⟩ 2 128 0 false),
  (1027, .cells ⟨(.nd (some (.ptr 1016 0)) (.nd (some (.int .i64 1)) .lf .lf) (.nd (some (.bool false)) .lf .lf)), [], 0, 0⟩ 3 51 0 false),
  (1037, .abs 10),
  (1038, .cells ⟨(.nd (some (.ifc 138 (.agg [.ptr 1037 0, .bool false]))) (.nd (some (.int .i64 1)) .lf .lf) .lf), [], 0, 0⟩ 2 128 0 false),
  (1039, .cells ⟨(.nd (some (.ifc 138 (.agg [.ptr 1037 0, .bool true]))) (.nd (some (.int .i64 1)) .lf .lf) .lf), [], 0, 0⟩ 2 128 0 false),
  (1906, .cells ⟨(.nd (some (.int .i64 1)) (.nd (some (.int .i64 1)) .lf .lf) (.nd (some (.int .i64 0)) .lf .lf)), [], 0, 0⟩ 3 85 0 false),
  (1907, .cells ⟨(.nd (some (.ptr 1010 0)) (.nd (some (.ptr 1018 0)) (.nd (some (.ptr 1026 0)) (.nd (some (.ptr0)) (.nd (some (.ptr0)) .lf .lf) .lf) (.nd (some (.ptr0)) .lf .lf)) (.nd (some (.ptr 1039 0)) (.nd (some (.ptr0)) .lf .lf) (.nd (some (.ptr0)) .lf .lf))) (.nd (some (.ptr 1022 0)) (.nd (some (.ptr0)) (.nd (some (.ptr0)) (.nd (some (.ptr0)) .lf .lf) .lf) (.nd (some (.ptr0)) .lf .lf)) (.nd (some (.ptr0)) (.nd (some (.ptr0)) .lf .lf) (.nd (some (.ptr0)) .lf .lf)))), [], 0, 0⟩ 17 113 0 false),
  (1908, .cells ⟨(.nd (some (.ptr 1907 0)) (.nd (some (.int .i64 1)) .lf .lf) (.nd (some (.bool false)) .lf .lf)), [], 0, 0⟩ 3 51 0 false),
  (1900, pBlk)]
def spB : List (Nat × Zz.ABlk) := [
  (1000, .cells ⟨.lf, (.bool false :: List.replicate 64 (.int .u8 0)), 65, 1950⟩ 1950 201 0 false),
  (1001, .cells ⟨(.nd (some (.sl 1000 0 30 30 65 true)) (.nd (some (.int .i64 30)) .lf .lf) .lf), [], 0, 0⟩ 2 145 0 false),
  (1002, .cells ⟨(.nd (some (.ptr 1007 0)) .lf .lf), [.ptr0], 1, 12⟩ 12 93 0 false),
  (1003, .cells ⟨(.nd (some (.sl 1002 0 12 12 1 true)) (.nd (some (.ptr 1001 0)) .lf .lf) .lf), [], 0, 0⟩ 2 92 0 false),
  (1004, .map [(.int .i64 1, .ptr 1009 0, 0)] 1),
  (1005, .cells ⟨(.nd (some (.ptr 1003 0)) (.nd (some (.map 1004)) .lf .lf) .lf), [], 0, 0⟩ 2 59 0 false),
  (1006, .map [] 0),
  (1007, .cells ⟨(.nd (some (.int .i64 1)) (.nd (some (.int .i64 2)) (.nd (some (.int .i64 0)) .lf .lf) .lf) (.nd (some (.int .i64 2)) (.nd (some (.map 1006)) .lf .lf) .lf)), [], 0, 0⟩ 5 98 0 false),
  (1008, .map [] 0),
  (1009, .cells ⟨(.nd (some (.map 1008)) (.nd (some (.int .i64 1)) .lf .lf) .lf), [], 0, 0⟩ 2 65 0 false),
  (1010, .cells ⟨(.nd (some (.ptr 1005 0)) (.nd (some (.int .i64 5)) .lf .lf) (.nd (some (.sl 1025 0 2 2 1 false)) .lf .lf)), [], 0, 0⟩ 3 103 0 false),
  (1011, .map [(.int .i64 1, .ptr 1015 0, 0), (.int .i64 2, .ptr 1906 0, 1)] 2),
  (1012, .cells ⟨(.nd (some (.int .i64 3)) (.nd (some (.map 1011)) .lf .lf) .lf), [], 0, 0⟩ 2 106 0 false),
  (1013, .map [(.int .i64 1, .ptr 1027 0, 0), (.int .i64 2, .ptr 1908 0, 1)] 2),
  (1014, .cells ⟨(.nd (some (.ptr 1005 0)) (.nd (some (.ptr 1010 0)) (.nd (some (.map 1013)) .lf .lf) (.nd (some (.bool false)) .lf .lf)) (.nd (some (.ptr 1012 0)) (.nd (some (.int .i64 0)) .lf .lf) .lf)), [], 0, 0⟩ 6 47 0 false),
  (1015, .cells ⟨(.nd (some (.int .i64 2)) (.nd (some (.int .i64 0)) .lf .lf) (.nd (some (.int .i64 0)) .lf .lf)), [], 0, 0⟩ 3 85 0 false),
  (1016, .cells ⟨(.nd (some (.ptr 1010 0)) (.nd (some (.ptr 1018 0)) (.nd (some (.ptr 1026 0)) (.nd (some (.ptr0)) (.nd (some (.ptr0)) .lf .lf) .lf) (.nd (some (.ptr0)) .lf .lf)) (.nd (some (.ptr0)) (.nd (some (.ptr0)) .lf .lf) (.nd (some (.ptr0)) .lf .lf))) (.nd (some (.ptr 1022 0)) (.nd (some (.ptr 1038 0)) (.nd (some (.ptr0)) (.nd (some (.ptr0)) .lf .lf) .lf) (.nd (some (.ptr0)) .lf .lf)) (.nd (some (.ptr0)) (.nd (some (.ptr0)) .lf .lf) (.nd (some (.ptr0)) .lf .lf)))), [], 0, 0⟩ 17 113 0 false),
  (1017, .cells ⟨(.nd (some (.str [])) .lf .lf), [], 0, 0⟩ 1 117 0 false),
  (1018, .cells ⟨(.nd (some (.ifc 115 (.ptr 1017 0))) (.nd (some (.int .i64 2)) .lf .lf) .lf), [], 0, 0⟩ 2 128 0 false),
  (1019, .cells ⟨(.nd (some (.sl0)) .lf .lf), [], 0, 0⟩ 1 121 0 false),
  (1022, .cells ⟨(.nd (some (.ifc 118 (.ptr 1019 0))) (.nd (some (.int .i64 2)) .lf .lf) .lf), [], 0, 0⟩ 2 128 0 false),
  (1023, .cells ⟨(.nd (some (.sl0)) .lf .lf), [], 0, 0⟩ 1 121 0 false),
  (1025, .cells ⟨(.nd (some (.ptr 1019 0)) (.nd (some (.ptr 1023 0)) .lf .lf) .lf), [], 0, 0⟩ 2 118 0 true),
  (1026, .cells ⟨(.nd (some (.ifc 118 (.ptr 1023 0))) (.nd (some (.int .i64 2)) .lf .lf) .lf), [], 0, 0⟩ 2 128 0 false),
  (1027, .cells ⟨(.nd (some (.ptr 1016 0)) (.nd (some (.int .i64 1)) .lf .lf) (.nd (some (.bool false)) .lf .lf)), [], 0, 0⟩ 3 51 0 false),
  (1037, .abs 10),
  (1038, .cells ⟨(.nd (some (.ifc 138 (.agg [.ptr 1037 0, .bool false]))) (.nd (some (.int .i64 1)) .lf .lf) .lf), [], 0, 0⟩ 2 128 0 false),
  (1039, .cells ⟨(.nd (some (.ifc 138 (.agg [.ptr 1037 0, .bool true]))) (.nd (some (.int .i64 1)) .lf .lf) .lf), [], 0, 0⟩ 2 128 0 false),
  (1906, .cells ⟨(.nd (some (.int .i64 1)) (.nd (some (.int .i64 1)) .lf .lf) (.nd (some (.int .i64 0)) .lf .lf)), [], 0, 0⟩ 3 85 0 false),
  (1907, .cells ⟨(.nd (some (.ptr 1010 0)) (.nd (some (.ptr 1018 0)) (.nd (some (.ptr 1026 0)) (.nd (some (.ptr0)) (.nd (some (.ptr0)) .lf .lf) .lf) (.nd (some (.ptr0)) .lf .lf)) (.nd (some (.ptr 1039 0)) (.nd (some (.ptr0)) .lf .lf) (.nd (some (.ptr0)) .lf .lf))) (.nd (some (.ptr 1022 0)) (.nd (some (.ptr0)) (.nd (some (.ptr0)) (.nd (some (.ptr0)) .lf .lf) .lf) (.nd (some (.ptr0)) .lf .lf)) (.nd (some (.ptr0)) (.nd (some (.ptr0)) .lf .lf) (.nd (some (.ptr0)) .lf .lf)))), [], 0, 0⟩ 17 113 0 false),
  (1908, .cells ⟨(.nd (some (.ptr 1907 0)) (.nd (some (.int .i64 1)) .lf .lf) (.nd (some (.bool false)) .lf .lf)), [], 0, 0⟩ 3 51 0 false),
  (1900, pBlk)]
def spC : List (Nat × Zz.ABlk) := [
  (1000, .cells ⟨.lf, (.bool false :: List.replicate 64 (.int .u8 0)), 65, 1950⟩ 1950 201 0 false),
  (1001, .cells ⟨(.nd (some (.sl 1000 0 30 30 65 true)) (.nd (some (.int .i64 30)) .lf .lf) .lf), [], 0, 0⟩ 2 145 0 false),
  (1002, .cells ⟨(.nd (some (.ptr 1007 0)) .lf .lf), [.ptr0], 1, 12⟩ 12 93 0 false),
  (1003, .cells ⟨(.nd (some (.sl 1002 0 12 12 1 true)) (.nd (some (.ptr 1001 0)) .lf .lf) .lf), [], 0, 0⟩ 2 92 0 false),
  (1004, .map [(.int .i64 1, .ptr 1009 0, 0)] 1),
  (1005, .cells ⟨(.nd (some (.ptr 1003 0)) (.nd (some (.map 1004)) .lf .lf) .lf), [], 0, 0⟩ 2 59 0 false),
  (1006, .map [] 0),
  (1007, .cells ⟨(.nd (some (.int .i64 1)) (.nd (some (.int .i64 2)) (.nd (some (.int .i64 0)) .lf .lf) .lf) (.nd (some (.int .i64 2)) (.nd (some (.map 1006)) .lf .lf) .lf)), [], 0, 0⟩ 5 98 0 false),
  (1008, .map [] 0),
  (1009, .cells ⟨(.nd (some (.map 1008)) (.nd (some (.int .i64 1)) .lf .lf) .lf), [], 0, 0⟩ 2 65 0 false),
  (1010, .cells ⟨(.nd (some (.ptr 1005 0)) (.nd (some (.int .i64 5)) .lf .lf) (.nd (some (.sl 1025 0 2 2 1 false)) .lf .lf)), [], 0, 0⟩ 3 103 0 false),
  (1011, .map [(.int .i64 1, .ptr 1015 0, 0), (.int .i64 2, .ptr 1906 0, 1)] 2),
  (1012, .cells ⟨(.nd (some (.int .i64 3)) (.nd (some (.map 1011)) .lf .lf) .lf), [], 0, 0⟩ 2 106 0 false),
  (1013, .map [(.int .i64 1, .ptr 1027 0, 0), (.int .i64 2, .ptr 1908 0, 1)] 2),
  (1014, .cells ⟨(.nd (some (.ptr 1005 0)) (.nd (some (.ptr 1010 0)) (.nd (some (.map 1013)) .lf .lf) (.nd (some (.bool false)) .lf .lf)) (.nd (some (.ptr 1012 0)) (.nd (some (.int .i64 0)) .lf .lf) .lf)), [], 0, 0⟩ 6 47 0 false),
  (1015, .cells ⟨(.nd (some (.int .i64 1)) (.nd (some (.int .i64 0)) .lf .lf) (.nd (some (.int .i64 0)) .lf .lf)), [], 0, 0⟩ 3 85 0 false),
  (1016, .cells ⟨(.nd (some (.ptr 1010 0)) (.nd (some (.ptr 1018 0)) (.nd (some (.ptr 1026 0)) (.nd (some (.ptr0)) (.nd (some (.ptr0)) .lf .lf) .lf) (.nd (some (.ptr0)) .lf .lf)) (.nd (some (.ptr0)) (.nd (some (.ptr0)) .lf .lf) (.nd (some (.ptr0)) .lf .lf))) (.nd (some (.ptr 1022 0)) (.nd (some (.ptr 1038 0)) (.nd (some (.ptr0)) (.nd (some (.ptr0)) .lf .lf) .lf) (.nd (some (.ptr0)) .lf .lf)) (.nd (some (.ptr0)) (.nd (some (.ptr0)) .lf .lf) (.nd (some (.ptr0)) .lf .lf)))), [], 0, 0⟩ 17 113 0 false),
  (1017, .cells ⟨(.nd (some (.str [])) .lf .lf), [], 0, 0⟩ 1 117 0 false),
  (1018, .cells ⟨(.nd (some (.ifc 115 (.ptr 1017 0))) (.nd (some (.int .i64 2)) .lf .lf) .lf), [], 0, 0⟩ 2 128 0 false),
  (1019, .cells ⟨(.nd (some (.sl0)) .lf .lf), [], 0, 0⟩ 1 121 0 false),
  (1022, .cells ⟨(.nd (some (.ifc 118 (.ptr 1019 0))) (.nd (some (.int .i64 2)) .lf .lf) .lf), [], 0, 0⟩ 2 128 0 false),
  (1023, .cells ⟨(.nd (some (.sl0)) .lf .lf), [], 0, 0⟩ 1 121 0 false),
  (1025, .cells ⟨(.nd (some (.ptr 1019 0)) (.nd (some (.ptr 1023 0)) .lf .lf) .lf), [], 0, 0⟩ 2 118 0 true),
  (1026, .cells ⟨(.nd (some (.ifc 118 (.ptr 1023 0))) (.nd (some (.int .i64 2)) .lf .lf) .lf), [], 0, 0⟩ 2 128 0 false),
  (1027, .cells ⟨(.nd (some (.ptr 1016 0)) (.nd (some (.int .i64 1)) .lf .lf) (.nd (some (.bool false)) .lf .lf)), [], 0, 0⟩ 3 51 0 false),
  (1037, .abs 10),
  (1038, .cells ⟨(.nd (some (.ifc 138 (.agg [.ptr 1037 0, .bool false]))) (.nd (some (.int .i64 1)) .lf .lf) .lf), [], 0, 0⟩ 2 128 0 false),
  (1039, .cells ⟨(.nd (some (.ifc 138 (.agg [.ptr 1037 0, .bool true]))) (.nd (some (.int .i64 1)) .lf .lf) .lf), [], 0, 0⟩ 2 128 0 false),
  (1906, .cells ⟨(.nd (some (.int .i64 2)) (.nd (some (.int .i64 1)) .lf .lf) (.nd (some (.int .i64 0)) .lf .lf)), [], 0, 0⟩ 3 85 0 false),
  (1907, .cells ⟨(.nd (some (.ptr 1010 0)) (.nd (some (.ptr 1018 0)) (.nd (some (.ptr 1026 0)) (.nd (some (.ptr0)) (.nd (some (.ptr0)) .lf .lf) .lf) (.nd (some (.ptr0)) .lf .lf)) (.nd (some (.ptr 1039 0)) (.nd (some (.ptr0)) .lf .lf) (.nd (some (.ptr0)) .lf .lf))) (.nd (some (.ptr 1022 0)) (.nd (some (.ptr0)) (.nd (some (.ptr0)) (.nd (some (.ptr0)) .lf .lf) .lf) (.nd (some (.ptr0)) .lf .lf)) (.nd (some (.ptr0)) (.nd (some (.ptr0)) .lf .lf) (.nd (some (.ptr0)) .lf .lf)))), [], 0, 0⟩ 17 113 0 false),
  (1908, .cells ⟨(.nd (some (.ptr 1907 0)) (.nd (some (.int .i64 1)) .lf .lf) (.nd (some (.bool false)) .lf .lf)), [], 0, 0⟩ 3 51 0 false),
  (1900, pBlk)]
def spD : List (Nat × Zz.ABlk) := [
  (1000, .cells ⟨.lf, (.bool false :: List.replicate 64 (.int .u8 0)), 65, 1950⟩ 1950 201 0 false),
  (1001, .cells ⟨(.nd (some (.sl 1000 0 30 30 65 true)) (.nd (some (.int .i64 30)) .lf .lf) .lf), [], 0, 0⟩ 2 145 0 false),
  (1002, .cells ⟨(.nd (some (.ptr 1007 0)) .lf .lf), [.ptr0], 1, 12⟩ 12 93 0 false),
  (1003, .cells ⟨(.nd (some (.sl 1002 0 12 12 1 true)) (.nd (some (.ptr 1001 0)) .lf .lf) .lf), [], 0, 0⟩ 2 92 0 false),
  (1004, .map [(.int .i64 1, .ptr 1009 0, 0)] 1),
  (1005, .cells ⟨(.nd (some (.ptr 1003 0)) (.nd (some (.map 1004)) .lf .lf) .lf), [], 0, 0⟩ 2 59 0 false),
  (1006, .map [] 0),
  (1007, .cells ⟨(.nd (some (.int .i64 1)) (.nd (some (.int .i64 1)) (.nd (some (.int .i64 0)) .lf .lf) .lf) (.nd (some (.int .i64 2)) (.nd (some (.map 1006)) .lf .lf) .lf)), [], 0, 0⟩ 5 98 0 false),
  (1008, .map [] 0),
  (1009, .cells ⟨(.nd (some (.map 1008)) (.nd (some (.int .i64 1)) .lf .lf) .lf), [], 0, 0⟩ 2 65 0 false),
  (1010, .cells ⟨(.nd (some (.ptr 1005 0)) (.nd (some (.int .i64 4)) .lf .lf) (.nd (some (.sl 1025 0 2 2 1 false)) .lf .lf)), [], 0, 0⟩ 3 103 0 false),
  (1011, .map [(.int .i64 1, .ptr 1015 0, 0), (.int .i64 2, .ptr 1906 0, 1)] 2),
  (1012, .cells ⟨(.nd (some (.int .i64 3)) (.nd (some (.map 1011)) .lf .lf) .lf), [], 0, 0⟩ 2 106 0 false),
  (1013, .map [(.int .i64 1, .ptr 1027 0, 0)] 2),
  (1014, .cells ⟨(.nd (some (.ptr 1005 0)) (.nd (some (.ptr 1010 0)) (.nd (some (.map 1013)) .lf .lf) (.nd (some (.bool false)) .lf .lf)) (.nd (some (.ptr 1012 0)) (.nd (some (.int .i64 0)) .lf .lf) .lf)), [], 0, 0⟩ 6 47 0 false),
  (1015, .cells ⟨(.nd (some (.int .i64 1)) (.nd (some (.int .i64 0)) .lf .lf) (.nd (some (.int .i64 0)) .lf .lf)), [], 0, 0⟩ 3 85 0 false),
  (1016, .cells ⟨(.nd (some (.ptr 1010 0)) (.nd (some (.ptr 1018 0)) (.nd (some (.ptr 1026 0)) (.nd (some (.ptr0)) (.nd (some (.ptr0)) .lf .lf) .lf) (.nd (some (.ptr0)) .lf .lf)) (.nd (some (.ptr0)) (.nd (some (.ptr0)) .lf .lf) (.nd (some (.ptr0)) .lf .lf))) (.nd (some (.ptr 1022 0)) (.nd (some (.ptr 1038 0)) (.nd (some (.ptr0)) (.nd (some (.ptr0)) .lf .lf) .lf) (.nd (some (.ptr0)) .lf .lf)) (.nd (some (.ptr0)) (.nd (some (.ptr0)) .lf .lf) (.nd (some (.ptr0)) .lf .lf)))), [], 0, 0⟩ 17 113 0 false),
  (1017, .cells ⟨(.nd (some (.str [])) .lf .lf), [], 0, 0⟩ 1 117 0 false),
  (1018, .cells ⟨(.nd (some (.ifc 115 (.ptr 1017 0))) (.nd (some (.int .i64 1)) .lf .lf) .lf), [], 0, 0⟩ 2 128 0 false),
  (1019, .cells ⟨(.nd (some (.sl0)) .lf .lf), [], 0, 0⟩ 1 121 0 false),
  (1022, .cells ⟨(.nd (some (.ifc 118 (.ptr 1019 0))) (.nd (some (.int .i64 1)) .lf .lf) .lf), [], 0, 0⟩ 2 128 0 false),
  (1023, .cells ⟨(.nd (some (.sl0)) .lf .lf), [], 0, 0⟩ 1 121 0 false),
  (1025, .cells ⟨(.nd (some (.ptr 1019 0)) (.nd (some (.ptr 1023 0)) .lf .lf) .lf), [], 0, 0⟩ 2 118 0 true),
  (1026, .cells ⟨(.nd (some (.ifc 118 (.ptr 1023 0))) (.nd (some (.int .i64 1)) .lf .lf) .lf), [], 0, 0⟩ 2 128 0 false),
  (1027, .cells ⟨(.nd (some (.ptr 1016 0)) (.nd (some (.int .i64 1)) .lf .lf) (.nd (some (.bool false)) .lf .lf)), [], 0, 0⟩ 3 51 0 false),
  (1037, .abs 10),
  (1038, .cells ⟨(.nd (some (.ifc 138 (.agg [.ptr 1037 0, .bool false]))) (.nd (some (.int .i64 1)) .lf .lf) .lf), [], 0, 0⟩ 2 128 0 false),
  (1906, .cells ⟨(.nd (some (.int .i64 3)) (.nd (some (.int .i64 1)) .lf .lf) (.nd (some (.int .i64 5)) .lf .lf)), [], 0, 0⟩ 3 85 0 false),
  (1900, pBlk)]

/-- did the run answer that, and come to that state? -/
def chkR (q : Nat) (r : Option (Zz.AV × Zz.ASt)) (v : Zz.AV) (L : List (Nat × Zz.ABlk)) : Bool := match r with
  | some (x, s) => bif Zz.eqAV x v then bif Zz.subSt q s L then Nat.ble 2000 s.next else false else false
  | none => false
def okS (L M : List (Nat × Zz.ABlk)) : Bool := match M with
  | [] => true
  | p :: l => bif Zz.okB L p.2 then bif Nat.blt p.1 2000 then okS L l else false else false
noncomputable def spE (hs : List (FuncId × (List Zz.AV → Zz.M Zz.AV))) (args : List Zz.AV) (L : List (Nat × Zz.ABlk)) := (Zz.exec Tryz.prog ⟨Zz.hookOf hs, Zz.noOra⟩ 400).call 6 args (Zz.stL L 2000)
def hkR (res : Zz.AV) : List (FuncId × (List Zz.AV → Zz.M Zz.AV)) := [(199, hAbs (.opq 1) 10 11 res)]
def hkW (res : Zz.AV) : List (FuncId × (List Zz.AV → Zz.M Zz.AV)) := [(200, hAbs (.opq 1) 10 11 res)]
def hkL : List (FuncId × (List Zz.AV → Zz.M Zz.AV)) := [(204, hAbs (.bool true) 10 11 (.int .i64 0))]
def resOk : Zz.AV := .tup [.opq 2, .int .i64 0]
def resRW : Zz.AV := .tup [.str [], .int .i64 30]
def resWW : Zz.AV := .tup [.int .i64 0, .int .i64 30]
def aRead : List Zz.AV := [.ptr 1014 0, .int .i64 1, .agg [.int .i64 1, .int .i64 3, .opq 1, .str [], .str []]]
def aWrite : List Zz.AV := [.ptr 1014 0, .int .i64 2, .agg [.int .i64 2, .int .i64 4, .int .i64 0, .str [], .opq 1]]
def aExit : List Zz.AV := [.ptr 1014 0, .int .i64 2, .agg [.int .i64 8, .int .i64 5, .int .i64 0, .str [], .str []]]
def aWait : List Zz.AV := [.ptr 1014 0, .int .i64 1, .agg [.int .i64 9, .int .i64 0, .int .i64 0, .str [], .str []]]
def rep (e : Int) (n : Zz.AV) (m : Int) (t : Zz.AV) : Zz.AV := .agg [.int .i64 e, n, .int .i64 m, t, .sl0, .int .i64 0, .int .i64 0, .int .i64 0]
set_option maxRecDepth 1000000
theorem ok_A : okS spA spA = true := by kernel_rfl
theorem ok_B : okS spB spB = true := by kernel_rfl
theorem ok_C : okS spC spC = true := by kernel_rfl
theorem ok_D : okS spD spD = true := by kernel_rfl
theorem self_A : Zz.subSt 10 (Zz.stL spA 2000) spA = true := by kernel_rfl
theorem self_B : Zz.subSt 10 (Zz.stL spB 2000) spB = true := by kernel_rfl
theorem self_C : Zz.subSt 10 (Zz.stL spC 2000) spC = true := by kernel_rfl
theorem self_D : Zz.subSt 10 (Zz.stL spD 2000) spD = true := by kernel_rfl
theorem run_A_rok : chkR 11 (spE (hkR resOk) aRead spA) (rep 0 (.int .i64 0) 0 (.opq 2)) spA = true := by kernel_rfl
theorem run_C_rok : chkR 11 (spE (hkR resOk) aRead spC) (rep 0 (.int .i64 0) 0 (.opq 2)) spA = true := by kernel_rfl
theorem run_D_rok : chkR 11 (spE (hkR resOk) aRead spD) (rep 0 (.int .i64 0) 0 (.opq 2)) spD = true := by kernel_rfl
theorem run_A_rw : chkR 11 (spE (hkR resRW) aRead spA) (rep 30 (.int .i64 0) 0 (.str [])) spB = true := by kernel_rfl
theorem run_B_rw : chkR 11 (spE (hkR resRW) aRead spB) (rep 30 (.int .i64 0) 0 (.str [])) spB = true := by kernel_rfl
theorem run_A_wok : chkR 11 (spE (hkW resOk) aWrite spA) (rep 0 (.opq 2) 0 (.str [])) spA = true := by kernel_rfl
theorem run_B_wok : chkR 11 (spE (hkW resOk) aWrite spB) (rep 0 (.opq 2) 0 (.str [])) spA = true := by kernel_rfl
theorem run_A_ww : chkR 11 (spE (hkW resWW) aWrite spA) (rep 30 (.int .i64 0) 0 (.str [])) spC = true := by kernel_rfl
theorem run_C_ww : chkR 11 (spE (hkW resWW) aWrite spC) (rep 30 (.int .i64 0) 0 (.str [])) spC = true := by kernel_rfl
theorem run_A_ex : chkR 11 (spE hkL aExit spA) (rep 0 (.int .i64 0) 0 (.str [])) spD = true := by kernel_rfl
theorem run_B_ex : chkR 11 (spE hkL aExit spB) (rep 0 (.int .i64 0) 0 (.str [])) spD = true := by kernel_rfl
theorem run_D_ex : chkR 10 (spE [] aExit spD) (rep 23 (.int .i64 0) 0 (.str [])) spD = true := by kernel_rfl
theorem run_D_wait : chkR 10 (spE [] aWait spD) (rep 0 (.int .i64 2) 5 (.str [])) [] = true := by kernel_rfl
end Go.Proofs.YtckmcajnhobkpaaGreatDoor
