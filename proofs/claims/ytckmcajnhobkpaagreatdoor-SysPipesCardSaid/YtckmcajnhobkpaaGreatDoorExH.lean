/- The executor: what stands in for functions without a Go body. -/
import Derived.Test.YtckmcajnhobkpaaGreatDoorExB
set_option linter.unusedVariables false
set_option linter.unusedSimpArgs false
set_option linter.deprecated false
namespace Go.Proofs.YtckmcajnhobkpaaGreatDoor.Zz
open Go

def countB (c : Nat) : List UInt8 → Nat
  | [] => 0
  | x :: l => bif Nat.beq x.toNat c then countB c l + 1 else countB c l
def indexB (c : Nat) : List UInt8 → Nat → Option Nat
  | [], _ => none
  | x :: l, i => bif Nat.beq x.toNat c then some i else indexB c l (i + 1)
def orNeg : Option Nat → Int
  | some i => .ofNat i
  | none => -1
def hCount : List AV → M AV
  | [.str s, .int .u8 (.ofNat c)] => bif Nat.blt c 256 then ret (.int .i64 (countB c s)) else fail
  | _ => fail
def hIndexByte : List AV → M AV
  | [.str s, .int .u8 (.ofNat c)] => bif Nat.blt c 256 then ret (.int .i64 (orNeg (indexB c s 0))) else fail
  | _ => fail
def hookOf : List (FuncId × (List AV → M AV)) → FuncId → Option (List AV → M AV)
  | [], _ => none
  | (g, h) :: l, f => bif Nat.beq g f then some h else hookOf l f
end Go.Proofs.YtckmcajnhobkpaaGreatDoor.Zz
