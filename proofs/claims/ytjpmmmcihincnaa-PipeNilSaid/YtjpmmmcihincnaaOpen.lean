/- How the arguments of a law are opened: strings as lists of bytes, integers by their bounds. -/
import Derived.Test.YtjpmmmcihincnaaBase
import Derived.ProofKit
import Derived.OpenShut
import Derived.Deep.Strs
namespace Go.Proofs.Ytjpmmmcihincnaa
open Go.ChangeShapes Go.WideShapes Go.ChangeAt Go.RowKit

theorem str_list (s : ByteArray) (h : s.size ≤ maxLen) : ∃ l : List UInt8, s = ⟨l.toArray⟩ ∧ l.length ≤ maxLen :=
  ⟨s.data.toList, by rw [Array.toArray_toList], by rw [Array.length_toList]; exact h⟩
theorem wf_i64 {n : Int} (h : (Lit.int .i64 n).wf = true) : -9223372036854775808 ≤ n ∧ n ≤ 9223372036854775807 := by
  simpa [Lit.wf, IntKind.min, IntKind.max, IntKind.signed, IntKind.bits] using h
theorem wf_u8 {n : Int} (h : (Lit.int .u8 n).wf = true) : 0 ≤ n ∧ n ≤ 255 := by
  simpa [Lit.wf, IntKind.min, IntKind.max, IntKind.signed, IntKind.bits] using h
end Go.Proofs.Ytjpmmmcihincnaa
