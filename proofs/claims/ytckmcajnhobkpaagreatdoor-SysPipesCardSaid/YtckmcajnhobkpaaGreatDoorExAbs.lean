/- The executor: an object that stands for a pipe as a whole. -/
import Derived.Test.YtckmcajnhobkpaaGreatDoorPipeC
namespace Go.Proofs.YtckmcajnhobkpaaGreatDoor.Zz
open Go Go.RowKit

/-- what a pipe holds, its readers, its writers: as one value -/
def pipeV (l : List UInt8) (r wr : Nat) : Value := .func (.func 0) #[.string ⟨l.toArray⟩, .int .i64 r, .int .i64 wr] #[]
/-- the object is such a pipe -/
def absR (v : Value) (o : Obj) : Prop := ∃ l r wr, v = pipeV l r wr ∧ ∃ (w : World) (b : Nat), w.heap[b]? = some o ∧ PipeSt w b l r wr
end Go.Proofs.YtckmcajnhobkpaaGreatDoor.Zz
