/-
  DERIVED. GIVEN WITH THE SEED: THE CARDS: each row of YtckmcajnhobkpaaGreatDoorRows.lean that lists a variable, with what it lists TIED to the program's text (the seventh form; the later family's looks); each row that meets fmt, with fmt's text TOLD by the authors' own Lean function (tested against real Go, not proved from fmt's source: count such statements apart). THE CARD IS WHAT COUNTS. Prove the row's statement (the work); the ties are given (YtckmcajnhobkpaaGreatDoorTie.lean); close each card by the builder's one call (the guide's Derived/Test/ToyasCard.lean, 'card_holds'). Laid BY PROGRAM, IN A SANDBOX (cutbox-door.mjs). By AI agents, Wed Nov 11 2026. No macro, syntax, notation, axiom, sorry.
-/
import Derived.Test.YtckmcajnhobkpaaGreatDoorRows
import GoSem.ClaimSeven
namespace Go.Proofs.YtckmcajnhobkpaaGreatDoor
namespace Rows

/-- THE TIED CARD OF 'conchlaw18.SysPipes'. -/
def sysPipesCard : Claim7 := { stood := { row := sysPipesRow, standIns := [], harness := (true, "3b24bc65c26bcb53d0b100d61ef42b82f4c7f11517d2e28bfe42ec08e4bbcab7"), looks := false }, kinds := [], alts := [], laidByText := true, laidKinds := [.data, .pinned], laidTests := true, laidLooks := .later }
def SysPipesCardSaid : Prop := Claim7.holds Tryz.pinned (.plain (OpenSpec.ofChange sysPipesSpec)) sysPipesCard

/-- THE SECOND FORM's CARD OF 'conchlaw18.SysPipes'. -/
def sysPipesUptoCard : Claim7 := { stood := { row := sysPipesUptoRow, standIns := [], harness := (true, "3b24bc65c26bcb53d0b100d61ef42b82f4c7f11517d2e28bfe42ec08e4bbcab7"), looks := false }, kinds := [], alts := [], laidByText := true, laidKinds := [.data, .pinned], laidTests := true, laidLooks := .later }
def SysPipesUptoCardSaid : Prop := Claim7.holds Tryz.pinned (.plain (OpenSpec.upto sysPipesSpec)) sysPipesUptoCard
end Rows
end Go.Proofs.YtckmcajnhobkpaaGreatDoor
