/-
  DERIVED. GIVEN WITH THE SEED: THE CARDS: each row of YtgfnfomkhhpjaaaGreatDoorRows.lean that lists a variable, with what it lists TIED to the program's text (the seventh form; the later family's looks); each row that meets fmt, with fmt's text TOLD by the authors' own Lean function (tested against real Go, not proved from fmt's source: count such statements apart). THE CARD IS WHAT COUNTS. Prove the row's statement (the work); the ties are given (YtgfnfomkhhpjaaaGreatDoorTie.lean); close each card by the builder's one call (the guide's Derived/Test/ToyasCard.lean, 'card_holds'). Laid BY PROGRAM, IN A SANDBOX (cutbox-door.mjs). By AI agents, Wed Nov 11 2026. No macro, syntax, notation, axiom, sorry.
-/
import Derived.Test.YtgfnfomkhhpjaaaGreatDoorRows
import GoSem.ClaimSeven
namespace Go.Proofs.YtgfnfomkhhpjaaaGreatDoor
namespace Rows

/-- THE TIED CARD OF 'conchlaw16.FdsNil'. -/
def fdsNilCard : Claim7 := { stood := { row := fdsNilRow, standIns := [], harness := (true, "8dc8979942cb0d8d94141019f5321d15e0215d41efc80fa9aff2385f53b4ff90"), looks := false }, kinds := [], alts := [], laidByText := true, laidKinds := [.data, .pinned], laidTests := true, laidLooks := .later }
def FdsNilCardSaid : Prop := Claim7.holds Tryz.pinned (.plain (OpenSpec.ofChange fdsNilSpec)) fdsNilCard

/-- THE SECOND FORM's CARD OF 'conchlaw16.FdsNil'. -/
def fdsNilUptoCard : Claim7 := { stood := { row := fdsNilUptoRow, standIns := [], harness := (true, "8dc8979942cb0d8d94141019f5321d15e0215d41efc80fa9aff2385f53b4ff90"), looks := false }, kinds := [], alts := [], laidByText := true, laidKinds := [.data, .pinned], laidTests := true, laidLooks := .later }
def FdsNilUptoCardSaid : Prop := Claim7.holds Tryz.pinned (.plain (OpenSpec.upto fdsNilSpec)) fdsNilUptoCard
end Rows
end Go.Proofs.YtgfnfomkhhpjaaaGreatDoor
