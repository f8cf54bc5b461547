/-
  DERIVED. GIVEN WITH THE SEED: THE CARDS: each row of YtncnbmmmdfekeaaGreatDoorRows.lean that lists a variable, with what it lists TIED to the program's text (the seventh form; the later family's looks); each row that meets fmt, with fmt's text TOLD by the authors' own Lean function (tested against real Go, not proved from fmt's source: count such statements apart). THE CARD IS WHAT COUNTS. Prove the row's statement (the work); the ties are given (YtncnbmmmdfekeaaGreatDoorTie.lean); close each card by the builder's one call (the guide's Derived/Test/ToyasCard.lean, 'card_holds'). Laid BY PROGRAM, IN A SANDBOX (cutbox-door.mjs). By AI agents, Wed Nov 11 2026. No macro, syntax, notation, axiom, sorry.
-/
import Derived.Test.YtncnbmmmdfekeaaGreatDoorRows
import GoSem.ClaimSeven
namespace Go.Proofs.YtncnbmmmdfekeaaGreatDoor
namespace Rows

/-- THE TIED CARD OF 'conchlaw13.NamesNil'. -/
def namesNilCard : Claim7 := { stood := { row := namesNilRow, standIns := [], harness := (true, "c75f825d31b30565ecf722777f221be47610954178d9bd5732a4bef11cce732d"), looks := true }, kinds := [], alts := [], laidByText := true, laidKinds := [.data, .data, .data, .data, .pinned], laidTests := true, laidLooks := .later }
def NamesNilCardSaid : Prop := Claim7.holds Tryz.pinned (.plain (OpenSpec.ofChange namesNilSpec)) namesNilCard

/-- THE SECOND FORM's CARD OF 'conchlaw13.NamesNil'. -/
def namesNilUptoCard : Claim7 := { stood := { row := namesNilUptoRow, standIns := [], harness := (true, "c75f825d31b30565ecf722777f221be47610954178d9bd5732a4bef11cce732d"), looks := true }, kinds := [], alts := [], laidByText := true, laidKinds := [.data, .data, .data, .data, .pinned], laidTests := true, laidLooks := .later }
def NamesNilUptoCardSaid : Prop := Claim7.holds Tryz.pinned (.plain (OpenSpec.upto namesNilSpec)) namesNilUptoCard
end Rows
end Go.Proofs.YtncnbmmmdfekeaaGreatDoor
