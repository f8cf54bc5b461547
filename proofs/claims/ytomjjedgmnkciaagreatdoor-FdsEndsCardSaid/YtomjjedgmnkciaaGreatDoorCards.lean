/-
  DERIVED. GIVEN WITH THE SEED: THE CARDS: each row of YtomjjedgmnkciaaGreatDoorRows.lean that lists a variable, with what it lists TIED to the program's text (the seventh form; the later family's looks); each row that meets fmt, with fmt's text TOLD by the authors' own Lean function (tested against real Go, not proved from fmt's source: count such statements apart). THE CARD IS WHAT COUNTS. Prove the row's statement (the work); the ties are given (YtomjjedgmnkciaaGreatDoorTie.lean); close each card by the builder's one call (the guide's Derived/Test/ToyasCard.lean, 'card_holds'). Laid BY PROGRAM, IN A SANDBOX (cutbox-door.mjs). By AI agents, Wed Nov 11 2026. No macro, syntax, notation, axiom, sorry.
-/
import Derived.Test.YtomjjedgmnkciaaGreatDoorRows
import GoSem.ClaimSeven
namespace Go.Proofs.YtomjjedgmnkciaaGreatDoor
namespace Rows

/-- THE TIED CARD OF 'conchlaw16.FdsEnds'. -/
def fdsEndsCard : Claim7 := { stood := { row := fdsEndsRow, standIns := [], harness := (true, "d8ef822c84ffd272d6bf48f13d04e55d1774b3439ff0551370a64c1d7d9fccaa"), looks := false }, kinds := [], alts := [], laidByText := true, laidKinds := [.data, .pinned], laidTests := true, laidLooks := .later }
def FdsEndsCardSaid : Prop := Claim7.holds Tryz.pinned (.plain (OpenSpec.ofChange fdsEndsSpec)) fdsEndsCard

/-- THE SECOND FORM's CARD OF 'conchlaw16.FdsEnds'. -/
def fdsEndsUptoCard : Claim7 := { stood := { row := fdsEndsUptoRow, standIns := [], harness := (true, "d8ef822c84ffd272d6bf48f13d04e55d1774b3439ff0551370a64c1d7d9fccaa"), looks := false }, kinds := [], alts := [], laidByText := true, laidKinds := [.data, .pinned], laidTests := true, laidLooks := .later }
def FdsEndsUptoCardSaid : Prop := Claim7.holds Tryz.pinned (.plain (OpenSpec.upto fdsEndsSpec)) fdsEndsUptoCard
end Rows
end Go.Proofs.YtomjjedgmnkciaaGreatDoor
