/-
  DERIVED. GIVEN WITH THE SEED: THE CARDS: each row of YtbecmcjibpamoaaGreatDoorRows.lean that lists a variable, with what it lists TIED to the program's text (the seventh form; the later family's looks); each row that meets fmt, with fmt's text TOLD by the authors' own Lean function (tested against real Go, not proved from fmt's source: count such statements apart). THE CARD IS WHAT COUNTS. Prove the row's statement (the work); the ties are given (YtbecmcjibpamoaaGreatDoorTie.lean); close each card by the builder's one call (the guide's Derived/Test/ToyasCard.lean, 'card_holds'). Laid BY PROGRAM, IN A SANDBOX (cutbox-door.mjs). By AI agents, Wed Nov 11 2026. No macro, syntax, notation, axiom, sorry.
-/
import Derived.Test.YtbecmcjibpamoaaGreatDoorRows
import GoSem.ClaimSeven
namespace Go.Proofs.YtbecmcjibpamoaaGreatDoor
namespace Rows

/-- THE TIED CARD OF 'conchlaw20.UtilsCp'. -/
def utilsCpCard : Claim7 := { stood := { row := utilsCpRow, standIns := [], harness := (true, "f439a670d8abf933aa6830b86ef25bd3f540d25d742157e34c3fda1d79040f19"), looks := true }, kinds := [], alts := [], laidByText := true, laidKinds := [.data, .data, .data, .data, .sentinel, .sentinel, .pinned], laidTests := true, laidLooks := .later }
def UtilsCpCardSaid : Prop := Claim7.holds Tryz.pinned (.plain (OpenSpec.ofChange utilsCpSpec)) utilsCpCard

/-- THE TIED CARD OF 'conchlaw20.UtilsReads'. -/
def utilsReadsCard : Claim7 := { stood := { row := utilsReadsRow, standIns := [], harness := (true, "f439a670d8abf933aa6830b86ef25bd3f540d25d742157e34c3fda1d79040f19"), looks := true }, kinds := [], alts := [], laidByText := true, laidKinds := [.data, .data, .data, .data, .sentinel, .sentinel, .pinned], laidTests := true, laidLooks := .later }
def UtilsReadsCardSaid : Prop := Claim7.holds Tryz.pinned (.plain (OpenSpec.ofChange utilsReadsSpec)) utilsReadsCard

/-- THE SECOND FORM's CARD OF 'conchlaw20.UtilsCp'. -/
def utilsCpUptoCard : Claim7 := { stood := { row := utilsCpUptoRow, standIns := [], harness := (true, "f439a670d8abf933aa6830b86ef25bd3f540d25d742157e34c3fda1d79040f19"), looks := true }, kinds := [], alts := [], laidByText := true, laidKinds := [.data, .data, .data, .data, .sentinel, .sentinel, .pinned], laidTests := true, laidLooks := .later }
def UtilsCpUptoCardSaid : Prop := Claim7.holds Tryz.pinned (.plain (OpenSpec.upto utilsCpSpec)) utilsCpUptoCard

/-- THE SECOND FORM's CARD OF 'conchlaw20.UtilsReads'. -/
def utilsReadsUptoCard : Claim7 := { stood := { row := utilsReadsUptoRow, standIns := [], harness := (true, "f439a670d8abf933aa6830b86ef25bd3f540d25d742157e34c3fda1d79040f19"), looks := true }, kinds := [], alts := [], laidByText := true, laidKinds := [.data, .data, .data, .data, .sentinel, .sentinel, .pinned], laidTests := true, laidLooks := .later }
def UtilsReadsUptoCardSaid : Prop := Claim7.holds Tryz.pinned (.plain (OpenSpec.upto utilsReadsSpec)) utilsReadsUptoCard
end Rows
end Go.Proofs.YtbecmcjibpamoaaGreatDoor
