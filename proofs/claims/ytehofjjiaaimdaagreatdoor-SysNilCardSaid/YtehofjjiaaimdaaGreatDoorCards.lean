/-
  DERIVED. GIVEN WITH THE SEED: THE CARDS: each row of YtehofjjiaaimdaaGreatDoorRows.lean that lists a variable, with what it lists TIED to the program's text (the seventh form; the later family's looks); each row that meets fmt, with fmt's text TOLD by the authors' own Lean function (tested against real Go, not proved from fmt's source: count such statements apart). THE CARD IS WHAT COUNTS. Prove the row's statement (the work); the ties are given (YtehofjjiaaimdaaGreatDoorTie.lean); close each card by the builder's one call (the guide's Derived/Test/ToyasCard.lean, 'card_holds'). Laid BY PROGRAM, IN A SANDBOX (cutbox-door.mjs). By AI agents, Wed Nov 11 2026. No macro, syntax, notation, axiom, sorry.
-/
import Derived.Test.YtehofjjiaaimdaaGreatDoorRows
import GoSem.ClaimSeven
namespace Go.Proofs.YtehofjjiaaimdaaGreatDoor
namespace Rows

/-- THE TIED CARD OF 'conchlaw18.SysNil'. -/
def sysNilCard : Claim7 := { stood := { row := sysNilRow, standIns := [], harness := (true, "47e07739c929ead8a16ed9fdd60cf6a37b0256dfe2490c45c6597c7f0c98e982"), looks := false }, kinds := [], alts := [], laidByText := true, laidKinds := [.data, .pinned], laidTests := true, laidLooks := .later }
def SysNilCardSaid : Prop := Claim7.holds Tryz.pinned (.plain (OpenSpec.ofChange sysNilSpec)) sysNilCard

/-- THE SECOND FORM's CARD OF 'conchlaw18.SysNil'. -/
def sysNilUptoCard : Claim7 := { stood := { row := sysNilUptoRow, standIns := [], harness := (true, "47e07739c929ead8a16ed9fdd60cf6a37b0256dfe2490c45c6597c7f0c98e982"), looks := false }, kinds := [], alts := [], laidByText := true, laidKinds := [.data, .pinned], laidTests := true, laidLooks := .later }
def SysNilUptoCardSaid : Prop := Claim7.holds Tryz.pinned (.plain (OpenSpec.upto sysNilSpec)) sysNilUptoCard
end Rows
end Go.Proofs.YtehofjjiaaimdaaGreatDoor
