/-
  DERIVED. GIVEN WITH THE SEED: THE CARDS: each row of YtgooohccndjjdaaGreatDoorRows.lean that lists a variable, with what it lists TIED to the program's text (the seventh form; the later family's looks); each row that meets fmt, with fmt's text TOLD by the authors' own Lean function (tested against real Go, not proved from fmt's source: count such statements apart). THE CARD IS WHAT COUNTS. Prove the row's statement (the work); the ties are given (YtgooohccndjjdaaGreatDoorTie.lean); close each card by the builder's one call (the guide's Derived/Test/ToyasCard.lean, 'card_holds'). Laid BY PROGRAM, IN A SANDBOX (cutbox-door.mjs). By AI agents, Wed Nov 11 2026. No macro, syntax, notation, axiom, sorry.
-/
import Derived.Test.YtgooohccndjjdaaGreatDoorRows
import GoSem.ClaimSeven
namespace Go.Proofs.YtgooohccndjjdaaGreatDoor
namespace Rows

/-- THE TIED CARD OF 'conchlaw16.FdsShare'. -/
def fdsShareCard : Claim7 := { stood := { row := fdsShareRow, standIns := [], harness := (true, "5973a2ec7dba6d90db739b0f9cbf8d36c0f20f248b66d4ac36aa99a22478f632"), looks := false }, kinds := [], alts := [], laidByText := true, laidKinds := [.data, .pinned], laidTests := true, laidLooks := .later }
def FdsShareCardSaid : Prop := Claim7.holds Tryz.pinned (.plain (OpenSpec.ofChange fdsShareSpec)) fdsShareCard

/-- THE TIED CARD OF 'conchlaw16.FdsEnds'. -/
def fdsEndsCard : Claim7 := { stood := { row := fdsEndsRow, standIns := [], harness := (true, "5973a2ec7dba6d90db739b0f9cbf8d36c0f20f248b66d4ac36aa99a22478f632"), looks := false }, kinds := [], alts := [], laidByText := true, laidKinds := [.data, .pinned], laidTests := true, laidLooks := .later }
def FdsEndsCardSaid : Prop := Claim7.holds Tryz.pinned (.plain (OpenSpec.ofChange fdsEndsSpec)) fdsEndsCard

/-- THE SECOND FORM's CARD OF 'conchlaw16.FdsShare'. -/
def fdsShareUptoCard : Claim7 := { stood := { row := fdsShareUptoRow, standIns := [], harness := (true, "5973a2ec7dba6d90db739b0f9cbf8d36c0f20f248b66d4ac36aa99a22478f632"), looks := false }, kinds := [], alts := [], laidByText := true, laidKinds := [.data, .pinned], laidTests := true, laidLooks := .later }
def FdsShareUptoCardSaid : Prop := Claim7.holds Tryz.pinned (.plain (OpenSpec.upto fdsShareSpec)) fdsShareUptoCard

/-- THE SECOND FORM's CARD OF 'conchlaw16.FdsEnds'. -/
def fdsEndsUptoCard : Claim7 := { stood := { row := fdsEndsUptoRow, standIns := [], harness := (true, "5973a2ec7dba6d90db739b0f9cbf8d36c0f20f248b66d4ac36aa99a22478f632"), looks := false }, kinds := [], alts := [], laidByText := true, laidKinds := [.data, .pinned], laidTests := true, laidLooks := .later }
def FdsEndsUptoCardSaid : Prop := Claim7.holds Tryz.pinned (.plain (OpenSpec.upto fdsEndsSpec)) fdsEndsUptoCard
end Rows
end Go.Proofs.YtgooohccndjjdaaGreatDoor
