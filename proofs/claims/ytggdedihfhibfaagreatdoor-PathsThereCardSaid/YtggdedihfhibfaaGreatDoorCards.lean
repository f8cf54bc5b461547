/-
  DERIVED. GIVEN WITH THE SEED: THE CARDS: each row of YtggdedihfhibfaaGreatDoorRows.lean that lists a variable, with what it lists TIED to the program's text (the seventh form; the later family's looks); each row that meets fmt, with fmt's text TOLD by the authors' own Lean function (tested against real Go, not proved from fmt's source: count such statements apart). THE CARD IS WHAT COUNTS. Prove the row's statement (the work); the ties are given (YtggdedihfhibfaaGreatDoorTie.lean); close each card by the builder's one call (the guide's Derived/Test/ToyasCard.lean, 'card_holds'). Laid BY PROGRAM, IN A SANDBOX (cutbox-door.mjs). By AI agents, Wed Nov 11 2026. No macro, syntax, notation, axiom, sorry.
-/
import Derived.Test.YtggdedihfhibfaaGreatDoorRows
import GoSem.ClaimSeven
namespace Go.Proofs.YtggdedihfhibfaaGreatDoor
namespace Rows

/-- THE TIED CARD OF 'conchlaw21.PathsPlain'. -/
def pathsPlainCard : Claim7 := { stood := { row := pathsPlainRow, standIns := [], harness := (true, "39ee434ffcc200d5fd1bf6696ff34d47535280052f00ed3f18d16f8e06ed09ae"), looks := false }, kinds := [], alts := [], laidByText := true, laidKinds := [.data, .pinned], laidTests := true, laidLooks := .later }
def PathsPlainCardSaid : Prop := Claim7.holds Tryz.pinned (.plain (OpenSpec.ofChange pathsPlainSpec)) pathsPlainCard

/-- THE TIED CARD OF 'conchlaw21.PathsThere'. -/
def pathsThereCard : Claim7 := { stood := { row := pathsThereRow, standIns := [], harness := (true, "39ee434ffcc200d5fd1bf6696ff34d47535280052f00ed3f18d16f8e06ed09ae"), looks := false }, kinds := [], alts := [], laidByText := true, laidKinds := [.data, .data, .data, .data, .pinned], laidTests := true, laidLooks := .later }
def PathsThereCardSaid : Prop := Claim7.holds Tryz.pinned (.plain (OpenSpec.ofChange pathsThereSpec)) pathsThereCard

/-- THE TIED CARD OF 'conchlaw21.PathsNames'. -/
def pathsNamesCard : Claim7 := { stood := { row := pathsNamesRow, standIns := [], harness := (true, "39ee434ffcc200d5fd1bf6696ff34d47535280052f00ed3f18d16f8e06ed09ae"), looks := false }, kinds := [], alts := [], laidByText := true, laidKinds := [.data, .pinned], laidTests := true, laidLooks := .later }
def PathsNamesCardSaid : Prop := Claim7.holds Tryz.pinned (.plain (OpenSpec.ofChange pathsNamesSpec)) pathsNamesCard

/-- THE TIED CARD OF 'conchlaw21.PathsBelow'. -/
def pathsBelowCard : Claim7 := { stood := { row := pathsBelowRow, standIns := [], harness := (true, "39ee434ffcc200d5fd1bf6696ff34d47535280052f00ed3f18d16f8e06ed09ae"), looks := false }, kinds := [], alts := [], laidByText := true, laidKinds := [.data, .pinned], laidTests := true, laidLooks := .later }
def PathsBelowCardSaid : Prop := Claim7.holds Tryz.pinned (.plain (OpenSpec.ofChange pathsBelowSpec)) pathsBelowCard

/-- THE TIED CARD OF 'conchlaw21.PathsExpands'. -/
def pathsExpandsCard : Claim7 := { stood := { row := pathsExpandsRow, standIns := [], harness := (true, "39ee434ffcc200d5fd1bf6696ff34d47535280052f00ed3f18d16f8e06ed09ae"), looks := false }, kinds := [], alts := [], laidByText := true, laidKinds := [.data, .pinned], laidTests := true, laidLooks := .later }
def PathsExpandsCardSaid : Prop := Claim7.holds Tryz.pinned (.plain (OpenSpec.ofChange pathsExpandsSpec)) pathsExpandsCard

/-- THE SECOND FORM's CARD OF 'conchlaw21.PathsPlain'. -/
def pathsPlainUptoCard : Claim7 := { stood := { row := pathsPlainUptoRow, standIns := [], harness := (true, "39ee434ffcc200d5fd1bf6696ff34d47535280052f00ed3f18d16f8e06ed09ae"), looks := false }, kinds := [], alts := [], laidByText := true, laidKinds := [.data, .pinned], laidTests := true, laidLooks := .later }
def PathsPlainUptoCardSaid : Prop := Claim7.holds Tryz.pinned (.plain (OpenSpec.upto pathsPlainSpec)) pathsPlainUptoCard

/-- THE SECOND FORM's CARD OF 'conchlaw21.PathsThere'. -/
def pathsThereUptoCard : Claim7 := { stood := { row := pathsThereUptoRow, standIns := [], harness := (true, "39ee434ffcc200d5fd1bf6696ff34d47535280052f00ed3f18d16f8e06ed09ae"), looks := false }, kinds := [], alts := [], laidByText := true, laidKinds := [.data, .data, .data, .data, .pinned], laidTests := true, laidLooks := .later }
def PathsThereUptoCardSaid : Prop := Claim7.holds Tryz.pinned (.plain (OpenSpec.upto pathsThereSpec)) pathsThereUptoCard

/-- THE SECOND FORM's CARD OF 'conchlaw21.PathsNames'. -/
def pathsNamesUptoCard : Claim7 := { stood := { row := pathsNamesUptoRow, standIns := [], harness := (true, "39ee434ffcc200d5fd1bf6696ff34d47535280052f00ed3f18d16f8e06ed09ae"), looks := false }, kinds := [], alts := [], laidByText := true, laidKinds := [.data, .pinned], laidTests := true, laidLooks := .later }
def PathsNamesUptoCardSaid : Prop := Claim7.holds Tryz.pinned (.plain (OpenSpec.upto pathsNamesSpec)) pathsNamesUptoCard

/-- THE SECOND FORM's CARD OF 'conchlaw21.PathsBelow'. -/
def pathsBelowUptoCard : Claim7 := { stood := { row := pathsBelowUptoRow, standIns := [], harness := (true, "39ee434ffcc200d5fd1bf6696ff34d47535280052f00ed3f18d16f8e06ed09ae"), looks := false }, kinds := [], alts := [], laidByText := true, laidKinds := [.data, .pinned], laidTests := true, laidLooks := .later }
def PathsBelowUptoCardSaid : Prop := Claim7.holds Tryz.pinned (.plain (OpenSpec.upto pathsBelowSpec)) pathsBelowUptoCard

/-- THE SECOND FORM's CARD OF 'conchlaw21.PathsExpands'. -/
def pathsExpandsUptoCard : Claim7 := { stood := { row := pathsExpandsUptoRow, standIns := [], harness := (true, "39ee434ffcc200d5fd1bf6696ff34d47535280052f00ed3f18d16f8e06ed09ae"), looks := false }, kinds := [], alts := [], laidByText := true, laidKinds := [.data, .pinned], laidTests := true, laidLooks := .later }
def PathsExpandsUptoCardSaid : Prop := Claim7.holds Tryz.pinned (.plain (OpenSpec.upto pathsExpandsSpec)) pathsExpandsUptoCard
end Rows
end Go.Proofs.YtggdedihfhibfaaGreatDoor
