/-
  DERIVED. GIVEN WITH THE SEED: THE CARDS: each row of YtlfnoadnnkkegaaDoorRows.lean that lists a variable, with what it lists TIED to the program's text (the seventh form; the later family's looks); each row that meets fmt, with fmt's text TOLD by the authors' own Lean function (tested against real Go, not proved from fmt's source: count such statements apart). THE CARD IS WHAT COUNTS. Prove the row's statement (the work); the ties are given (YtlfnoadnnkkegaaDoorTie.lean); close each card by the builder's one call (the guide's Derived/Test/ToyasCard.lean, 'card_holds'). Laid BY PROGRAM, IN A SANDBOX (cutbox-door.mjs). By AI agents, Wed Nov 11 2026. No macro, syntax, notation, axiom, sorry.
-/
import Derived.Test.YtlfnoadnnkkegaaDoorRows
import GoSem.ClaimSeven
namespace Go.Proofs.YtlfnoadnnkkegaaDoor
namespace Rows

/-- THE TIED CARD OF 'conchlaw01.CharsNames'. -/
def charsNamesCard : Claim7 := { stood := { row := charsNamesRow, standIns := [], harness := (true, "c76f6a933987c426b78c0b07bc6be2263fcd2b095537f69f26f4bc67ce90df01"), looks := true }, kinds := [], alts := [], laidByText := true, laidKinds := [.data, .data, .data, .data, .sentinel, .sentinel, .pinned], laidTests := true, laidLooks := .later }
def CharsNamesCardSaid : Prop := Claim7.holds Tryd.pinned (.plain (OpenSpec.ofChange charsNamesSpec)) charsNamesCard

/-- THE TIED CARD OF 'conchlaw01.CharsNumbers'. -/
def charsNumbersCard : Claim7 := { stood := { row := charsNumbersRow, standIns := [], harness := (true, "c76f6a933987c426b78c0b07bc6be2263fcd2b095537f69f26f4bc67ce90df01"), looks := true }, kinds := [], alts := [], laidByText := true, laidKinds := [.data, .data, .data, .data, .sentinel, .sentinel, .pinned], laidTests := true, laidLooks := .later }
def CharsNumbersCardSaid : Prop := Claim7.holds Tryd.pinned (.plain (OpenSpec.ofChange charsNumbersSpec)) charsNumbersCard

/-- THE TIED CARD OF 'conchlaw01.CharsQuotes'. -/
def charsQuotesCard : Claim7 := { stood := { row := charsQuotesRow, standIns := [], harness := (true, "c76f6a933987c426b78c0b07bc6be2263fcd2b095537f69f26f4bc67ce90df01"), looks := true }, kinds := [], alts := [], laidByText := true, laidKinds := [.data, .data, .data, .data, .sentinel, .sentinel, .pinned], laidTests := true, laidLooks := .later }
def CharsQuotesCardSaid : Prop := Claim7.holds Tryd.pinned (.plain (OpenSpec.ofChange charsQuotesSpec)) charsQuotesCard

/-- THE TIED CARD OF 'conchlaw01.CharsJoins'. -/
def charsJoinsCard : Claim7 := { stood := { row := charsJoinsRow, standIns := [], harness := (true, "c76f6a933987c426b78c0b07bc6be2263fcd2b095537f69f26f4bc67ce90df01"), looks := true }, kinds := [], alts := [], laidByText := true, laidKinds := [.data, .data, .data, .data, .sentinel, .sentinel, .pinned], laidTests := true, laidLooks := .later }
def CharsJoinsCardSaid : Prop := Claim7.holds Tryd.pinned (.plain (OpenSpec.ofChange charsJoinsSpec)) charsJoinsCard

/-- THE TIED CARD OF 'conchlaw01.CharsBack'. -/
def charsBackCard : Claim7 := { stood := { row := charsBackRow, standIns := [], harness := (true, "c76f6a933987c426b78c0b07bc6be2263fcd2b095537f69f26f4bc67ce90df01"), looks := true }, kinds := [], alts := [], laidByText := true, laidKinds := [.data, .data, .data, .data, .sentinel, .sentinel, .pinned], laidTests := true, laidLooks := .later }
def CharsBackCardSaid : Prop := Claim7.holds Tryd.pinned (.plain (OpenSpec.ofChange charsBackSpec)) charsBackCard

/-- THE TIED CARD OF 'conchlaw01.CharsBytes'. -/
def charsBytesCard : Claim7 := { stood := { row := charsBytesRow, standIns := [], harness := (true, "c76f6a933987c426b78c0b07bc6be2263fcd2b095537f69f26f4bc67ce90df01"), looks := true }, kinds := [], alts := [], laidByText := true, laidKinds := [.data, .data, .data, .data, .sentinel, .sentinel, .pinned], laidTests := true, laidLooks := .later }
def CharsBytesCardSaid : Prop := Claim7.holds Tryd.pinned (.plain (OpenSpec.ofChange charsBytesSpec)) charsBytesCard

/-- THE SECOND FORM's CARD OF 'conchlaw01.CharsNames'. -/
def charsNamesUptoCard : Claim7 := { stood := { row := charsNamesUptoRow, standIns := [], harness := (true, "c76f6a933987c426b78c0b07bc6be2263fcd2b095537f69f26f4bc67ce90df01"), looks := true }, kinds := [], alts := [], laidByText := true, laidKinds := [.data, .data, .data, .data, .sentinel, .sentinel, .pinned], laidTests := true, laidLooks := .later }
def CharsNamesUptoCardSaid : Prop := Claim7.holds Tryd.pinned (.plain (OpenSpec.upto charsNamesSpec)) charsNamesUptoCard

/-- THE SECOND FORM's CARD OF 'conchlaw01.CharsNumbers'. -/
def charsNumbersUptoCard : Claim7 := { stood := { row := charsNumbersUptoRow, standIns := [], harness := (true, "c76f6a933987c426b78c0b07bc6be2263fcd2b095537f69f26f4bc67ce90df01"), looks := true }, kinds := [], alts := [], laidByText := true, laidKinds := [.data, .data, .data, .data, .sentinel, .sentinel, .pinned], laidTests := true, laidLooks := .later }
def CharsNumbersUptoCardSaid : Prop := Claim7.holds Tryd.pinned (.plain (OpenSpec.upto charsNumbersSpec)) charsNumbersUptoCard

/-- THE SECOND FORM's CARD OF 'conchlaw01.CharsQuotes'. -/
def charsQuotesUptoCard : Claim7 := { stood := { row := charsQuotesUptoRow, standIns := [], harness := (true, "c76f6a933987c426b78c0b07bc6be2263fcd2b095537f69f26f4bc67ce90df01"), looks := true }, kinds := [], alts := [], laidByText := true, laidKinds := [.data, .data, .data, .data, .sentinel, .sentinel, .pinned], laidTests := true, laidLooks := .later }
def CharsQuotesUptoCardSaid : Prop := Claim7.holds Tryd.pinned (.plain (OpenSpec.upto charsQuotesSpec)) charsQuotesUptoCard

/-- THE SECOND FORM's CARD OF 'conchlaw01.CharsJoins'. -/
def charsJoinsUptoCard : Claim7 := { stood := { row := charsJoinsUptoRow, standIns := [], harness := (true, "c76f6a933987c426b78c0b07bc6be2263fcd2b095537f69f26f4bc67ce90df01"), looks := true }, kinds := [], alts := [], laidByText := true, laidKinds := [.data, .data, .data, .data, .sentinel, .sentinel, .pinned], laidTests := true, laidLooks := .later }
def CharsJoinsUptoCardSaid : Prop := Claim7.holds Tryd.pinned (.plain (OpenSpec.upto charsJoinsSpec)) charsJoinsUptoCard

/-- THE SECOND FORM's CARD OF 'conchlaw01.CharsBack'. -/
def charsBackUptoCard : Claim7 := { stood := { row := charsBackUptoRow, standIns := [], harness := (true, "c76f6a933987c426b78c0b07bc6be2263fcd2b095537f69f26f4bc67ce90df01"), looks := true }, kinds := [], alts := [], laidByText := true, laidKinds := [.data, .data, .data, .data, .sentinel, .sentinel, .pinned], laidTests := true, laidLooks := .later }
def CharsBackUptoCardSaid : Prop := Claim7.holds Tryd.pinned (.plain (OpenSpec.upto charsBackSpec)) charsBackUptoCard

/-- THE SECOND FORM's CARD OF 'conchlaw01.CharsBytes'. -/
def charsBytesUptoCard : Claim7 := { stood := { row := charsBytesUptoRow, standIns := [], harness := (true, "c76f6a933987c426b78c0b07bc6be2263fcd2b095537f69f26f4bc67ce90df01"), looks := true }, kinds := [], alts := [], laidByText := true, laidKinds := [.data, .data, .data, .data, .sentinel, .sentinel, .pinned], laidTests := true, laidLooks := .later }
def CharsBytesUptoCardSaid : Prop := Claim7.holds Tryd.pinned (.plain (OpenSpec.upto charsBytesSpec)) charsBytesUptoCard
end Rows
end Go.Proofs.YtlfnoadnnkkegaaDoor
