/-
  DERIVED. GIVEN WITH THE SEED: THE CARDS: each row of YtmhgehnkhhlbkaaDoorRows.lean that lists a variable, with what it lists TIED to the program's text (the seventh form; the later family's looks); each row that meets fmt, with fmt's text TOLD by the authors' own Lean function (tested against real Go, not proved from fmt's source: count such statements apart). THE CARD IS WHAT COUNTS. Prove the row's statement (the work); the ties are given (YtmhgehnkhhlbkaaDoorTie.lean); close each card by the builder's one call (the guide's Derived/Test/ToyasCard.lean, 'card_holds'). Laid BY PROGRAM, IN A SANDBOX (cutbox-door.mjs). By AI agents, Wed Nov 11 2026. No macro, syntax, notation, axiom, sorry.
-/
import Derived.Test.YtmhgehnkhhlbkaaDoorRows
import GoSem.ClaimSeven
namespace Go.Proofs.YtmhgehnkhhlbkaaDoor
namespace Rows

/-- THE TIED CARD OF 'conchlaw19.TextsCounts'. -/
def textsCountsCard : Claim7 := { stood := { row := textsCountsRow, standIns := [], harness := (true, "a2d682490318751b57ddb17c5a64d7f91951606087683b44f75a55e7185f4b3a"), looks := true }, kinds := [], alts := [], laidByText := true, laidKinds := [.data, .data, .data, .data, .sentinel, .sentinel, .pinned], laidTests := true, laidLooks := .later }
def TextsCountsCardSaid : Prop := Claim7.holds Tryd.pinned (.plain (OpenSpec.ofChange textsCountsSpec)) textsCountsCard

/-- THE TIED CARD OF 'conchlaw19.TextsTurns'. -/
def textsTurnsCard : Claim7 := { stood := { row := textsTurnsRow, standIns := [], harness := (true, "a2d682490318751b57ddb17c5a64d7f91951606087683b44f75a55e7185f4b3a"), looks := true }, kinds := [], alts := [], laidByText := true, laidKinds := [.data, .data, .data, .data, .sentinel, .sentinel, .pinned], laidTests := true, laidLooks := .later }
def TextsTurnsCardSaid : Prop := Claim7.holds Tryd.pinned (.plain (OpenSpec.ofChange textsTurnsSpec)) textsTurnsCard

/-- THE TIED CARD OF 'conchlaw19.TextsBytes'. -/
def textsBytesCard : Claim7 := { stood := { row := textsBytesRow, standIns := [], harness := (true, "a2d682490318751b57ddb17c5a64d7f91951606087683b44f75a55e7185f4b3a"), looks := true }, kinds := [], alts := [], laidByText := true, laidKinds := [.data, .data, .data, .data, .sentinel, .sentinel, .pinned], laidTests := true, laidLooks := .later }
def TextsBytesCardSaid : Prop := Claim7.holds Tryd.pinned (.plain (OpenSpec.ofChange textsBytesSpec)) textsBytesCard

/-- THE TIED CARD OF 'conchlaw19.TextsPrints'. -/
def textsPrintsCard : Claim7 := { stood := { row := textsPrintsRow, standIns := [], harness := (true, "a2d682490318751b57ddb17c5a64d7f91951606087683b44f75a55e7185f4b3a"), looks := true }, kinds := [], alts := [], laidByText := true, laidKinds := [.data, .data, .data, .data, .sentinel, .sentinel, .pinned], laidTests := true, laidLooks := .later }
def TextsPrintsCardSaid : Prop := Claim7.holds Tryd.pinned (.plain (OpenSpec.ofChange textsPrintsSpec)) textsPrintsCard

/-- THE TIED CARD OF 'conchlaw19.TextsUniqs'. -/
def textsUniqsCard : Claim7 := { stood := { row := textsUniqsRow, standIns := [], harness := (true, "a2d682490318751b57ddb17c5a64d7f91951606087683b44f75a55e7185f4b3a"), looks := true }, kinds := [], alts := [], laidByText := true, laidKinds := [.data, .data, .data, .data, .sentinel, .sentinel, .pinned], laidTests := true, laidLooks := .later }
def TextsUniqsCardSaid : Prop := Claim7.holds Tryd.pinned (.plain (OpenSpec.ofChange textsUniqsSpec)) textsUniqsCard

/-- THE TIED CARD OF 'conchlaw19.TextsGreps'. -/
def textsGrepsCard : Claim7 := { stood := { row := textsGrepsRow, standIns := [], harness := (true, "a2d682490318751b57ddb17c5a64d7f91951606087683b44f75a55e7185f4b3a"), looks := true }, kinds := [], alts := [], laidByText := true, laidKinds := [.data, .data, .data, .data, .sentinel, .sentinel, .pinned], laidTests := true, laidLooks := .later }
def TextsGrepsCardSaid : Prop := Claim7.holds Tryd.pinned (.plain (OpenSpec.ofChange textsGrepsSpec)) textsGrepsCard

/-- THE TIED CARD OF 'conchlaw19.TextsEnds'. -/
def textsEndsCard : Claim7 := { stood := { row := textsEndsRow, standIns := [], harness := (true, "a2d682490318751b57ddb17c5a64d7f91951606087683b44f75a55e7185f4b3a"), looks := true }, kinds := [], alts := [], laidByText := true, laidKinds := [.data, .data, .data, .data, .sentinel, .sentinel, .pinned], laidTests := true, laidLooks := .later }
def TextsEndsCardSaid : Prop := Claim7.holds Tryd.pinned (.plain (OpenSpec.ofChange textsEndsSpec)) textsEndsCard

/-- THE TIED CARD OF 'conchlaw19.TextsParts'. -/
def textsPartsCard : Claim7 := { stood := { row := textsPartsRow, standIns := [], harness := (true, "a2d682490318751b57ddb17c5a64d7f91951606087683b44f75a55e7185f4b3a"), looks := true }, kinds := [], alts := [], laidByText := true, laidKinds := [.data, .data, .data, .data, .sentinel, .sentinel, .pinned], laidTests := true, laidLooks := .later }
def TextsPartsCardSaid : Prop := Claim7.holds Tryd.pinned (.plain (OpenSpec.ofChange textsPartsSpec)) textsPartsCard

/-- THE SECOND FORM's CARD OF 'conchlaw19.TextsCounts'. -/
def textsCountsUptoCard : Claim7 := { stood := { row := textsCountsUptoRow, standIns := [], harness := (true, "a2d682490318751b57ddb17c5a64d7f91951606087683b44f75a55e7185f4b3a"), looks := true }, kinds := [], alts := [], laidByText := true, laidKinds := [.data, .data, .data, .data, .sentinel, .sentinel, .pinned], laidTests := true, laidLooks := .later }
def TextsCountsUptoCardSaid : Prop := Claim7.holds Tryd.pinned (.plain (OpenSpec.upto textsCountsSpec)) textsCountsUptoCard

/-- THE SECOND FORM's CARD OF 'conchlaw19.TextsTurns'. -/
def textsTurnsUptoCard : Claim7 := { stood := { row := textsTurnsUptoRow, standIns := [], harness := (true, "a2d682490318751b57ddb17c5a64d7f91951606087683b44f75a55e7185f4b3a"), looks := true }, kinds := [], alts := [], laidByText := true, laidKinds := [.data, .data, .data, .data, .sentinel, .sentinel, .pinned], laidTests := true, laidLooks := .later }
def TextsTurnsUptoCardSaid : Prop := Claim7.holds Tryd.pinned (.plain (OpenSpec.upto textsTurnsSpec)) textsTurnsUptoCard

/-- THE SECOND FORM's CARD OF 'conchlaw19.TextsBytes'. -/
def textsBytesUptoCard : Claim7 := { stood := { row := textsBytesUptoRow, standIns := [], harness := (true, "a2d682490318751b57ddb17c5a64d7f91951606087683b44f75a55e7185f4b3a"), looks := true }, kinds := [], alts := [], laidByText := true, laidKinds := [.data, .data, .data, .data, .sentinel, .sentinel, .pinned], laidTests := true, laidLooks := .later }
def TextsBytesUptoCardSaid : Prop := Claim7.holds Tryd.pinned (.plain (OpenSpec.upto textsBytesSpec)) textsBytesUptoCard

/-- THE SECOND FORM's CARD OF 'conchlaw19.TextsPrints'. -/
def textsPrintsUptoCard : Claim7 := { stood := { row := textsPrintsUptoRow, standIns := [], harness := (true, "a2d682490318751b57ddb17c5a64d7f91951606087683b44f75a55e7185f4b3a"), looks := true }, kinds := [], alts := [], laidByText := true, laidKinds := [.data, .data, .data, .data, .sentinel, .sentinel, .pinned], laidTests := true, laidLooks := .later }
def TextsPrintsUptoCardSaid : Prop := Claim7.holds Tryd.pinned (.plain (OpenSpec.upto textsPrintsSpec)) textsPrintsUptoCard

/-- THE SECOND FORM's CARD OF 'conchlaw19.TextsUniqs'. -/
def textsUniqsUptoCard : Claim7 := { stood := { row := textsUniqsUptoRow, standIns := [], harness := (true, "a2d682490318751b57ddb17c5a64d7f91951606087683b44f75a55e7185f4b3a"), looks := true }, kinds := [], alts := [], laidByText := true, laidKinds := [.data, .data, .data, .data, .sentinel, .sentinel, .pinned], laidTests := true, laidLooks := .later }
def TextsUniqsUptoCardSaid : Prop := Claim7.holds Tryd.pinned (.plain (OpenSpec.upto textsUniqsSpec)) textsUniqsUptoCard

/-- THE SECOND FORM's CARD OF 'conchlaw19.TextsGreps'. -/
def textsGrepsUptoCard : Claim7 := { stood := { row := textsGrepsUptoRow, standIns := [], harness := (true, "a2d682490318751b57ddb17c5a64d7f91951606087683b44f75a55e7185f4b3a"), looks := true }, kinds := [], alts := [], laidByText := true, laidKinds := [.data, .data, .data, .data, .sentinel, .sentinel, .pinned], laidTests := true, laidLooks := .later }
def TextsGrepsUptoCardSaid : Prop := Claim7.holds Tryd.pinned (.plain (OpenSpec.upto textsGrepsSpec)) textsGrepsUptoCard

/-- THE SECOND FORM's CARD OF 'conchlaw19.TextsEnds'. -/
def textsEndsUptoCard : Claim7 := { stood := { row := textsEndsUptoRow, standIns := [], harness := (true, "a2d682490318751b57ddb17c5a64d7f91951606087683b44f75a55e7185f4b3a"), looks := true }, kinds := [], alts := [], laidByText := true, laidKinds := [.data, .data, .data, .data, .sentinel, .sentinel, .pinned], laidTests := true, laidLooks := .later }
def TextsEndsUptoCardSaid : Prop := Claim7.holds Tryd.pinned (.plain (OpenSpec.upto textsEndsSpec)) textsEndsUptoCard

/-- THE SECOND FORM's CARD OF 'conchlaw19.TextsParts'. -/
def textsPartsUptoCard : Claim7 := { stood := { row := textsPartsUptoRow, standIns := [], harness := (true, "a2d682490318751b57ddb17c5a64d7f91951606087683b44f75a55e7185f4b3a"), looks := true }, kinds := [], alts := [], laidByText := true, laidKinds := [.data, .data, .data, .data, .sentinel, .sentinel, .pinned], laidTests := true, laidLooks := .later }
def TextsPartsUptoCardSaid : Prop := Claim7.holds Tryd.pinned (.plain (OpenSpec.upto textsPartsSpec)) textsPartsUptoCard
end Rows
end Go.Proofs.YtmhgehnkhhlbkaaDoor
