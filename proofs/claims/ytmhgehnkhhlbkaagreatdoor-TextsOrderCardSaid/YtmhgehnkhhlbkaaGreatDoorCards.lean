/-
  DERIVED. GIVEN WITH THE SEED: THE CARDS: each row of YtmhgehnkhhlbkaaGreatDoorRows.lean that lists a variable, with what it lists TIED to the program's text (the seventh form; the later family's looks); each row that meets fmt, with fmt's text TOLD by the authors' own Lean function (tested against real Go, not proved from fmt's source: count such statements apart). THE CARD IS WHAT COUNTS. Prove the row's statement (the work); the ties are given (YtmhgehnkhhlbkaaGreatDoorTie.lean); close each card by the builder's one call (the guide's Derived/Test/ToyasCard.lean, 'card_holds'). Laid BY PROGRAM, IN A SANDBOX (cutbox-door.mjs). By AI agents, Wed Nov 11 2026. No macro, syntax, notation, axiom, sorry.
-/
import Derived.Test.YtmhgehnkhhlbkaaGreatDoorRows
import GoSem.ClaimSeven
namespace Go.Proofs.YtmhgehnkhhlbkaaGreatDoor
namespace Rows

/-- THE TIED CARD OF 'conchlaw19.TextsSorts'. -/
def textsSortsCard : Claim7 := { stood := { row := textsSortsRow, standIns := [], harness := (true, "f14296f0fa12eab60aaf377c6c97fa749106de025c4864b368ebd6fc145fe676"), looks := true }, kinds := [], alts := [], laidByText := true, laidKinds := [.data, .data, .data, .data, .sentinel, .sentinel, .pinned], laidTests := true, laidLooks := .later }
def TextsSortsCardSaid : Prop := Claim7.holds Tryz.pinned (.plain (OpenSpec.ofChange textsSortsSpec)) textsSortsCard

/-- THE TIED CARD OF 'conchlaw19.TextsOrder'. -/
def textsOrderCard : Claim7 := { stood := { row := textsOrderRow, standIns := [], harness := (true, "f14296f0fa12eab60aaf377c6c97fa749106de025c4864b368ebd6fc145fe676"), looks := true }, kinds := [], alts := [], laidByText := true, laidKinds := [.data, .data, .data, .data, .sentinel, .sentinel, .pinned], laidTests := true, laidLooks := .later }
def TextsOrderCardSaid : Prop := Claim7.holds Tryz.pinned (.plain (OpenSpec.ofChange textsOrderSpec)) textsOrderCard

/-- THE SECOND FORM's CARD OF 'conchlaw19.TextsSorts'. -/
def textsSortsUptoCard : Claim7 := { stood := { row := textsSortsUptoRow, standIns := [], harness := (true, "f14296f0fa12eab60aaf377c6c97fa749106de025c4864b368ebd6fc145fe676"), looks := true }, kinds := [], alts := [], laidByText := true, laidKinds := [.data, .data, .data, .data, .sentinel, .sentinel, .pinned], laidTests := true, laidLooks := .later }
def TextsSortsUptoCardSaid : Prop := Claim7.holds Tryz.pinned (.plain (OpenSpec.upto textsSortsSpec)) textsSortsUptoCard

/-- THE SECOND FORM's CARD OF 'conchlaw19.TextsOrder'. -/
def textsOrderUptoCard : Claim7 := { stood := { row := textsOrderUptoRow, standIns := [], harness := (true, "f14296f0fa12eab60aaf377c6c97fa749106de025c4864b368ebd6fc145fe676"), looks := true }, kinds := [], alts := [], laidByText := true, laidKinds := [.data, .data, .data, .data, .sentinel, .sentinel, .pinned], laidTests := true, laidLooks := .later }
def TextsOrderUptoCardSaid : Prop := Claim7.holds Tryz.pinned (.plain (OpenSpec.upto textsOrderSpec)) textsOrderUptoCard
end Rows
end Go.Proofs.YtmhgehnkhhlbkaaGreatDoor
