/-
  DERIVED. GIVEN WITH THE SEED: THE CARDS: each row of YtelohloaoocoaaaGreatDoorRows.lean that lists a variable, with what it lists TIED to the program's text (the seventh form; the later family's looks); each row that meets fmt, with fmt's text TOLD by the authors' own Lean function (tested against real Go, not proved from fmt's source: count such statements apart). THE CARD IS WHAT COUNTS. Prove the row's statement (the work); the ties are given (YtelohloaoocoaaaGreatDoorTie.lean); close each card by the builder's one call (the guide's Derived/Test/ToyasCard.lean, 'card_holds'). Laid BY PROGRAM, IN A SANDBOX (cutbox-door.mjs). By AI agents, Wed Nov 11 2026. No macro, syntax, notation, axiom, sorry.
-/
import Derived.Test.YtelohloaoocoaaaGreatDoorRows
import GoSem.ClaimSeven
namespace Go.Proofs.YtelohloaoocoaaaGreatDoor
namespace Rows

/-- THE TIED CARD OF 'conchlaw23.WorldOwn'. -/
def worldOwnCard : Claim7 := { stood := { row := worldOwnRow, standIns := [], harness := (true, "3caad77d04fb053059feefd28dcd2eaf6ee5bc882826f52e9b013b4916fbab48"), looks := true }, kinds := [], alts := [], laidByText := true, laidKinds := [.data, .data, .data, .data, .sentinel, .sentinel, .pinned], laidTests := true, laidLooks := .later }
def WorldOwnCardSaid : Prop := Claim7.holds Tryz.pinned (.plain (OpenSpec.ofChange worldOwnSpec)) worldOwnCard

/-- THE TIED CARD OF 'conchlaw23.WorldPicks'. -/
def worldPicksCard : Claim7 := { stood := { row := worldPicksRow, standIns := [], harness := (true, "3caad77d04fb053059feefd28dcd2eaf6ee5bc882826f52e9b013b4916fbab48"), looks := true }, kinds := [], alts := [], laidByText := true, laidKinds := [.data, .data, .data, .data, .sentinel, .sentinel, .pinned], laidTests := true, laidLooks := .later }
def WorldPicksCardSaid : Prop := Claim7.holds Tryz.pinned (.plain (OpenSpec.ofChange worldPicksSpec)) worldPicksCard

/-- THE TIED CARD OF 'conchlaw23.WorldFamily'. -/
def worldFamilyCard : Claim7 := { stood := { row := worldFamilyRow, standIns := [], harness := (true, "3caad77d04fb053059feefd28dcd2eaf6ee5bc882826f52e9b013b4916fbab48"), looks := true }, kinds := [], alts := [], laidByText := true, laidKinds := [.data, .data, .data, .data, .sentinel, .sentinel, .pinned], laidTests := true, laidLooks := .later }
def WorldFamilyCardSaid : Prop := Claim7.holds Tryz.pinned (.plain (OpenSpec.ofChange worldFamilySpec)) worldFamilyCard

/-- THE SECOND FORM's CARD OF 'conchlaw23.WorldOwn'. -/
def worldOwnUptoCard : Claim7 := { stood := { row := worldOwnUptoRow, standIns := [], harness := (true, "3caad77d04fb053059feefd28dcd2eaf6ee5bc882826f52e9b013b4916fbab48"), looks := true }, kinds := [], alts := [], laidByText := true, laidKinds := [.data, .data, .data, .data, .sentinel, .sentinel, .pinned], laidTests := true, laidLooks := .later }
def WorldOwnUptoCardSaid : Prop := Claim7.holds Tryz.pinned (.plain (OpenSpec.upto worldOwnSpec)) worldOwnUptoCard

/-- THE SECOND FORM's CARD OF 'conchlaw23.WorldPicks'. -/
def worldPicksUptoCard : Claim7 := { stood := { row := worldPicksUptoRow, standIns := [], harness := (true, "3caad77d04fb053059feefd28dcd2eaf6ee5bc882826f52e9b013b4916fbab48"), looks := true }, kinds := [], alts := [], laidByText := true, laidKinds := [.data, .data, .data, .data, .sentinel, .sentinel, .pinned], laidTests := true, laidLooks := .later }
def WorldPicksUptoCardSaid : Prop := Claim7.holds Tryz.pinned (.plain (OpenSpec.upto worldPicksSpec)) worldPicksUptoCard

/-- THE SECOND FORM's CARD OF 'conchlaw23.WorldFamily'. -/
def worldFamilyUptoCard : Claim7 := { stood := { row := worldFamilyUptoRow, standIns := [], harness := (true, "3caad77d04fb053059feefd28dcd2eaf6ee5bc882826f52e9b013b4916fbab48"), looks := true }, kinds := [], alts := [], laidByText := true, laidKinds := [.data, .data, .data, .data, .sentinel, .sentinel, .pinned], laidTests := true, laidLooks := .later }
def WorldFamilyUptoCardSaid : Prop := Claim7.holds Tryz.pinned (.plain (OpenSpec.upto worldFamilySpec)) worldFamilyUptoCard
end Rows
end Go.Proofs.YtelohloaoocoaaaGreatDoor
