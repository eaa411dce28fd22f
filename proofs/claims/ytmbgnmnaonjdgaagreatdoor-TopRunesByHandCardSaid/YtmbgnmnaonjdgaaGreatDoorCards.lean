/-
  DERIVED. GIVEN WITH THE SEED: THE CARDS: each row of YtmbgnmnaonjdgaaGreatDoorRows.lean that lists a variable, with what it lists TIED to the program's text (the seventh form; the later family's looks); each row that meets fmt, with fmt's text TOLD by the authors' own Lean function (tested against real Go, not proved from fmt's source: count such statements apart). THE CARD IS WHAT COUNTS. Prove the row's statement (the work); the ties are given (YtmbgnmnaonjdgaaGreatDoorTie.lean); close each card by the builder's one call (the guide's Derived/Test/ToyasCard.lean, 'card_holds'). Laid BY PROGRAM, IN A SANDBOX (cutbox-door.mjs). By AI agents, Wed Nov 11 2026. No macro, syntax, notation, axiom, sorry.
-/
import Derived.Test.YtmbgnmnaonjdgaaGreatDoorRows
import GoSem.ClaimSeven
namespace Go.Proofs.YtmbgnmnaonjdgaaGreatDoor
namespace Rows

/-- THE TIED CARD OF 'herontop.TopLooked'. -/
def topLookedCard : Claim7 := { stood := { row := topLookedRow, standIns := [], harness := (true, "d0f7ba2fc30328c2ed9526a0000fa4ab4174e7930540bcc4d7ef1b980b86e1b2"), looks := true }, kinds := [], alts := [], laidByText := true, laidKinds := [.handle, .data], laidTests := true, laidLooks := .later }
def TopLookedCardSaid : Prop := Claim7.holds Tryz.pinned (.plain (OpenSpec.ofChange topLookedSpec)) topLookedCard

/-- THE TIED CARD OF 'herontop.TopKept'. -/
def topKeptCard : Claim7 := { stood := { row := topKeptRow, standIns := [], harness := (true, "d0f7ba2fc30328c2ed9526a0000fa4ab4174e7930540bcc4d7ef1b980b86e1b2"), looks := true }, kinds := [], alts := [], laidByText := true, laidKinds := [.handle, .data], laidTests := true, laidLooks := .later }
def TopKeptCardSaid : Prop := Claim7.holds Tryz.pinned (.plain (OpenSpec.ofChange topKeptSpec)) topKeptCard

/-- THE TIED CARD OF 'herontop.TopRunesByHand'. -/
def topRunesByHandCard : Claim7 := { stood := { row := topRunesByHandRow, standIns := [], harness := (true, "d0f7ba2fc30328c2ed9526a0000fa4ab4174e7930540bcc4d7ef1b980b86e1b2"), looks := true }, kinds := [], alts := [], laidByText := true, laidKinds := [.handle, .data], laidTests := true, laidLooks := .later }
def TopRunesByHandCardSaid : Prop := Claim7.holds Tryz.pinned (.plain (OpenSpec.ofChange topRunesByHandSpec)) topRunesByHandCard

/-- THE TIED CARD OF 'herontop.TopClassesByHand'. -/
def topClassesByHandCard : Claim7 := { stood := { row := topClassesByHandRow, standIns := [], harness := (true, "d0f7ba2fc30328c2ed9526a0000fa4ab4174e7930540bcc4d7ef1b980b86e1b2"), looks := true }, kinds := [], alts := [], laidByText := true, laidKinds := [.handle, .data], laidTests := true, laidLooks := .later }
def TopClassesByHandCardSaid : Prop := Claim7.holds Tryz.pinned (.plain (OpenSpec.ofChange topClassesByHandSpec)) topClassesByHandCard

/-- THE SECOND FORM's CARD OF 'herontop.TopLooked'. -/
def topLookedUptoCard : Claim7 := { stood := { row := topLookedUptoRow, standIns := [], harness := (true, "d0f7ba2fc30328c2ed9526a0000fa4ab4174e7930540bcc4d7ef1b980b86e1b2"), looks := true }, kinds := [], alts := [], laidByText := true, laidKinds := [.handle, .data], laidTests := true, laidLooks := .later }
def TopLookedUptoCardSaid : Prop := Claim7.holds Tryz.pinned (.plain (OpenSpec.upto topLookedSpec)) topLookedUptoCard

/-- THE SECOND FORM's CARD OF 'herontop.TopKept'. -/
def topKeptUptoCard : Claim7 := { stood := { row := topKeptUptoRow, standIns := [], harness := (true, "d0f7ba2fc30328c2ed9526a0000fa4ab4174e7930540bcc4d7ef1b980b86e1b2"), looks := true }, kinds := [], alts := [], laidByText := true, laidKinds := [.handle, .data], laidTests := true, laidLooks := .later }
def TopKeptUptoCardSaid : Prop := Claim7.holds Tryz.pinned (.plain (OpenSpec.upto topKeptSpec)) topKeptUptoCard

/-- THE SECOND FORM's CARD OF 'herontop.TopRunesByHand'. -/
def topRunesByHandUptoCard : Claim7 := { stood := { row := topRunesByHandUptoRow, standIns := [], harness := (true, "d0f7ba2fc30328c2ed9526a0000fa4ab4174e7930540bcc4d7ef1b980b86e1b2"), looks := true }, kinds := [], alts := [], laidByText := true, laidKinds := [.handle, .data], laidTests := true, laidLooks := .later }
def TopRunesByHandUptoCardSaid : Prop := Claim7.holds Tryz.pinned (.plain (OpenSpec.upto topRunesByHandSpec)) topRunesByHandUptoCard

/-- THE SECOND FORM's CARD OF 'herontop.TopClassesByHand'. -/
def topClassesByHandUptoCard : Claim7 := { stood := { row := topClassesByHandUptoRow, standIns := [], harness := (true, "d0f7ba2fc30328c2ed9526a0000fa4ab4174e7930540bcc4d7ef1b980b86e1b2"), looks := true }, kinds := [], alts := [], laidByText := true, laidKinds := [.handle, .data], laidTests := true, laidLooks := .later }
def TopClassesByHandUptoCardSaid : Prop := Claim7.holds Tryz.pinned (.plain (OpenSpec.upto topClassesByHandSpec)) topClassesByHandUptoCard
end Rows
end Go.Proofs.YtmbgnmnaonjdgaaGreatDoor
