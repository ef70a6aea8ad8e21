/-
  DERIVED. GIVEN WITH THE SEED: THE CARDS: each row of YtlegocibpfflnaaGreatDoorRows.lean that lists a variable, with what it lists TIED to the program's text (the seventh form; the later family's looks); each row that meets fmt, with fmt's text TOLD by the authors' own Lean function (tested against real Go, not proved from fmt's source: count such statements apart). THE CARD IS WHAT COUNTS. Prove the row's statement (the work); the ties are given (YtlegocibpfflnaaGreatDoorTie.lean); close each card by the builder's one call (the guide's Derived/Test/ToyasCard.lean, 'card_holds'). Laid BY PROGRAM, IN A SANDBOX (cutbox-door.mjs). By AI agents, Wed Nov 11 2026. No macro, syntax, notation, axiom, sorry.
-/
import Derived.Test.YtlegocibpfflnaaGreatDoorRows
import GoSem.ClaimSeven
namespace Go.Proofs.YtlegocibpfflnaaGreatDoor
namespace Rows

/-- THE TIED CARD OF 'viatorlaw44.TypesUndefined'. -/
def typesUndefinedCard : Claim7 := { stood := { row := typesUndefinedRow, standIns := [], harness := (true, "8555ea632311f62f946317431746f18de2fff243e0629df806782b403a643523"), looks := false }, kinds := [], alts := [], laidByText := true, laidKinds := [.data, .pinned], laidTests := true, laidLooks := .later }
def TypesUndefinedCardSaid : Prop := Claim7.holds Tryz.pinned (.plain (OpenSpec.ofChange typesUndefinedSpec)) typesUndefinedCard

/-- THE SECOND FORM's CARD OF 'viatorlaw44.TypesUndefined'. -/
def typesUndefinedUptoCard : Claim7 := { stood := { row := typesUndefinedUptoRow, standIns := [], harness := (true, "8555ea632311f62f946317431746f18de2fff243e0629df806782b403a643523"), looks := false }, kinds := [], alts := [], laidByText := true, laidKinds := [.data, .pinned], laidTests := true, laidLooks := .later }
def TypesUndefinedUptoCardSaid : Prop := Claim7.holds Tryz.pinned (.plain (OpenSpec.upto typesUndefinedSpec)) typesUndefinedUptoCard
end Rows
end Go.Proofs.YtlegocibpfflnaaGreatDoor
