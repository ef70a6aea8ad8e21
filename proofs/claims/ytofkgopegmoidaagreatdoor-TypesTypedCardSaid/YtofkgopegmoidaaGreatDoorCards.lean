/-
  DERIVED. GIVEN WITH THE SEED: THE CARDS: each row of YtofkgopegmoidaaGreatDoorRows.lean that lists a variable, with what it lists TIED to the program's text (the seventh form; the later family's looks); each row that meets fmt, with fmt's text TOLD by the authors' own Lean function (tested against real Go, not proved from fmt's source: count such statements apart). THE CARD IS WHAT COUNTS. Prove the row's statement (the work); the ties are given (YtofkgopegmoidaaGreatDoorTie.lean); close each card by the builder's one call (the guide's Derived/Test/ToyasCard.lean, 'card_holds'). Laid BY PROGRAM, IN A SANDBOX (cutbox-door.mjs). By AI agents, Wed Nov 11 2026. No macro, syntax, notation, axiom, sorry.
-/
import Derived.Test.YtofkgopegmoidaaGreatDoorRows
import GoSem.ClaimSeven
namespace Go.Proofs.YtofkgopegmoidaaGreatDoor
namespace Rows

/-- THE TIED CARD OF 'viatorlaw46.RewriteCompares'. -/
def rewriteComparesCard : Claim7 := { stood := { row := rewriteComparesRow, standIns := [], harness := (true, "365ca2cd90760fd0bc75d356644d295e8b3ec14f155de916fae3b8b43cb7d2d5"), looks := false }, kinds := [], alts := [], laidByText := true, laidKinds := [.data, .pinned], laidTests := true, laidLooks := .later }
def RewriteComparesCardSaid : Prop := Claim7.holds Tryz.pinned (.plain (OpenSpec.ofChange rewriteComparesSpec)) rewriteComparesCard

/-- THE TIED CARD OF 'viatorlaw46.RewriteNames'. -/
def rewriteNamesCard : Claim7 := { stood := { row := rewriteNamesRow, standIns := [], harness := (true, "365ca2cd90760fd0bc75d356644d295e8b3ec14f155de916fae3b8b43cb7d2d5"), looks := false }, kinds := [], alts := [], laidByText := true, laidKinds := [.data, .pinned], laidTests := true, laidLooks := .later }
def RewriteNamesCardSaid : Prop := Claim7.holds Tryz.pinned (.plain (OpenSpec.ofChange rewriteNamesSpec)) rewriteNamesCard

/-- THE TIED CARD OF 'viatorlaw44.TypesNames'. -/
def typesNamesCard : Claim7 := { stood := { row := typesNamesRow, standIns := [], harness := (true, "365ca2cd90760fd0bc75d356644d295e8b3ec14f155de916fae3b8b43cb7d2d5"), looks := false }, kinds := [], alts := [], laidByText := true, laidKinds := [.data, .pinned], laidTests := true, laidLooks := .later }
def TypesNamesCardSaid : Prop := Claim7.holds Tryz.pinned (.plain (OpenSpec.ofChange typesNamesSpec)) typesNamesCard

/-- THE TIED CARD OF 'viatorlaw44.TypesTyped'. -/
def typesTypedCard : Claim7 := { stood := { row := typesTypedRow, standIns := [], harness := (true, "365ca2cd90760fd0bc75d356644d295e8b3ec14f155de916fae3b8b43cb7d2d5"), looks := false }, kinds := [], alts := [], laidByText := true, laidKinds := [.data, .pinned], laidTests := true, laidLooks := .later }
def TypesTypedCardSaid : Prop := Claim7.holds Tryz.pinned (.plain (OpenSpec.ofChange typesTypedSpec)) typesTypedCard

/-- THE TIED CARD OF 'viatorlaw44.TypesQueries'. -/
def typesQueriesCard : Claim7 := { stood := { row := typesQueriesRow, standIns := [], harness := (true, "365ca2cd90760fd0bc75d356644d295e8b3ec14f155de916fae3b8b43cb7d2d5"), looks := false }, kinds := [], alts := [], laidByText := true, laidKinds := [.data, .pinned], laidTests := true, laidLooks := .later }
def TypesQueriesCardSaid : Prop := Claim7.holds Tryz.pinned (.plain (OpenSpec.ofChange typesQueriesSpec)) typesQueriesCard

/-- THE TIED CARD OF 'viatorlaw44.TypesNamed'. -/
def typesNamedCard : Claim7 := { stood := { row := typesNamedRow, standIns := [], harness := (true, "365ca2cd90760fd0bc75d356644d295e8b3ec14f155de916fae3b8b43cb7d2d5"), looks := false }, kinds := [], alts := [], laidByText := true, laidKinds := [.data, .pinned], laidTests := true, laidLooks := .later }
def TypesNamedCardSaid : Prop := Claim7.holds Tryz.pinned (.plain (OpenSpec.ofChange typesNamedSpec)) typesNamedCard

/-- THE SECOND FORM's CARD OF 'viatorlaw46.RewriteCompares'. -/
def rewriteComparesUptoCard : Claim7 := { stood := { row := rewriteComparesUptoRow, standIns := [], harness := (true, "365ca2cd90760fd0bc75d356644d295e8b3ec14f155de916fae3b8b43cb7d2d5"), looks := false }, kinds := [], alts := [], laidByText := true, laidKinds := [.data, .pinned], laidTests := true, laidLooks := .later }
def RewriteComparesUptoCardSaid : Prop := Claim7.holds Tryz.pinned (.plain (OpenSpec.upto rewriteComparesSpec)) rewriteComparesUptoCard

/-- THE SECOND FORM's CARD OF 'viatorlaw46.RewriteNames'. -/
def rewriteNamesUptoCard : Claim7 := { stood := { row := rewriteNamesUptoRow, standIns := [], harness := (true, "365ca2cd90760fd0bc75d356644d295e8b3ec14f155de916fae3b8b43cb7d2d5"), looks := false }, kinds := [], alts := [], laidByText := true, laidKinds := [.data, .pinned], laidTests := true, laidLooks := .later }
def RewriteNamesUptoCardSaid : Prop := Claim7.holds Tryz.pinned (.plain (OpenSpec.upto rewriteNamesSpec)) rewriteNamesUptoCard

/-- THE SECOND FORM's CARD OF 'viatorlaw44.TypesNames'. -/
def typesNamesUptoCard : Claim7 := { stood := { row := typesNamesUptoRow, standIns := [], harness := (true, "365ca2cd90760fd0bc75d356644d295e8b3ec14f155de916fae3b8b43cb7d2d5"), looks := false }, kinds := [], alts := [], laidByText := true, laidKinds := [.data, .pinned], laidTests := true, laidLooks := .later }
def TypesNamesUptoCardSaid : Prop := Claim7.holds Tryz.pinned (.plain (OpenSpec.upto typesNamesSpec)) typesNamesUptoCard

/-- THE SECOND FORM's CARD OF 'viatorlaw44.TypesTyped'. -/
def typesTypedUptoCard : Claim7 := { stood := { row := typesTypedUptoRow, standIns := [], harness := (true, "365ca2cd90760fd0bc75d356644d295e8b3ec14f155de916fae3b8b43cb7d2d5"), looks := false }, kinds := [], alts := [], laidByText := true, laidKinds := [.data, .pinned], laidTests := true, laidLooks := .later }
def TypesTypedUptoCardSaid : Prop := Claim7.holds Tryz.pinned (.plain (OpenSpec.upto typesTypedSpec)) typesTypedUptoCard

/-- THE SECOND FORM's CARD OF 'viatorlaw44.TypesQueries'. -/
def typesQueriesUptoCard : Claim7 := { stood := { row := typesQueriesUptoRow, standIns := [], harness := (true, "365ca2cd90760fd0bc75d356644d295e8b3ec14f155de916fae3b8b43cb7d2d5"), looks := false }, kinds := [], alts := [], laidByText := true, laidKinds := [.data, .pinned], laidTests := true, laidLooks := .later }
def TypesQueriesUptoCardSaid : Prop := Claim7.holds Tryz.pinned (.plain (OpenSpec.upto typesQueriesSpec)) typesQueriesUptoCard

/-- THE SECOND FORM's CARD OF 'viatorlaw44.TypesNamed'. -/
def typesNamedUptoCard : Claim7 := { stood := { row := typesNamedUptoRow, standIns := [], harness := (true, "365ca2cd90760fd0bc75d356644d295e8b3ec14f155de916fae3b8b43cb7d2d5"), looks := false }, kinds := [], alts := [], laidByText := true, laidKinds := [.data, .pinned], laidTests := true, laidLooks := .later }
def TypesNamedUptoCardSaid : Prop := Claim7.holds Tryz.pinned (.plain (OpenSpec.upto typesNamedSpec)) typesNamedUptoCard
end Rows
end Go.Proofs.YtofkgopegmoidaaGreatDoor
