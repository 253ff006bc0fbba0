/-
  DERIVED. GIVEN WITH THE SEED: THE CARDS: each row of YthdgnfcbehcplaaDoorRows.lean that lists a variable, with what it lists TIED to the program's text (the seventh form; the later family's looks); each row that meets fmt, with fmt's text TOLD by the authors' own Lean function (tested against real Go, not proved from fmt's source: count such statements apart). THE CARD IS WHAT COUNTS. Prove the row's statement (the work); the ties are given (YthdgnfcbehcplaaDoorTie.lean); close each card by the builder's one call (the guide's Derived/Test/ToyasCard.lean, 'card_holds'). Laid BY PROGRAM, IN A SANDBOX (cutbox-door.mjs). By AI agents, Wed Nov 11 2026. No macro, syntax, notation, axiom, sorry.
-/
import Derived.Test.YthdgnfcbehcplaaDoorRows
import GoSem.ClaimSeven
namespace Go.Proofs.YthdgnfcbehcplaaDoor
namespace Rows

/-- THE TIED CARD OF 'seismonetlaw38.CatalogueAgain'. -/
def catalogueAgainCard : Claim7 := { stood := { row := catalogueAgainRow, standIns := [], harness := (true, "542a1e2fc5ee644b1e7a06259765f010a4bf92bba8e3276c7e7aab74371e4027"), looks := false }, kinds := [], alts := [], laidByText := true, laidKinds := [.data, .data, .data, .data], laidTests := true, laidLooks := .later }
def CatalogueAgainCardSaid : Prop := Claim7.holds Tryd.pinned (.plain (OpenSpec.ofChange catalogueAgainSpec)) catalogueAgainCard

/-- THE TIED CARD OF 'seismonetlaw38.CatalogueShows'. -/
def catalogueShowsCard : Claim7 := { stood := { row := catalogueShowsRow, standIns := [], harness := (true, "542a1e2fc5ee644b1e7a06259765f010a4bf92bba8e3276c7e7aab74371e4027"), looks := false }, kinds := [], alts := [], laidByText := true, laidKinds := [.data, .data, .data, .data], laidTests := true, laidLooks := .later }
def CatalogueShowsCardSaid : Prop := Claim7.holds Tryd.pinned (.plain (OpenSpec.ofChange catalogueShowsSpec)) catalogueShowsCard

/-- THE TIED CARD OF 'seismonetlaw38.CataloguePersons'. -/
def cataloguePersonsCard : Claim7 := { stood := { row := cataloguePersonsRow, standIns := [], harness := (true, "542a1e2fc5ee644b1e7a06259765f010a4bf92bba8e3276c7e7aab74371e4027"), looks := false }, kinds := [], alts := [], laidByText := true, laidKinds := [.data, .data, .data, .data], laidTests := true, laidLooks := .later }
def CataloguePersonsCardSaid : Prop := Claim7.holds Tryd.pinned (.plain (OpenSpec.ofChange cataloguePersonsSpec)) cataloguePersonsCard

/-- THE SECOND FORM's CARD OF 'seismonetlaw38.CatalogueAgain'. -/
def catalogueAgainUptoCard : Claim7 := { stood := { row := catalogueAgainUptoRow, standIns := [], harness := (true, "542a1e2fc5ee644b1e7a06259765f010a4bf92bba8e3276c7e7aab74371e4027"), looks := false }, kinds := [], alts := [], laidByText := true, laidKinds := [.data, .data, .data, .data], laidTests := true, laidLooks := .later }
def CatalogueAgainUptoCardSaid : Prop := Claim7.holds Tryd.pinned (.plain (OpenSpec.upto catalogueAgainSpec)) catalogueAgainUptoCard

/-- THE SECOND FORM's CARD OF 'seismonetlaw38.CatalogueShows'. -/
def catalogueShowsUptoCard : Claim7 := { stood := { row := catalogueShowsUptoRow, standIns := [], harness := (true, "542a1e2fc5ee644b1e7a06259765f010a4bf92bba8e3276c7e7aab74371e4027"), looks := false }, kinds := [], alts := [], laidByText := true, laidKinds := [.data, .data, .data, .data], laidTests := true, laidLooks := .later }
def CatalogueShowsUptoCardSaid : Prop := Claim7.holds Tryd.pinned (.plain (OpenSpec.upto catalogueShowsSpec)) catalogueShowsUptoCard

/-- THE SECOND FORM's CARD OF 'seismonetlaw38.CataloguePersons'. -/
def cataloguePersonsUptoCard : Claim7 := { stood := { row := cataloguePersonsUptoRow, standIns := [], harness := (true, "542a1e2fc5ee644b1e7a06259765f010a4bf92bba8e3276c7e7aab74371e4027"), looks := false }, kinds := [], alts := [], laidByText := true, laidKinds := [.data, .data, .data, .data], laidTests := true, laidLooks := .later }
def CataloguePersonsUptoCardSaid : Prop := Claim7.holds Tryd.pinned (.plain (OpenSpec.upto cataloguePersonsSpec)) cataloguePersonsUptoCard
end Rows
end Go.Proofs.YthdgnfcbehcplaaDoor
