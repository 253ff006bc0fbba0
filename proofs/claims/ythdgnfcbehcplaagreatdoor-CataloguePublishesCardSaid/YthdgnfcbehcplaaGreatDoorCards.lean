/-
  DERIVED. GIVEN WITH THE SEED: THE CARDS: each row of YthdgnfcbehcplaaGreatDoorRows.lean that lists a variable, with what it lists TIED to the program's text (the seventh form; the later family's looks); each row that meets fmt, with fmt's text TOLD by the authors' own Lean function (tested against real Go, not proved from fmt's source: count such statements apart). THE CARD IS WHAT COUNTS. Prove the row's statement (the work); the ties are given (YthdgnfcbehcplaaGreatDoorTie.lean); close each card by the builder's one call (the guide's Derived/Test/ToyasCard.lean, 'card_holds'). Laid BY PROGRAM, IN A SANDBOX (cutbox-door.mjs). By AI agents, Wed Nov 11 2026. No macro, syntax, notation, axiom, sorry.
-/
import Derived.Test.YthdgnfcbehcplaaGreatDoorRows
import GoSem.ClaimSeven
namespace Go.Proofs.YthdgnfcbehcplaaGreatDoor
namespace Rows

/-- THE TIED CARD OF 'seismonetlaw38.CatalogueActs'. -/
def catalogueActsCard : Claim7 := { stood := { row := catalogueActsRow, standIns := [], harness := (true, "1993b3d8573ca4faa867cc40c2c4e1238fa88a061828bb26d31d40166f34f9f3"), looks := false }, kinds := [], alts := [], laidByText := true, laidKinds := [.data, .data, .data, .data], laidTests := true, laidLooks := .later }
def CatalogueActsCardSaid : Prop := Claim7.holds Tryz.pinned (.plain (OpenSpec.ofChange catalogueActsSpec)) catalogueActsCard

/-- THE TIED CARD OF 'seismonetlaw38.CatalogueKept'. -/
def catalogueKeptCard : Claim7 := { stood := { row := catalogueKeptRow, standIns := [], harness := (true, "1993b3d8573ca4faa867cc40c2c4e1238fa88a061828bb26d31d40166f34f9f3"), looks := false }, kinds := [], alts := [], laidByText := true, laidKinds := [.data, .data, .data, .data], laidTests := true, laidLooks := .later }
def CatalogueKeptCardSaid : Prop := Claim7.holds Tryz.pinned (.plain (OpenSpec.ofChange catalogueKeptSpec)) catalogueKeptCard

/-- THE TIED CARD OF 'seismonetlaw38.CataloguePublishes'. -/
def cataloguePublishesCard : Claim7 := { stood := { row := cataloguePublishesRow, standIns := [], harness := (true, "1993b3d8573ca4faa867cc40c2c4e1238fa88a061828bb26d31d40166f34f9f3"), looks := false }, kinds := [], alts := [], laidByText := true, laidKinds := [.data, .data, .data, .data], laidTests := true, laidLooks := .later }
def CataloguePublishesCardSaid : Prop := Claim7.holds Tryz.pinned (.plain (OpenSpec.ofChange cataloguePublishesSpec)) cataloguePublishesCard

/-- THE SECOND FORM's CARD OF 'seismonetlaw38.CatalogueActs'. -/
def catalogueActsUptoCard : Claim7 := { stood := { row := catalogueActsUptoRow, standIns := [], harness := (true, "1993b3d8573ca4faa867cc40c2c4e1238fa88a061828bb26d31d40166f34f9f3"), looks := false }, kinds := [], alts := [], laidByText := true, laidKinds := [.data, .data, .data, .data], laidTests := true, laidLooks := .later }
def CatalogueActsUptoCardSaid : Prop := Claim7.holds Tryz.pinned (.plain (OpenSpec.upto catalogueActsSpec)) catalogueActsUptoCard

/-- THE SECOND FORM's CARD OF 'seismonetlaw38.CatalogueKept'. -/
def catalogueKeptUptoCard : Claim7 := { stood := { row := catalogueKeptUptoRow, standIns := [], harness := (true, "1993b3d8573ca4faa867cc40c2c4e1238fa88a061828bb26d31d40166f34f9f3"), looks := false }, kinds := [], alts := [], laidByText := true, laidKinds := [.data, .data, .data, .data], laidTests := true, laidLooks := .later }
def CatalogueKeptUptoCardSaid : Prop := Claim7.holds Tryz.pinned (.plain (OpenSpec.upto catalogueKeptSpec)) catalogueKeptUptoCard

/-- THE SECOND FORM's CARD OF 'seismonetlaw38.CataloguePublishes'. -/
def cataloguePublishesUptoCard : Claim7 := { stood := { row := cataloguePublishesUptoRow, standIns := [], harness := (true, "1993b3d8573ca4faa867cc40c2c4e1238fa88a061828bb26d31d40166f34f9f3"), looks := false }, kinds := [], alts := [], laidByText := true, laidKinds := [.data, .data, .data, .data], laidTests := true, laidLooks := .later }
def CataloguePublishesUptoCardSaid : Prop := Claim7.holds Tryz.pinned (.plain (OpenSpec.upto cataloguePublishesSpec)) cataloguePublishesUptoCard
end Rows
end Go.Proofs.YthdgnfcbehcplaaGreatDoor
