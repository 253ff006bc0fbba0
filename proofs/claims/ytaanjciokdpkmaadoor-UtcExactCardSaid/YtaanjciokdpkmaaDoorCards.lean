/-
  DERIVED. GIVEN WITH THE SEED: THE CARDS: each row of YtaanjciokdpkmaaDoorRows.lean that lists a variable, with what it lists TIED to the program's text (the seventh form; the later family's looks); each row that meets fmt, with fmt's text TOLD by the authors' own Lean function (tested against real Go, not proved from fmt's source: count such statements apart). THE CARD IS WHAT COUNTS. Prove the row's statement (the work); the ties are given (YtaanjciokdpkmaaDoorTie.lean); close each card by the builder's one call (the guide's Derived/Test/ToyasCard.lean, 'card_holds'). Laid BY PROGRAM, IN A SANDBOX (cutbox-door.mjs). By AI agents, Wed Nov 11 2026. No macro, syntax, notation, axiom, sorry.
-/
import Derived.Test.YtaanjciokdpkmaaDoorRows
import GoSem.ClaimSeven
namespace Go.Proofs.YtaanjciokdpkmaaDoor
namespace Rows

/-- THE TIED CARD OF 'seismonetlaw01.UtcDates'. -/
def utcDatesCard : Claim7 := { stood := { row := utcDatesRow, standIns := [], harness := (true, "d2f51b00a9ef50ab34679e0b49268bc2833d5c2090d8f7c9bf9ad98eeb948528"), looks := false }, kinds := [], alts := [], laidByText := true, laidKinds := [.data, .data, .data], laidTests := true, laidLooks := .later }
def UtcDatesCardSaid : Prop := Claim7.holds Tryd.pinned (.plain (OpenSpec.ofChange utcDatesSpec)) utcDatesCard

/-- THE TIED CARD OF 'seismonetlaw01.UtcAscends'. -/
def utcAscendsCard : Claim7 := { stood := { row := utcAscendsRow, standIns := [], harness := (true, "d2f51b00a9ef50ab34679e0b49268bc2833d5c2090d8f7c9bf9ad98eeb948528"), looks := false }, kinds := [], alts := [], laidByText := true, laidKinds := [.data, .data, .data], laidTests := true, laidLooks := .later }
def UtcAscendsCardSaid : Prop := Claim7.holds Tryd.pinned (.plain (OpenSpec.ofChange utcAscendsSpec)) utcAscendsCard

/-- THE TIED CARD OF 'seismonetlaw01.UtcTables'. -/
def utcTablesCard : Claim7 := { stood := { row := utcTablesRow, standIns := [], harness := (true, "d2f51b00a9ef50ab34679e0b49268bc2833d5c2090d8f7c9bf9ad98eeb948528"), looks := false }, kinds := [], alts := [], laidByText := true, laidKinds := [.data, .data, .data], laidTests := true, laidLooks := .later }
def UtcTablesCardSaid : Prop := Claim7.holds Tryd.pinned (.plain (OpenSpec.ofChange utcTablesSpec)) utcTablesCard

/-- THE TIED CARD OF 'seismonetlaw01.UtcBack'. -/
def utcBackCard : Claim7 := { stood := { row := utcBackRow, standIns := [], harness := (true, "d2f51b00a9ef50ab34679e0b49268bc2833d5c2090d8f7c9bf9ad98eeb948528"), looks := false }, kinds := [], alts := [], laidByText := true, laidKinds := [.data, .data, .data], laidTests := true, laidLooks := .later }
def UtcBackCardSaid : Prop := Claim7.holds Tryd.pinned (.plain (OpenSpec.ofChange utcBackSpec)) utcBackCard

/-- THE TIED CARD OF 'seismonetlaw01.UtcExact'. -/
def utcExactCard : Claim7 := { stood := { row := utcExactRow, standIns := [], harness := (true, "d2f51b00a9ef50ab34679e0b49268bc2833d5c2090d8f7c9bf9ad98eeb948528"), looks := false }, kinds := [], alts := [], laidByText := true, laidKinds := [.data, .data, .data], laidTests := true, laidLooks := .later }
def UtcExactCardSaid : Prop := Claim7.holds Tryd.pinned (.plain (OpenSpec.ofChange utcExactSpec)) utcExactCard

/-- THE SECOND FORM's CARD OF 'seismonetlaw01.UtcDates'. -/
def utcDatesUptoCard : Claim7 := { stood := { row := utcDatesUptoRow, standIns := [], harness := (true, "d2f51b00a9ef50ab34679e0b49268bc2833d5c2090d8f7c9bf9ad98eeb948528"), looks := false }, kinds := [], alts := [], laidByText := true, laidKinds := [.data, .data, .data], laidTests := true, laidLooks := .later }
def UtcDatesUptoCardSaid : Prop := Claim7.holds Tryd.pinned (.plain (OpenSpec.upto utcDatesSpec)) utcDatesUptoCard

/-- THE SECOND FORM's CARD OF 'seismonetlaw01.UtcAscends'. -/
def utcAscendsUptoCard : Claim7 := { stood := { row := utcAscendsUptoRow, standIns := [], harness := (true, "d2f51b00a9ef50ab34679e0b49268bc2833d5c2090d8f7c9bf9ad98eeb948528"), looks := false }, kinds := [], alts := [], laidByText := true, laidKinds := [.data, .data, .data], laidTests := true, laidLooks := .later }
def UtcAscendsUptoCardSaid : Prop := Claim7.holds Tryd.pinned (.plain (OpenSpec.upto utcAscendsSpec)) utcAscendsUptoCard

/-- THE SECOND FORM's CARD OF 'seismonetlaw01.UtcTables'. -/
def utcTablesUptoCard : Claim7 := { stood := { row := utcTablesUptoRow, standIns := [], harness := (true, "d2f51b00a9ef50ab34679e0b49268bc2833d5c2090d8f7c9bf9ad98eeb948528"), looks := false }, kinds := [], alts := [], laidByText := true, laidKinds := [.data, .data, .data], laidTests := true, laidLooks := .later }
def UtcTablesUptoCardSaid : Prop := Claim7.holds Tryd.pinned (.plain (OpenSpec.upto utcTablesSpec)) utcTablesUptoCard

/-- THE SECOND FORM's CARD OF 'seismonetlaw01.UtcBack'. -/
def utcBackUptoCard : Claim7 := { stood := { row := utcBackUptoRow, standIns := [], harness := (true, "d2f51b00a9ef50ab34679e0b49268bc2833d5c2090d8f7c9bf9ad98eeb948528"), looks := false }, kinds := [], alts := [], laidByText := true, laidKinds := [.data, .data, .data], laidTests := true, laidLooks := .later }
def UtcBackUptoCardSaid : Prop := Claim7.holds Tryd.pinned (.plain (OpenSpec.upto utcBackSpec)) utcBackUptoCard

/-- THE SECOND FORM's CARD OF 'seismonetlaw01.UtcExact'. -/
def utcExactUptoCard : Claim7 := { stood := { row := utcExactUptoRow, standIns := [], harness := (true, "d2f51b00a9ef50ab34679e0b49268bc2833d5c2090d8f7c9bf9ad98eeb948528"), looks := false }, kinds := [], alts := [], laidByText := true, laidKinds := [.data, .data, .data], laidTests := true, laidLooks := .later }
def UtcExactUptoCardSaid : Prop := Claim7.holds Tryd.pinned (.plain (OpenSpec.upto utcExactSpec)) utcExactUptoCard
end Rows
end Go.Proofs.YtaanjciokdpkmaaDoor
