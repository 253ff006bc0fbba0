/-
  DERIVED. GIVEN WITH THE SEED: THE CARDS: each row of YtlpebecbipjoaaaGreatDoorRows.lean that lists a variable, with what it lists TIED to the program's text (the seventh form; the later family's looks); each row that meets fmt, with fmt's text TOLD by the authors' own Lean function (tested against real Go, not proved from fmt's source: count such statements apart). THE CARD IS WHAT COUNTS. Prove the row's statement (the work); the ties are given (YtlpebecbipjoaaaGreatDoorTie.lean); close each card by the builder's one call (the guide's Derived/Test/ToyasCard.lean, 'card_holds'). Laid BY PROGRAM, IN A SANDBOX (cutbox-door.mjs). By AI agents, Wed Nov 11 2026. No macro, syntax, notation, axiom, sorry.
-/
import Derived.Test.YtlpebecbipjoaaaGreatDoorRows
import GoSem.ClaimSeven
namespace Go.Proofs.YtlpebecbipjoaaaGreatDoor
namespace Rows

/-- THE TIED CARD OF 'seismonetlaw17.NatExact'. -/
def natExactCard : Claim7 := { stood := { row := natExactRow, standIns := [], harness := (true, "bd6776e205fe478614d4fca77f98abaf60a1cf542e6ca4dbe097beabecec981d"), looks := false }, kinds := [], alts := [], laidByText := true, laidKinds := [.data, .data, .data, .data, .pinned], laidTests := true, laidLooks := .later }
def NatExactCardSaid : Prop := Claim7.holds Tryz.pinned (.plain (OpenSpec.ofChange natExactSpec)) natExactCard

/-- THE SECOND FORM's CARD OF 'seismonetlaw17.NatExact'. -/
def natExactUptoCard : Claim7 := { stood := { row := natExactUptoRow, standIns := [], harness := (true, "bd6776e205fe478614d4fca77f98abaf60a1cf542e6ca4dbe097beabecec981d"), looks := false }, kinds := [], alts := [], laidByText := true, laidKinds := [.data, .data, .data, .data, .pinned], laidTests := true, laidLooks := .later }
def NatExactUptoCardSaid : Prop := Claim7.holds Tryz.pinned (.plain (OpenSpec.upto natExactSpec)) natExactUptoCard
end Rows
end Go.Proofs.YtlpebecbipjoaaaGreatDoor
