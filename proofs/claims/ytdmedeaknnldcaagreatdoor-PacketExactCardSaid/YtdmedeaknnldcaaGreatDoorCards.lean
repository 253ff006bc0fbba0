/-
  DERIVED. GIVEN WITH THE SEED: THE CARDS: each row of YtdmedeaknnldcaaGreatDoorRows.lean that lists a variable, with what it lists TIED to the program's text (the seventh form; the later family's looks); each row that meets fmt, with fmt's text TOLD by the authors' own Lean function (tested against real Go, not proved from fmt's source: count such statements apart). THE CARD IS WHAT COUNTS. Prove the row's statement (the work); the ties are given (YtdmedeaknnldcaaGreatDoorTie.lean); close each card by the builder's one call (the guide's Derived/Test/ToyasCard.lean, 'card_holds'). Laid BY PROGRAM, IN A SANDBOX (cutbox-door.mjs). By AI agents, Wed Nov 11 2026. No macro, syntax, notation, axiom, sorry.
-/
import Derived.Test.YtdmedeaknnldcaaGreatDoorRows
import GoSem.ClaimSeven
namespace Go.Proofs.YtdmedeaknnldcaaGreatDoor
namespace Rows

/-- THE TIED CARD OF 'seismonetlaw07.PacketStream'. -/
def packetStreamCard : Claim7 := { stood := { row := packetStreamRow, standIns := [], harness := (true, "3f9da6972e4918231767985a429880cc23c3294bc5842793871a41f5ceb0701d"), looks := false }, kinds := [], alts := [], laidByText := true, laidKinds := [.data, .pinned], laidTests := true, laidLooks := .later }
def PacketStreamCardSaid : Prop := Claim7.holds Tryz.pinned (.plain (OpenSpec.ofChange packetStreamSpec)) packetStreamCard

/-- THE TIED CARD OF 'seismonetlaw07.PacketExact'. -/
def packetExactCard : Claim7 := { stood := { row := packetExactRow, standIns := [], harness := (true, "3f9da6972e4918231767985a429880cc23c3294bc5842793871a41f5ceb0701d"), looks := false }, kinds := [], alts := [], laidByText := true, laidKinds := [.data, .pinned], laidTests := true, laidLooks := .later }
def PacketExactCardSaid : Prop := Claim7.holds Tryz.pinned (.plain (OpenSpec.ofChange packetExactSpec)) packetExactCard

/-- THE SECOND FORM's CARD OF 'seismonetlaw07.PacketStream'. -/
def packetStreamUptoCard : Claim7 := { stood := { row := packetStreamUptoRow, standIns := [], harness := (true, "3f9da6972e4918231767985a429880cc23c3294bc5842793871a41f5ceb0701d"), looks := false }, kinds := [], alts := [], laidByText := true, laidKinds := [.data, .pinned], laidTests := true, laidLooks := .later }
def PacketStreamUptoCardSaid : Prop := Claim7.holds Tryz.pinned (.plain (OpenSpec.upto packetStreamSpec)) packetStreamUptoCard

/-- THE SECOND FORM's CARD OF 'seismonetlaw07.PacketExact'. -/
def packetExactUptoCard : Claim7 := { stood := { row := packetExactUptoRow, standIns := [], harness := (true, "3f9da6972e4918231767985a429880cc23c3294bc5842793871a41f5ceb0701d"), looks := false }, kinds := [], alts := [], laidByText := true, laidKinds := [.data, .pinned], laidTests := true, laidLooks := .later }
def PacketExactUptoCardSaid : Prop := Claim7.holds Tryz.pinned (.plain (OpenSpec.upto packetExactSpec)) packetExactUptoCard
end Rows
end Go.Proofs.YtdmedeaknnldcaaGreatDoor
