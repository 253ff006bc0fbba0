/-
  DERIVED. GIVEN WITH THE SEED: THE CARDS: each row of YtdmedeaknnldcaaDoorRows.lean that lists a variable, with what it lists TIED to the program's text (the seventh form; the later family's looks); each row that meets fmt, with fmt's text TOLD by the authors' own Lean function (tested against real Go, not proved from fmt's source: count such statements apart). THE CARD IS WHAT COUNTS. Prove the row's statement (the work); the ties are given (YtdmedeaknnldcaaDoorTie.lean); close each card by the builder's one call (the guide's Derived/Test/ToyasCard.lean, 'card_holds'). Laid BY PROGRAM, IN A SANDBOX (cutbox-door.mjs). By AI agents, Wed Nov 11 2026. No macro, syntax, notation, axiom, sorry.
-/
import Derived.Test.YtdmedeaknnldcaaDoorRows
import GoSem.ClaimSeven
namespace Go.Proofs.YtdmedeaknnldcaaDoor
namespace Rows

/-- THE TIED CARD OF 'seismonetlaw07.PacketBack'. -/
def packetBackCard : Claim7 := { stood := { row := packetBackRow, standIns := [], harness := (true, "9c81c82357b6c4c5986da3c198fe3b531697aa10d1cf7b2400456307824d4873"), looks := false }, kinds := [], alts := [], laidByText := true, laidKinds := [.data, .pinned], laidTests := true, laidLooks := .later }
def PacketBackCardSaid : Prop := Claim7.holds Tryd.pinned (.plain (OpenSpec.ofChange packetBackSpec)) packetBackCard

/-- THE TIED CARD OF 'seismonetlaw07.PacketDamage'. -/
def packetDamageCard : Claim7 := { stood := { row := packetDamageRow, standIns := [], harness := (true, "9c81c82357b6c4c5986da3c198fe3b531697aa10d1cf7b2400456307824d4873"), looks := false }, kinds := [], alts := [], laidByText := true, laidKinds := [.data, .pinned], laidTests := true, laidLooks := .later }
def PacketDamageCardSaid : Prop := Claim7.holds Tryd.pinned (.plain (OpenSpec.ofChange packetDamageSpec)) packetDamageCard

/-- THE TIED CARD OF 'seismonetlaw07.PacketRecords'. -/
def packetRecordsCard : Claim7 := { stood := { row := packetRecordsRow, standIns := [], harness := (true, "9c81c82357b6c4c5986da3c198fe3b531697aa10d1cf7b2400456307824d4873"), looks := false }, kinds := [], alts := [], laidByText := true, laidKinds := [.data, .pinned], laidTests := true, laidLooks := .later }
def PacketRecordsCardSaid : Prop := Claim7.holds Tryd.pinned (.plain (OpenSpec.ofChange packetRecordsSpec)) packetRecordsCard

/-- THE SECOND FORM's CARD OF 'seismonetlaw07.PacketBack'. -/
def packetBackUptoCard : Claim7 := { stood := { row := packetBackUptoRow, standIns := [], harness := (true, "9c81c82357b6c4c5986da3c198fe3b531697aa10d1cf7b2400456307824d4873"), looks := false }, kinds := [], alts := [], laidByText := true, laidKinds := [.data, .pinned], laidTests := true, laidLooks := .later }
def PacketBackUptoCardSaid : Prop := Claim7.holds Tryd.pinned (.plain (OpenSpec.upto packetBackSpec)) packetBackUptoCard

/-- THE SECOND FORM's CARD OF 'seismonetlaw07.PacketDamage'. -/
def packetDamageUptoCard : Claim7 := { stood := { row := packetDamageUptoRow, standIns := [], harness := (true, "9c81c82357b6c4c5986da3c198fe3b531697aa10d1cf7b2400456307824d4873"), looks := false }, kinds := [], alts := [], laidByText := true, laidKinds := [.data, .pinned], laidTests := true, laidLooks := .later }
def PacketDamageUptoCardSaid : Prop := Claim7.holds Tryd.pinned (.plain (OpenSpec.upto packetDamageSpec)) packetDamageUptoCard

/-- THE SECOND FORM's CARD OF 'seismonetlaw07.PacketRecords'. -/
def packetRecordsUptoCard : Claim7 := { stood := { row := packetRecordsUptoRow, standIns := [], harness := (true, "9c81c82357b6c4c5986da3c198fe3b531697aa10d1cf7b2400456307824d4873"), looks := false }, kinds := [], alts := [], laidByText := true, laidKinds := [.data, .pinned], laidTests := true, laidLooks := .later }
def PacketRecordsUptoCardSaid : Prop := Claim7.holds Tryd.pinned (.plain (OpenSpec.upto packetRecordsSpec)) packetRecordsUptoCard
end Rows
end Go.Proofs.YtdmedeaknnldcaaDoor
