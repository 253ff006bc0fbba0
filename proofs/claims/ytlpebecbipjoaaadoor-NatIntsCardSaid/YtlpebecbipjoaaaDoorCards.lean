/-
  DERIVED. GIVEN WITH THE SEED: THE CARDS: each row of YtlpebecbipjoaaaDoorRows.lean that lists a variable, with what it lists TIED to the program's text (the seventh form; the later family's looks); each row that meets fmt, with fmt's text TOLD by the authors' own Lean function (tested against real Go, not proved from fmt's source: count such statements apart). THE CARD IS WHAT COUNTS. Prove the row's statement (the work); the ties are given (YtlpebecbipjoaaaDoorTie.lean); close each card by the builder's one call (the guide's Derived/Test/ToyasCard.lean, 'card_holds'). Laid BY PROGRAM, IN A SANDBOX (cutbox-door.mjs). By AI agents, Wed Nov 11 2026. No macro, syntax, notation, axiom, sorry.
-/
import Derived.Test.YtlpebecbipjoaaaDoorRows
import GoSem.ClaimSeven
namespace Go.Proofs.YtlpebecbipjoaaaDoor
namespace Rows

/-- THE TIED CARD OF 'seismonetlaw17.NatTexts'. -/
def natTextsCard : Claim7 := { stood := { row := natTextsRow, standIns := [], harness := (true, "e5b37e61b3e1a9fdb9f3816e5276da03795ad9cc60cf12fc09625c7ce0bd636b"), looks := false }, kinds := [], alts := [], laidByText := true, laidKinds := [.data, .data, .data, .data, .pinned], laidTests := true, laidLooks := .later }
def NatTextsCardSaid : Prop := Claim7.holds Tryd.pinned (.plain (OpenSpec.ofChange natTextsSpec)) natTextsCard

/-- THE TIED CARD OF 'seismonetlaw17.NatFractions'. -/
def natFractionsCard : Claim7 := { stood := { row := natFractionsRow, standIns := [], harness := (true, "e5b37e61b3e1a9fdb9f3816e5276da03795ad9cc60cf12fc09625c7ce0bd636b"), looks := false }, kinds := [], alts := [], laidByText := true, laidKinds := [.data, .data, .data, .data, .pinned], laidTests := true, laidLooks := .later }
def NatFractionsCardSaid : Prop := Claim7.holds Tryd.pinned (.plain (OpenSpec.ofChange natFractionsSpec)) natFractionsCard

/-- THE TIED CARD OF 'seismonetlaw17.NatAlgebra'. -/
def natAlgebraCard : Claim7 := { stood := { row := natAlgebraRow, standIns := [], harness := (true, "e5b37e61b3e1a9fdb9f3816e5276da03795ad9cc60cf12fc09625c7ce0bd636b"), looks := false }, kinds := [], alts := [], laidByText := true, laidKinds := [.data, .data, .data, .data, .pinned], laidTests := true, laidLooks := .later }
def NatAlgebraCardSaid : Prop := Claim7.holds Tryd.pinned (.plain (OpenSpec.ofChange natAlgebraSpec)) natAlgebraCard

/-- THE TIED CARD OF 'seismonetlaw17.NatInts'. -/
def natIntsCard : Claim7 := { stood := { row := natIntsRow, standIns := [], harness := (true, "e5b37e61b3e1a9fdb9f3816e5276da03795ad9cc60cf12fc09625c7ce0bd636b"), looks := false }, kinds := [], alts := [], laidByText := true, laidKinds := [.data, .data, .data, .data, .pinned], laidTests := true, laidLooks := .later }
def NatIntsCardSaid : Prop := Claim7.holds Tryd.pinned (.plain (OpenSpec.ofChange natIntsSpec)) natIntsCard

/-- THE SECOND FORM's CARD OF 'seismonetlaw17.NatTexts'. -/
def natTextsUptoCard : Claim7 := { stood := { row := natTextsUptoRow, standIns := [], harness := (true, "e5b37e61b3e1a9fdb9f3816e5276da03795ad9cc60cf12fc09625c7ce0bd636b"), looks := false }, kinds := [], alts := [], laidByText := true, laidKinds := [.data, .data, .data, .data, .pinned], laidTests := true, laidLooks := .later }
def NatTextsUptoCardSaid : Prop := Claim7.holds Tryd.pinned (.plain (OpenSpec.upto natTextsSpec)) natTextsUptoCard

/-- THE SECOND FORM's CARD OF 'seismonetlaw17.NatFractions'. -/
def natFractionsUptoCard : Claim7 := { stood := { row := natFractionsUptoRow, standIns := [], harness := (true, "e5b37e61b3e1a9fdb9f3816e5276da03795ad9cc60cf12fc09625c7ce0bd636b"), looks := false }, kinds := [], alts := [], laidByText := true, laidKinds := [.data, .data, .data, .data, .pinned], laidTests := true, laidLooks := .later }
def NatFractionsUptoCardSaid : Prop := Claim7.holds Tryd.pinned (.plain (OpenSpec.upto natFractionsSpec)) natFractionsUptoCard

/-- THE SECOND FORM's CARD OF 'seismonetlaw17.NatAlgebra'. -/
def natAlgebraUptoCard : Claim7 := { stood := { row := natAlgebraUptoRow, standIns := [], harness := (true, "e5b37e61b3e1a9fdb9f3816e5276da03795ad9cc60cf12fc09625c7ce0bd636b"), looks := false }, kinds := [], alts := [], laidByText := true, laidKinds := [.data, .data, .data, .data, .pinned], laidTests := true, laidLooks := .later }
def NatAlgebraUptoCardSaid : Prop := Claim7.holds Tryd.pinned (.plain (OpenSpec.upto natAlgebraSpec)) natAlgebraUptoCard

/-- THE SECOND FORM's CARD OF 'seismonetlaw17.NatInts'. -/
def natIntsUptoCard : Claim7 := { stood := { row := natIntsUptoRow, standIns := [], harness := (true, "e5b37e61b3e1a9fdb9f3816e5276da03795ad9cc60cf12fc09625c7ce0bd636b"), looks := false }, kinds := [], alts := [], laidByText := true, laidKinds := [.data, .data, .data, .data, .pinned], laidTests := true, laidLooks := .later }
def NatIntsUptoCardSaid : Prop := Claim7.holds Tryd.pinned (.plain (OpenSpec.upto natIntsSpec)) natIntsUptoCard
end Rows
end Go.Proofs.YtlpebecbipjoaaaDoor
