/-
  No cell of these rows narrows 'for every input' (looked for: loops, veiled, ifaces, maps, wideKeys, modest, calm, conditions, laid).
  DERIVED. THE GIVEN ROWS OF THIS SEAT. 7 by the template 'for every input the law returns true; each argument reads behind the call as it read before'; 0 by the template 'total and deterministic' (their statements: YtecoemdhnphmdaaTotals.lean).
  GIVEN WITH THE SEED: the statements are not yours to turn. If you find one false, say at which input.
  Laid BY PROGRAM, IN A SANDBOX (cutbox-rows.mjs): the forced cells as the released guide's own fill.sh prints them over the translation d0f780c88184d42b… (all of the seat's roots in one cut). By AI agents, Wed Nov 11 2026. No macro, syntax, notation, axiom, sorry.
-/
import Derived.Test.YtecoemdhnphmdaaChecked
import GoSem.Claim
import GoSem.ClaimJoined
import GoSem.ClaimMapViews
import Derived.JoinedTies
import Derived.KernelRfl
namespace Go.Proofs.Ytecoemdhnphmdaa
/- THE CELL 'sum', in the pinned program and in every row, IS THE sha256 OF THE DUMP (.gsa) THAT YtecoemdhnphmdaaProg.lean LOADS. Nothing in Lean hashes anything: it is a label: what it is worth is what the hold of that sum in a sandbox is worth. -/
noncomputable def Try.pinned : Pinned := { name := "ytecoemdhnphmdaa", sum := "d0f780c88184d42bb203d394b940b45352b87c3abf16578f21b3201d3ad70d11", checked := Try.checked }
namespace Rows
def none {H : Type} : Left H := { results := [], args := [] }

/-- 'seismonetlaw13.ClockMoves': WHATEVER THE INPUT: true; the input reads as it did. -/
def clockMovesSpec : ChangeSpec := { name := "clockMoves", fn := fun _ => fun
  | [d1, d2, d3] => { results := [.lit (.bool true)], args := [d1, d2, d3] }
  | _ => none }
def clockMovesRow : OpenClaim := { program := "ytecoemdhnphmdaa", sum := "d0f780c88184d42bb203d394b940b45352b87c3abf16578f21b3201d3ad70d11", func := "seismonet/seismonetlaw13.ClockMoves", spec := "clockMoves", apart := false }
def ClockMovesSaid : Prop := clockMovesRow.holds Try.pinned (OpenSpec.ofChange clockMovesSpec)

/-- ITS FALSE NEIGHBOUR: 'it returns false'. Refute it at one input. -/
def clockMovesWrong : ChangeSpec := { name := "clockMoves", fn := fun _ => fun
  | [d1, d2, d3] => { results := [.lit (.bool false)], args := [d1, d2, d3] }
  | _ => none }
def ClockMovesWrongFalsely : Prop := clockMovesRow.holds Try.pinned (OpenSpec.ofChange clockMovesWrong)

/-- 'seismonetlaw13.ClockTrue': WHATEVER THE INPUT: true; the input reads as it did. -/
def clockTrueSpec : ChangeSpec := { name := "clockTrue", fn := fun _ => fun
  | [d1, d2] => { results := [.lit (.bool true)], args := [d1, d2] }
  | _ => none }
def clockTrueRow : OpenClaim := { program := "ytecoemdhnphmdaa", sum := "d0f780c88184d42bb203d394b940b45352b87c3abf16578f21b3201d3ad70d11", func := "seismonet/seismonetlaw13.ClockTrue", spec := "clockTrue", apart := false }
def ClockTrueSaid : Prop := clockTrueRow.holds Try.pinned (OpenSpec.ofChange clockTrueSpec)

/-- ITS FALSE NEIGHBOUR: 'it returns false'. Refute it at one input. -/
def clockTrueWrong : ChangeSpec := { name := "clockTrue", fn := fun _ => fun
  | [d1, d2] => { results := [.lit (.bool false)], args := [d1, d2] }
  | _ => none }
def ClockTrueWrongFalsely : Prop := clockTrueRow.holds Try.pinned (OpenSpec.ofChange clockTrueWrong)

/-- 'seismonetlaw13.ClockNarrows': WHATEVER THE INPUT: true; the input reads as it did. -/
def clockNarrowsSpec : ChangeSpec := { name := "clockNarrows", fn := fun _ => fun
  | [d1, d2, d3] => { results := [.lit (.bool true)], args := [d1, d2, d3] }
  | _ => none }
def clockNarrowsRow : OpenClaim := { program := "ytecoemdhnphmdaa", sum := "d0f780c88184d42bb203d394b940b45352b87c3abf16578f21b3201d3ad70d11", func := "seismonet/seismonetlaw13.ClockNarrows", spec := "clockNarrows", apart := false }
def ClockNarrowsSaid : Prop := clockNarrowsRow.holds Try.pinned (OpenSpec.ofChange clockNarrowsSpec)

/-- ITS FALSE NEIGHBOUR: 'it returns false'. Refute it at one input. -/
def clockNarrowsWrong : ChangeSpec := { name := "clockNarrows", fn := fun _ => fun
  | [d1, d2, d3] => { results := [.lit (.bool false)], args := [d1, d2, d3] }
  | _ => none }
def ClockNarrowsWrongFalsely : Prop := clockNarrowsRow.holds Try.pinned (OpenSpec.ofChange clockNarrowsWrong)

/-- 'seismonetlaw13.ClockWidens': WHATEVER THE INPUT: true; the input reads as it did. -/
def clockWidensSpec : ChangeSpec := { name := "clockWidens", fn := fun _ => fun
  | [d1, d2, d3, d4] => { results := [.lit (.bool true)], args := [d1, d2, d3, d4] }
  | _ => none }
def clockWidensRow : OpenClaim := { program := "ytecoemdhnphmdaa", sum := "d0f780c88184d42bb203d394b940b45352b87c3abf16578f21b3201d3ad70d11", func := "seismonet/seismonetlaw13.ClockWidens", spec := "clockWidens", apart := false }
def ClockWidensSaid : Prop := clockWidensRow.holds Try.pinned (OpenSpec.ofChange clockWidensSpec)

/-- ITS FALSE NEIGHBOUR: 'it returns false'. Refute it at one input. -/
def clockWidensWrong : ChangeSpec := { name := "clockWidens", fn := fun _ => fun
  | [d1, d2, d3, d4] => { results := [.lit (.bool false)], args := [d1, d2, d3, d4] }
  | _ => none }
def ClockWidensWrongFalsely : Prop := clockWidensRow.holds Try.pinned (OpenSpec.ofChange clockWidensWrong)

/-- 'seismonetlaw13.ClockJumps': WHATEVER THE INPUT: true; the input reads as it did. -/
def clockJumpsSpec : ChangeSpec := { name := "clockJumps", fn := fun _ => fun
  | [d1, d2, d3] => { results := [.lit (.bool true)], args := [d1, d2, d3] }
  | _ => none }
def clockJumpsRow : OpenClaim := { program := "ytecoemdhnphmdaa", sum := "d0f780c88184d42bb203d394b940b45352b87c3abf16578f21b3201d3ad70d11", func := "seismonet/seismonetlaw13.ClockJumps", spec := "clockJumps", apart := false }
def ClockJumpsSaid : Prop := clockJumpsRow.holds Try.pinned (OpenSpec.ofChange clockJumpsSpec)

/-- ITS FALSE NEIGHBOUR: 'it returns false'. Refute it at one input. -/
def clockJumpsWrong : ChangeSpec := { name := "clockJumps", fn := fun _ => fun
  | [d1, d2, d3] => { results := [.lit (.bool false)], args := [d1, d2, d3] }
  | _ => none }
def ClockJumpsWrongFalsely : Prop := clockJumpsRow.holds Try.pinned (OpenSpec.ofChange clockJumpsWrong)

/-- 'seismonetlaw13.ClockRecords': WHATEVER THE INPUT: true; the input reads as it did. -/
def clockRecordsSpec : ChangeSpec := { name := "clockRecords", fn := fun _ => fun
  | [d1, d2] => { results := [.lit (.bool true)], args := [d1, d2] }
  | _ => none }
def clockRecordsRow : OpenClaim := { program := "ytecoemdhnphmdaa", sum := "d0f780c88184d42bb203d394b940b45352b87c3abf16578f21b3201d3ad70d11", func := "seismonet/seismonetlaw13.ClockRecords", spec := "clockRecords", apart := false }
def ClockRecordsSaid : Prop := clockRecordsRow.holds Try.pinned (OpenSpec.ofChange clockRecordsSpec)

/-- ITS FALSE NEIGHBOUR: 'it returns false'. Refute it at one input. -/
def clockRecordsWrong : ChangeSpec := { name := "clockRecords", fn := fun _ => fun
  | [d1, d2] => { results := [.lit (.bool false)], args := [d1, d2] }
  | _ => none }
def ClockRecordsWrongFalsely : Prop := clockRecordsRow.holds Try.pinned (OpenSpec.ofChange clockRecordsWrong)

/-- 'seismonetlaw13.ClockExact': WHATEVER THE INPUT: true; the input reads as it did. -/
def clockExactSpec : ChangeSpec := { name := "clockExact", fn := fun _ => fun
  | [d1, d2, d3, d4, d5] => { results := [.lit (.bool true)], args := [d1, d2, d3, d4, d5] }
  | _ => none }
def clockExactRow : OpenClaim := { program := "ytecoemdhnphmdaa", sum := "d0f780c88184d42bb203d394b940b45352b87c3abf16578f21b3201d3ad70d11", func := "seismonet/seismonetlaw13.ClockExact", spec := "clockExact", apart := false }
def ClockExactSaid : Prop := clockExactRow.holds Try.pinned (OpenSpec.ofChange clockExactSpec)

/-- ITS FALSE NEIGHBOUR: 'it returns false'. Refute it at one input. -/
def clockExactWrong : ChangeSpec := { name := "clockExact", fn := fun _ => fun
  | [d1, d2, d3, d4, d5] => { results := [.lit (.bool false)], args := [d1, d2, d3, d4, d5] }
  | _ => none }
def ClockExactWrongFalsely : Prop := clockExactRow.holds Try.pinned (OpenSpec.ofChange clockExactWrong)

/- THE SECOND FORM. 'bulk': how many values and letters a reading holds, each counted each time it is reached (what is shared counts as often as it is met; a slice's spare places count too). A statement '..UptoSaid' is the law's where the arguments, and the package variables that the reading takes, are together of bulk at most 1048576: NARROWER than '..Said'. Prove '..Said' where nothing that the law and all that it calls make is longer than what came in: it says more and counts as full. Else prove '..UptoSaid'. A law counts once. -/
mutual
def uptoBulk {H : Type} : DataW H → Nat
  | .lit (.string bytes) => bytes.length + 1
  | .lit _ => 1
  | .nil => 1
  | .ptr d => uptoBulk d + 1
  | .slice elems spare => uptoBulkAll elems + uptoBulkAll spare + 1
  | .agg parts => uptoBulkAll parts + 1
  | .iface _ d => uptoBulk d + 1
  | .map entries => uptoBulkEntries entries + 1
  | .held _ => 1
def uptoBulkAll {H : Type} : List (DataW H) → Nat
  | [] => 0
  | d :: r => uptoBulk d + uptoBulkAll r
def uptoBulkEntries {H : Type} : List (Lit × DataW H) → Nat
  | [] => 0
  | x :: r => uptoBulkEntry x + uptoBulkEntries r
def uptoBulkEntry {H : Type} : Lit × DataW H → Nat
  | (.string bytes, d) => bytes.length + uptoBulk d + 1
  | (_, d) => uptoBulk d + 1
 end
def uptoSmall : (H : Type) → List (DataW H) → Bool := fun _ ds => decide (uptoBulkAll ds ≤ 1048576)
def OpenSpec.upto (s : _root_.Go.ChangeSpec) : _root_.Go.OpenSpec := { _root_.Go.OpenSpec.ofChange s with cond := some uptoSmall }

/-- 'seismonetlaw13.ClockMoves', WHERE WHAT IT READS IS OF BULK AT MOST 1048576: true; the input reads as it did. -/
def clockMovesUptoRow : OpenClaim := { program := "ytecoemdhnphmdaa", sum := "d0f780c88184d42bb203d394b940b45352b87c3abf16578f21b3201d3ad70d11", func := "seismonet/seismonetlaw13.ClockMoves", spec := "clockMoves", apart := false, narrowed := true }
def ClockMovesUptoSaid : Prop := clockMovesUptoRow.holds Try.pinned (OpenSpec.upto clockMovesSpec)

/-- 'seismonetlaw13.ClockTrue', WHERE WHAT IT READS IS OF BULK AT MOST 1048576: true; the input reads as it did. -/
def clockTrueUptoRow : OpenClaim := { program := "ytecoemdhnphmdaa", sum := "d0f780c88184d42bb203d394b940b45352b87c3abf16578f21b3201d3ad70d11", func := "seismonet/seismonetlaw13.ClockTrue", spec := "clockTrue", apart := false, narrowed := true }
def ClockTrueUptoSaid : Prop := clockTrueUptoRow.holds Try.pinned (OpenSpec.upto clockTrueSpec)

/-- 'seismonetlaw13.ClockNarrows', WHERE WHAT IT READS IS OF BULK AT MOST 1048576: true; the input reads as it did. -/
def clockNarrowsUptoRow : OpenClaim := { program := "ytecoemdhnphmdaa", sum := "d0f780c88184d42bb203d394b940b45352b87c3abf16578f21b3201d3ad70d11", func := "seismonet/seismonetlaw13.ClockNarrows", spec := "clockNarrows", apart := false, narrowed := true }
def ClockNarrowsUptoSaid : Prop := clockNarrowsUptoRow.holds Try.pinned (OpenSpec.upto clockNarrowsSpec)

/-- 'seismonetlaw13.ClockWidens', WHERE WHAT IT READS IS OF BULK AT MOST 1048576: true; the input reads as it did. -/
def clockWidensUptoRow : OpenClaim := { program := "ytecoemdhnphmdaa", sum := "d0f780c88184d42bb203d394b940b45352b87c3abf16578f21b3201d3ad70d11", func := "seismonet/seismonetlaw13.ClockWidens", spec := "clockWidens", apart := false, narrowed := true }
def ClockWidensUptoSaid : Prop := clockWidensUptoRow.holds Try.pinned (OpenSpec.upto clockWidensSpec)

/-- 'seismonetlaw13.ClockJumps', WHERE WHAT IT READS IS OF BULK AT MOST 1048576: true; the input reads as it did. -/
def clockJumpsUptoRow : OpenClaim := { program := "ytecoemdhnphmdaa", sum := "d0f780c88184d42bb203d394b940b45352b87c3abf16578f21b3201d3ad70d11", func := "seismonet/seismonetlaw13.ClockJumps", spec := "clockJumps", apart := false, narrowed := true }
def ClockJumpsUptoSaid : Prop := clockJumpsUptoRow.holds Try.pinned (OpenSpec.upto clockJumpsSpec)

/-- 'seismonetlaw13.ClockRecords', WHERE WHAT IT READS IS OF BULK AT MOST 1048576: true; the input reads as it did. -/
def clockRecordsUptoRow : OpenClaim := { program := "ytecoemdhnphmdaa", sum := "d0f780c88184d42bb203d394b940b45352b87c3abf16578f21b3201d3ad70d11", func := "seismonet/seismonetlaw13.ClockRecords", spec := "clockRecords", apart := false, narrowed := true }
def ClockRecordsUptoSaid : Prop := clockRecordsUptoRow.holds Try.pinned (OpenSpec.upto clockRecordsSpec)

/-- 'seismonetlaw13.ClockExact', WHERE WHAT IT READS IS OF BULK AT MOST 1048576: true; the input reads as it did. -/
def clockExactUptoRow : OpenClaim := { program := "ytecoemdhnphmdaa", sum := "d0f780c88184d42bb203d394b940b45352b87c3abf16578f21b3201d3ad70d11", func := "seismonet/seismonetlaw13.ClockExact", spec := "clockExact", apart := false, narrowed := true }
def ClockExactUptoSaid : Prop := clockExactUptoRow.holds Try.pinned (OpenSpec.upto clockExactSpec)

end Rows
end Go.Proofs.Ytecoemdhnphmdaa
