/-
  No cell of these rows narrows 'for every input' (looked for: loops, veiled, ifaces, maps, wideKeys, modest, calm, conditions, laid).
  DERIVED. THE GIVEN ROWS OF THIS SEAT. 4 by the template 'for every input the law returns true; each argument reads behind the call as it read before'; 0 by the template 'total and deterministic' (their statements: YtlmpeehjcjbfpaaTotals.lean).
  GIVEN WITH THE SEED: the statements are not yours to turn. If you find one false, say at which input.
  Laid BY PROGRAM, IN A SANDBOX (cutbox-rows.mjs): the forced cells as the released guide's own fill.sh prints them over the translation 665d78116564f171… (all of the seat's roots in one cut). By AI agents, Wed Nov 11 2026. No macro, syntax, notation, axiom, sorry.
-/
import Derived.Test.YtlmpeehjcjbfpaaChecked
import GoSem.Claim
import GoSem.ClaimJoined
import GoSem.ClaimMapViews
import Derived.JoinedTies
import Derived.KernelRfl
namespace Go.Proofs.Ytlmpeehjcjbfpaa
/- THE CELL 'sum', in the pinned program and in every row, IS THE sha256 OF THE DUMP (.gsa) THAT YtlmpeehjcjbfpaaProg.lean LOADS. Nothing in Lean hashes anything: it is a label: what it is worth is what the hold of that sum in a sandbox is worth. -/
noncomputable def Try.pinned : Pinned := { name := "ytlmpeehjcjbfpaa", sum := "665d78116564f17190a58443186fe09609057fe12ef8eb5262b3390dfffd8447", checked := Try.checked }
namespace Rows
def none {H : Type} : Left H := { results := [], args := [] }

/-- 'seismonetlaw04.BitsPairs': WHATEVER THE INPUT: true; the input reads as it did. -/
def bitsPairsSpec : ChangeSpec := { name := "bitsPairs", fn := fun _ => fun
  | [d1, d2, d3] => { results := [.lit (.bool true)], args := [d1, d2, d3] }
  | _ => none }
def bitsPairsRow : OpenClaim := { program := "ytlmpeehjcjbfpaa", sum := "665d78116564f17190a58443186fe09609057fe12ef8eb5262b3390dfffd8447", func := "seismonet/seismonetlaw04.BitsPairs", spec := "bitsPairs", apart := false }
def BitsPairsSaid : Prop := bitsPairsRow.holds Try.pinned (OpenSpec.ofChange bitsPairsSpec)

/-- ITS FALSE NEIGHBOUR: 'it returns false'. Refute it at one input. -/
def bitsPairsWrong : ChangeSpec := { name := "bitsPairs", fn := fun _ => fun
  | [d1, d2, d3] => { results := [.lit (.bool false)], args := [d1, d2, d3] }
  | _ => none }
def BitsPairsWrongFalsely : Prop := bitsPairsRow.holds Try.pinned (OpenSpec.ofChange bitsPairsWrong)

/-- 'seismonetlaw04.BitsRanges': WHATEVER THE INPUT: true; the input reads as it did. -/
def bitsRangesSpec : ChangeSpec := { name := "bitsRanges", fn := fun _ => fun
  | [d1, d2] => { results := [.lit (.bool true)], args := [d1, d2] }
  | _ => none }
def bitsRangesRow : OpenClaim := { program := "ytlmpeehjcjbfpaa", sum := "665d78116564f17190a58443186fe09609057fe12ef8eb5262b3390dfffd8447", func := "seismonet/seismonetlaw04.BitsRanges", spec := "bitsRanges", apart := false }
def BitsRangesSaid : Prop := bitsRangesRow.holds Try.pinned (OpenSpec.ofChange bitsRangesSpec)

/-- ITS FALSE NEIGHBOUR: 'it returns false'. Refute it at one input. -/
def bitsRangesWrong : ChangeSpec := { name := "bitsRanges", fn := fun _ => fun
  | [d1, d2] => { results := [.lit (.bool false)], args := [d1, d2] }
  | _ => none }
def BitsRangesWrongFalsely : Prop := bitsRangesRow.holds Try.pinned (OpenSpec.ofChange bitsRangesWrong)

/-- 'seismonetlaw04.BitsBack': WHATEVER THE INPUT: true; the input reads as it did. -/
def bitsBackSpec : ChangeSpec := { name := "bitsBack", fn := fun _ => fun
  | [d1, d2, d3] => { results := [.lit (.bool true)], args := [d1, d2, d3] }
  | _ => none }
def bitsBackRow : OpenClaim := { program := "ytlmpeehjcjbfpaa", sum := "665d78116564f17190a58443186fe09609057fe12ef8eb5262b3390dfffd8447", func := "seismonet/seismonetlaw04.BitsBack", spec := "bitsBack", apart := false }
def BitsBackSaid : Prop := bitsBackRow.holds Try.pinned (OpenSpec.ofChange bitsBackSpec)

/-- ITS FALSE NEIGHBOUR: 'it returns false'. Refute it at one input. -/
def bitsBackWrong : ChangeSpec := { name := "bitsBack", fn := fun _ => fun
  | [d1, d2, d3] => { results := [.lit (.bool false)], args := [d1, d2, d3] }
  | _ => none }
def BitsBackWrongFalsely : Prop := bitsBackRow.holds Try.pinned (OpenSpec.ofChange bitsBackWrong)

/-- 'seismonetlaw04.BitsExact': WHATEVER THE INPUT: true; the input reads as it did. -/
def bitsExactSpec : ChangeSpec := { name := "bitsExact", fn := fun _ => fun
  | [d1, d2, d3, d4, d5, d6, d7] => { results := [.lit (.bool true)], args := [d1, d2, d3, d4, d5, d6, d7] }
  | _ => none }
def bitsExactRow : OpenClaim := { program := "ytlmpeehjcjbfpaa", sum := "665d78116564f17190a58443186fe09609057fe12ef8eb5262b3390dfffd8447", func := "seismonet/seismonetlaw04.BitsExact", spec := "bitsExact", apart := false }
def BitsExactSaid : Prop := bitsExactRow.holds Try.pinned (OpenSpec.ofChange bitsExactSpec)

/-- ITS FALSE NEIGHBOUR: 'it returns false'. Refute it at one input. -/
def bitsExactWrong : ChangeSpec := { name := "bitsExact", fn := fun _ => fun
  | [d1, d2, d3, d4, d5, d6, d7] => { results := [.lit (.bool false)], args := [d1, d2, d3, d4, d5, d6, d7] }
  | _ => none }
def BitsExactWrongFalsely : Prop := bitsExactRow.holds Try.pinned (OpenSpec.ofChange bitsExactWrong)

/- THE SECOND FORM. 'bulk': how many values and letters a reading holds, each counted each time it is reached (what is shared counts as often as it is met; a slice's spare places count too). A statement '..UptoSaid' is the law's where the arguments, and the package variables that the reading takes, are together of bulk at most 1048576: NARROWER than '..Said'. Prove '..Said' where nothing that the law and all that it calls make is longer than what came in: it says more and counts as full. Else prove '..UptoSaid'. A law counts once. -/
mutual
def uptoBulk {H : Type} : DataW H → Nat
  | .lit (.string bytes) => bytes.length + 1
  | .lit _ => 1
  | .nil => 1
  | .ptr d => uptoBulk d + 1
  | .slice elems spare => uptoBulkAll elems + uptoBulkAll spare + 1
  | .agg parts => uptoBulkAll parts + 1
  | .iface _ d => uptoBulk d + 1
  | .map entries => uptoBulkEntries entries + 1
  | .held _ => 1
def uptoBulkAll {H : Type} : List (DataW H) → Nat
  | [] => 0
  | d :: r => uptoBulk d + uptoBulkAll r
def uptoBulkEntries {H : Type} : List (Lit × DataW H) → Nat
  | [] => 0
  | x :: r => uptoBulkEntry x + uptoBulkEntries r
def uptoBulkEntry {H : Type} : Lit × DataW H → Nat
  | (.string bytes, d) => bytes.length + uptoBulk d + 1
  | (_, d) => uptoBulk d + 1
 end
def uptoSmall : (H : Type) → List (DataW H) → Bool := fun _ ds => decide (uptoBulkAll ds ≤ 1048576)
def OpenSpec.upto (s : _root_.Go.ChangeSpec) : _root_.Go.OpenSpec := { _root_.Go.OpenSpec.ofChange s with cond := some uptoSmall }

/-- 'seismonetlaw04.BitsPairs', WHERE WHAT IT READS IS OF BULK AT MOST 1048576: true; the input reads as it did. -/
def bitsPairsUptoRow : OpenClaim := { program := "ytlmpeehjcjbfpaa", sum := "665d78116564f17190a58443186fe09609057fe12ef8eb5262b3390dfffd8447", func := "seismonet/seismonetlaw04.BitsPairs", spec := "bitsPairs", apart := false, narrowed := true }
def BitsPairsUptoSaid : Prop := bitsPairsUptoRow.holds Try.pinned (OpenSpec.upto bitsPairsSpec)

/-- 'seismonetlaw04.BitsRanges', WHERE WHAT IT READS IS OF BULK AT MOST 1048576: true; the input reads as it did. -/
def bitsRangesUptoRow : OpenClaim := { program := "ytlmpeehjcjbfpaa", sum := "665d78116564f17190a58443186fe09609057fe12ef8eb5262b3390dfffd8447", func := "seismonet/seismonetlaw04.BitsRanges", spec := "bitsRanges", apart := false, narrowed := true }
def BitsRangesUptoSaid : Prop := bitsRangesUptoRow.holds Try.pinned (OpenSpec.upto bitsRangesSpec)

/-- 'seismonetlaw04.BitsBack', WHERE WHAT IT READS IS OF BULK AT MOST 1048576: true; the input reads as it did. -/
def bitsBackUptoRow : OpenClaim := { program := "ytlmpeehjcjbfpaa", sum := "665d78116564f17190a58443186fe09609057fe12ef8eb5262b3390dfffd8447", func := "seismonet/seismonetlaw04.BitsBack", spec := "bitsBack", apart := false, narrowed := true }
def BitsBackUptoSaid : Prop := bitsBackUptoRow.holds Try.pinned (OpenSpec.upto bitsBackSpec)

/-- 'seismonetlaw04.BitsExact', WHERE WHAT IT READS IS OF BULK AT MOST 1048576: true; the input reads as it did. -/
def bitsExactUptoRow : OpenClaim := { program := "ytlmpeehjcjbfpaa", sum := "665d78116564f17190a58443186fe09609057fe12ef8eb5262b3390dfffd8447", func := "seismonet/seismonetlaw04.BitsExact", spec := "bitsExact", apart := false, narrowed := true }
def BitsExactUptoSaid : Prop := bitsExactUptoRow.holds Try.pinned (OpenSpec.upto bitsExactSpec)

end Rows
end Go.Proofs.Ytlmpeehjcjbfpaa
