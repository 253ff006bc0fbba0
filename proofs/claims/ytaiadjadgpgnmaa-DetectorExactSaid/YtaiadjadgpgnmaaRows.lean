/-
  No cell of these rows narrows 'for every input' (looked for: loops, veiled, ifaces, maps, wideKeys, modest, calm, conditions, laid).
  DERIVED. THE GIVEN ROWS OF THIS SEAT. 5 by the template 'for every input the law returns true; each argument reads behind the call as it read before'; 0 by the template 'total and deterministic' (their statements: YtaiadjadgpgnmaaTotals.lean).
  GIVEN WITH THE SEED: the statements are not yours to turn. If you find one false, say at which input.
  Laid BY PROGRAM, IN A SANDBOX (cutbox-rows.mjs): the forced cells as the released guide's own fill.sh prints them over the translation 5e07735711e30bf0… (all of the seat's roots in one cut). By AI agents, Wed Nov 11 2026. No macro, syntax, notation, axiom, sorry.
-/
import Derived.Test.YtaiadjadgpgnmaaChecked
import GoSem.Claim
import GoSem.ClaimJoined
import GoSem.ClaimMapViews
import Derived.JoinedTies
import Derived.KernelRfl
namespace Go.Proofs.Ytaiadjadgpgnmaa
/- THE CELL 'sum', in the pinned program and in every row, IS THE sha256 OF THE DUMP (.gsa) THAT YtaiadjadgpgnmaaProg.lean LOADS. Nothing in Lean hashes anything: it is a label: what it is worth is what the hold of that sum in a sandbox is worth. -/
noncomputable def Try.pinned : Pinned := { name := "ytaiadjadgpgnmaa", sum := "5e07735711e30bf076da9ac8da9915374873e721c99569c9720214099bfd2ca4", checked := Try.checked }
namespace Rows
def none {H : Type} : Left H := { results := [], args := [] }

/-- 'seismonetlaw22.DetectorPrefix': WHATEVER THE INPUT: true; the input reads as it did. -/
def detectorPrefixSpec : ChangeSpec := { name := "detectorPrefix", fn := fun _ => fun
  | [d1, d2] => { results := [.lit (.bool true)], args := [d1, d2] }
  | _ => none }
def detectorPrefixRow : OpenClaim := { program := "ytaiadjadgpgnmaa", sum := "5e07735711e30bf076da9ac8da9915374873e721c99569c9720214099bfd2ca4", func := "seismonet/seismonetlaw22.DetectorPrefix", spec := "detectorPrefix", unfollowed := true, recurses := true, apart := false }
def DetectorPrefixSaid : Prop := detectorPrefixRow.holds Try.pinned (OpenSpec.ofChange detectorPrefixSpec)

/-- ITS FALSE NEIGHBOUR: 'it returns false'. Refute it at one input. -/
def detectorPrefixWrong : ChangeSpec := { name := "detectorPrefix", fn := fun _ => fun
  | [d1, d2] => { results := [.lit (.bool false)], args := [d1, d2] }
  | _ => none }
def DetectorPrefixWrongFalsely : Prop := detectorPrefixRow.holds Try.pinned (OpenSpec.ofChange detectorPrefixWrong)

/-- 'seismonetlaw22.DetectorScales': WHATEVER THE INPUT: true; the input reads as it did. -/
def detectorScalesSpec : ChangeSpec := { name := "detectorScales", fn := fun _ => fun
  | [d1, d2, d3] => { results := [.lit (.bool true)], args := [d1, d2, d3] }
  | _ => none }
def detectorScalesRow : OpenClaim := { program := "ytaiadjadgpgnmaa", sum := "5e07735711e30bf076da9ac8da9915374873e721c99569c9720214099bfd2ca4", func := "seismonet/seismonetlaw22.DetectorScales", spec := "detectorScales", unfollowed := true, recurses := true, apart := false }
def DetectorScalesSaid : Prop := detectorScalesRow.holds Try.pinned (OpenSpec.ofChange detectorScalesSpec)

/-- ITS FALSE NEIGHBOUR: 'it returns false'. Refute it at one input. -/
def detectorScalesWrong : ChangeSpec := { name := "detectorScales", fn := fun _ => fun
  | [d1, d2, d3] => { results := [.lit (.bool false)], args := [d1, d2, d3] }
  | _ => none }
def DetectorScalesWrongFalsely : Prop := detectorScalesRow.holds Try.pinned (OpenSpec.ofChange detectorScalesWrong)

/-- 'seismonetlaw22.DetectorTriggers': WHATEVER THE INPUT: true; the input reads as it did. -/
def detectorTriggersSpec : ChangeSpec := { name := "detectorTriggers", fn := fun _ => fun
  | [d] => { results := [.lit (.bool true)], args := [d] }
  | _ => none }
def detectorTriggersRow : OpenClaim := { program := "ytaiadjadgpgnmaa", sum := "5e07735711e30bf076da9ac8da9915374873e721c99569c9720214099bfd2ca4", func := "seismonet/seismonetlaw22.DetectorTriggers", spec := "detectorTriggers", unfollowed := true, recurses := true, apart := false }
def DetectorTriggersSaid : Prop := detectorTriggersRow.holds Try.pinned (OpenSpec.ofChange detectorTriggersSpec)

/-- ITS FALSE NEIGHBOUR: 'it returns false'. Refute it at one input. -/
def detectorTriggersWrong : ChangeSpec := { name := "detectorTriggers", fn := fun _ => fun
  | [d] => { results := [.lit (.bool false)], args := [d] }
  | _ => none }
def DetectorTriggersWrongFalsely : Prop := detectorTriggersRow.holds Try.pinned (OpenSpec.ofChange detectorTriggersWrong)

/-- 'seismonetlaw22.DetectorStream': WHATEVER THE INPUT: true; the input reads as it did. -/
def detectorStreamSpec : ChangeSpec := { name := "detectorStream", fn := fun _ => fun
  | [d] => { results := [.lit (.bool true)], args := [d] }
  | _ => none }
def detectorStreamRow : OpenClaim := { program := "ytaiadjadgpgnmaa", sum := "5e07735711e30bf076da9ac8da9915374873e721c99569c9720214099bfd2ca4", func := "seismonet/seismonetlaw22.DetectorStream", spec := "detectorStream", unfollowed := true, recurses := true, apart := false }
def DetectorStreamSaid : Prop := detectorStreamRow.holds Try.pinned (OpenSpec.ofChange detectorStreamSpec)

/-- ITS FALSE NEIGHBOUR: 'it returns false'. Refute it at one input. -/
def detectorStreamWrong : ChangeSpec := { name := "detectorStream", fn := fun _ => fun
  | [d] => { results := [.lit (.bool false)], args := [d] }
  | _ => none }
def DetectorStreamWrongFalsely : Prop := detectorStreamRow.holds Try.pinned (OpenSpec.ofChange detectorStreamWrong)

/-- 'seismonetlaw22.DetectorExact': WHATEVER THE INPUT: true; the input reads as it did. -/
def detectorExactSpec : ChangeSpec := { name := "detectorExact", fn := fun _ => fun
  | [d1, d2, d3, d4, d5] => { results := [.lit (.bool true)], args := [d1, d2, d3, d4, d5] }
  | _ => none }
def detectorExactRow : OpenClaim := { program := "ytaiadjadgpgnmaa", sum := "5e07735711e30bf076da9ac8da9915374873e721c99569c9720214099bfd2ca4", func := "seismonet/seismonetlaw22.DetectorExact", spec := "detectorExact", unfollowed := true, recurses := true, apart := false }
def DetectorExactSaid : Prop := detectorExactRow.holds Try.pinned (OpenSpec.ofChange detectorExactSpec)

/-- ITS FALSE NEIGHBOUR: 'it returns false'. Refute it at one input. -/
def detectorExactWrong : ChangeSpec := { name := "detectorExact", fn := fun _ => fun
  | [d1, d2, d3, d4, d5] => { results := [.lit (.bool false)], args := [d1, d2, d3, d4, d5] }
  | _ => none }
def DetectorExactWrongFalsely : Prop := detectorExactRow.holds Try.pinned (OpenSpec.ofChange detectorExactWrong)

/- THE SECOND FORM. 'bulk': how many values and letters a reading holds, each counted each time it is reached (what is shared counts as often as it is met; a slice's spare places count too). A statement '..UptoSaid' is the law's where the arguments, and the package variables that the reading takes, are together of bulk at most 1048576: NARROWER than '..Said'. Prove '..Said' where nothing that the law and all that it calls make is longer than what came in: it says more and counts as full. Else prove '..UptoSaid'. A law counts once. -/
mutual
def uptoBulk {H : Type} : DataW H → Nat
  | .lit (.string bytes) => bytes.length + 1
  | .lit _ => 1
  | .nil => 1
  | .ptr d => uptoBulk d + 1
  | .slice elems spare => uptoBulkAll elems + uptoBulkAll spare + 1
  | .agg parts => uptoBulkAll parts + 1
  | .iface _ d => uptoBulk d + 1
  | .map entries => uptoBulkEntries entries + 1
  | .held _ => 1
def uptoBulkAll {H : Type} : List (DataW H) → Nat
  | [] => 0
  | d :: r => uptoBulk d + uptoBulkAll r
def uptoBulkEntries {H : Type} : List (Lit × DataW H) → Nat
  | [] => 0
  | x :: r => uptoBulkEntry x + uptoBulkEntries r
def uptoBulkEntry {H : Type} : Lit × DataW H → Nat
  | (.string bytes, d) => bytes.length + uptoBulk d + 1
  | (_, d) => uptoBulk d + 1
 end
def uptoSmall : (H : Type) → List (DataW H) → Bool := fun _ ds => decide (uptoBulkAll ds ≤ 1048576)
def OpenSpec.upto (s : _root_.Go.ChangeSpec) : _root_.Go.OpenSpec := { _root_.Go.OpenSpec.ofChange s with cond := some uptoSmall }

/-- 'seismonetlaw22.DetectorPrefix', WHERE WHAT IT READS IS OF BULK AT MOST 1048576: true; the input reads as it did. -/
def detectorPrefixUptoRow : OpenClaim := { program := "ytaiadjadgpgnmaa", sum := "5e07735711e30bf076da9ac8da9915374873e721c99569c9720214099bfd2ca4", func := "seismonet/seismonetlaw22.DetectorPrefix", spec := "detectorPrefix", unfollowed := true, recurses := true, apart := false, narrowed := true }
def DetectorPrefixUptoSaid : Prop := detectorPrefixUptoRow.holds Try.pinned (OpenSpec.upto detectorPrefixSpec)

/-- 'seismonetlaw22.DetectorScales', WHERE WHAT IT READS IS OF BULK AT MOST 1048576: true; the input reads as it did. -/
def detectorScalesUptoRow : OpenClaim := { program := "ytaiadjadgpgnmaa", sum := "5e07735711e30bf076da9ac8da9915374873e721c99569c9720214099bfd2ca4", func := "seismonet/seismonetlaw22.DetectorScales", spec := "detectorScales", unfollowed := true, recurses := true, apart := false, narrowed := true }
def DetectorScalesUptoSaid : Prop := detectorScalesUptoRow.holds Try.pinned (OpenSpec.upto detectorScalesSpec)

/-- 'seismonetlaw22.DetectorTriggers', WHERE WHAT IT READS IS OF BULK AT MOST 1048576: true; the input reads as it did. -/
def detectorTriggersUptoRow : OpenClaim := { program := "ytaiadjadgpgnmaa", sum := "5e07735711e30bf076da9ac8da9915374873e721c99569c9720214099bfd2ca4", func := "seismonet/seismonetlaw22.DetectorTriggers", spec := "detectorTriggers", unfollowed := true, recurses := true, apart := false, narrowed := true }
def DetectorTriggersUptoSaid : Prop := detectorTriggersUptoRow.holds Try.pinned (OpenSpec.upto detectorTriggersSpec)

/-- 'seismonetlaw22.DetectorStream', WHERE WHAT IT READS IS OF BULK AT MOST 1048576: true; the input reads as it did. -/
def detectorStreamUptoRow : OpenClaim := { program := "ytaiadjadgpgnmaa", sum := "5e07735711e30bf076da9ac8da9915374873e721c99569c9720214099bfd2ca4", func := "seismonet/seismonetlaw22.DetectorStream", spec := "detectorStream", unfollowed := true, recurses := true, apart := false, narrowed := true }
def DetectorStreamUptoSaid : Prop := detectorStreamUptoRow.holds Try.pinned (OpenSpec.upto detectorStreamSpec)

/-- 'seismonetlaw22.DetectorExact', WHERE WHAT IT READS IS OF BULK AT MOST 1048576: true; the input reads as it did. -/
def detectorExactUptoRow : OpenClaim := { program := "ytaiadjadgpgnmaa", sum := "5e07735711e30bf076da9ac8da9915374873e721c99569c9720214099bfd2ca4", func := "seismonet/seismonetlaw22.DetectorExact", spec := "detectorExact", unfollowed := true, recurses := true, apart := false, narrowed := true }
def DetectorExactUptoSaid : Prop := detectorExactUptoRow.holds Try.pinned (OpenSpec.upto detectorExactSpec)

end Rows
end Go.Proofs.Ytaiadjadgpgnmaa
