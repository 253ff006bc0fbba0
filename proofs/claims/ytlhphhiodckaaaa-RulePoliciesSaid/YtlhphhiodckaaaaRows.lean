/-
  No cell of these rows narrows 'for every input' (looked for: loops, veiled, ifaces, maps, wideKeys, modest, calm, conditions, laid).
  DERIVED. THE GIVEN ROWS OF THIS SEAT. 4 by the template 'for every input the law returns true; each argument reads behind the call as it read before'; 0 by the template 'total and deterministic' (their statements: YtlhphhiodckaaaaTotals.lean).
  GIVEN WITH THE SEED: the statements are not yours to turn. If you find one false, say at which input.
  Laid BY PROGRAM, IN A SANDBOX (cutbox-rows.mjs): the forced cells as the released guide's own fill.sh prints them over the translation 98e9dccd2ad088db… (all of the seat's roots in one cut). By AI agents, Wed Nov 11 2026. No macro, syntax, notation, axiom, sorry.
-/
import Derived.Test.YtlhphhiodckaaaaChecked
import GoSem.Claim
import GoSem.ClaimJoined
import GoSem.ClaimMapViews
import Derived.JoinedTies
import Derived.KernelRfl
namespace Go.Proofs.Ytlhphhiodckaaaa
/- THE CELL 'sum', in the pinned program and in every row, IS THE sha256 OF THE DUMP (.gsa) THAT YtlhphhiodckaaaaProg.lean LOADS. Nothing in Lean hashes anything: it is a label: what it is worth is what the hold of that sum in a sandbox is worth. -/
noncomputable def Try.pinned : Pinned := { name := "ytlhphhiodckaaaa", sum := "98e9dccd2ad088db401079e0d885f001cc6010d9de4eecbffd9592ae5f9a2873", checked := Try.checked }
namespace Rows
def none {H : Type} : Left H := { results := [], args := [] }

/-- 'seismonetlaw35.RulePolicies': WHATEVER THE INPUT: true; the input reads as it did. -/
def rulePoliciesSpec : ChangeSpec := { name := "rulePolicies", fn := fun _ => fun
  | [d1, d2, d3, d4, d5, d6] => { results := [.lit (.bool true)], args := [d1, d2, d3, d4, d5, d6] }
  | _ => none }
def rulePoliciesRow : OpenClaim := { program := "ytlhphhiodckaaaa", sum := "98e9dccd2ad088db401079e0d885f001cc6010d9de4eecbffd9592ae5f9a2873", func := "seismonet/seismonetlaw35.RulePolicies", spec := "rulePolicies", unfollowed := true, recurses := true, apart := false }
def RulePoliciesSaid : Prop := rulePoliciesRow.holds Try.pinned (OpenSpec.ofChange rulePoliciesSpec)

/-- ITS FALSE NEIGHBOUR: 'it returns false'. Refute it at one input. -/
def rulePoliciesWrong : ChangeSpec := { name := "rulePolicies", fn := fun _ => fun
  | [d1, d2, d3, d4, d5, d6] => { results := [.lit (.bool false)], args := [d1, d2, d3, d4, d5, d6] }
  | _ => none }
def RulePoliciesWrongFalsely : Prop := rulePoliciesRow.holds Try.pinned (OpenSpec.ofChange rulePoliciesWrong)

/-- 'seismonetlaw35.RuleMonotone': WHATEVER THE INPUT: true; the input reads as it did. -/
def ruleMonotoneSpec : ChangeSpec := { name := "ruleMonotone", fn := fun _ => fun
  | [d] => { results := [.lit (.bool true)], args := [d] }
  | _ => none }
def ruleMonotoneRow : OpenClaim := { program := "ytlhphhiodckaaaa", sum := "98e9dccd2ad088db401079e0d885f001cc6010d9de4eecbffd9592ae5f9a2873", func := "seismonet/seismonetlaw35.RuleMonotone", spec := "ruleMonotone", unfollowed := true, recurses := true, apart := false }
def RuleMonotoneSaid : Prop := ruleMonotoneRow.holds Try.pinned (OpenSpec.ofChange ruleMonotoneSpec)

/-- ITS FALSE NEIGHBOUR: 'it returns false'. Refute it at one input. -/
def ruleMonotoneWrong : ChangeSpec := { name := "ruleMonotone", fn := fun _ => fun
  | [d] => { results := [.lit (.bool false)], args := [d] }
  | _ => none }
def RuleMonotoneWrongFalsely : Prop := ruleMonotoneRow.holds Try.pinned (OpenSpec.ofChange ruleMonotoneWrong)

/-- 'seismonetlaw35.RuleMoved': WHATEVER THE INPUT: true; the input reads as it did. -/
def ruleMovedSpec : ChangeSpec := { name := "ruleMoved", fn := fun _ => fun
  | [d] => { results := [.lit (.bool true)], args := [d] }
  | _ => none }
def ruleMovedRow : OpenClaim := { program := "ytlhphhiodckaaaa", sum := "98e9dccd2ad088db401079e0d885f001cc6010d9de4eecbffd9592ae5f9a2873", func := "seismonet/seismonetlaw35.RuleMoved", spec := "ruleMoved", unfollowed := true, recurses := true, apart := false }
def RuleMovedSaid : Prop := ruleMovedRow.holds Try.pinned (OpenSpec.ofChange ruleMovedSpec)

/-- ITS FALSE NEIGHBOUR: 'it returns false'. Refute it at one input. -/
def ruleMovedWrong : ChangeSpec := { name := "ruleMoved", fn := fun _ => fun
  | [d] => { results := [.lit (.bool false)], args := [d] }
  | _ => none }
def RuleMovedWrongFalsely : Prop := ruleMovedRow.holds Try.pinned (OpenSpec.ofChange ruleMovedWrong)

/-- 'seismonetlaw35.RuleWindow': WHATEVER THE INPUT: true; the input reads as it did. -/
def ruleWindowSpec : ChangeSpec := { name := "ruleWindow", fn := fun _ => fun
  | [d1, d2] => { results := [.lit (.bool true)], args := [d1, d2] }
  | _ => none }
def ruleWindowRow : OpenClaim := { program := "ytlhphhiodckaaaa", sum := "98e9dccd2ad088db401079e0d885f001cc6010d9de4eecbffd9592ae5f9a2873", func := "seismonet/seismonetlaw35.RuleWindow", spec := "ruleWindow", unfollowed := true, recurses := true, apart := false }
def RuleWindowSaid : Prop := ruleWindowRow.holds Try.pinned (OpenSpec.ofChange ruleWindowSpec)

/-- ITS FALSE NEIGHBOUR: 'it returns false'. Refute it at one input. -/
def ruleWindowWrong : ChangeSpec := { name := "ruleWindow", fn := fun _ => fun
  | [d1, d2] => { results := [.lit (.bool false)], args := [d1, d2] }
  | _ => none }
def RuleWindowWrongFalsely : Prop := ruleWindowRow.holds Try.pinned (OpenSpec.ofChange ruleWindowWrong)

/- THE SECOND FORM. 'bulk': how many values and letters a reading holds, each counted each time it is reached (what is shared counts as often as it is met; a slice's spare places count too). A statement '..UptoSaid' is the law's where the arguments, and the package variables that the reading takes, are together of bulk at most 1048576: NARROWER than '..Said'. Prove '..Said' where nothing that the law and all that it calls make is longer than what came in: it says more and counts as full. Else prove '..UptoSaid'. A law counts once. -/
mutual
def uptoBulk {H : Type} : DataW H → Nat
  | .lit (.string bytes) => bytes.length + 1
  | .lit _ => 1
  | .nil => 1
  | .ptr d => uptoBulk d + 1
  | .slice elems spare => uptoBulkAll elems + uptoBulkAll spare + 1
  | .agg parts => uptoBulkAll parts + 1
  | .iface _ d => uptoBulk d + 1
  | .map entries => uptoBulkEntries entries + 1
  | .held _ => 1
def uptoBulkAll {H : Type} : List (DataW H) → Nat
  | [] => 0
  | d :: r => uptoBulk d + uptoBulkAll r
def uptoBulkEntries {H : Type} : List (Lit × DataW H) → Nat
  | [] => 0
  | x :: r => uptoBulkEntry x + uptoBulkEntries r
def uptoBulkEntry {H : Type} : Lit × DataW H → Nat
  | (.string bytes, d) => bytes.length + uptoBulk d + 1
  | (_, d) => uptoBulk d + 1
 end
def uptoSmall : (H : Type) → List (DataW H) → Bool := fun _ ds => decide (uptoBulkAll ds ≤ 1048576)
def OpenSpec.upto (s : _root_.Go.ChangeSpec) : _root_.Go.OpenSpec := { _root_.Go.OpenSpec.ofChange s with cond := some uptoSmall }

/-- 'seismonetlaw35.RulePolicies', WHERE WHAT IT READS IS OF BULK AT MOST 1048576: true; the input reads as it did. -/
def rulePoliciesUptoRow : OpenClaim := { program := "ytlhphhiodckaaaa", sum := "98e9dccd2ad088db401079e0d885f001cc6010d9de4eecbffd9592ae5f9a2873", func := "seismonet/seismonetlaw35.RulePolicies", spec := "rulePolicies", unfollowed := true, recurses := true, apart := false, narrowed := true }
def RulePoliciesUptoSaid : Prop := rulePoliciesUptoRow.holds Try.pinned (OpenSpec.upto rulePoliciesSpec)

/-- 'seismonetlaw35.RuleMonotone', WHERE WHAT IT READS IS OF BULK AT MOST 1048576: true; the input reads as it did. -/
def ruleMonotoneUptoRow : OpenClaim := { program := "ytlhphhiodckaaaa", sum := "98e9dccd2ad088db401079e0d885f001cc6010d9de4eecbffd9592ae5f9a2873", func := "seismonet/seismonetlaw35.RuleMonotone", spec := "ruleMonotone", unfollowed := true, recurses := true, apart := false, narrowed := true }
def RuleMonotoneUptoSaid : Prop := ruleMonotoneUptoRow.holds Try.pinned (OpenSpec.upto ruleMonotoneSpec)

/-- 'seismonetlaw35.RuleMoved', WHERE WHAT IT READS IS OF BULK AT MOST 1048576: true; the input reads as it did. -/
def ruleMovedUptoRow : OpenClaim := { program := "ytlhphhiodckaaaa", sum := "98e9dccd2ad088db401079e0d885f001cc6010d9de4eecbffd9592ae5f9a2873", func := "seismonet/seismonetlaw35.RuleMoved", spec := "ruleMoved", unfollowed := true, recurses := true, apart := false, narrowed := true }
def RuleMovedUptoSaid : Prop := ruleMovedUptoRow.holds Try.pinned (OpenSpec.upto ruleMovedSpec)

/-- 'seismonetlaw35.RuleWindow', WHERE WHAT IT READS IS OF BULK AT MOST 1048576: true; the input reads as it did. -/
def ruleWindowUptoRow : OpenClaim := { program := "ytlhphhiodckaaaa", sum := "98e9dccd2ad088db401079e0d885f001cc6010d9de4eecbffd9592ae5f9a2873", func := "seismonet/seismonetlaw35.RuleWindow", spec := "ruleWindow", unfollowed := true, recurses := true, apart := false, narrowed := true }
def RuleWindowUptoSaid : Prop := ruleWindowUptoRow.holds Try.pinned (OpenSpec.upto ruleWindowSpec)

end Rows
end Go.Proofs.Ytlhphhiodckaaaa
