/-
  No cell of these rows narrows 'for every input' (looked for: loops, veiled, ifaces, maps, wideKeys, modest, calm, conditions, laid).
  DERIVED. THE GIVEN ROWS OF THIS SEAT. 4 by the template 'for every input the law returns true; each argument reads behind the call as it read before'; 0 by the template 'total and deterministic' (their statements: YtnnfpoelkdgjdaaTotals.lean).
  GIVEN WITH THE SEED: the statements are not yours to turn. If you find one false, say at which input.
  Laid BY PROGRAM, IN A SANDBOX (cutbox-rows.mjs): the forced cells as the released guide's own fill.sh prints them over the translation 9f2dd7b8a7c26f8f… (all of the seat's roots in one cut). By AI agents, Wed Nov 11 2026. No macro, syntax, notation, axiom, sorry.
-/
import Derived.Test.YtnnfpoelkdgjdaaChecked
import GoSem.Claim
import GoSem.ClaimJoined
import GoSem.ClaimMapViews
import Derived.JoinedTies
import Derived.KernelRfl
namespace Go.Proofs.Ytnnfpoelkdgjdaa
/- THE CELL 'sum', in the pinned program and in every row, IS THE sha256 OF THE DUMP (.gsa) THAT YtnnfpoelkdgjdaaProg.lean LOADS. Nothing in Lean hashes anything: it is a label: what it is worth is what the hold of that sum in a sandbox is worth. -/
noncomputable def Try.pinned : Pinned := { name := "ytnnfpoelkdgjdaa", sum := "9f2dd7b8a7c26f8f6bda3c45271d157b80cf134b18a49f527f0a5d9934f16e4c", checked := Try.checked }
namespace Rows
def none {H : Type} : Left H := { results := [], args := [] }

/-- 'seismonetlaw36.AlertTimely': WHATEVER THE INPUT: true; the input reads as it did. -/
def alertTimelySpec : ChangeSpec := { name := "alertTimely", fn := fun _ => fun
  | [d] => { results := [.lit (.bool true)], args := [d] }
  | _ => none }
def alertTimelyRow : OpenClaim := { program := "ytnnfpoelkdgjdaa", sum := "9f2dd7b8a7c26f8f6bda3c45271d157b80cf134b18a49f527f0a5d9934f16e4c", func := "seismonet/seismonetlaw36.AlertTimely", spec := "alertTimely", unfollowed := true, recurses := true, plainKeys := false, apart := false }
def AlertTimelySaid : Prop := alertTimelyRow.holds Try.pinned (OpenSpec.ofChange alertTimelySpec)

/-- ITS FALSE NEIGHBOUR: 'it returns false'. Refute it at one input. -/
def alertTimelyWrong : ChangeSpec := { name := "alertTimely", fn := fun _ => fun
  | [d] => { results := [.lit (.bool false)], args := [d] }
  | _ => none }
def AlertTimelyWrongFalsely : Prop := alertTimelyRow.holds Try.pinned (OpenSpec.ofChange alertTimelyWrong)

/-- 'seismonetlaw36.AlertAgain': WHATEVER THE INPUT: true; the input reads as it did. -/
def alertAgainSpec : ChangeSpec := { name := "alertAgain", fn := fun _ => fun
  | [d] => { results := [.lit (.bool true)], args := [d] }
  | _ => none }
def alertAgainRow : OpenClaim := { program := "ytnnfpoelkdgjdaa", sum := "9f2dd7b8a7c26f8f6bda3c45271d157b80cf134b18a49f527f0a5d9934f16e4c", func := "seismonet/seismonetlaw36.AlertAgain", spec := "alertAgain", unfollowed := true, recurses := true, plainKeys := false, apart := false }
def AlertAgainSaid : Prop := alertAgainRow.holds Try.pinned (OpenSpec.ofChange alertAgainSpec)

/-- ITS FALSE NEIGHBOUR: 'it returns false'. Refute it at one input. -/
def alertAgainWrong : ChangeSpec := { name := "alertAgain", fn := fun _ => fun
  | [d] => { results := [.lit (.bool false)], args := [d] }
  | _ => none }
def AlertAgainWrongFalsely : Prop := alertAgainRow.holds Try.pinned (OpenSpec.ofChange alertAgainWrong)

/-- 'seismonetlaw36.AlertKept': WHATEVER THE INPUT: true; the input reads as it did. -/
def alertKeptSpec : ChangeSpec := { name := "alertKept", fn := fun _ => fun
  | [d] => { results := [.lit (.bool true)], args := [d] }
  | _ => none }
def alertKeptRow : OpenClaim := { program := "ytnnfpoelkdgjdaa", sum := "9f2dd7b8a7c26f8f6bda3c45271d157b80cf134b18a49f527f0a5d9934f16e4c", func := "seismonet/seismonetlaw36.AlertKept", spec := "alertKept", unfollowed := true, recurses := true, plainKeys := false, apart := false }
def AlertKeptSaid : Prop := alertKeptRow.holds Try.pinned (OpenSpec.ofChange alertKeptSpec)

/-- ITS FALSE NEIGHBOUR: 'it returns false'. Refute it at one input. -/
def alertKeptWrong : ChangeSpec := { name := "alertKept", fn := fun _ => fun
  | [d] => { results := [.lit (.bool false)], args := [d] }
  | _ => none }
def AlertKeptWrongFalsely : Prop := alertKeptRow.holds Try.pinned (OpenSpec.ofChange alertKeptWrong)

/-- 'seismonetlaw36.AlertDisappears': WHATEVER THE INPUT: true; the input reads as it did. -/
def alertDisappearsSpec : ChangeSpec := { name := "alertDisappears", fn := fun _ => fun
  | [d] => { results := [.lit (.bool true)], args := [d] }
  | _ => none }
def alertDisappearsRow : OpenClaim := { program := "ytnnfpoelkdgjdaa", sum := "9f2dd7b8a7c26f8f6bda3c45271d157b80cf134b18a49f527f0a5d9934f16e4c", func := "seismonet/seismonetlaw36.AlertDisappears", spec := "alertDisappears", unfollowed := true, recurses := true, plainKeys := false, apart := false }
def AlertDisappearsSaid : Prop := alertDisappearsRow.holds Try.pinned (OpenSpec.ofChange alertDisappearsSpec)

/-- ITS FALSE NEIGHBOUR: 'it returns false'. Refute it at one input. -/
def alertDisappearsWrong : ChangeSpec := { name := "alertDisappears", fn := fun _ => fun
  | [d] => { results := [.lit (.bool false)], args := [d] }
  | _ => none }
def AlertDisappearsWrongFalsely : Prop := alertDisappearsRow.holds Try.pinned (OpenSpec.ofChange alertDisappearsWrong)

/- THE SECOND FORM. 'bulk': how many values and letters a reading holds, each counted each time it is reached (what is shared counts as often as it is met; a slice's spare places count too). A statement '..UptoSaid' is the law's where the arguments, and the package variables that the reading takes, are together of bulk at most 1048576: NARROWER than '..Said'. Prove '..Said' where nothing that the law and all that it calls make is longer than what came in: it says more and counts as full. Else prove '..UptoSaid'. A law counts once. -/
mutual
def uptoBulk {H : Type} : DataW H → Nat
  | .lit (.string bytes) => bytes.length + 1
  | .lit _ => 1
  | .nil => 1
  | .ptr d => uptoBulk d + 1
  | .slice elems spare => uptoBulkAll elems + uptoBulkAll spare + 1
  | .agg parts => uptoBulkAll parts + 1
  | .iface _ d => uptoBulk d + 1
  | .map entries => uptoBulkEntries entries + 1
  | .held _ => 1
def uptoBulkAll {H : Type} : List (DataW H) → Nat
  | [] => 0
  | d :: r => uptoBulk d + uptoBulkAll r
def uptoBulkEntries {H : Type} : List (Lit × DataW H) → Nat
  | [] => 0
  | x :: r => uptoBulkEntry x + uptoBulkEntries r
def uptoBulkEntry {H : Type} : Lit × DataW H → Nat
  | (.string bytes, d) => bytes.length + uptoBulk d + 1
  | (_, d) => uptoBulk d + 1
 end
def uptoSmall : (H : Type) → List (DataW H) → Bool := fun _ ds => decide (uptoBulkAll ds ≤ 1048576)
def OpenSpec.upto (s : _root_.Go.ChangeSpec) : _root_.Go.OpenSpec := { _root_.Go.OpenSpec.ofChange s with cond := some uptoSmall }

/-- 'seismonetlaw36.AlertTimely', WHERE WHAT IT READS IS OF BULK AT MOST 1048576: true; the input reads as it did. -/
def alertTimelyUptoRow : OpenClaim := { program := "ytnnfpoelkdgjdaa", sum := "9f2dd7b8a7c26f8f6bda3c45271d157b80cf134b18a49f527f0a5d9934f16e4c", func := "seismonet/seismonetlaw36.AlertTimely", spec := "alertTimely", unfollowed := true, recurses := true, plainKeys := false, apart := false, narrowed := true }
def AlertTimelyUptoSaid : Prop := alertTimelyUptoRow.holds Try.pinned (OpenSpec.upto alertTimelySpec)

/-- 'seismonetlaw36.AlertAgain', WHERE WHAT IT READS IS OF BULK AT MOST 1048576: true; the input reads as it did. -/
def alertAgainUptoRow : OpenClaim := { program := "ytnnfpoelkdgjdaa", sum := "9f2dd7b8a7c26f8f6bda3c45271d157b80cf134b18a49f527f0a5d9934f16e4c", func := "seismonet/seismonetlaw36.AlertAgain", spec := "alertAgain", unfollowed := true, recurses := true, plainKeys := false, apart := false, narrowed := true }
def AlertAgainUptoSaid : Prop := alertAgainUptoRow.holds Try.pinned (OpenSpec.upto alertAgainSpec)

/-- 'seismonetlaw36.AlertKept', WHERE WHAT IT READS IS OF BULK AT MOST 1048576: true; the input reads as it did. -/
def alertKeptUptoRow : OpenClaim := { program := "ytnnfpoelkdgjdaa", sum := "9f2dd7b8a7c26f8f6bda3c45271d157b80cf134b18a49f527f0a5d9934f16e4c", func := "seismonet/seismonetlaw36.AlertKept", spec := "alertKept", unfollowed := true, recurses := true, plainKeys := false, apart := false, narrowed := true }
def AlertKeptUptoSaid : Prop := alertKeptUptoRow.holds Try.pinned (OpenSpec.upto alertKeptSpec)

/-- 'seismonetlaw36.AlertDisappears', WHERE WHAT IT READS IS OF BULK AT MOST 1048576: true; the input reads as it did. -/
def alertDisappearsUptoRow : OpenClaim := { program := "ytnnfpoelkdgjdaa", sum := "9f2dd7b8a7c26f8f6bda3c45271d157b80cf134b18a49f527f0a5d9934f16e4c", func := "seismonet/seismonetlaw36.AlertDisappears", spec := "alertDisappears", unfollowed := true, recurses := true, plainKeys := false, apart := false, narrowed := true }
def AlertDisappearsUptoSaid : Prop := alertDisappearsUptoRow.holds Try.pinned (OpenSpec.upto alertDisappearsSpec)

end Rows
end Go.Proofs.Ytnnfpoelkdgjdaa
