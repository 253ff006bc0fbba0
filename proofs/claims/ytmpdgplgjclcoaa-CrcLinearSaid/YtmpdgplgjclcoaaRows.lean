/-
  No cell of these rows narrows 'for every input' (looked for: loops, veiled, ifaces, maps, wideKeys, modest, calm, conditions, laid).
  DERIVED. THE GIVEN ROWS OF THIS SEAT. 5 by the template 'for every input the law returns true; each argument reads behind the call as it read before'; 0 by the template 'total and deterministic' (their statements: YtmpdgplgjclcoaaTotals.lean).
  GIVEN WITH THE SEED: the statements are not yours to turn. If you find one false, say at which input.
  Laid BY PROGRAM, IN A SANDBOX (cutbox-rows.mjs): the forced cells as the released guide's own fill.sh prints them over the translation 69fc374d62fe19c8… (all of the seat's roots in one cut). By AI agents, Wed Nov 11 2026. No macro, syntax, notation, axiom, sorry.
-/
import Derived.Test.YtmpdgplgjclcoaaChecked
import GoSem.Claim
import GoSem.ClaimJoined
import GoSem.ClaimMapViews
import Derived.JoinedTies
import Derived.KernelRfl
namespace Go.Proofs.Ytmpdgplgjclcoaa
/- THE CELL 'sum', in the pinned program and in every row, IS THE sha256 OF THE DUMP (.gsa) THAT YtmpdgplgjclcoaaProg.lean LOADS. Nothing in Lean hashes anything: it is a label: what it is worth is what the hold of that sum in a sandbox is worth. -/
noncomputable def Try.pinned : Pinned := { name := "ytmpdgplgjclcoaa", sum := "69fc374d62fe19c8522473a88e3aed25219e22d0f389a32f5667770adbecfcbc", checked := Try.checked }
namespace Rows
def none {H : Type} : Left H := { results := [], args := [] }

/-- 'seismonetlaw06.CrcParts': WHATEVER THE INPUT: true; the input reads as it did. -/
def crcPartsSpec : ChangeSpec := { name := "crcParts", fn := fun _ => fun
  | [d1, d2, d3] => { results := [.lit (.bool true)], args := [d1, d2, d3] }
  | _ => none }
def crcPartsRow : OpenClaim := { program := "ytmpdgplgjclcoaa", sum := "69fc374d62fe19c8522473a88e3aed25219e22d0f389a32f5667770adbecfcbc", func := "seismonet/seismonetlaw06.CrcParts", spec := "crcParts", apart := false }
def CrcPartsSaid : Prop := crcPartsRow.holds Try.pinned (OpenSpec.ofChange crcPartsSpec)

/-- ITS FALSE NEIGHBOUR: 'it returns false'. Refute it at one input. -/
def crcPartsWrong : ChangeSpec := { name := "crcParts", fn := fun _ => fun
  | [d1, d2, d3] => { results := [.lit (.bool false)], args := [d1, d2, d3] }
  | _ => none }
def CrcPartsWrongFalsely : Prop := crcPartsRow.holds Try.pinned (OpenSpec.ofChange crcPartsWrong)

/-- 'seismonetlaw06.CrcLinear': WHATEVER THE INPUT: true; the input reads as it did. -/
def crcLinearSpec : ChangeSpec := { name := "crcLinear", fn := fun _ => fun
  | [d1, d2, d3] => { results := [.lit (.bool true)], args := [d1, d2, d3] }
  | _ => none }
def crcLinearRow : OpenClaim := { program := "ytmpdgplgjclcoaa", sum := "69fc374d62fe19c8522473a88e3aed25219e22d0f389a32f5667770adbecfcbc", func := "seismonet/seismonetlaw06.CrcLinear", spec := "crcLinear", apart := false }
def CrcLinearSaid : Prop := crcLinearRow.holds Try.pinned (OpenSpec.ofChange crcLinearSpec)

/-- ITS FALSE NEIGHBOUR: 'it returns false'. Refute it at one input. -/
def crcLinearWrong : ChangeSpec := { name := "crcLinear", fn := fun _ => fun
  | [d1, d2, d3] => { results := [.lit (.bool false)], args := [d1, d2, d3] }
  | _ => none }
def CrcLinearWrongFalsely : Prop := crcLinearRow.holds Try.pinned (OpenSpec.ofChange crcLinearWrong)

/-- 'seismonetlaw06.CrcShort': WHATEVER THE INPUT: true; the input reads as it did. -/
def crcShortSpec : ChangeSpec := { name := "crcShort", fn := fun _ => fun
  | [d1, d2] => { results := [.lit (.bool true)], args := [d1, d2] }
  | _ => none }
def crcShortRow : OpenClaim := { program := "ytmpdgplgjclcoaa", sum := "69fc374d62fe19c8522473a88e3aed25219e22d0f389a32f5667770adbecfcbc", func := "seismonet/seismonetlaw06.CrcShort", spec := "crcShort", apart := false }
def CrcShortSaid : Prop := crcShortRow.holds Try.pinned (OpenSpec.ofChange crcShortSpec)

/-- ITS FALSE NEIGHBOUR: 'it returns false'. Refute it at one input. -/
def crcShortWrong : ChangeSpec := { name := "crcShort", fn := fun _ => fun
  | [d1, d2] => { results := [.lit (.bool false)], args := [d1, d2] }
  | _ => none }
def CrcShortWrongFalsely : Prop := crcShortRow.holds Try.pinned (OpenSpec.ofChange crcShortWrong)

/-- 'seismonetlaw06.CrcExact': WHATEVER THE INPUT: true; the input reads as it did. -/
def crcExactSpec : ChangeSpec := { name := "crcExact", fn := fun _ => fun
  | [d1, d2, d3, d4, d5, d6, d7] => { results := [.lit (.bool true)], args := [d1, d2, d3, d4, d5, d6, d7] }
  | _ => none }
def crcExactRow : OpenClaim := { program := "ytmpdgplgjclcoaa", sum := "69fc374d62fe19c8522473a88e3aed25219e22d0f389a32f5667770adbecfcbc", func := "seismonet/seismonetlaw06.CrcExact", spec := "crcExact", apart := false }
def CrcExactSaid : Prop := crcExactRow.holds Try.pinned (OpenSpec.ofChange crcExactSpec)

/-- ITS FALSE NEIGHBOUR: 'it returns false'. Refute it at one input. -/
def crcExactWrong : ChangeSpec := { name := "crcExact", fn := fun _ => fun
  | [d1, d2, d3, d4, d5, d6, d7] => { results := [.lit (.bool false)], args := [d1, d2, d3, d4, d5, d6, d7] }
  | _ => none }
def CrcExactWrongFalsely : Prop := crcExactRow.holds Try.pinned (OpenSpec.ofChange crcExactWrong)

/-- 'seismonetlaw06.CrcBursts': WHATEVER THE INPUT: true; the input reads as it did. -/
def crcBurstsSpec : ChangeSpec := { name := "crcBursts", fn := fun _ => fun
  | [d1, d2, d3, d4] => { results := [.lit (.bool true)], args := [d1, d2, d3, d4] }
  | _ => none }
def crcBurstsRow : OpenClaim := { program := "ytmpdgplgjclcoaa", sum := "69fc374d62fe19c8522473a88e3aed25219e22d0f389a32f5667770adbecfcbc", func := "seismonet/seismonetlaw06.CrcBursts", spec := "crcBursts", apart := false }
def CrcBurstsSaid : Prop := crcBurstsRow.holds Try.pinned (OpenSpec.ofChange crcBurstsSpec)

/-- ITS FALSE NEIGHBOUR: 'it returns false'. Refute it at one input. -/
def crcBurstsWrong : ChangeSpec := { name := "crcBursts", fn := fun _ => fun
  | [d1, d2, d3, d4] => { results := [.lit (.bool false)], args := [d1, d2, d3, d4] }
  | _ => none }
def CrcBurstsWrongFalsely : Prop := crcBurstsRow.holds Try.pinned (OpenSpec.ofChange crcBurstsWrong)

/- THE SECOND FORM. 'bulk': how many values and letters a reading holds, each counted each time it is reached (what is shared counts as often as it is met; a slice's spare places count too). A statement '..UptoSaid' is the law's where the arguments, and the package variables that the reading takes, are together of bulk at most 1048576: NARROWER than '..Said'. Prove '..Said' where nothing that the law and all that it calls make is longer than what came in: it says more and counts as full. Else prove '..UptoSaid'. A law counts once. -/
mutual
def uptoBulk {H : Type} : DataW H → Nat
  | .lit (.string bytes) => bytes.length + 1
  | .lit _ => 1
  | .nil => 1
  | .ptr d => uptoBulk d + 1
  | .slice elems spare => uptoBulkAll elems + uptoBulkAll spare + 1
  | .agg parts => uptoBulkAll parts + 1
  | .iface _ d => uptoBulk d + 1
  | .map entries => uptoBulkEntries entries + 1
  | .held _ => 1
def uptoBulkAll {H : Type} : List (DataW H) → Nat
  | [] => 0
  | d :: r => uptoBulk d + uptoBulkAll r
def uptoBulkEntries {H : Type} : List (Lit × DataW H) → Nat
  | [] => 0
  | x :: r => uptoBulkEntry x + uptoBulkEntries r
def uptoBulkEntry {H : Type} : Lit × DataW H → Nat
  | (.string bytes, d) => bytes.length + uptoBulk d + 1
  | (_, d) => uptoBulk d + 1
 end
def uptoSmall : (H : Type) → List (DataW H) → Bool := fun _ ds => decide (uptoBulkAll ds ≤ 1048576)
def OpenSpec.upto (s : _root_.Go.ChangeSpec) : _root_.Go.OpenSpec := { _root_.Go.OpenSpec.ofChange s with cond := some uptoSmall }

/-- 'seismonetlaw06.CrcParts', WHERE WHAT IT READS IS OF BULK AT MOST 1048576: true; the input reads as it did. -/
def crcPartsUptoRow : OpenClaim := { program := "ytmpdgplgjclcoaa", sum := "69fc374d62fe19c8522473a88e3aed25219e22d0f389a32f5667770adbecfcbc", func := "seismonet/seismonetlaw06.CrcParts", spec := "crcParts", apart := false, narrowed := true }
def CrcPartsUptoSaid : Prop := crcPartsUptoRow.holds Try.pinned (OpenSpec.upto crcPartsSpec)

/-- 'seismonetlaw06.CrcLinear', WHERE WHAT IT READS IS OF BULK AT MOST 1048576: true; the input reads as it did. -/
def crcLinearUptoRow : OpenClaim := { program := "ytmpdgplgjclcoaa", sum := "69fc374d62fe19c8522473a88e3aed25219e22d0f389a32f5667770adbecfcbc", func := "seismonet/seismonetlaw06.CrcLinear", spec := "crcLinear", apart := false, narrowed := true }
def CrcLinearUptoSaid : Prop := crcLinearUptoRow.holds Try.pinned (OpenSpec.upto crcLinearSpec)

/-- 'seismonetlaw06.CrcShort', WHERE WHAT IT READS IS OF BULK AT MOST 1048576: true; the input reads as it did. -/
def crcShortUptoRow : OpenClaim := { program := "ytmpdgplgjclcoaa", sum := "69fc374d62fe19c8522473a88e3aed25219e22d0f389a32f5667770adbecfcbc", func := "seismonet/seismonetlaw06.CrcShort", spec := "crcShort", apart := false, narrowed := true }
def CrcShortUptoSaid : Prop := crcShortUptoRow.holds Try.pinned (OpenSpec.upto crcShortSpec)

/-- 'seismonetlaw06.CrcExact', WHERE WHAT IT READS IS OF BULK AT MOST 1048576: true; the input reads as it did. -/
def crcExactUptoRow : OpenClaim := { program := "ytmpdgplgjclcoaa", sum := "69fc374d62fe19c8522473a88e3aed25219e22d0f389a32f5667770adbecfcbc", func := "seismonet/seismonetlaw06.CrcExact", spec := "crcExact", apart := false, narrowed := true }
def CrcExactUptoSaid : Prop := crcExactUptoRow.holds Try.pinned (OpenSpec.upto crcExactSpec)

/-- 'seismonetlaw06.CrcBursts', WHERE WHAT IT READS IS OF BULK AT MOST 1048576: true; the input reads as it did. -/
def crcBurstsUptoRow : OpenClaim := { program := "ytmpdgplgjclcoaa", sum := "69fc374d62fe19c8522473a88e3aed25219e22d0f389a32f5667770adbecfcbc", func := "seismonet/seismonetlaw06.CrcBursts", spec := "crcBursts", apart := false, narrowed := true }
def CrcBurstsUptoSaid : Prop := crcBurstsUptoRow.holds Try.pinned (OpenSpec.upto crcBurstsSpec)

end Rows
end Go.Proofs.Ytmpdgplgjclcoaa
