/-
  NARROWER THAN 'FOR EVERY INPUT', by the rows' own cells (each row's printed sentence says how): UtcDates: laid · UtcAscends: laid · UtcTables: laid · UtcBack: laid · UtcExact: laid.
  DERIVED. THE GIVEN ROWS OF THIS SEAT. 5 by the template 'for every input the law returns true; each argument reads behind the call as it read before'; 0 by the template 'total and deterministic' (their statements: YtaanjciokdpkmaaDoorTotals.lean).
  GIVEN WITH THE SEED: the statements are not yours to turn. If you find one false, say at which input.
  Laid BY PROGRAM, IN A SANDBOX (cutbox-rows.mjs): the forced cells as the released guide's own fill.sh prints them over the translation d8decfc646526b0c… (all of the seat's roots in one cut). By AI agents, Wed Nov 11 2026. No macro, syntax, notation, axiom, sorry.
-/
import Derived.Test.YtaanjciokdpkmaaDoorChecked
import GoSem.Claim
import GoSem.ClaimJoined
import GoSem.ClaimMapViews
import Derived.JoinedTies
import Derived.KernelRfl
namespace Go.Proofs.YtaanjciokdpkmaaDoor
/- THE CELL 'sum', in the pinned program and in every row, IS THE sha256 OF THE DUMP (.gsa) THAT YtaanjciokdpkmaaDoorProg.lean LOADS. Nothing in Lean hashes anything: it is a label: what it is worth is what the hold of that sum in a sandbox is worth. -/
noncomputable def Tryd.pinned : Pinned := { name := "ytaanjciokdpkmaadoor", sum := "d8decfc646526b0c2e4ee817ca7b656d7696331c77e9a34bafe13525e961a8be", checked := Tryd.checked }
namespace Rows
def none {H : Type} : Left H := { results := [], args := [] }

/- WHAT THE LISTED PACKAGE-LEVEL VARIABLES READ AS WHEN THE CALL BEGINS. Each datum BY PROGRAM (the guide's laid-datum.mjs) off the statement by which the dump's own 'gosem.cut.vars' lays the variable. In a bare row this is a premise. The card (YtaanjciokdpkmaaDoorCards.lean) ties it to the program's text. -/
def laid_math_bits_deBruijn32tab {H : Type} : DataW H := .agg [.lit (.int .u8 0), .lit (.int .u8 1), .lit (.int .u8 28), .lit (.int .u8 2), .lit (.int .u8 29), .lit (.int .u8 14), .lit (.int .u8 24), .lit (.int .u8 3), .lit (.int .u8 30), .lit (.int .u8 22), .lit (.int .u8 20), .lit (.int .u8 15), .lit (.int .u8 25), .lit (.int .u8 17), .lit (.int .u8 4), .lit (.int .u8 8), .lit (.int .u8 31), .lit (.int .u8 27), .lit (.int .u8 13), .lit (.int .u8 23), .lit (.int .u8 21), .lit (.int .u8 19), .lit (.int .u8 16), .lit (.int .u8 7), .lit (.int .u8 26), .lit (.int .u8 12), .lit (.int .u8 18), .lit (.int .u8 6), .lit (.int .u8 11), .lit (.int .u8 5), .lit (.int .u8 10), .lit (.int .u8 9)]
def laid_math_bits_deBruijn64tab {H : Type} : DataW H := .agg [.lit (.int .u8 0), .lit (.int .u8 1), .lit (.int .u8 56), .lit (.int .u8 2), .lit (.int .u8 57), .lit (.int .u8 49), .lit (.int .u8 28), .lit (.int .u8 3), .lit (.int .u8 61), .lit (.int .u8 58), .lit (.int .u8 42), .lit (.int .u8 50), .lit (.int .u8 38), .lit (.int .u8 29), .lit (.int .u8 17), .lit (.int .u8 4), .lit (.int .u8 62), .lit (.int .u8 47), .lit (.int .u8 59), .lit (.int .u8 36), .lit (.int .u8 45), .lit (.int .u8 43), .lit (.int .u8 51), .lit (.int .u8 22), .lit (.int .u8 53), .lit (.int .u8 39), .lit (.int .u8 33), .lit (.int .u8 30), .lit (.int .u8 24), .lit (.int .u8 18), .lit (.int .u8 12), .lit (.int .u8 5), .lit (.int .u8 63), .lit (.int .u8 55), .lit (.int .u8 48), .lit (.int .u8 27), .lit (.int .u8 60), .lit (.int .u8 41), .lit (.int .u8 37), .lit (.int .u8 16), .lit (.int .u8 46), .lit (.int .u8 35), .lit (.int .u8 44), .lit (.int .u8 21), .lit (.int .u8 52), .lit (.int .u8 32), .lit (.int .u8 23), .lit (.int .u8 11), .lit (.int .u8 54), .lit (.int .u8 26), .lit (.int .u8 40), .lit (.int .u8 15), .lit (.int .u8 34), .lit (.int .u8 20), .lit (.int .u8 31), .lit (.int .u8 10), .lit (.int .u8 25), .lit (.int .u8 14), .lit (.int .u8 19), .lit (.int .u8 9), .lit (.int .u8 13), .lit (.int .u8 8), .lit (.int .u8 7), .lit (.int .u8 6)]
def laid_internal_strconv_uint64pow10 {H : Type} : DataW H := .agg [.lit (.int .u64 1), .lit (.int .u64 10), .lit (.int .u64 100), .lit (.int .u64 1000), .lit (.int .u64 10000), .lit (.int .u64 100000), .lit (.int .u64 1000000), .lit (.int .u64 10000000), .lit (.int .u64 100000000), .lit (.int .u64 1000000000), .lit (.int .u64 10000000000), .lit (.int .u64 100000000000), .lit (.int .u64 1000000000000), .lit (.int .u64 10000000000000), .lit (.int .u64 100000000000000), .lit (.int .u64 1000000000000000), .lit (.int .u64 10000000000000000), .lit (.int .u64 100000000000000000), .lit (.int .u64 1000000000000000000), .lit (.int .u64 10000000000000000000)]

/-- 'seismonetlaw01.UtcDates': WHATEVER THE INPUT: true; the input reads as it did. -/
def utcDatesSpec : ChangeSpec := { name := "utcDates", fn := fun _ => fun
  | [d1, d2, d3, d4] => { results := [.lit (.bool true)], args := [d1, d2, d3, d4] }
  | _ => none }
def utcDatesRow : OpenClaim := { program := "ytaanjciokdpkmaadoor", sum := "d8decfc646526b0c2e4ee817ca7b656d7696331c77e9a34bafe13525e961a8be", func := "seismonet/seismonetlaw01.UtcDates", spec := "utcDates", named := ["internal/strconv.uint64pow10", "math/bits.deBruijn32tab", "math/bits.deBruijn64tab"], apart := false, laid := [("math/bits.deBruijn32tab", laid_math_bits_deBruijn32tab), ("math/bits.deBruijn64tab", laid_math_bits_deBruijn64tab), ("internal/strconv.uint64pow10", laid_internal_strconv_uint64pow10)] }
def UtcDatesSaid : Prop := utcDatesRow.holds Tryd.pinned (OpenSpec.ofChange utcDatesSpec)

/-- ITS FALSE NEIGHBOUR: 'it returns false'. Refute it at one input. -/
def utcDatesWrong : ChangeSpec := { name := "utcDates", fn := fun _ => fun
  | [d1, d2, d3, d4] => { results := [.lit (.bool false)], args := [d1, d2, d3, d4] }
  | _ => none }
def UtcDatesWrongFalsely : Prop := utcDatesRow.holds Tryd.pinned (OpenSpec.ofChange utcDatesWrong)

/-- 'seismonetlaw01.UtcAscends': WHATEVER THE INPUT: true; the input reads as it did. -/
def utcAscendsSpec : ChangeSpec := { name := "utcAscends", fn := fun _ => fun
  | [d1, d2, d3] => { results := [.lit (.bool true)], args := [d1, d2, d3] }
  | _ => none }
def utcAscendsRow : OpenClaim := { program := "ytaanjciokdpkmaadoor", sum := "d8decfc646526b0c2e4ee817ca7b656d7696331c77e9a34bafe13525e961a8be", func := "seismonet/seismonetlaw01.UtcAscends", spec := "utcAscends", named := ["internal/strconv.uint64pow10", "math/bits.deBruijn32tab", "math/bits.deBruijn64tab"], apart := false, laid := [("math/bits.deBruijn32tab", laid_math_bits_deBruijn32tab), ("math/bits.deBruijn64tab", laid_math_bits_deBruijn64tab), ("internal/strconv.uint64pow10", laid_internal_strconv_uint64pow10)] }
def UtcAscendsSaid : Prop := utcAscendsRow.holds Tryd.pinned (OpenSpec.ofChange utcAscendsSpec)

/-- ITS FALSE NEIGHBOUR: 'it returns false'. Refute it at one input. -/
def utcAscendsWrong : ChangeSpec := { name := "utcAscends", fn := fun _ => fun
  | [d1, d2, d3] => { results := [.lit (.bool false)], args := [d1, d2, d3] }
  | _ => none }
def UtcAscendsWrongFalsely : Prop := utcAscendsRow.holds Tryd.pinned (OpenSpec.ofChange utcAscendsWrong)

/-- 'seismonetlaw01.UtcTables': WHATEVER THE INPUT: true; the input reads as it did. -/
def utcTablesSpec : ChangeSpec := { name := "utcTables", fn := fun _ => fun
  | [d1, d2] => { results := [.lit (.bool true)], args := [d1, d2] }
  | _ => none }
def utcTablesRow : OpenClaim := { program := "ytaanjciokdpkmaadoor", sum := "d8decfc646526b0c2e4ee817ca7b656d7696331c77e9a34bafe13525e961a8be", func := "seismonet/seismonetlaw01.UtcTables", spec := "utcTables", named := ["internal/strconv.uint64pow10", "math/bits.deBruijn32tab", "math/bits.deBruijn64tab"], apart := false, laid := [("math/bits.deBruijn32tab", laid_math_bits_deBruijn32tab), ("math/bits.deBruijn64tab", laid_math_bits_deBruijn64tab), ("internal/strconv.uint64pow10", laid_internal_strconv_uint64pow10)] }
def UtcTablesSaid : Prop := utcTablesRow.holds Tryd.pinned (OpenSpec.ofChange utcTablesSpec)

/-- ITS FALSE NEIGHBOUR: 'it returns false'. Refute it at one input. -/
def utcTablesWrong : ChangeSpec := { name := "utcTables", fn := fun _ => fun
  | [d1, d2] => { results := [.lit (.bool false)], args := [d1, d2] }
  | _ => none }
def UtcTablesWrongFalsely : Prop := utcTablesRow.holds Tryd.pinned (OpenSpec.ofChange utcTablesWrong)

/-- 'seismonetlaw01.UtcBack': WHATEVER THE INPUT: true; the input reads as it did. -/
def utcBackSpec : ChangeSpec := { name := "utcBack", fn := fun _ => fun
  | [d1, d2] => { results := [.lit (.bool true)], args := [d1, d2] }
  | _ => none }
def utcBackRow : OpenClaim := { program := "ytaanjciokdpkmaadoor", sum := "d8decfc646526b0c2e4ee817ca7b656d7696331c77e9a34bafe13525e961a8be", func := "seismonet/seismonetlaw01.UtcBack", spec := "utcBack", named := ["internal/strconv.uint64pow10", "math/bits.deBruijn32tab", "math/bits.deBruijn64tab"], apart := false, laid := [("math/bits.deBruijn32tab", laid_math_bits_deBruijn32tab), ("math/bits.deBruijn64tab", laid_math_bits_deBruijn64tab), ("internal/strconv.uint64pow10", laid_internal_strconv_uint64pow10)] }
def UtcBackSaid : Prop := utcBackRow.holds Tryd.pinned (OpenSpec.ofChange utcBackSpec)

/-- ITS FALSE NEIGHBOUR: 'it returns false'. Refute it at one input. -/
def utcBackWrong : ChangeSpec := { name := "utcBack", fn := fun _ => fun
  | [d1, d2] => { results := [.lit (.bool false)], args := [d1, d2] }
  | _ => none }
def UtcBackWrongFalsely : Prop := utcBackRow.holds Tryd.pinned (OpenSpec.ofChange utcBackWrong)

/-- 'seismonetlaw01.UtcExact': WHATEVER THE INPUT: true; the input reads as it did. -/
def utcExactSpec : ChangeSpec := { name := "utcExact", fn := fun _ => fun
  | [d1, d2, d3, d4, d5] => { results := [.lit (.bool true)], args := [d1, d2, d3, d4, d5] }
  | _ => none }
def utcExactRow : OpenClaim := { program := "ytaanjciokdpkmaadoor", sum := "d8decfc646526b0c2e4ee817ca7b656d7696331c77e9a34bafe13525e961a8be", func := "seismonet/seismonetlaw01.UtcExact", spec := "utcExact", named := ["internal/strconv.uint64pow10", "math/bits.deBruijn32tab", "math/bits.deBruijn64tab"], apart := false, laid := [("math/bits.deBruijn32tab", laid_math_bits_deBruijn32tab), ("math/bits.deBruijn64tab", laid_math_bits_deBruijn64tab), ("internal/strconv.uint64pow10", laid_internal_strconv_uint64pow10)] }
def UtcExactSaid : Prop := utcExactRow.holds Tryd.pinned (OpenSpec.ofChange utcExactSpec)

/-- ITS FALSE NEIGHBOUR: 'it returns false'. Refute it at one input. -/
def utcExactWrong : ChangeSpec := { name := "utcExact", fn := fun _ => fun
  | [d1, d2, d3, d4, d5] => { results := [.lit (.bool false)], args := [d1, d2, d3, d4, d5] }
  | _ => none }
def UtcExactWrongFalsely : Prop := utcExactRow.holds Tryd.pinned (OpenSpec.ofChange utcExactWrong)

/- THE SECOND FORM. 'bulk': how many values and letters a reading holds, each counted each time it is reached (what is shared counts as often as it is met; a slice's spare places count too). A statement '..UptoSaid' is the law's where the arguments, and the package variables that the reading takes, are together of bulk at most 1048576: NARROWER than '..Said'. Prove '..Said' where nothing that the law and all that it calls make is longer than what came in: it says more and counts as full. Else prove '..UptoSaid'. A law counts once. -/
mutual
def uptoBulk {H : Type} : DataW H → Nat
  | .lit (.string bytes) => bytes.length + 1
  | .lit _ => 1
  | .nil => 1
  | .ptr d => uptoBulk d + 1
  | .slice elems spare => uptoBulkAll elems + uptoBulkAll spare + 1
  | .agg parts => uptoBulkAll parts + 1
  | .iface _ d => uptoBulk d + 1
  | .map entries => uptoBulkEntries entries + 1
  | .held _ => 1
def uptoBulkAll {H : Type} : List (DataW H) → Nat
  | [] => 0
  | d :: r => uptoBulk d + uptoBulkAll r
def uptoBulkEntries {H : Type} : List (Lit × DataW H) → Nat
  | [] => 0
  | x :: r => uptoBulkEntry x + uptoBulkEntries r
def uptoBulkEntry {H : Type} : Lit × DataW H → Nat
  | (.string bytes, d) => bytes.length + uptoBulk d + 1
  | (_, d) => uptoBulk d + 1
 end
def uptoSmall : (H : Type) → List (DataW H) → Bool := fun _ ds => decide (uptoBulkAll ds ≤ 1048576)
def OpenSpec.upto (s : _root_.Go.ChangeSpec) : _root_.Go.OpenSpec := { _root_.Go.OpenSpec.ofChange s with cond := some uptoSmall }

/-- 'seismonetlaw01.UtcDates', WHERE WHAT IT READS IS OF BULK AT MOST 1048576: true; the input reads as it did. -/
def utcDatesUptoRow : OpenClaim := { program := "ytaanjciokdpkmaadoor", sum := "d8decfc646526b0c2e4ee817ca7b656d7696331c77e9a34bafe13525e961a8be", func := "seismonet/seismonetlaw01.UtcDates", spec := "utcDates", named := ["internal/strconv.uint64pow10", "math/bits.deBruijn32tab", "math/bits.deBruijn64tab"], apart := false, laid := [("math/bits.deBruijn32tab", laid_math_bits_deBruijn32tab), ("math/bits.deBruijn64tab", laid_math_bits_deBruijn64tab), ("internal/strconv.uint64pow10", laid_internal_strconv_uint64pow10)], narrowed := true }
def UtcDatesUptoSaid : Prop := utcDatesUptoRow.holds Tryd.pinned (OpenSpec.upto utcDatesSpec)

/-- 'seismonetlaw01.UtcAscends', WHERE WHAT IT READS IS OF BULK AT MOST 1048576: true; the input reads as it did. -/
def utcAscendsUptoRow : OpenClaim := { program := "ytaanjciokdpkmaadoor", sum := "d8decfc646526b0c2e4ee817ca7b656d7696331c77e9a34bafe13525e961a8be", func := "seismonet/seismonetlaw01.UtcAscends", spec := "utcAscends", named := ["internal/strconv.uint64pow10", "math/bits.deBruijn32tab", "math/bits.deBruijn64tab"], apart := false, laid := [("math/bits.deBruijn32tab", laid_math_bits_deBruijn32tab), ("math/bits.deBruijn64tab", laid_math_bits_deBruijn64tab), ("internal/strconv.uint64pow10", laid_internal_strconv_uint64pow10)], narrowed := true }
def UtcAscendsUptoSaid : Prop := utcAscendsUptoRow.holds Tryd.pinned (OpenSpec.upto utcAscendsSpec)

/-- 'seismonetlaw01.UtcTables', WHERE WHAT IT READS IS OF BULK AT MOST 1048576: true; the input reads as it did. -/
def utcTablesUptoRow : OpenClaim := { program := "ytaanjciokdpkmaadoor", sum := "d8decfc646526b0c2e4ee817ca7b656d7696331c77e9a34bafe13525e961a8be", func := "seismonet/seismonetlaw01.UtcTables", spec := "utcTables", named := ["internal/strconv.uint64pow10", "math/bits.deBruijn32tab", "math/bits.deBruijn64tab"], apart := false, laid := [("math/bits.deBruijn32tab", laid_math_bits_deBruijn32tab), ("math/bits.deBruijn64tab", laid_math_bits_deBruijn64tab), ("internal/strconv.uint64pow10", laid_internal_strconv_uint64pow10)], narrowed := true }
def UtcTablesUptoSaid : Prop := utcTablesUptoRow.holds Tryd.pinned (OpenSpec.upto utcTablesSpec)

/-- 'seismonetlaw01.UtcBack', WHERE WHAT IT READS IS OF BULK AT MOST 1048576: true; the input reads as it did. -/
def utcBackUptoRow : OpenClaim := { program := "ytaanjciokdpkmaadoor", sum := "d8decfc646526b0c2e4ee817ca7b656d7696331c77e9a34bafe13525e961a8be", func := "seismonet/seismonetlaw01.UtcBack", spec := "utcBack", named := ["internal/strconv.uint64pow10", "math/bits.deBruijn32tab", "math/bits.deBruijn64tab"], apart := false, laid := [("math/bits.deBruijn32tab", laid_math_bits_deBruijn32tab), ("math/bits.deBruijn64tab", laid_math_bits_deBruijn64tab), ("internal/strconv.uint64pow10", laid_internal_strconv_uint64pow10)], narrowed := true }
def UtcBackUptoSaid : Prop := utcBackUptoRow.holds Tryd.pinned (OpenSpec.upto utcBackSpec)

/-- 'seismonetlaw01.UtcExact', WHERE WHAT IT READS IS OF BULK AT MOST 1048576: true; the input reads as it did. -/
def utcExactUptoRow : OpenClaim := { program := "ytaanjciokdpkmaadoor", sum := "d8decfc646526b0c2e4ee817ca7b656d7696331c77e9a34bafe13525e961a8be", func := "seismonet/seismonetlaw01.UtcExact", spec := "utcExact", named := ["internal/strconv.uint64pow10", "math/bits.deBruijn32tab", "math/bits.deBruijn64tab"], apart := false, laid := [("math/bits.deBruijn32tab", laid_math_bits_deBruijn32tab), ("math/bits.deBruijn64tab", laid_math_bits_deBruijn64tab), ("internal/strconv.uint64pow10", laid_internal_strconv_uint64pow10)], narrowed := true }
def UtcExactUptoSaid : Prop := utcExactUptoRow.holds Tryd.pinned (OpenSpec.upto utcExactSpec)

end Rows
end Go.Proofs.YtaanjciokdpkmaaDoor
