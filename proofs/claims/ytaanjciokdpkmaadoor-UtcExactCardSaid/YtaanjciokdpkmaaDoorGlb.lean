/- The package-level tables that a seat's statements know. -/
import Derived.WalkKit
namespace Go.Proofs.YtaanjciokdpkmaaDoor
/-- The powers of ten. -/
def tab10 : List Int := [1, 10, 100, 1000, 10000, 100000, 1000000, 10000000, 100000000, 1000000000, 10000000000, 100000000000, 1000000000000, 10000000000000, 100000000000000, 1000000000000000, 10000000000000000, 100000000000000000, 1000000000000000000, 10000000000000000000]
/-- The cells of a table, by the variable's number. -/
def glb : Nat → Option (List Go.Value) := fun g => if g = 0 then some (tab10.map (Go.Value.int .u64)) else none
end Go.Proofs.YtaanjciokdpkmaaDoor
