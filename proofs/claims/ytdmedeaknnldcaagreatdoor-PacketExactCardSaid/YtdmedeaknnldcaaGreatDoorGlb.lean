/- The package-level tables that a seat's statements know. -/
import Derived.WalkKit
namespace Go.Proofs.YtdmedeaknnldcaaGreatDoor
/-- The cells of a table, by the variable's number. -/
def glb : Nat → Option (List Go.Value) := fun _ => none
end Go.Proofs.YtdmedeaknnldcaaGreatDoor
