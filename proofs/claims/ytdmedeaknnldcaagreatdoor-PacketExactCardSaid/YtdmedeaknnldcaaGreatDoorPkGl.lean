/- Packets: no table of the rows is read. -/
import Derived.Test.YtdmedeaknnldcaaGreatDoorSymY
import Derived.LaidMore
import Derived.Lay
import Derived.LaidLaws
import Derived.MakeChecks
namespace Go.Proofs.YtdmedeaknnldcaaGreatDoor
open Go.RowKit
theorem gl_of {W : World} {l : List (String × DataW Unit)} (_h : laidMetH Tryz.prog l W) : GlOk (memOf W) W [] (InT sig0 []) := fun _ _ hg => by cases hg
end Go.Proofs.YtdmedeaknnldcaaGreatDoor
