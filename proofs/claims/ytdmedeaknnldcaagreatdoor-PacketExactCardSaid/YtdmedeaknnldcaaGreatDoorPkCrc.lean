/- The checksum: what a check asks, in plain numbers. -/
import Derived.Test.YtdmedeaknnldcaaGreatDoorCrcWalkB
import Derived.Test.YtdmedeaknnldcaaGreatDoorCrcMathB
namespace Go.Proofs.YtdmedeaknnldcaaGreatDoor
open Go.RowKit Crc
theorem appended_size (s : ByteArray) : (appended s).size = s.size + 4 := by unfold appended; simp [ByteArray.size_append]; rfl
end Go.Proofs.YtdmedeaknnldcaaGreatDoor
