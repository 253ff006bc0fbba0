/- More on the checksum in plain numbers: a string is one word; injectivity; what a check asks; flips. No program. -/
import Derived.Test.YtdmedeaknnldcaaGreatDoorCrcMath
namespace Go.Proofs.YtdmedeaknnldcaaGreatDoor.Crc

/-- The bytes of a string as one number, the first one lowest. -/
def word : List UInt8 → Nat
  | [] => 0
  | c :: t => c.toNat + 256 * word t
end Go.Proofs.YtdmedeaknnldcaaGreatDoor.Crc
