/- The plain numbers of a slower rate: the reference's way of taking the divisor. -/
import Derived.Test.YtmhbncpiloffgaaRateM
namespace Go.Proofs.Ytmhbncpiloffgaa
set_option linter.unusedVariables false
theorem gcd_slow (n d f : Nat) (h : Nat.gcd n d = 1) : Nat.gcd n (d * f) = Nat.gcd n f :=
  Nat.Coprime.gcd_mul_left_cancel_right f (Nat.Coprime.symm h)
theorem slow_den (n d f : Nat) : d * f / Nat.gcd n f = d * (f / Nat.gcd n f) :=
  Nat.mul_div_assoc d (Nat.gcd_dvd_right n f)
end Go.Proofs.Ytmhbncpiloffgaa
