import Derived.Test.YtllcnlonkloabaaPureNumE
import Derived.Test.YtllcnlonkloabaaLift4
import Derived.Test.YtllcnlonkloabaaLift3
set_option linter.unusedVariables false
set_option linter.unusedSimpArgs false
namespace Go.Proofs.Ytllcnlonkloabaa.Sh
open Go Lift Go.Proofs
theorem pow32 (j:Nat):(4294967296:Int) ^ j=((2 ^ (32 * j):Nat):Int):=by
  rw [Nat.pow_mul,show (2:Nat) ^ 32=4294967296 from by decide,Int.natCast_pow]
  rfl
theorem sV_zero:sV 0=0:=by decide
theorem nan_zero:nanW 0=false:=by decide
end Go.Proofs.Ytllcnlonkloabaa.Sh
