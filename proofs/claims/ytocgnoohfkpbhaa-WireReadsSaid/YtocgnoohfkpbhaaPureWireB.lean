import Derived.Test.YtocgnoohfkpbhaaPureWireA
import Derived.Test.YtocgnoohfkpbhaaPureGreat
set_option linter.unusedVariables false
set_option linter.unusedSimpArgs false
namespace Go.Proofs.Ytocgnoohfkpbhaa.Sh
open Go Lift Go.Proofs
theorem app9 {xs ys:List Int} (h:xs.length+ys.length≤900000):app xs ys=some (xs++ys):=app_eq (by rw [lim_eq]; omega)
end Go.Proofs.Ytocgnoohfkpbhaa.Sh
