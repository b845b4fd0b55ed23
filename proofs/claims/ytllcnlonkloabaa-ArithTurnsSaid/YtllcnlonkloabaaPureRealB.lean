import Derived.Test.YtllcnlonkloabaaPureRealA
import Derived.Test.YtllcnlonkloabaaLift4
set_option linter.unusedVariables false
set_option linter.unusedSimpArgs false
namespace Go.Proofs.Ytllcnlonkloabaa.Sh
open Go Lift Go.Proofs
end Go.Proofs.Ytllcnlonkloabaa.Sh
