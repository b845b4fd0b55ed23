import Derived.Test.YtphieolckpneeaaSh2
import Derived.Test.YtphieolckpneeaaLift3
set_option linter.unusedVariables false
set_option linter.unusedSimpArgs false
set_option maxRecDepth 100000
namespace Go.Proofs.Ytphieolckpneeaa.Sh
open Go Lift Go.Proofs

end Go.Proofs.Ytphieolckpneeaa.Sh
