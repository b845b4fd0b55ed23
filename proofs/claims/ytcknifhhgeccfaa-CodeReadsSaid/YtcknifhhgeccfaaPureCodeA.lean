import Derived.Test.YtcknifhhgeccfaaPureTermMay
import Derived.Test.YtcknifhhgeccfaaPureSame
import Derived.Test.YtcknifhhgeccfaaLift3
set_option linter.unusedVariables false
set_option linter.unusedSimpArgs false
namespace Go.Proofs.Ytcknifhhgeccfaa.Sh
open Go Lift Go.Proofs
end Go.Proofs.Ytcknifhhgeccfaa.Sh
