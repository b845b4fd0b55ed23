import Derived.Test.YtcknifhhgeccfaaPureParts
set_option linter.unusedVariables false
namespace Go.Proofs.Ytcknifhhgeccfaa.Sh
open Go Lift Go.Proofs
end Go.Proofs.Ytcknifhhgeccfaa.Sh
