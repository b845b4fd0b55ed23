import Derived.Test.YtcknifhhgeccfaaPureWireC
import Derived.Test.YtcknifhhgeccfaaPureSame
set_option linter.unusedVariables false
set_option linter.unusedSimpArgs false
namespace Go.Proofs.Ytcknifhhgeccfaa.Sh
open Go Lift Go.Proofs
/-! ### Two rows,side by side -/
/-! ### Which two are the same -/
end Go.Proofs.Ytcknifhhgeccfaa.Sh
