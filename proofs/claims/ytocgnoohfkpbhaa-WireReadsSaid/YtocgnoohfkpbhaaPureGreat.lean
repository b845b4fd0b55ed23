import Derived.Test.YtocgnoohfkpbhaaPureParts
set_option linter.unusedVariables false
namespace Go.Proofs.Ytocgnoohfkpbhaa.Sh
open Go Lift Go.Proofs
end Go.Proofs.Ytocgnoohfkpbhaa.Sh
