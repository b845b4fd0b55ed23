import Derived.Test.YtehocjeeaigkeaaSh2
import Derived.Test.YtehocjeeaigkeaaLift3
set_option linter.unusedVariables false
set_option linter.unusedSimpArgs false
set_option maxRecDepth 100000
namespace Go.Proofs.Ytehocjeeaigkeaa.Sh
open Go Lift Go.Proofs

end Go.Proofs.Ytehocjeeaigkeaa.Sh
