import Derived.Test.YtllcnlonkloabaaInv
import Derived.Test.YtllcnlonkloabaaLift3
import Derived.KernelRfl
set_option linter.unusedVariables false
namespace Go.Proofs.Ytllcnlonkloabaa.Sh
open Go Lift Go.Proofs
theorem awake5_ev:Ev (fun N=>Z5k N) true:=Ev.from 60 (fun N=>by kernel_rfl)
end Go.Proofs.Ytllcnlonkloabaa.Sh
