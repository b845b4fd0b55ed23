import Derived.Test.YtllcnlonkloabaaInv
import Derived.Test.YtllcnlonkloabaaLift4
import Derived.KernelRfl
set_option linter.unusedVariables false
namespace Go.Proofs.Ytllcnlonkloabaa.Sh
open Go Lift Go.Proofs
theorem Zi5:Ev (fun N=>Z35 N) true:=Ev.from 60 (fun N=>by kernel_rfl)
end Go.Proofs.Ytllcnlonkloabaa.Sh
