import Derived.Test.YtllcnlonkloabaaPureNumB
set_option linter.unusedVariables false
set_option linter.unusedSimpArgs false
namespace Go.Proofs.Ytllcnlonkloabaa.Sh
open Go Lift Go.Proofs
theorem Zdl (a:List Int) (hl:a.length≤lim):Ev (fun N=>Z23 N a) a:=by
  cases a with
  | nil=>exact Ev.now _
  | cons x xs=>exact Ev.bindc (app_eq (by simpa using hl)) (Ev.now _)
end Go.Proofs.Ytllcnlonkloabaa.Sh
