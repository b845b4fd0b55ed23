import Derived.Test.YtocgnoohfkpbhaaPureNumB
set_option linter.unusedVariables false
set_option linter.unusedSimpArgs false
namespace Go.Proofs.Ytocgnoohfkpbhaa.Sh
open Go Lift Go.Proofs
theorem clone32_ev (a : List Int) (hl : a.length ≤ lim) : Ev (fun N => slices_Clone_uint32_uint32_all N a) a := by
  cases a with
  | nil => exact Ev.now _
  | cons x xs => exact Ev.bindc (app_eq (by simpa using hl)) (Ev.now _)
end Go.Proofs.Ytocgnoohfkpbhaa.Sh
