import Derived.Test.YtllcnlonkloabaaPureRight
import Derived.Test.YtllcnlonkloabaaPureWeight
set_option linter.unusedVariables false
namespace Go.Proofs.Ytllcnlonkloabaa.Sh
open Go Lift Go.Proofs
def mayT (t:Z01):Bool:=decide (lo (wt t)≤300) && rightT t
theorem mayT_ev (t:Z01) (hs:Small t) (w:Z1l t):Ev (fun N=>Zaa N t) (mayT t):=by
  unfold mayT
  refine Ev.bind (weight_ev t hs) ?_
  by_cases h:lo (wt t)≤300
  · rw [decide_eq_true h,Bool.true_and]
    exact Ev.pos h (Ev.bind (right_ev t w) (Ev.now _))
  · rw [decide_eq_false h,Bool.false_and]
    exact Ev.neg h (Ev.now _)
end Go.Proofs.Ytllcnlonkloabaa.Sh
