import Derived.Test.YtocgnoohfkpbhaaPureRight
import Derived.Test.YtocgnoohfkpbhaaPureWeight
set_option linter.unusedVariables false
namespace Go.Proofs.Ytocgnoohfkpbhaa.Sh
open Go Lift Go.Proofs
/-- A term that may be. -/
def mayT (t : Tapi_Term) : Bool := decide (lo (wt t) ≤ 300) && rightT t
theorem mayT_ev (t : Tapi_Term) (hs : Small t) (w : wTapi_Term t) : Ev (fun N => term_May N t) (mayT t) := by
  unfold mayT
  refine Ev.bind (weight_ev t hs) ?_
  by_cases h : lo (wt t) ≤ 300
  · rw [decide_eq_true h, Bool.true_and]
    exact Ev.pos h (Ev.bind (right_ev t w) (Ev.now _))
  · rw [decide_eq_false h, Bool.false_and]
    exact Ev.neg h (Ev.now _)
end Go.Proofs.Ytocgnoohfkpbhaa.Sh
