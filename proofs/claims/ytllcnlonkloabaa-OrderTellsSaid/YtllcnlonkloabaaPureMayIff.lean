import Derived.Test.YtllcnlonkloabaaPureTermMay
set_option linter.unusedVariables false
set_option linter.unusedSimpArgs false
namespace Go.Proofs.Ytllcnlonkloabaa.Sh
open Go Lift Go.Proofs
theorem mayT_iff (t:Z00):mayT t=(decide (wt t≤300) && rightT t):=by
 unfold mayT
 congr 1
 unfold lo
 split
 ·rw [decide_eq_false (by omega),decide_eq_false (by omega)]
 ·rfl
theorem rights_all:∀ ts:List Z00,rightsT ts=ts.all rightT
 |[]=>rfl
 |x::xs=>by rw [rightsT,rights_all xs,zm]
end Go.Proofs.Ytllcnlonkloabaa.Sh
