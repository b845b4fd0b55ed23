import Derived.Test.YtocgnoohfkpbhaaPureNumE
import Derived.Test.YtocgnoohfkpbhaaPureTermMay
set_option linter.unusedVariables false
set_option linter.unusedSimpArgs false
namespace Go.Proofs.Ytocgnoohfkpbhaa.Sh
open Go Lift Go.Proofs
theorem mayT_iff (t : Tapi_Term) : mayT t = (decide (wt t ≤ 300) && rightT t) := by
  unfold mayT
  congr 1
  unfold lo
  split
  · rw [decide_eq_false (by omega), decide_eq_false (by omega)]
  · rfl
structure Fine (t : Tapi_Term) : Prop where
  s : Small t
  w : wTapi_Term t
  m : mayT t = true
theorem Fine.right {t : Tapi_Term} (h : Fine t) : okT t = true ∧ bareT t = true ∧ rightsT t.fArgs = true := by
  have := h.m
  rw [mayT_iff, Bool.and_eq_true, rightT_eq, Bool.and_eq_true, Bool.and_eq_true] at this
  exact ⟨this.2.1.1, this.2.1.2, this.2.2⟩
theorem Fine.kind {t : Tapi_Term} (h : Fine t) : 1 ≤ t.fKind ∧ t.fKind ≤ 9 := by
  have := h.right.1
  unfold okT at this
  repeat' split at this
  all_goals first | omega | cases this
theorem Fine.int {t : Tapi_Term} (h : Fine t) (hk : t.fKind = 1) : -1152921504606846976 ≤ t.fN ∧ t.fN ≤ 1152921504606846975 := by
  have ho := h.right.1
  unfold okT at ho
  rw [if_pos hk] at ho
  exact of_decide_eq_true ho
end Go.Proofs.Ytocgnoohfkpbhaa.Sh
