import Derived.Test.YtocgnoohfkpbhaaPureParts
set_option linter.unusedVariables false
namespace Go.Proofs.Ytocgnoohfkpbhaa.Sh
open Go Lift Go.Proofs
/-- Great or not: if not, the term is small, of so few parts. -/
theorem great_ev (x : Tapi_Term) (hw : wTapi_Term x) (p : Int) (h1 : -1 ≤ p) (h2 : p ≤ 100000) :
    ∃ b, Ev (fun N => beehivelaw0_GreatTerm N x p) b ∧ (b = false → Small x ∧ (cnt x : Int) ≤ p) := by
  obtain ⟨r, hr, r0, r1, r2⟩ := parts_top [x] (fun y hy => by simp at hy; subst hy; exact hw) (by simp [maxLen_eq]) p h1 h2
  refine ⟨decide (r > p), Ev.bind hr (Ev.now _), fun h => ?_⟩
  simp at h
  obtain ⟨s1, s2⟩ := r2 h
  simp [cnts] at s2
  exact ⟨s1 x (by simp), by omega⟩
end Go.Proofs.Ytocgnoohfkpbhaa.Sh
