import Derived.Test.YtocgnoohfkpbhaaPureWireC
set_option linter.unusedVariables false
set_option linter.unusedSimpArgs false
namespace Go.Proofs.Ytocgnoohfkpbhaa.Sh
open Go Lift Go.Proofs
namespace Pure
theorem WireLays (x0 : Tapi_Term) (w0 : wTapi_Term x0) : ∃ N, beehivelaw7_WireLays N x0 = some true := by
  refine Ev.ex ?_
  obtain ⟨g, eg, kg⟩ := great_ev x0 w0 500 (by omega) (by omega)
  cases g with
  | true => exact Ev.bind eg (Ev.pos rfl (Ev.bind awake7_ev (Ev.now _)))
  | false =>
    obtain ⟨s, _⟩ := kg rfl
    have hl := Lay_ev x0 s w0
    have hll := laid_len x0
    have hs := sameB_self (laid x0).1 (by omega)
    refine Ev.bind eg (Ev.neg Bool.false_ne_true (Ev.bind hl (Ev.bind (rLay_ev x0 s w0) (Ev.bind hs (Ev.pos rfl ?_)))))
    exact Ev.bind (Ev.now _) (Ev.bind (overB_ev _ (by omega)) (Ev.bind hl (Ev.pos rfl (Ev.bind hs (Ev.pos rfl (Ev.bind awake7_ev (Ev.now _)))))))
end Pure
end Go.Proofs.Ytocgnoohfkpbhaa.Sh
