import Derived.Test.YtcknifhhgeccfaaPureCodeB
set_option linter.unusedVariables false
set_option linter.unusedSimpArgs false
namespace Go.Proofs.Ytcknifhhgeccfaa.Sh
open Go Lift Go.Proofs
namespace Pure
theorem CodeLays (x0:Z08) (x1:Z08) (w0:Z5b x0) (w1:Z5b x1):∃ N,Z6i N x0 x1=some true:=by
  refine Ev.ex ?_
  obtain ⟨g0,e0,k0⟩:=greatP_ev x0 w0
  obtain ⟨g1,e1,k1⟩:=greatP_ev x1 w1
  have out:Ev (fun N=>Z2g N x0 x1) (.inr true)→Ev (fun N=>Z6i N x0 x1) true:=fun h=>Ev.bind h (Ev.now _)
  cases g0 with
  | true =>
    refine out (Ev.step ?_ (fun N=>by rw [Z2g]))
    exact Ev.bind e0 (Ev.pos rfl (Ev.bind awake17_ev (Ev.now _)))
  | false =>
  cases g1 with
  | true =>
    refine out (Ev.step ?_ (fun N=>by rw [Z2g]))
    exact Ev.bind e0 (Ev.neg Bool.false_ne_true (Ev.bind e1 (Ev.pos rfl (Ev.bind awake17_ev (Ev.now _)))))
  | false =>
  have hB0:Ev (fun N=>Z2g N x0 x1) (.inl ()):=by
    refine Ev.step ?_ (fun N=>by rw [Z2g])
    exact Ev.bind e0 (Ev.neg Bool.false_ne_true (Ev.bind e1 (Ev.neg Bool.false_ne_true (Ev.now _))))
  obtain ⟨o0,c0,s0,n0⟩:=k0 rfl
  have hL:=pLay_ev x0 s0 w0.Consts.all
  have hl:=laidP_len x0
  have hs:=sameB_self (laidP x0).1 (by omega)
  have q1:=pSame_ev x0 x1 w0.Ops.len w0.Consts.len s0
  have q2:=rpSame_ev x0 x1 w0.Ops.len w0.Consts.len s0
  have q3:=pSame_ev x0 x0 w0.Ops.len w0.Consts.len s0
  rw [sameQ_self] at q3
  have hB1:Ev (fun N=>Z4k N x0 x1 (laidP x0) (laidP x0)) true:=by
    refine Ev.step ?_ (fun N=>by rw [Z4k])
    exact Ev.bind hs (Ev.pos rfl (Ev.bind (Ev.now _) (Ev.pos rfl (Ev.bind q1 (Ev.bind q2 (Ev.pos rfl (Ev.bind q3 (Ev.now _))))))))
  exact Ev.bind hB0 (Ev.bind hL (Ev.bind (rpLay_ev x0 s0 w0.Consts.all) (Ev.bind hB1 (Ev.bind (overB_ev _ (by omega)) (Ev.bind hL (Ev.pos rfl (Ev.bind hs (Ev.pos rfl (Ev.bind awake17_ev (Ev.now _))))))))))
end Pure
end Go.Proofs.Ytcknifhhgeccfaa.Sh
