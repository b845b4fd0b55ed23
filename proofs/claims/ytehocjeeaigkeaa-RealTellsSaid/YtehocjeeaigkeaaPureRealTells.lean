import Derived.Test.YtehocjeeaigkeaaPureRealA
set_option linter.unusedVariables false
namespace Go.Proofs.Ytehocjeeaigkeaa.Sh
open Go Lift Go.Proofs
namespace Pure
theorem RealTells (x0 : Int) (x1 : Int) (w0 : (InR .u64) x0) (w1 : (InR .u64) x1) : ∃ N, beehivelaw2_RealTells N x0 x1 = some true := by
  refine Ev.ex (f := fun N => beehivelaw2_RealTells N x0 x1) ?_
  have h0 := inW w0
  have h1 := inW w1
  have hB : Ev (fun N => beehivelaw2_RealTells_B0 N x0 x1) true := by
    refine Ev.step ?_ (fun N => by rw [beehivelaw2_RealTells_B0])
    refine Ev.bind (add_ev' x0 x1) (Ev.bind (radd_ev x0 x1) (Ev.pos rfl ?_))
    refine Ev.bind (sub_ev' x0 x1) (Ev.bind (rsub_ev x0 x1) (Ev.pos rfl ?_))
    refine Ev.bind (mul_ev' x0 x1) (Ev.bind (rmul_ev x0 x1) (Ev.pos rfl ?_))
    refine Ev.bind (div_ev' x0 x1) (Ev.bind (rdiv_ev x0 x1) (Ev.pos rfl ?_))
    refine Ev.bind (clean_ev x0) (Ev.bind (clean_ev x1) (Ev.bind (pcmp_ev _ _ (cleanW_w h0) (cleanW_w h1)) (Ev.bind (rcmp_ev x0 x1 h0 h1) (Ev.pos rfl ?_))))
    refine Ev.bind (mayW_ev x0) (Ev.bind (rmayW_ev x0 h0) (Ev.pos rfl ?_))
    exact Ev.bind (rclean_ev x0 h0) (Ev.pos rfl (Ev.bind awake2_ev (Ev.now _)))
  exact Ev.bind hB (Ev.now _)
end Pure
end Go.Proofs.Ytehocjeeaigkeaa.Sh
