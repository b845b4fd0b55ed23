import Derived.Test.YtllcnlonkloabaaPureNumB
set_option linter.unusedVariables false
set_option linter.unusedSimpArgs false
namespace Go.Proofs.Ytllcnlonkloabaa.Sh
open Go Lift Go.Proofs
theorem clone32_ev (a:List Int) (hl:a.length≤lim):Ev (fun N=>Z1s N a) a:=by
 cases a with
 |nil=>exact Ev.now _
 |cons x xs=>exact Ev.bindc (app_eq (by simpa using hl)) (Ev.now _)
theorem cmp_ev (x y:Int) (hx:(x.natAbs:Int) < TOP) (hy:(y.natAbs:Int) < TOP):Ev (fun N=>num_Cmp N (numN x) (numN y)) (sgn (x - y)):=by
 have lx:=Zhm x hx
 have ly:=Zhm y hy
 have b0:Ev (fun N=>Zdi N (numN x) (numN y)) false:=by
  refine Ev.step ?_ (fun N=>by rw [Zdi])
  exact Ev.bind (may_ev x hx) (Ev.neg (by simp) (Ev.bind (may_ev y hy) (Ev.now _)))
 refine Ev.bind b0 (Ev.neg (by simp) ?_)
 have s1:(numN x).fNeg=decide (x < 0):=rfl
 have s2:(numN y).fNeg=decide (y < 0):=rfl
 have c1:=cmpMag_ev _ _ (Zas x) (Zas y) (by omega) (by omega)
 have c2:=cmpMag_ev _ _ (Zas y) (Zas x) (by omega) (by omega)
 rw [num_val,num_val] at c1 c2
 by_cases sx:x < 0
 ·by_cases sy:y < 0
  ·refine Ev.neg (by rw [s1,s2]; simp [sx,sy]) (Ev.pos (by rw [s1]; simp [sx]) (Ev.bind c2 ?_))
   rw [show ((y.natAbs:Int) - (x.natAbs:Int))=x - y by omega]
   exact Ev.now _
  ·refine Ev.pos (by rw [s1,s2]; simp [sx,sy]) (Ev.pos (by rw [s1]; simp [sx]) ?_)
   rw [Z9v (by omega)]
   exact Ev.now _
 ·by_cases sy:y < 0
  ·refine Ev.pos (by rw [s1,s2]; simp [sx,sy]) (Ev.neg (by rw [s1]; simp [sx]) ?_)
   rw [Zal (by omega)]
   exact Ev.now _
  ·refine Ev.neg (by rw [s1,s2]; simp [sx,sy]) (Ev.neg (by rw [s1]; simp [sx]) (Ev.bind c1 ?_))
   rw [show ((x.natAbs:Int) - (y.natAbs:Int))=x - y by omega]
   exact Ev.now _
end Go.Proofs.Ytllcnlonkloabaa.Sh
