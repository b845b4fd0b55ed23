import Derived.Test.YtehocjeeaigkeaaPureNumB
set_option linter.unusedVariables false
set_option linter.unusedSimpArgs false
namespace Go.Proofs.Ytehocjeeaigkeaa.Sh
open Go Lift Go.Proofs
theorem num_maxLen (x : Int) (h : (x.natAbs : Int) < TOP) : (numN x).fMag.length ≤ maxLen := by
  have := num_len x h
  rw [maxLen_eq]; omega
theorem cmp_ev (x y : Int) (hx : (x.natAbs : Int) < TOP) (hy : (y.natAbs : Int) < TOP) : Ev (fun N => num_Cmp N (numN x) (numN y)) (sgn (x - y)) := by
  have lx := num_len x hx
  have ly := num_len y hy
  have b0 : Ev (fun N => num_Cmp_B0 N (numN x) (numN y)) false := by
    refine Ev.step ?_ (fun N => by rw [num_Cmp_B0])
    exact Ev.bind (may_ev x hx) (Ev.neg (by simp) (Ev.bind (may_ev y hy) (Ev.now _)))
  refine Ev.bind b0 (Ev.neg (by simp) ?_)
  have s1 : (numN x).fNeg = decide (x < 0) := rfl
  have s2 : (numN y).fNeg = decide (y < 0) := rfl
  have c1 := cmpMag_ev _ _ (num_norm x) (num_norm y) (by omega) (by omega)
  have c2 := cmpMag_ev _ _ (num_norm y) (num_norm x) (by omega) (by omega)
  rw [num_val, num_val] at c1 c2
  by_cases sx : x < 0
  · by_cases sy : y < 0
    · refine Ev.neg (by rw [s1, s2]; simp [sx, sy]) (Ev.pos (by rw [s1]; simp [sx]) (Ev.bind c2 ?_))
      rw [show ((y.natAbs : Int) - (x.natAbs : Int)) = x - y by omega]
      exact Ev.now _
    · refine Ev.pos (by rw [s1, s2]; simp [sx, sy]) (Ev.pos (by rw [s1]; simp [sx]) ?_)
      rw [sgn_neg (by omega)]
      exact Ev.now _
  · by_cases sy : y < 0
    · refine Ev.pos (by rw [s1, s2]; simp [sx, sy]) (Ev.neg (by rw [s1]; simp [sx]) ?_)
      rw [sgn_pos (by omega)]
      exact Ev.now _
    · refine Ev.neg (by rw [s1, s2]; simp [sx, sy]) (Ev.neg (by rw [s1]; simp [sx]) (Ev.bind c1 ?_))
      rw [show ((x.natAbs : Int) - (y.natAbs : Int)) = x - y by omega]
      exact Ev.now _
end Go.Proofs.Ytehocjeeaigkeaa.Sh
