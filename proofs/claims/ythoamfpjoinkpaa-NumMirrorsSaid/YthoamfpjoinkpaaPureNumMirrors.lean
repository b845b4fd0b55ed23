import Derived.Test.YthoamfpjoinkpaaPureNumD
set_option linter.unusedVariables false
namespace Go.Proofs.Ythoamfpjoinkpaa.Sh
open Go Lift Go.Proofs
/-- Too many limbs: 0, too. -/
def resV (x : Int) : Int := if (x.natAbs : Int) < TOP then x else 0
theorem resV_lt (x : Int) : ((resV x).natAbs : Int) < TOP := by
  unfold resV
  split
  · assumption
  · decide
theorem res_eq (x : Int) : res x = (numN (resV x), decide ((x.natAbs : Int) < TOP)) := by
  unfold res resV
  split
  · rw [decide_eq_true (by assumption)]
  · rw [num_zero, decide_eq_false (by assumption)]
theorem may_true (n : Tapi_Num) (x : Int) (h : (x.natAbs : Int) < TOP) (e : n = numN x) : Ev (fun N => num_May N n) true := by subst e; exact may_ev x h
theorem mirrors_b2 (x y e : Int) (p q : Bool) (hx : (x.natAbs : Int) < TOP) (hy : (y.natAbs : Int) < TOP) (he : (e.natAbs : Int) < TOP) : Ev (fun N => beehivelaw1_NumMirrors_B2 N (numN x) (numN y) (numN (-e), p) (numN e, p) (numN (-x), true) (numN 0, q)) true := by
  have haw : Ev (fun N => (beehivelaw1_awake N).bind fun r3 => some r3) true := Ev.bind awake_ev (Ev.now _)
  have nx : (((-x).natAbs : Nat) : Int) < TOP := by omega
  have ny : (((-y).natAbs : Nat) : Int) < TOP := by omega
  have ne : (((-e).natAbs : Nat) : Int) < TOP := by omega
  refine Ev.step ?_ (fun N => by rw [beehivelaw1_NumMirrors_B2])
  refine Ev.pos rfl (Ev.bind (neg_ev e he) (Ev.bind (same_self rfl (num_maxLen (-e) ne)) (Ev.pos rfl (Ev.pos rfl ?_))))
  refine Ev.bind (neg_ev x hx) (Ev.bind (same_self rfl (num_maxLen (-x) nx)) (Ev.pos rfl (Ev.bind (neg_ev (-x) nx) ?_)))
  rw [Int.neg_neg]
  refine Ev.bind (same_self rfl (num_maxLen x hx)) (Ev.pos rfl (Ev.bind (neg_ev y hy) (Ev.bind (cmp_ev (-x) (-y) nx ny) (Ev.bind (cmp_ev y x hy hx) ?_))))
  rw [show -x - -y = y - x by omega]
  refine Ev.pos rfl (Ev.bind (cmp_ev x y hx hy) (Ev.pos ?_ ?_))
  · unfold sgn
    split <;> (try split) <;> (try split) <;> (try split) <;> first | omega | decide
  · exact Ev.bind (Of_ev 0 (by omega) (by omega)) (Ev.bind (same_self rfl (num_maxLen 0 (by decide))) (Ev.pos rfl haw))
namespace Pure
theorem NumMirrors (x0 : Tapi_Num) (x1 : Tapi_Num) (w0 : wTapi_Num x0) (w1 : wTapi_Num x1) : ∃ N, beehivelaw1_NumMirrors N x0 x1 = some true := by
  refine Ev.ex (f := fun N => beehivelaw1_NumMirrors N x0 x1) ?_
  have haw : Ev (fun N => (beehivelaw1_awake N).bind fun r3 => some r3) true := Ev.bind awake_ev (Ev.now _)
  have out : Ev (fun N => beehivelaw1_NumMirrors_B1 N x0 x1) true → Ev (fun N => beehivelaw1_NumMirrors N x0 x1) true := fun h => by
    refine Ev.bind (a := .inr true) ?_ ?_
    · refine Ev.step ?_ (fun N => by rw [beehivelaw1_NumMirrors_B0])
      exact Ev.bind h (Ev.pos rfl (Ev.bind awake_ev (Ev.now _)))
    · exact Ev.now _
  rcases great_or x0 with ⟨l0, g0⟩ | g0
  case inr => exact out (by refine Ev.step ?_ (fun N => by rw [beehivelaw1_NumMirrors_B1]); exact Ev.bind g0 (Ev.pos rfl (Ev.now _)))
  rcases great_or x1 with ⟨l1, g1⟩ | g1
  case inr => exact out (by refine Ev.step ?_ (fun N => by rw [beehivelaw1_NumMirrors_B1]); exact Ev.bind g0 (Ev.neg (by simp) (Ev.bind g1 (Ev.pos rfl (Ev.now _)))))
  rcases may_or x0 (limbs_of w0.Mag) with ⟨x, hx, rfl⟩ | m0
  case inr => exact out (by refine Ev.step ?_ (fun N => by rw [beehivelaw1_NumMirrors_B1]); exact Ev.bind g0 (Ev.neg (by simp) (Ev.bind g1 (Ev.neg (by simp) (Ev.bind m0 (Ev.pos (by simp) (Ev.now _)))))))
  have m0 := may_ev x hx
  rcases may_or x1 (limbs_of w1.Mag) with ⟨y, hy, rfl⟩ | m1
  case inr => exact out (by refine Ev.step ?_ (fun N => by rw [beehivelaw1_NumMirrors_B1]); exact Ev.bind g0 (Ev.neg (by simp) (Ev.bind g1 (Ev.neg (by simp) (Ev.bind m0 (Ev.neg (by simp) (Ev.bind m1 (Ev.now _))))))))
  have m1 := may_ev y hy
  have b0 : Ev (fun N => beehivelaw1_NumMirrors_B0 N (numN x) (numN y)) (.inl ()) := by
    refine Ev.step ?_ (fun N => by rw [beehivelaw1_NumMirrors_B0])
    refine Ev.bind (a := false) ?_ (Ev.neg (by simp) (Ev.now _))
    refine Ev.step ?_ (fun N => by rw [beehivelaw1_NumMirrors_B1])
    exact Ev.bind g0 (Ev.neg (by simp) (Ev.bind g1 (Ev.neg (by simp) (Ev.bind m0 (Ev.neg (by simp) (Ev.bind m1 (Ev.now _)))))))
  refine Ev.bind b0 ?_
  refine Ev.bind (sub_ev x y hx hy) (Ev.bind (sub_ev y x hy hx) (Ev.bind (Of_ev (-1) (by omega) (by omega)) (Ev.bind (mul_ev x (-1) hx (lt_top (by decide))) (Ev.bind (sub_ev x x hx hx) (Ev.bind (a := true) ?_ (Ev.now _))))))
  rw [res_eq (x - y), res_eq (y - x), res_eq (x - x), show x * -1 = -x by omega, res_ok (x := -x) (by omega)]
  have e1 : decide (((x - y).natAbs : Int) < TOP) = decide (((y - x).natAbs : Int) < TOP) := decide_eq_decide.2 (by omega)
  have e2 : resV (x - y) = -resV (y - x) := by unfold resV; split <;> split <;> omega
  have e3 : resV (x - x) = 0 := by rw [Int.sub_self]; decide
  rw [e1, e2, e3]
  exact mirrors_b2 x y _ _ _ hx hy (resV_lt _)
end Pure
end Go.Proofs.Ythoamfpjoinkpaa.Sh
