import Derived.Test.YthoamfpjoinkpaaPureNumRing
set_option linter.unusedVariables false
namespace Go.Proofs.Ythoamfpjoinkpaa.Sh
open Go Lift Go.Proofs
def qtr (p : Int) : Int := IntKind.wrap .i64 (Int.tdiv (IntKind.wrap .i64 (IntKind.wrap .i32 (IntKind.wrap .u32 p))) (4 : Int))
theorem qtr_bound (p : Int) : -536870912 ≤ qtr p ∧ qtr p ≤ 536870911 := by
  have e1 : ∀ x : Int, -2147483648 ≤ IntKind.i32.wrap x ∧ IntKind.i32.wrap x ≤ 2147483647 := fun x => by
    simp [IntKind.wrap, IntKind.bits, IntKind.signed]
    split <;> omega
  have b := e1 (IntKind.u32.wrap p)
  unfold qtr
  generalize IntKind.i32.wrap (IntKind.u32.wrap p) = q at *
  rw [wrapI q (by omega) (by omega)]
  have t1 : -536870912 ≤ Int.tdiv q 4 ∧ Int.tdiv q 4 ≤ 536870911 := by
    rcases Int.le_total 0 q with h | h
    · rw [Int.tdiv_eq_ediv_of_nonneg h]; omega
    · have : Int.tdiv q 4 = -((-q) / 4) := by
        rw [show q = -(-q) by omega, Int.neg_tdiv, Int.tdiv_eq_ediv_of_nonneg (by omega), Int.neg_neg]
      rw [this]; omega
  rw [wrapI _ (by omega) (by omega)]
  exact t1
theorem small_b3 (p0 p1 a b : Int) (ha : qtr p0 = a) (hb : qtr p1 = b) (ha0 : -536870912 ≤ a) (ha1 : a ≤ 536870911) (hb0 : -536870912 ≤ b) (hb1 : b ≤ 536870911) (hm : ((a * b).natAbs : Int) ≤ 288230376151711744) :
    Ev (fun N => beehivelaw1_NumSmall_B3 N p0 p1 (numN (a + b), true) (numN (a - b), true) (numN (a * b), true) (sgn (a - b))) true := by
  have haw : Ev (fun N => (beehivelaw1_awake N).bind fun r3 => some r3) true := Ev.bind awake_ev (Ev.now _)
  have t := big_top
  refine Ev.step ?_ (fun N => by rw [beehivelaw1_NumSmall_B3])
  show Ev (fun N => (num_Of N (IntKind.wrap .i64 (qtr p0 + qtr p1))).bind fun r25 => (beehivelaw0_SameNum N (numN (a + b)) r25).bind fun r26 => if r26 = true then (num_Of N (IntKind.wrap .i64 (qtr p0 - qtr p1))).bind fun r28 => (beehivelaw0_SameNum N (numN (a - b)) r28).bind fun r29 => if r29 = true then (num_Of N (IntKind.wrap .i64 (qtr p0 * qtr p1))).bind fun r31 => (beehivelaw0_SameNum N (numN (a * b)) r31).bind fun r32 => if r32 = true then if (decide (sgn (a - b) < (0 : Int))) = (decide (qtr p0 < qtr p1)) then if (sgn (a - b) == (0 : Int)) = (qtr p0 == qtr p1) then (num_Of N (qtr p0)).bind fun r36 => (num_Neg N r36).bind fun r37 => (num_Of N (IntKind.wrap .i64 (0 - qtr p0))).bind fun r38 => (beehivelaw0_SameNum N r37 r38).bind fun r39 => if r39 = true then (beehivelaw1_awake N).bind fun r41 => some r41 else some false else some false else some false else some false else some false else some false) true
  rw [ha, hb, wrapI (a + b) (by omega) (by omega), wrapI (a - b) (by omega) (by omega), wrapI (a * b) (by omega) (by omega), wrapI (0 - a) (by omega) (by omega)]
  refine Ev.bind (Of_ev _ (by omega) (by omega)) (Ev.bind (same_self rfl (num_maxLen _ (by omega))) (Ev.pos rfl ?_))
  refine Ev.bind (Of_ev _ (by omega) (by omega)) (Ev.bind (same_self rfl (num_maxLen _ (by omega))) (Ev.pos rfl ?_))
  refine Ev.bind (Of_ev _ (by omega) (by omega)) (Ev.bind (same_self rfl (num_maxLen _ (by omega))) (Ev.pos rfl ?_))
  have e1 : decide (sgn (a - b) < 0) = decide (a < b) := decide_eq_decide.2 (by unfold sgn; split <;> (try split) <;> omega)
  have e2 : (sgn (a - b) == 0) = (a == b) := by
    rw [Bool.eq_iff_iff, beq_iff_eq, beq_iff_eq, sgn_zero]; omega
  refine Ev.pos e1 (Ev.pos e2 (Ev.bind (Of_ev a (by omega) (by omega)) (Ev.bind (neg_ev a (by omega)) (Ev.bind (Of_ev (0 - a) (by omega) (by omega)) ?_))))
  rw [show 0 - a = -a by omega]
  exact Ev.bind (same_self rfl (num_maxLen _ (by omega))) (Ev.pos rfl haw)
namespace Pure
theorem NumSmall (x0 : Int) (x1 : Int) (w0 : (InR .i64) x0) (w1 : (InR .i64) x1) : ∃ N, beehivelaw1_NumSmall N x0 x1 = some true := by
  refine Ev.ex (f := fun N => beehivelaw1_NumSmall N x0 x1) ?_
  have t := big_top
  have w := inI w0
  obtain ⟨ha0, ha1⟩ := qtr_bound x0
  obtain ⟨hb0, hb1⟩ := qtr_bound x1
  refine Ev.bind (Of_ev x0 w.1 w.2) (Ev.bind (small_ev x0 (by omega)) ?_)
  have b0 : Ev (fun N => beehivelaw1_NumSmall_B0 N x0 x1 (smallV x0)) (smallV x0).2 := by
    refine Ev.step ?_ (fun N => by rw [beehivelaw1_NumSmall_B0])
    unfold smallV
    by_cases h : x0 ≥ -1152921504606846976
    · refine Ev.pos h ?_
      by_cases h2 : x0 ≤ 1152921504606846975
      · have hc : -1152921504606846976 ≤ x0 ∧ x0 ≤ 1152921504606846975 := ⟨h, h2⟩
        rw [if_pos hc, decide_eq_true h2]; exact Ev.now _
      · have hc : ¬ (-1152921504606846976 ≤ x0 ∧ x0 ≤ 1152921504606846975) := by omega
        rw [if_neg hc, decide_eq_false h2]; exact Ev.now _
    · have hc : ¬ (-1152921504606846976 ≤ x0 ∧ x0 ≤ 1152921504606846975) := by omega
      rw [if_neg hc]
      exact Ev.neg h (Ev.now _)
  have b1 : Ev (fun N => beehivelaw1_NumSmall_B1 N x0 x1 (smallV x0) (smallV x0).2) (.inl ()) := by
    refine Ev.step ?_ (fun N => by rw [beehivelaw1_NumSmall_B1])
    refine Ev.bind (a := false) ?_ (Ev.neg (by simp) (Ev.now _))
    refine Ev.step ?_ (fun N => by rw [beehivelaw1_NumSmall_B2])
    refine Ev.neg (by simp) ?_
    unfold smallV
    by_cases h : -1152921504606846976 ≤ x0 ∧ x0 ≤ 1152921504606846975
    · rw [if_pos h]
      exact Ev.pos rfl (Ev.neg (by simp) (Ev.now _))
    · rw [if_neg h]
      exact Ev.neg (by simp) (Ev.now _)
  refine Ev.bind b0 (Ev.bind b1 ?_)
  show Ev (fun N => (num_Of N (qtr x0)).bind fun r13 => (num_Of N (qtr x1)).bind fun r14 => (num_Add N r13 r14).bind fun r15 => (num_Sub N r13 r14).bind fun r18 => (num_Mul N r13 r14).bind fun r21 => (num_Cmp N r13 r14).bind fun r24 => (beehivelaw1_NumSmall_B3 N x0 x1 r15 r18 r21 r24).bind fun r42 => some r42) true
  generalize ha : qtr x0 = a at *
  generalize hb : qtr x1 = b at *
  have hm : ((a * b).natAbs : Int) ≤ 288230376151711744 := by
    rw [Int.natAbs_mul, Int.natCast_mul]
    have h1 : (a.natAbs : Int) * (b.natAbs : Int) ≤ (536870912 : Int) * (536870912 : Int) := Int.mul_le_mul (by omega) (by omega) (by omega) (by omega)
    omega
  refine Ev.bind (Of_ev a (by omega) (by omega)) (Ev.bind (Of_ev b (by omega) (by omega)) (Ev.bind (add_ok a b (by omega) (by omega)) (Ev.bind (sub_ok a b (by omega) (by omega)) (Ev.bind (mul_ok a b (by omega) (by omega)) (Ev.bind (cmp_ev a b (by omega) (by omega)) (Ev.bind (a := true) (small_b3 x0 x1 a b ha hb ha0 ha1 hb0 hb1 hm) (Ev.now _)))))))
end Pure
end Go.Proofs.Ythoamfpjoinkpaa.Sh
