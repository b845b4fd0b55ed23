import Derived.Test.YthoamfpjoinkpaaPureNumD
set_option linter.unusedVariables false
namespace Go.Proofs.Ythoamfpjoinkpaa.Sh
open Go Lift Go.Proofs
theorem ring_b2 (p0 : Tapi_Num) (s u m t x : Int) (r21 r22 r23 r25 r26 r27 r29 r30 r31 : Tapi_Num × Bool) (hs : (s.natAbs : Int) < TOP) (hu : (u.natAbs : Int) < TOP) (hm : (m.natAbs : Int) < TOP) (ht : (t.natAbs : Int) < TOP) (hx : (x.natAbs : Int) < TOP)
    (h0 : p0 = numN x) (h21 : r21 = (numN s, true)) (h22 : r22.1 = numN s) (h23 : r23.1 = numN u) (h25 : r25.1 = numN u) (h26 : r26 = (numN m, true)) (h29 : r29 = (numN m, true)) (h30 : r30.1 = numN x) (h27 : r27.1 = numN t) (h31 : r31.1 = numN t) :
    Ev (fun N => beehivelaw1_NumRing_B2 N p0 r21 r22 r23 r25 r26 r27 r29 r30 r31) true := by
  have haw : Ev (fun N => (beehivelaw1_awake N).bind fun r3 => some r3) true := Ev.bind awake_ev (Ev.now _)
  refine Ev.step ?_ (fun N => by rw [beehivelaw1_NumRing_B2, h22, h23, h25, h30, h27, h31, h0])
  subst h21 h26 h29
  refine Ev.pos rfl (Ev.pos rfl (Ev.pos rfl (Ev.bind (same_self rfl (num_maxLen s hs)) (Ev.pos rfl (Ev.bind (same_self rfl (num_maxLen u hu)) (Ev.pos rfl ?_))))))
  refine Ev.bind (same_self rfl (num_maxLen m hm)) (Ev.pos rfl (Ev.bind (same_self rfl (num_maxLen x hx)) (Ev.pos rfl (Ev.bind (same_self rfl (num_maxLen t ht)) (Ev.pos rfl (Ev.bind (may_ev m hm) (Ev.pos rfl haw)))))))
theorem two_limbs (x : Int) (h : (numN x).fMag.length ≤ 2) : (x.natAbs : Int) < 18446744073709551616 := by
  have two := toL_len (x.natAbs : Int) 2 (by omega)
  rw [Int.toNat_natCast, show (4294967296 : Int) ^ 2 = 18446744073709551616 from by decide] at two
  exact two.1 h
theorem mul_bound (x y : Int) (hx : (x.natAbs : Int) < 18446744073709551616) (hy : (y.natAbs : Int) < 36893488147419103232) : ((x * y).natAbs : Int) < 680564733841876926926749214863536422912 := by
  rw [Int.natAbs_mul, Int.natCast_mul]
  have h1 : (x.natAbs : Int) * (y.natAbs : Int) ≤ (18446744073709551615 : Int) * (36893488147419103231 : Int) := Int.mul_le_mul (by omega) (by omega) (by omega) (by omega)
  have h2 : (18446744073709551615 : Int) * (36893488147419103231 : Int) < 680564733841876926926749214863536422912 := by decide
  omega
theorem big_top : (680564733841876926926749214863536422912 : Int) * 2 < TOP := by decide
theorem add_ok (x y : Int) (hx : (x.natAbs : Int) < 680564733841876926926749214863536422912) (hy : (y.natAbs : Int) < 680564733841876926926749214863536422912) : Ev (fun N => num_Add N (numN x) (numN y)) (numN (x + y), true) := by
  have t := big_top
  have := add_ev x y (by omega) (by omega)
  rwa [res_ok (by omega)] at this
theorem sub_ok (x y : Int) (hx : (x.natAbs : Int) < 680564733841876926926749214863536422912) (hy : (y.natAbs : Int) < 680564733841876926926749214863536422912) : Ev (fun N => num_Sub N (numN x) (numN y)) (numN (x - y), true) := by
  have t := big_top
  have := sub_ev x y (by omega) (by omega)
  rwa [res_ok (by omega)] at this
theorem mul_ok (x y : Int) (hx : (x.natAbs : Int) < 18446744073709551616) (hy : (y.natAbs : Int) < 36893488147419103232) : Ev (fun N => num_Mul N (numN x) (numN y)) (numN (x * y), true) := by
  have t := big_top
  have b := mul_bound x y hx hy
  have := mul_ev x y (by omega) (by omega)
  rwa [res_ok (by omega)] at this
namespace Pure
theorem NumRing (x0 : Tapi_Num) (x1 : Tapi_Num) (x2 : Tapi_Num) (w0 : wTapi_Num x0) (w1 : wTapi_Num x1) (w2 : wTapi_Num x2) : ∃ N, beehivelaw1_NumRing N x0 x1 x2 = some true := by
  refine Ev.ex (f := fun N => beehivelaw1_NumRing N x0 x1 x2) ?_
  have haw : Ev (fun N => (beehivelaw1_awake N).bind fun r3 => some r3) true := Ev.bind awake_ev (Ev.now _)
  have out : Ev (fun N => beehivelaw1_NumRing_B1 N x0 x1 x2) true → Ev (fun N => beehivelaw1_NumRing N x0 x1 x2) true := fun h => by
    refine Ev.bind (a := .inr true) ?_ ?_
    · refine Ev.step ?_ (fun N => by rw [beehivelaw1_NumRing_B0])
      exact Ev.bind h (Ev.pos rfl (Ev.bind awake_ev (Ev.now _)))
    · exact Ev.now _
  have b1 : Ev (fun N => beehivelaw1_NumRing_B1 N x0 x1 x2) true ∨ (∃ x y z : Int, x0 = numN x ∧ x1 = numN y ∧ x2 = numN z ∧ (x.natAbs : Int) < 18446744073709551616 ∧ (y.natAbs : Int) < 18446744073709551616 ∧ (z.natAbs : Int) < 18446744073709551616 ∧ Ev (fun N => beehivelaw1_NumRing_B1 N x0 x1 x2) false) := by
    rcases great_or x0 with ⟨l0, g0⟩ | g0
    case inr => exact .inl (by refine Ev.step ?_ (fun N => by rw [beehivelaw1_NumRing_B1]); exact Ev.bind g0 (Ev.pos rfl (Ev.now _)))
    rcases great_or x1 with ⟨l1, g1⟩ | g1
    case inr => exact .inl (by refine Ev.step ?_ (fun N => by rw [beehivelaw1_NumRing_B1]); exact Ev.bind g0 (Ev.neg (by simp) (Ev.bind g1 (Ev.pos rfl (Ev.now _)))))
    rcases great_or x2 with ⟨l2, g2⟩ | g2
    case inr => exact .inl (by refine Ev.step ?_ (fun N => by rw [beehivelaw1_NumRing_B1]); exact Ev.bind g0 (Ev.neg (by simp) (Ev.bind g1 (Ev.neg (by simp) (Ev.bind g2 (Ev.pos rfl (Ev.now _)))))))
    rcases may_or x0 (limbs_of w0.Mag) with ⟨x, hx, rfl⟩ | m0
    case inr => exact .inl (by refine Ev.step ?_ (fun N => by rw [beehivelaw1_NumRing_B1]); exact Ev.bind g0 (Ev.neg (by simp) (Ev.bind g1 (Ev.neg (by simp) (Ev.bind g2 (Ev.neg (by simp) (Ev.bind m0 (Ev.pos (by simp) (Ev.now _)))))))))
    have m0 := may_ev x hx
    rcases may_or x1 (limbs_of w1.Mag) with ⟨y, hy, rfl⟩ | m1
    case inr => exact .inl (by refine Ev.step ?_ (fun N => by rw [beehivelaw1_NumRing_B1]); exact Ev.bind g0 (Ev.neg (by simp) (Ev.bind g1 (Ev.neg (by simp) (Ev.bind g2 (Ev.neg (by simp) (Ev.bind m0 (Ev.neg (by simp) (Ev.bind m1 (Ev.pos (by simp) (Ev.now _)))))))))))
    have m1 := may_ev y hy
    rcases may_or x2 (limbs_of w2.Mag) with ⟨z, hz, rfl⟩ | m2
    case inr => exact .inl (by refine Ev.step ?_ (fun N => by rw [beehivelaw1_NumRing_B1]); exact Ev.bind g0 (Ev.neg (by simp) (Ev.bind g1 (Ev.neg (by simp) (Ev.bind g2 (Ev.neg (by simp) (Ev.bind m0 (Ev.neg (by simp) (Ev.bind m1 (Ev.neg (by simp) (Ev.bind m2 (Ev.pos (by simp) (Ev.now _)))))))))))))
    have m2 := may_ev z hz
    have pre : ∀ {g : Nat → Option Bool} {v : Bool}, Ev g v → Ev (fun N => (beehivelaw0_GreatNum N (numN x)).bind fun r1 => if r1 = true then some true else (beehivelaw0_GreatNum N (numN y)).bind fun r3 => if r3 = true then some true else (beehivelaw0_GreatNum N (numN z)).bind fun r5 => if r5 = true then some true else (num_May N (numN x)).bind fun r7 => if ¬ (r7 = true) then some true else (num_May N (numN y)).bind fun r9 => if ¬ (r9 = true) then some true else (num_May N (numN z)).bind fun r11 => if ¬ (r11 = true) then some true else g N) v := fun h =>
      Ev.bind g0 (Ev.neg (by simp) (Ev.bind g1 (Ev.neg (by simp) (Ev.bind g2 (Ev.neg (by simp) (Ev.bind m0 (Ev.neg (by simp) (Ev.bind m1 (Ev.neg (by simp) (Ev.bind m2 (Ev.neg (by simp) h)))))))))))
    by_cases c0 : (numN x).fMag.length ≤ 2
    case neg => exact .inl (by refine Ev.step ?_ (fun N => by rw [beehivelaw1_NumRing_B1]); exact pre (Ev.pos (by omega) (Ev.now _)))
    by_cases c1 : (numN y).fMag.length ≤ 2
    case neg => exact .inl (by refine Ev.step ?_ (fun N => by rw [beehivelaw1_NumRing_B1]); exact pre (Ev.neg (by omega) (Ev.pos (by omega) (Ev.now _))))
    by_cases c2 : (numN z).fMag.length ≤ 2
    case neg =>
      refine .inl ?_
      refine Ev.step ?_ (fun N => by rw [beehivelaw1_NumRing_B1, decide_eq_true (show (((numN z).fMag.length : Nat) : Int) > 2 by omega)])
      exact pre (Ev.neg (by omega) (Ev.neg (by omega) (Ev.now _)))
    refine .inr ⟨x, y, z, rfl, rfl, rfl, two_limbs x c0, two_limbs y c1, two_limbs z c2, ?_⟩
    refine Ev.step ?_ (fun N => by rw [beehivelaw1_NumRing_B1, decide_eq_false (show ¬ (((numN z).fMag.length : Nat) : Int) > 2 by omega)])
    exact pre (Ev.neg (by omega) (Ev.neg (by omega) (Ev.now _)))
  rcases b1 with b1 | ⟨x, y, z, rfl, rfl, rfl, hx, hy, hz, b1⟩
  · exact out b1
  · have b0 : Ev (fun N => beehivelaw1_NumRing_B0 N (numN x) (numN y) (numN z)) (.inl ()) := by
      refine Ev.step ?_ (fun N => by rw [beehivelaw1_NumRing_B0])
      exact Ev.bind b1 (Ev.neg (by simp) (Ev.now _))
    have t := big_top
    have bxy := mul_bound x y hx (by omega)
    have bxz := mul_bound x z hx (by omega)
    have bm := mul_bound x (y + z) hx (by omega)
    refine Ev.bind b0 (Ev.bind (add_ok x y (by omega) (by omega)) (Ev.bind (add_ok y x (by omega) (by omega)) (Ev.bind (add_ok (x + y) z (by omega) (by omega)) (Ev.bind (add_ok y z (by omega) (by omega)) (Ev.bind (add_ok x (y + z) (by omega) (by omega)) ?_)))))
    refine Ev.bind (mul_ok x (y + z) hx (by omega)) (Ev.bind (mul_ok x y hx (by omega)) (Ev.bind (mul_ok x z hx (by omega)) (Ev.bind (add_ok (x * y) (x * z) bxy bxz) (Ev.bind (sub_ok (x + y) y (by omega) (by omega)) (Ev.bind (mul_ok y x hy (by omega)) (Ev.bind (a := true) ?_ (Ev.now _)))))))
    exact ring_b2 (numN x) (x + y) (x + y + z) (x * (y + z)) (x * y) x _ _ _ _ _ _ _ _ _ (by omega) (by omega) (by omega) (by omega) (by omega) rfl rfl (by rw [Int.add_comm]) rfl (by rw [Int.add_assoc]) rfl (by rw [Int.mul_add]) (by rw [Int.add_sub_cancel]) rfl (by rw [Int.mul_comm])
end Pure
end Go.Proofs.Ythoamfpjoinkpaa.Sh
