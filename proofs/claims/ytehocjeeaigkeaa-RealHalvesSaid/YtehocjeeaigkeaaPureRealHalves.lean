import Derived.Test.YtehocjeeaigkeaaPureRealMixed
set_option linter.unusedVariables false
set_option linter.unusedSimpArgs false
namespace Go.Proofs.Ytehocjeeaigkeaa.Sh
open Go Lift Go.Proofs
/-- A float that is a whole number, as an integer. -/
theorem ftoi_whole {R X : Nat} (hR : R < 9218868437227405312) (hv : VV R = X * UU) (hX : X < 9223372036854775808) : ftoi R = some (X : Int) := by
  have hr : rg R = R := by unfold rg; omega
  have hs : sg R = false := by have := sg_wd false (r := R) (by omega); rwa [wd_false] at this
  have hd : FloatKind.f64.decode R = .number false (mg R) (-1074 + (ex R : Int)) := by
    have := read_num (x := R) (by rw [hr]; exact hR)
    rw [hr, hs] at this
    exact this
  have hc := (cut_trunc R).1
  rw [hr, hs, hv, Nat.mul_div_cancel _ UU_pos] at hc
  have e : (FloatKind.f64.decode R).toInt .zero = some (X : Int) := by
    rw [hd]
    show some (Ieee.signed false (Ieee.Toward.zero.cut false _ _) 0) = _
    rw [hc]
    unfold Ieee.signed
    simp
  unfold ftoi
  rw [e]
  have h1 : IntKind.i64.min ≤ (X : Int) ∧ (X : Int) ≤ IntKind.i64.max := by
    have a : IntKind.i64.min = -9223372036854775808 := by decide
    have b : IntKind.i64.max = 9223372036854775807 := by decide
    rw [a, b]; omega
  simp only [h1, and_self, if_true]
/-- Rounding of 54 bits and more. -/
structure Half (n R X L H : Nat) : Prop where
  r : nearR n 0 = R
  r0 : 1 ≤ R
  rlt : R + 1 < 9218868437227405312
  x : VV R = X * UU
  l : VV (R - 1) = L * UU
  h : VV (R + 1) = H * UU
  top : H < 9223372036854775808
  ln : L ≤ n
  nh : n ≤ H
  dl : ((n : Int) - X).natAbs ≤ n - L
  dh : ((n : Int) - X).natAbs ≤ H - n
  xh : X ≤ H
  lx : L ≤ X
  half : 2 * ((n : Int) - X).natAbs = H - X → R % 2 = 0
theorem half_num {q ρ g k n X L H : Nat} (hg : 1 ≤ g) (hρ : ρ < 2 * g) (hn : n = q * (2 * g) + ρ) (hq1 : 4503599627370496 ≤ q) (hq2 : q < 9007199254740992)
    (hk : k = q + (if 2 * g < 2 * ρ ∨ (2 * g = 2 * ρ ∧ q % 2 = 1) then 1 else 0)) (hX : X = k * (2 * g))
    (hL : L = if k = 4503599627370496 then 9007199254740991 * g else (k - 1) * (2 * g))
    (hH : H = if k = 9007199254740992 then 4503599627370497 * (4 * g) else (k + 1) * (2 * g)) :
    L ≤ n ∧ n ≤ H ∧ ((n : Int) - X).natAbs ≤ n - L ∧ ((n : Int) - X).natAbs ≤ H - n ∧ X ≤ H ∧ L ≤ X ∧ (2 * ((n : Int) - X).natAbs = H - X → k % 2 = 0) := by
  by_cases c : 2 * g < 2 * ρ ∨ (2 * g = 2 * ρ ∧ q % 2 = 1)
  · rw [if_pos c] at hk
    subst hk
    have eX : X = q * (2 * g) + 2 * g := by rw [hX, Nat.add_mul, Nat.one_mul]
    have eL : L = q * (2 * g) := by rw [hL, if_neg (by omega), Nat.add_sub_cancel]
    have eH : H = X + 2 * g ∨ H = X + 4 * g := by
      by_cases d : q + 1 = 9007199254740992
      · right; rw [hH, if_pos d, eX, show q = 9007199254740991 by omega]; omega
      · left; rw [hH, if_neg d, eX, Nat.add_mul, Nat.add_mul]; omega
    generalize q * (2 * g) = A at *
    rcases eH with eH | eH <;> refine ⟨by omega, by omega, by omega, by omega, by omega, by omega, fun h => by omega⟩
  · rw [if_neg c, Nat.add_zero] at hk
    subst hk
    have eH : H = k * (2 * g) + 2 * g := by rw [hH, if_neg (by omega), Nat.add_mul, Nat.one_mul]
    by_cases d : k = 4503599627370496
    · have eL : L = 9007199254740991 * g := by rw [hL, if_pos d]
      have eX : X = 9007199254740992 * g := by rw [hX, d]; omega
      have en : n = 9007199254740992 * g + ρ := by rw [hn, d]; omega
      have eH' : H = 9007199254740992 * g + 2 * g := by rw [eH, d]; omega
      refine ⟨by omega, by omega, by omega, by omega, by omega, by omega, fun h => by omega⟩
    · have eL : L + 2 * g = k * (2 * g) := by
        rw [hL, if_neg d]
        have := Nat.add_mul (k - 1) 1 (2 * g)
        rw [Nat.one_mul, Nat.sub_add_cancel (by omega)] at this
        exact this.symm
      generalize k * (2 * g) = A at *
      refine ⟨by omega, by omega, by omega, by omega, by omega, by omega, fun h => by omega⟩
theorem half_at {n : Nat} (h1 : 9007199254740992 ≤ n) (h2 : n < 1152921504606846976) : ∃ R X L H, Half n R X L H := by
  have hn0 : n ≠ 0 := by omega
  have hl1 : 53 ≤ n.log2 := (Nat.le_log2 hn0).2 (by omega)
  have hl2 : n.log2 < 60 := (Nat.log2_lt hn0).2 (by omega)
  obtain ⟨d, hd⟩ : ∃ d, n.log2 = 53 + d := ⟨n.log2 - 53, by omega⟩
  have hd6 : d ≤ 6 := by omega
  have hg2 : (2 : Nat) ^ (d + 1) = 2 * 2 ^ d := by rw [Nat.pow_succ, Nat.mul_comm]
  have hgp := Nat.two_pow_pos d
  have hglt : 2 ^ d ≤ 64 := Nat.pow_le_pow_right (show 0 < 2 by decide) hd6
  have hlo := log_lo hn0
  have hhi := log_hi n
  rw [hd] at hlo hhi
  have hq1 : 4503599627370496 ≤ n / 2 ^ (d + 1) := by
    rw [show 53 + d = 52 + (d + 1) by omega, Nat.pow_add] at hlo
    have := Nat.div_le_div_right (c := 2 ^ (d + 1)) hlo
    rwa [Nat.mul_div_cancel _ (Nat.two_pow_pos _)] at this
  have hq2 : n / 2 ^ (d + 1) < 9007199254740992 := by
    refine Nat.div_lt_of_lt_mul ?_
    rw [show 53 + d + 1 = (d + 1) + 53 by omega, Nat.pow_add] at hhi
    exact hhi
  have hc := cutE_eq (n := n) (d := d + 1) (by omega)
  have hdm := Nat.div_add_mod n (2 ^ (d + 1))
  have hml := Nat.mod_lt n (Nat.two_pow_pos (d + 1))
  rw [hg2] at hdm hml hq1 hq2 hc
  have hR := nearR_big (m := n) (by omega)
  rw [hd, show 53 + d - 52 = d + 1 by omega] at hR
  generalize hk : cutE n (d + 1) = k at *
  generalize hqq : n / (2 * 2 ^ d) = q at *
  generalize hρ : n % (2 * 2 ^ d) = ρ at *
  generalize hgg : 2 ^ d = g at *
  have hkb : 4503599627370496 ≤ k ∧ k ≤ 9007199254740992 := by rw [hc]; split <;> omega
  have hR' : nearR n 0 = (d + 1 + 1074) * 4503599627370496 + k := by rw [hR, Nat.min_eq_left (by omega)]
  have eU : ∀ j : Nat, j ≤ 10 → 2 ^ (j + 1074) = 2 ^ j * UU := fun j _ => UU_up j (j + 1074) rfl
  have vx : VV ((d + 1 + 1074) * 4503599627370496 + k) = k * (2 * g) * UU := by
    rw [VV_at hkb.2 (.inr hkb.1), eU (d + 1) (by omega), Nat.pow_succ, hgg, Nat.mul_comm g 2, ← Nat.mul_assoc]
  obtain ⟨n1, n2, n3, n4, n5, n6, n7⟩ := half_num (q := q) (ρ := ρ) (g := g) (k := k) (n := n) (X := k * (2 * g)) hgp hml (by rw [Nat.mul_comm]; exact hdm.symm) hq1 hq2 hc rfl rfl rfl
  refine ⟨(d + 1 + 1074) * 4503599627370496 + k, k * (2 * g), _, _, hR', by omega, by omega, vx, ?_, ?_, ?_, n1, n2, n3, n4, n5, n6, fun h => ?_⟩
  · by_cases c : k = 4503599627370496
    · rw [if_pos c, c, show (d + 1 + 1074) * 4503599627370496 + 4503599627370496 - 1 = (d + 1074) * 4503599627370496 + 9007199254740991 by omega, VV_at (by decide) (.inr (by decide)), eU d (by omega), hgg, Nat.mul_assoc]
    · rw [if_neg c, show (d + 1 + 1074) * 4503599627370496 + k - 1 = (d + 1 + 1074) * 4503599627370496 + (k - 1) by omega, VV_at (by omega) (.inr (by omega)), eU (d + 1) (by omega), Nat.pow_succ, hgg, Nat.mul_comm g 2, ← Nat.mul_assoc]
  · by_cases c : k = 9007199254740992
    · rw [if_pos c, c, show (d + 1 + 1074) * 4503599627370496 + 9007199254740992 + 1 = (d + 2 + 1074) * 4503599627370496 + 4503599627370497 by omega, VV_at (by decide) (.inr (by decide)), eU (d + 2) (by omega), Nat.pow_add, hgg, Nat.mul_comm g (2 ^ 2), show (2 : Nat) ^ 2 = 4 by decide, ← Nat.mul_assoc]
    · rw [if_neg c, show (d + 1 + 1074) * 4503599627370496 + k + 1 = (d + 1 + 1074) * 4503599627370496 + (k + 1) by omega, VV_at (by omega) (.inr (by omega)), eU (d + 1) (by omega), Nat.pow_succ, hgg, Nat.mul_comm g 2, ← Nat.mul_assoc]
  · have hkg : k * (2 * g) ≤ 9007199254740992 * 128 := Nat.mul_le_mul hkb.2 (by omega)
    have hk1 : (k + 1) * (2 * g) ≤ 9007199254740993 * 128 := Nat.mul_le_mul (by omega) (by omega)
    split <;> omega
  · have := n7 h
    omega
theorem near_lt (n : Nat) : nearR n 0 < 9223372036854775808 := by have := nearR_le n 0; omega
theorem posInf_ev : Ev (fun N => math_Inf N (1 : Int)) 9218868437227405312 := Ev.from 3 (fun N => by kernel_rfl)
theorem next_ev {R y : Nat} (h0 : 1 ≤ R) (h1 : R < 9218868437227405312) (hy : nanW y = false) (hne : sV R ≠ sV y) :
    Ev (fun N => math_Nextafter N R y) (if sV R < sV y then R + 1 else R - 1) := by
  have nR := nan_rung (R := R) (by omega)
  have sR := sV_rung (R := R) (by omega)
  have hp : (0 : Int) < ((VV R : Nat) : Int) := Int.ofNat_lt.2 (VV_pos.2 (by omega))
  have hB1 : Ev (fun N => math_Nextafter_B1 N R y) false := by
    refine Ev.step ?_ (fun N => by rw [math_Nextafter_B1])
    refine Ev.bind (a := false) ?_ (Ev.neg (by simp) (Ev.bind (a := false) ?_ (Ev.now _)))
    · rw [← nR, ← Lift.fne_self]; exact Ev.now _
    · rw [← hy, ← Lift.fne_self]; exact Ev.now _
  have hB0 : Ev (fun N => math_Nextafter_B0 N R y) (if sV R < sV y then R + 1 else R - 1) := by
    refine Ev.step ?_ (fun N => by rw [math_Nextafter_B0])
    have f0 : ¬ Lift.feq R 0 = true := by rw [feq_eq nR nan_zero, decide_eq_true_eq, sR, sV_zero]; omega
    have f1 : ¬ Lift.feq R y = true := by rw [feq_eq nR hy, decide_eq_true_eq]; exact hne
    have f2 : Lift.fgt R 0 = true := by rw [fgt_eq nR nan_zero, sR, sV_zero]; exact decide_eq_true (by omega)
    have e1 : Int.toNat (IntKind.wrap .u64 (((R : Nat) : Int) + (1 : Int))) = R + 1 := by rw [wrapU _ (by omega) (by omega)]; omega
    have e2 : Int.toNat (IntKind.wrap .u64 (((R : Nat) : Int) - (1 : Int))) = R - 1 := by rw [wrapU _ (by omega) (by omega)]; omega
    refine Ev.bind hB1 (Ev.neg (by simp) (Ev.neg f1 (Ev.neg f0 ?_)))
    by_cases c : sV R < sV y
    · rw [if_pos c, e1]
      exact Ev.pos (by rw [f2, fgt_eq hy nR]; exact decide_eq_true c) (Ev.now _)
    · rw [if_neg c, e2]
      exact Ev.neg (by rw [f2, fgt_eq hy nR, decide_eq_false c]; simp) (Ev.now _)
  exact Ev.bind hB0 (Ev.now _)
theorem half_loop : ∀ (f : Nat) (v : Nat), v ≤ f → 9007199254740992 ≤ v → v < 1152921504606846976 → ∃ r : Nat, Ev (fun N => beehivelaw2_RealHalves_L1 N (v : Int)) (r : Int) ∧ 9007199254740992 ≤ r ∧ r < 1152921504606846976
  | 0, v, hf, h1, h2 => by omega
  | f + 1, v, hf, h1, h2 => by
    by_cases c : 18014398509481984 ≤ v
    · have e : IntKind.wrap .i64 ((IntKind.wrap .i64 ((IntKind.wrap .i64 (Int.tdiv (v : Int) (2 : Int))) - (Int.tmod (IntKind.wrap .i64 (Int.tdiv (v : Int) (2 : Int))) (4 : Int)))) + (2 : Int)) = ((v / 2 - v / 2 % 4 + 2 : Nat) : Int) := by
        have a : IntKind.wrap .i64 (Int.tdiv (v : Int) (2 : Int)) = ((v / 2 : Nat) : Int) := by rw [Int.tdiv_eq_ediv_of_nonneg (Int.natCast_nonneg _), wrapI _ (by omega) (by omega)]; omega
        have b : Int.tmod ((v / 2 : Nat) : Int) 4 = ((v / 2 % 4 : Nat) : Int) := by rw [Int.tmod_eq_emod_of_nonneg (Int.natCast_nonneg _)]; omega
        rw [a, b, wrapI (((v / 2 : Nat) : Int) - ((v / 2 % 4 : Nat) : Int)) (by omega) (by omega), wrapI _ (by omega) (by omega)]
        omega
      obtain ⟨r, hr, h3, h4⟩ := half_loop f (v / 2 - v / 2 % 4 + 2) (by omega) (by omega) (by omega)
      refine ⟨r, ?_, h3, h4⟩
      refine Ev.step ?_ (fun N => by rw [beehivelaw2_RealHalves_L1, e])
      exact Ev.pos (by omega) hr
    · refine ⟨v, ?_, h1, h2⟩
      refine Ev.step ?_ (fun N => by rw [beehivelaw2_RealHalves_L1])
      exact Ev.neg (by omega) (Ev.now _)
namespace Pure
theorem RealHalves (x0 : Int) (x1 : Bool) (w0 : (InR .i64) x0) (w1 : AnyB x1) : ∃ N, beehivelaw2_RealHalves N x0 x1 = some true := by
  refine Ev.ex (f := fun N => beehivelaw2_RealHalves N x0 x1) ?_
  obtain ⟨r1, e1, l0, l1⟩ := low2 x0 576460752303423488 (by decide) (by decide)
  obtain ⟨n, hB0, n1, n2⟩ : ∃ n : Nat, Ev (fun N => beehivelaw2_RealHalves_B0 N x1 r1) (n : Int) ∧ 9007199254740992 ≤ n ∧ n < 1152921504606846976 := by
    have hw : IntKind.wrap .i64 ((9007199254740992 : Int) + r1) = 9007199254740992 + r1 := wrapI _ (by omega) (by omega)
    cases x1 with
    | false =>
      refine ⟨(9007199254740992 + r1).toNat, ?_, by omega, by omega⟩
      refine Ev.step ?_ (fun N => by rw [beehivelaw2_RealHalves_B0, hw])
      rw [show (((9007199254740992 + r1).toNat : Nat) : Int) = 9007199254740992 + r1 by omega]
      exact Ev.neg (by simp) (Ev.now _)
    | true =>
      obtain ⟨v, hv⟩ : ∃ v : Nat, v = ((9007199254740992 + r1).toNat) / 4 * 4 + 2 := ⟨_, rfl⟩
      have e : IntKind.wrap .i64 ((IntKind.wrap .i64 ((IntKind.wrap .i64 (Int.tdiv (9007199254740992 + r1) (4 : Int))) * (4 : Int))) + (2 : Int)) = (v : Int) := by
        have a : IntKind.wrap .i64 (Int.tdiv (9007199254740992 + r1) (4 : Int)) = (9007199254740992 + r1) / 4 := by rw [Int.tdiv_eq_ediv_of_nonneg (by omega), wrapI _ (by omega) (by omega)]
        rw [a, wrapI ((9007199254740992 + r1) / 4 * 4) (by omega) (by omega), wrapI _ (by omega) (by omega)]
        omega
      obtain ⟨r, hr, h3, h4⟩ := half_loop v v (Nat.le_refl _) (by omega) (by omega)
      refine ⟨r, ?_, h3, h4⟩
      refine Ev.step ?_ (fun N => by rw [beehivelaw2_RealHalves_B0, hw, e])
      exact Ev.pos rfl (Ev.bind hr (Ev.now _))
  obtain ⟨R, X, L, H, hh⟩ := half_at n1 n2
  have hLH : L < 9223372036854775808 := by have := hh.top; have := hh.ln; have := hh.nh; omega
  have hX : X < 9223372036854775808 := by have := hh.top; have := hh.xh; omega
  have r0 := hh.r0
  have rlt := hh.rlt
  have htop : ((n : Int).natAbs : Int) < TOP := by unfold TOP; omega
  have hOf : Ev (fun N => real_Of N (numN (n : Int))) ((R : Nat) : Int) := by
    have := rOf_ev (n : Int) htop
    rw [decide_eq_false (by omega), Int.natAbs_natCast, hh.r, wd_false] at this
    exact this
  have hOfn : Ev (fun N => real_Of N (numN (-(n : Int)))) ((wd true R : Nat) : Int) := by
    have := rOf_ev (-(n : Int)) (by rw [Int.natAbs_neg]; exact htop)
    rw [decide_eq_true (by omega), Int.natAbs_neg, Int.natAbs_natCast, hh.r] at this
    exact this
  have sR := sV_rung (R := R) (by omega)
  have hp : (0 : Int) < ((VV R : Nat) : Int) := Int.ofNat_lt.2 (VV_pos.2 (by omega))
  have hlow : Ev (fun N => math_Nextafter N R 0) (R - 1) := by
    have := next_ev (R := R) (y := 0) r0 (by omega) nan_zero (by rw [sR, sV_zero]; omega)
    rwa [if_neg (by rw [sR, sV_zero]; omega)] at this
  have sI : sV 9218868437227405312 = ((VV 9218868437227405312 : Nat) : Int) := sV_rung (by decide)
  have hbig : ((VV R : Nat) : Int) < ((VV 9218868437227405312 : Nat) : Int) := Int.ofNat_lt.2 (VV_lt (by omega))
  have hhigh : Ev (fun N => math_Nextafter N R 9218868437227405312) (R + 1) := by
    have := next_ev (R := R) (y := 9218868437227405312) r0 (by omega) (by decide) (by rw [sR, sI]; omega)
    rwa [if_pos (by rw [sR, sI]; exact hbig)] at this
  have fx := ftoi_whole (R := R) (by omega) hh.x hX
  have fl := ftoi_whole (R := R - 1) (by omega) hh.l hLH
  have fh := ftoi_whole (R := R + 1) (by omega) hh.h hh.top
  have d1 := hh.dl; have d2 := hh.dh; have o1 := hh.ln; have o2 := hh.nh; have o3 := hh.xh; have o4 := hh.lx; have o5 := hh.top
  have hhalf := hh.half
  have hB2 : Ev (fun N => beehivelaw2_RealHalves_B2 N (n : Int) ((R : Nat) : Int) (R + 1) (L : Int) (H : Int) (X : Int)) ((((n : Int) - X).natAbs : Nat) : Int) := by
    refine Ev.step ?_ (fun N => by rw [beehivelaw2_RealHalves_B2])
    have w : IntKind.wrap .i64 ((n : Int) - (X : Int)) = (n : Int) - X := wrapI _ (by omega) (by omega)
    rw [w]
    by_cases c : (n : Int) - X < 0
    · refine Ev.pos c ?_
      have e : IntKind.wrap .i64 (0 - ((n : Int) - X)) = ((((n : Int) - X).natAbs : Nat) : Int) := by rw [wrapI _ (by omega) (by omega)]; omega
      rw [e]; exact Ev.now _
    · refine Ev.neg c ?_
      have e : (n : Int) - X = ((((n : Int) - X).natAbs : Nat) : Int) := by omega
      rw [← e]; exact Ev.now _
  have hback : Ev (fun N => (beehiveref1_Of N (IntKind.wrap .i64 (0 - (n : Int)))).bind fun r23 => (real_Of N r23).bind fun r24 => if r24 = (bor .u64 ((R : Nat) : Int) (9223372036854775808 : Int)) then (beehivelaw2_awake N).bind fun r26 => some r26 else some false) true := by
    have w : IntKind.wrap .i64 (0 - (n : Int)) = -(n : Int) := by rw [wrapI _ (by omega) (by omega)]; omega
    rw [w]
    refine Ev.bind (refOf_ev _ (by omega) (by omega)) (Ev.bind hOfn (Ev.pos ?_ (Ev.bind awake2_ev (Ev.now _))))
    rw [bor_63 _ (by omega) (by omega)]
    unfold wd
    rw [if_pos rfl]
    omega
  have hB3 : Ev (fun N => beehivelaw2_RealHalves_B3 N (n : Int) ((R : Nat) : Int) (R + 1) (L : Int) (H : Int) ((((n : Int) - X).natAbs : Nat) : Int)) true := by
    refine Ev.step ?_ (fun N => by rw [beehivelaw2_RealHalves_B3])
    have w1 : IntKind.wrap .i64 ((n : Int) - (L : Int)) = (n : Int) - L := wrapI _ (by omega) (by omega)
    have w2 : IntKind.wrap .i64 ((H : Int) - (n : Int)) = (H : Int) - n := wrapI _ (by omega) (by omega)
    have w3 : IntKind.wrap .i64 ((2 : Int) * ((((n : Int) - X).natAbs : Nat) : Int)) = 2 * ((((n : Int) - X).natAbs : Nat) : Int) := wrapI _ (by omega) (by omega)
    have w4 : IntKind.wrap .i64 ((H : Int) - (X : Int)) = (H : Int) - X := wrapI _ (by omega) (by omega)
    have hfi : Lift.fint (X : Int) = R := by
      rw [fint_eq, decide_eq_false (by omega), Int.natAbs_natCast, wd_false]
      exact nearR_small hh.x (by omega)
    rw [w1, w2, w3, Int.toNat_natCast]
    refine Ev.bindc fx (Ev.pos ?_ (Ev.pos (by omega) (Ev.pos (by omega) (Ev.bindc fh (Ev.bindc fx ?_)))))
    · have nR := nan_rung (R := R) (by omega)
      rw [hfi, feq_eq nR nR]; exact decide_eq_true rfl
    · rw [w4]
      by_cases c : 2 * ((((n : Int) - X).natAbs : Nat) : Int) ≠ (H : Int) - X
      · exact Ev.pos c hback
      · refine Ev.neg c ?_
        by_cases z : ((((n : Int) - X).natAbs : Nat) : Int) = 0
        · exact Ev.pos z hback
        · refine Ev.neg z (Ev.pos ?_ hback)
          have := hhalf (by omega)
          rw [Int.tmod_eq_emod_of_nonneg (Int.natCast_nonneg _)]
          omega
  have toN : Int.toNat ((R : Nat) : Int) = R := Int.toNat_natCast R
  refine Ev.bind e1 (Ev.bind hB0 (Ev.bind (refOf_ev _ (by omega) (by omega)) (Ev.bind hOf ?_)))
  rw [toN]
  exact Ev.bind hlow (Ev.bind posInf_ev (Ev.bind hhigh (Ev.bindc fl (Ev.bindc fh (Ev.bindc fx (Ev.bind hB2 (Ev.bind hB3 (Ev.now _))))))))
end Pure
end Go.Proofs.Ytehocjeeaigkeaa.Sh
