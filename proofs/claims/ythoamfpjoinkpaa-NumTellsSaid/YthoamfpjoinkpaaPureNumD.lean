import Derived.Test.YthoamfpjoinkpaaPureNumC
set_option linter.unusedVariables false
namespace Go.Proofs.Ythoamfpjoinkpaa.Sh
open Go Lift Go.Proofs

theorem clone32_ev (a : List Int) (hl : a.length ≤ lim) : Ev (fun N => slices_Clone_uint32_uint32_all N a) a := by
  cases a with
  | nil => exact Ev.now _
  | cons x xs => exact Ev.bindc (app_eq (by simpa using hl)) (Ev.now _)
theorem num_zero : numN 0 = ⟨false, []⟩ := by unfold numN; rw [show (0 : Int).natAbs = 0 from rfl, toL_zero]; rfl
theorem num_pos (x : Int) : 0 < (numN x).fMag.length ↔ x ≠ 0 := by
  have b := toL_empty (x.natAbs : Int) (by omega)
  rw [Int.toNat_natCast] at b
  show 0 < (toL x.natAbs).length ↔ _
  rw [b]; omega
theorem neg_ev (x : Int) (h : (x.natAbs : Int) < TOP) : Ev (fun N => num_Neg N (numN x)) (numN (-x)) := by
  have h8 := num_len x h
  have hp := num_pos x
  refine Ev.bind (may_ev x h) (Ev.neg (by simp) ?_)
  have em : (numN (-x)).fMag = (numN x).fMag := by unfold numN; rw [Int.natAbs_neg]
  have ee : numN (-x) = ⟨decide (-x < 0), (numN x).fMag⟩ := by rw [← em]; rfl
  rw [ee]
  by_cases s : x < 0
  · refine Ev.neg (by show ¬ ¬ (decide (x < 0) = true); simp [s]) (Ev.bind (clone32_ev _ (by rw [lim_eq]; omega)) ?_)
    rw [decide_eq_false (by omega)]
    exact Ev.now _
  · refine Ev.pos (by show ¬ (decide (x < 0) = true); simp [s]) (Ev.bind (clone32_ev _ (by rw [lim_eq]; omega)) ?_)
    have e : decide ((((numN x).fMag.length : Nat) : Int) > 0) = decide (-x < 0) := decide_eq_decide.2 (by omega)
    rw [e]
    exact Ev.now _
theorem cmp_ev (x y : Int) (hx : (x.natAbs : Int) < TOP) (hy : (y.natAbs : Int) < TOP) : Ev (fun N => num_Cmp N (numN x) (numN y)) (sgn (x - y)) := by
  have lx := num_len x hx
  have ly := num_len y hy
  have b0 : Ev (fun N => num_Cmp_B0 N (numN x) (numN y)) false := by
    refine Ev.step ?_ (fun N => by rw [num_Cmp_B0])
    exact Ev.bind (may_ev x hx) (Ev.neg (by simp) (Ev.bind (may_ev y hy) (Ev.now _)))
  refine Ev.bind b0 (Ev.neg (by simp) ?_)
  have s1 : (numN x).fNeg = decide (x < 0) := rfl
  have s2 : (numN y).fNeg = decide (y < 0) := rfl
  have c1 := cmpMag_ev _ _ (num_norm x) (num_norm y) (by omega) (by omega)
  have c2 := cmpMag_ev _ _ (num_norm y) (num_norm x) (by omega) (by omega)
  rw [num_val, num_val] at c1 c2
  by_cases sx : x < 0
  · by_cases sy : y < 0
    · refine Ev.neg (by rw [s1, s2]; simp [sx, sy]) (Ev.pos (by rw [s1]; simp [sx]) (Ev.bind c2 ?_))
      rw [show ((y.natAbs : Int) - (x.natAbs : Int)) = x - y by omega]
      exact Ev.now _
    · refine Ev.pos (by rw [s1, s2]; simp [sx, sy]) (Ev.pos (by rw [s1]; simp [sx]) ?_)
      rw [sgn_neg (by omega)]
      exact Ev.now _
  · by_cases sy : y < 0
    · refine Ev.pos (by rw [s1, s2]; simp [sx, sy]) (Ev.neg (by rw [s1]; simp [sx]) ?_)
      rw [sgn_pos (by omega)]
      exact Ev.now _
    · refine Ev.neg (by rw [s1, s2]; simp [sx, sy]) (Ev.neg (by rw [s1]; simp [sx]) (Ev.bind c1 ?_))
      rw [show ((x.natAbs : Int) - (y.natAbs : Int)) = x - y by omega]
      exact Ev.now _
theorem great_ev (x : Tapi_Num) (h : x.fMag.length ≤ 40) : Ev (fun N => beehivelaw0_GreatNum N x) false := by
  show Ev (fun _ => some (decide (((x.fMag.length : Nat) : Int) > 40))) _
  rw [decide_eq_false (by omega)]
  exact Ev.now _
theorem great_or (x : Tapi_Num) : (x.fMag.length ≤ 40 ∧ Ev (fun N => beehivelaw0_GreatNum N x) false) ∨ Ev (fun N => beehivelaw0_GreatNum N x) true := by
  by_cases h : x.fMag.length ≤ 40
  · exact .inl ⟨h, great_ev x h⟩
  · refine .inr ?_
    show Ev (fun _ => some (decide (((x.fMag.length : Nat) : Int) > 40))) _
    rw [decide_eq_true (by omega)]
    exact Ev.now _

/-! ### Small ones -/
theorem bor_two (a b : Int) (ha0 : 0 ≤ a) (ha1 : a < 4294967296) (hb0 : 0 ≤ b) (hb1 : b < 4294967296) : bor .u64 a (b * 4294967296) = a + b * 4294967296 := by
  obtain ⟨m, rfl⟩ := Int.eq_ofNat_of_zero_le ha0
  obtain ⟨n, rfl⟩ := Int.eq_ofNat_of_zero_le hb0
  have hm : m < 4294967296 := by omega
  have hn : n < 4294967296 := by omega
  have key : m ||| n * 4294967296 = m + n * 4294967296 := by
    have := Nat.shiftLeft_add_eq_or_of_lt (show m < 2 ^ 32 by omega) n
    rw [Nat.shiftLeft_eq, show 2 ^ 32 = 4294967296 from rfl] at this
    rw [Nat.or_comm, ← this]
    omega
  unfold bor
  have e1 : (BitVec.ofInt (IntKind.bits .u64) (m : Int)).toNat = m := by
    rw [BitVec.toNat_ofInt]
    show ((m : Int) % ((2 ^ 64 : Nat) : Int)).toNat = m
    omega
  have e2 : (BitVec.ofInt (IntKind.bits .u64) ((n : Int) * 4294967296)).toNat = n * 4294967296 := by
    rw [BitVec.toNat_ofInt]
    show (((n : Int) * 4294967296) % ((2 ^ 64 : Nat) : Int)).toNat = n * 4294967296
    omega
  rw [BitVec.toNat_or, e1, e2, key, wrapU _ (by omega) (by omega)]
  omega
theorem bor_zero (b : Int) (hb0 : 0 ≤ b) (hb1 : b < 4294967296) : bor .u64 0 b = b := by
  obtain ⟨n, rfl⟩ := Int.eq_ofNat_of_zero_le hb0
  unfold bor
  have e1 : (BitVec.ofInt (IntKind.bits .u64) (0 : Int)).toNat = 0 := by decide
  have e2 : (BitVec.ofInt (IntKind.bits .u64) (n : Int)).toNat = n := by
    rw [BitVec.toNat_ofInt]
    show ((n : Int) % ((2 ^ 64 : Nat) : Int)).toNat = n
    omega
  rw [BitVec.toNat_or, e1, e2, Nat.zero_or, wrapU _ (by omega) (by omega)]
theorem shl_0 (b : Int) (hb0 : 0 ≤ b) (hb1 : b < 4294967296) : shl .u64 (IntKind.u64.wrap b) (IntKind.i64.wrap ((32 : Int) * 0)) = some b := by
  rw [show IntKind.i64.wrap ((32 : Int) * 0) = 0 from by decide, wrapU b hb0 (by omega)]
  unfold shl
  rw [if_neg (by decide), show (2 : Int) ^ (min (Int.toNat 0) (IntKind.bits .u64)) = 1 from by decide, Int.mul_one, wrapU b hb0 (by omega)]
theorem shl_1 (b : Int) (hb0 : 0 ≤ b) (hb1 : b < 4294967296) : shl .u64 (IntKind.u64.wrap b) (IntKind.i64.wrap ((32 : Int) * 1)) = some (b * 4294967296) := by
  rw [show IntKind.i64.wrap ((32 : Int) * 1) = 32 from by decide, wrapU b hb0 (by omega)]
  unfold shl
  rw [if_neg (by decide), show (2 : Int) ^ (min (Int.toNat 32) (IntKind.bits .u64)) = 4294967296 from by decide, wrapU _ (by omega) (by omega)]
theorem small_loop (n : Tapi_Num) (h : n.fMag.length ≤ 2) (hb : limbs n.fMag) : Ev (fun N => num_Small_L1 N n 0 0) (val n.fMag) := by
  obtain ⟨s, l⟩ := n
  have i1 : IntKind.i64.wrap ((0 : Int) + 1) = 1 := by decide
  have i2 : IntKind.i64.wrap ((1 : Int) + 1) = 2 := by decide
  match l, h, hb with
  | [], _, _ =>
    refine Ev.step ?_ (fun N => by rw [num_Small_L1])
    exact Ev.neg (by simp) (Ev.now _)
  | [a], _, hb =>
    have ra := (limbs_cons hb).1
    refine Ev.step ?_ (fun N => by rw [num_Small_L1, i1])
    refine Ev.pos (by simp) (Ev.bindc (a := a) rfl (Ev.bindc (shl_0 a ra.1 ra.2) ?_))
    rw [bor_zero a ra.1 ra.2]
    refine Ev.step ?_ (fun N => by rw [num_Small_L1])
    refine Ev.neg (by simp) ?_
    rw [show val [a] = a from val_one a]
    exact Ev.now _
  | [a, b], _, hb =>
    have ra := (limbs_cons hb).1
    have rb := (limbs_cons (limbs_cons hb).2).1
    refine Ev.step ?_ (fun N => by rw [num_Small_L1, i1])
    refine Ev.pos (by simp) (Ev.bindc (a := a) rfl (Ev.bindc (shl_0 a ra.1 ra.2) ?_))
    rw [bor_zero a ra.1 ra.2]
    refine Ev.step ?_ (fun N => by rw [num_Small_L1, i2])
    refine Ev.pos (by simp) (Ev.bindc (a := b) rfl (Ev.bindc (shl_1 b rb.1 rb.2) ?_))
    rw [bor_two a b ra.1 ra.2 rb.1 rb.2]
    refine Ev.step ?_ (fun N => by rw [num_Small_L1])
    refine Ev.neg (by simp) ?_
    rw [show val [a, b] = a + b * 4294967296 from by simp only [val]; omega]
    exact Ev.now _
def smallV (x : Int) : Int × Bool := if -1152921504606846976 ≤ x ∧ x ≤ 1152921504606846975 then (x, true) else (0, false)
theorem small_ev (x : Int) (h : (x.natAbs : Int) < TOP) : Ev (fun N => num_Small N (numN x)) (smallV x) := by
  have h8 := num_len x h
  have hv := num_val x
  have two := toL_len (x.natAbs : Int) 2 (by omega)
  rw [Int.toNat_natCast, show (4294967296 : Int) ^ 2 = 18446744073709551616 from by decide] at two
  unfold smallV
  by_cases hl : (numN x).fMag.length ≤ 2
  · have hlt := two.1 hl
    have b0 : Ev (fun N => num_Small_B0 N (numN x)) (.inl ()) := by
      refine Ev.step ?_ (fun N => by rw [num_Small_B0])
      exact Ev.bind (may_ev x h) (Ev.neg (by simp) (Ev.neg (by omega) (Ev.now _)))
    have hlo := small_loop (numN x) hl (num_limbs x)
    rw [hv] at hlo
    have b2 : Ev (fun N => num_Small_B2 N (numN x) (x.natAbs : Int)) (decide (0 ≤ x ∧ x ≤ 1152921504606846975)) := by
      refine Ev.step ?_ (fun N => by rw [num_Small_B2])
      by_cases s : x < 0
      · have hc : ¬ (0 ≤ x ∧ x ≤ 1152921504606846975) := by omega
        rw [decide_eq_false hc]
        exact Ev.neg (by show ¬ ¬ (decide (x < 0) = true); simp [s]) (Ev.now _)
      · refine Ev.pos (by show ¬ (decide (x < 0) = true); simp [s]) ?_
        rw [show decide ((x.natAbs : Int) ≤ 1152921504606846975) = decide (0 ≤ x ∧ x ≤ 1152921504606846975) from decide_eq_decide.2 (by omega)]
        exact Ev.now _
    refine Ev.bind b0 (Ev.bind hlo (Ev.bind b2 ?_))
    by_cases c1 : 0 ≤ x ∧ x ≤ 1152921504606846975
    · have hc : -1152921504606846976 ≤ x ∧ x ≤ 1152921504606846975 := by omega
      rw [decide_eq_true c1, if_pos hc]
      refine Ev.pos rfl ?_
      rw [wrapI (x.natAbs : Int) (by omega) (by omega), show ((x.natAbs : Nat) : Int) = x by omega]
      exact Ev.now _
    · rw [decide_eq_false c1]
      refine Ev.neg (by simp) ?_
      by_cases s : x < 0
      · refine Ev.pos (by show decide (x < 0) = true; simp [s]) ?_
        by_cases c2 : -1152921504606846976 ≤ x
        · have hc : -1152921504606846976 ≤ x ∧ x ≤ 1152921504606846975 := by omega
          rw [if_pos hc]
          refine Ev.pos (by omega) ?_
          rw [wrapI (x.natAbs : Int) (by omega) (by omega), wrapI _ (by omega) (by omega), show 0 - ((x.natAbs : Nat) : Int) = x by omega]
          exact Ev.now _
        · have hc : ¬ (-1152921504606846976 ≤ x ∧ x ≤ 1152921504606846975) := by omega
          rw [if_neg hc]
          exact Ev.neg (by omega) (Ev.now _)
      · have hc : ¬ (-1152921504606846976 ≤ x ∧ x ≤ 1152921504606846975) := by omega
        rw [if_neg hc]
        exact Ev.neg (by show ¬ (decide (x < 0) = true); simp [s]) (Ev.now _)
  · have hge : ¬ (x.natAbs : Int) < 18446744073709551616 := fun h => hl (two.2 h)
    have hc : ¬ (-1152921504606846976 ≤ x ∧ x ≤ 1152921504606846975) := by omega
    rw [if_neg hc]
    refine Ev.bind (a := .inr ()) ?_ ?_
    · refine Ev.step ?_ (fun N => by rw [num_Small_B0])
      exact Ev.bind (may_ev x h) (Ev.neg (by simp) (Ev.pos (by omega) (Ev.now _)))
    · exact Ev.now _
theorem top_big : (18446744073709551616 : Int) * 18446744073709551616 < TOP := by decide
theorem res_ok {x : Int} (h : (x.natAbs : Int) < TOP) : res x = (numN x, true) := by unfold res; rw [if_pos h]
theorem lt_top {x : Int} (h : (x.natAbs : Int) < 340282366920938463463374607431768211456) : (x.natAbs : Int) < TOP := by have := top_big; omega
theorem num_of_list (s : Bool) (l : List Int) (h : norm l) (x : Int) (hx : (x.natAbs : Int) = val l) (hs : s = decide (x < 0)) : numN x = ⟨s, l⟩ := by
  unfold numN
  have e := norm_toL h
  rw [← hx, Int.toNat_natCast] at e
  rw [← e, hs]
theorem awake_ev : Ev (fun N => beehivelaw1_awake N) true := by
  have t := top_big
  have n80 : numN (-1208925819614629174706176) = ⟨true, [0, 0, 65536]⟩ := num_of_list true _ ⟨limbs_mk (by decide) (by decide) (limbs_mk (by decide) (by decide) (limbs_mk (by decide) (by decide) limbs_nil)), fun _ => by decide⟩ _ (by decide) (by decide)
  refine Ev.bind (Of_ev (-1099511627776) (by omega) (by omega)) (Ev.bind (Of_ev 1099511627776 (by omega) (by omega)) (Ev.bind (mul_ev _ _ (lt_top (by decide)) (lt_top (by decide))) (Ev.bind (Of_ev (-7) (by omega) (by omega)) (Ev.bind (small_ev (-7) (lt_top (by decide))) ?_))))
  rw [show (-1099511627776 : Int) * 1099511627776 = -1208925819614629174706176 by decide, res_ok (lt_top (by decide))]
  refine Ev.bind (a := true) ?_ (Ev.now _)
  refine Ev.step ?_ (fun N => by rw [beehivelaw1_awake_B0])
  refine Ev.bind (same_self n80 (num_maxLen _ (lt_top (by decide)))) (Ev.pos rfl (Ev.pos rfl (Ev.pos (by decide) (Ev.pos (by decide) (Ev.bind (may_ev _ (lt_top (by decide))) (Ev.pos rfl (Ev.bind (Of_ev 0 (by omega) (by omega)) (Ev.bind (cmp_ev _ _ (lt_top (by decide)) (lt_top (by decide))) ?_))))))))
  rw [show sgn (-1208925819614629174706176 - 0) = -1 by decide]
  exact Ev.now _
end Go.Proofs.Ythoamfpjoinkpaa.Sh
