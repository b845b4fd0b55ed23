/- Plain law: what any two integers are, compared, turned, and reckoned with, is the document's. -/
import Derived.Test.YthoamfpjoinkpaaPureRefNum
set_option linter.unusedVariables false
set_option linter.unusedSimpArgs false
namespace Go.Proofs.Ythoamfpjoinkpaa.Sh
open Go Lift Go.Proofs
/-! ### What may not be -/
theorem rmay_or (n : Tapi_Num) (hb : limbs n.fMag) : (∃ x : Int, (x.natAbs : Int) < TOP ∧ n = numN x) ∨ (Ev (fun N => num_May N n) false ∧ Ev (fun N => beehiveref1_May N n) false) := by
  rcases may_or n hb with h | h
  · exact .inl h
  · refine .inr ⟨h, ?_⟩
    obtain ⟨s, l⟩ := n
    by_cases h8 : ((l.length : Nat) : Int) ≤ 8
    · refine Ev.pos h8 ?_
      by_cases h0 : l.length = 0
      · have : l = [] := List.eq_nil_of_length_eq_zero h0
        subst this
        cases s with
        | true => exact Ev.pos rfl (Ev.neg (by simp) (Ev.neg (by simp) (Ev.now _)))
        | false =>
          exfalso
          have h2 : Ev (fun N => num_May N ⟨false, []⟩) true := Ev.pos h8 (Ev.neg (by simp) (Ev.pos rfl (Ev.now _)))
          have := Ev.det h h2
          cases this
      · refine Ev.neg (by show ¬ ((l.length : Nat) : Int) = 0; omega) (Ev.pos (by show ((l.length : Nat) : Int) > 0; omega) ?_)
        have hw : IntKind.i64.wrap (((l.length : Nat) : Int) - 1) = ((l.length - 1 : Nat) : Int) := by rw [wrapI _ (by omega) (by omega)]; omega
        show Ev (fun _ => (idx l (IntKind.i64.wrap (((l.length : Nat) : Int) - 1))).bind fun x7 => some (x7 != (0 : Int))) _
        rw [hw]
        refine Ev.bindc (idx_dg (by omega)) ?_
        by_cases c : dg l (l.length - 1) = 0
        · rw [c]; exact Ev.now _
        · exfalso
          have h2 : Ev (fun N => num_May N ⟨s, l⟩) true := by
            refine Ev.pos h8 (Ev.pos (by show ((l.length : Nat) : Int) > 0; omega) ?_)
            show Ev (fun _ => (idx l (IntKind.i64.wrap (((l.length : Nat) : Int) - 1))).bind fun x3 => if x3 ≠ 0 then some true else if ((l.length : Nat) : Int) = 0 then some (!s) else some false) _
            rw [hw]
            exact Ev.bindc (idx_dg (by omega)) (Ev.pos c (Ev.now _))
          have := Ev.det h h2
          cases this
    · exact Ev.neg h8 (Ev.now _)
theorem bor_comm (x y : Int) : bor .u64 x y = bor .u64 y x := by unfold bor; rw [BitVec.or_comm]
theorem rsmall_loop (n : Tapi_Num) (h : n.fMag.length ≤ 2) (hb : limbs n.fMag) : Ev (fun N => beehiveref1_Small_L1 N n 0 (IntKind.i64.wrap (((n.fMag.length : Nat) : Int) - 1))) (val n.fMag) := by
  obtain ⟨s, l⟩ := n
  have i0 : IntKind.i64.wrap ((0 : Int) - 1) = -1 := by decide
  have i1 : IntKind.i64.wrap ((1 : Int) - 1) = 0 := by decide
  match l, h, hb with
  | [], _, _ =>
    show Ev (fun N => beehiveref1_Small_L1 N ⟨s, []⟩ 0 (IntKind.i64.wrap ((0 : Int) - 1))) _
    rw [i0]
    refine Ev.step ?_ (fun N => by rw [beehiveref1_Small_L1])
    exact Ev.neg (by decide) (Ev.now _)
  | [a], _, hb =>
    have ra := (limbs_cons hb).1
    show Ev (fun N => beehiveref1_Small_L1 N ⟨s, [a]⟩ 0 (IntKind.i64.wrap ((1 : Int) - 1))) _
    rw [i1]
    refine Ev.step ?_ (fun N => by rw [beehiveref1_Small_L1, i0])
    refine Ev.pos (by decide) (Ev.bindc (a := a) rfl ?_)
    rw [Int.zero_mul, wrapU 0 (by omega) (by omega), wrapU a ra.1 (by omega), bor_zero a ra.1 ra.2]
    refine Ev.step ?_ (fun N => by rw [beehiveref1_Small_L1])
    refine Ev.neg (by decide) ?_
    rw [show val [a] = a from val_one a]
    exact Ev.now _
  | [a, b], _, hb =>
    have ra := (limbs_cons hb).1
    have rb := (limbs_cons (limbs_cons hb).2).1
    show Ev (fun N => beehiveref1_Small_L1 N ⟨s, [a, b]⟩ 0 (IntKind.i64.wrap ((2 : Int) - 1))) _
    rw [show IntKind.i64.wrap ((2 : Int) - 1) = 1 by decide]
    refine Ev.step ?_ (fun N => by rw [beehiveref1_Small_L1, i1])
    refine Ev.pos (by decide) (Ev.bindc (a := b) rfl ?_)
    rw [Int.zero_mul, wrapU 0 (by omega) (by omega), wrapU b rb.1 (by omega), bor_zero b rb.1 rb.2]
    refine Ev.step ?_ (fun N => by rw [beehiveref1_Small_L1, i0])
    refine Ev.pos (by decide) (Ev.bindc (a := a) rfl ?_)
    rw [show (2 : Int) ^ (min (Int.toNat 32) (IntKind.bits .u64)) = 4294967296 from by decide, wrapU (b * 4294967296) (by omega) (by omega), wrapU a ra.1 (by omega), bor_comm, bor_two a b ra.1 ra.2 rb.1 rb.2]
    refine Ev.step ?_ (fun N => by rw [beehiveref1_Small_L1])
    refine Ev.neg (by decide) ?_
    rw [show val [a, b] = a + b * 4294967296 from by simp only [val]; omega]
    exact Ev.now _
theorem rsmall_ev (x : Int) (h : (x.natAbs : Int) < TOP) : Ev (fun N => beehiveref1_Small N (numN x)) (smallV x) := by
  have h8 := num_len x h
  have hv := num_val x
  have two := toL_len (x.natAbs : Int) 2 (by omega)
  rw [Int.toNat_natCast, show (4294967296 : Int) ^ 2 = 18446744073709551616 from by decide] at two
  unfold smallV
  by_cases hl : (numN x).fMag.length ≤ 2
  · have hlt := two.1 hl
    have b0 : Ev (fun N => beehiveref1_Small_B0 N (numN x)) (.inl ()) := by
      refine Ev.step ?_ (fun N => by rw [beehiveref1_Small_B0])
      exact Ev.bind (rmayN_ev x h) (Ev.neg (by simp) (Ev.neg (by omega) (Ev.now _)))
    have hlo := rsmall_loop (numN x) hl (num_limbs x)
    rw [hv] at hlo
    refine Ev.bind b0 (Ev.bind hlo ?_)
    by_cases s : x < 0
    · refine Ev.pos (by show decide (x < 0) = true; simp [s]) ?_
      by_cases c2 : -1152921504606846976 ≤ x
      · have hc : -1152921504606846976 ≤ x ∧ x ≤ 1152921504606846975 := by omega
        rw [if_pos hc]
        refine Ev.pos (by omega) ?_
        rw [wrapI (x.natAbs : Int) (by omega) (by omega), wrapI _ (by omega) (by omega), show 0 - ((x.natAbs : Nat) : Int) = x by omega]
        exact Ev.now _
      · have hc : ¬ (-1152921504606846976 ≤ x ∧ x ≤ 1152921504606846975) := by omega
        rw [if_neg hc]
        exact Ev.neg (by omega) (Ev.now _)
    · refine Ev.neg (by show ¬ (decide (x < 0) = true); simp [s]) ?_
      by_cases c1 : x ≤ 1152921504606846975
      · have hc : -1152921504606846976 ≤ x ∧ x ≤ 1152921504606846975 := by omega
        rw [if_pos hc]
        refine Ev.pos (by omega) ?_
        rw [wrapI (x.natAbs : Int) (by omega) (by omega), show ((x.natAbs : Nat) : Int) = x by omega]
        exact Ev.now _
      · have hc : ¬ (-1152921504606846976 ≤ x ∧ x ≤ 1152921504606846975) := by omega
        rw [if_neg hc]
        exact Ev.neg (by omega) (Ev.now _)
  · have hge : ¬ (x.natAbs : Int) < 18446744073709551616 := fun h => hl (two.2 h)
    have hc : ¬ (-1152921504606846976 ≤ x ∧ x ≤ 1152921504606846975) := by omega
    rw [if_neg hc]
    refine Ev.bind (a := .inr ()) ?_ ?_
    · refine Ev.step ?_ (fun N => by rw [beehiveref1_Small_B0])
      exact Ev.bind (rmayN_ev x h) (Ev.neg (by simp) (Ev.pos (by omega) (Ev.now _)))
    · exact Ev.now _

/-! ### Lent, kept, and written over -/
theorem lend_loop (l : List Int) (hl : l.length < 1000000) (a b c : Int) : Ev (fun N => beehivelaw0_LendLimbs_L0 N l (l ++ [a, b, c]) 0) (l ++ [30583, 30583, 30583]) := by
  have hw : IntKind.wrap .i64 (((l.length : Nat) : Int) + 3) = ((l.length + 3 : Nat) : Int) := by rw [wrapI _ (by omega) (by omega)]; omega
  have e0 : (Int.toNat (0 : Int) + (Int.toNat ((l.length : Nat) : Int) + 0)) = l.length := by simp
  have e1 : (Int.toNat (1 : Int) + (Int.toNat ((l.length : Nat) : Int) + 0)) = l.length + 1 := by simp; omega
  have e2 : (Int.toNat (2 : Int) + (Int.toNat ((l.length : Nat) : Int) + 0)) = l.length + 2 := by simp; omega
  have gap : (((Int.toNat ((l.length + 3 : Nat) : Int) - Int.toNat ((l.length : Nat) : Int)) : Nat) : Int) = 3 := by omega
  have g : ∀ (t : List Int) (k : Nat), (l ++ t)[l.length + k]? = t[k]? := fun t k => by rw [List.getElem?_append_right (by omega)]; congr 1; omega
  have s : ∀ (t : List Int) (k : Nat) (v : Int), (l ++ t).set (l.length + k) v = l ++ t.set k v := fun t k v => by rw [List.set_append_right _ _ (by omega)]; congr 2; omega
  have i1 : IntKind.i64.wrap ((0 : Int) + 1) = 1 := by decide
  have i2 : IntKind.i64.wrap ((1 : Int) + 1) = 2 := by decide
  have i3 : IntKind.i64.wrap ((2 : Int) + 1) = 3 := by decide
  have g0 := g [a, b, c] 0
  have s0 := s [a, b, c] 0 30583
  rw [Nat.add_zero] at g0 s0
  refine Ev.step ?_ (fun N => by rw [beehivelaw0_LendLimbs_L0, hw, gap, e0, i1])
  refine Ev.pos (by decide) (Ev.pos (by decide) (Ev.bindc g0 ?_))
  rw [s0]
  refine Ev.step ?_ (fun N => by rw [beehivelaw0_LendLimbs_L0, hw, gap, e1, i2])
  refine Ev.pos (by decide) (Ev.pos (by decide) (Ev.bindc (g _ 1) ?_))
  rw [s _ 1]
  refine Ev.step ?_ (fun N => by rw [beehivelaw0_LendLimbs_L0, hw, gap, e2, i3])
  refine Ev.pos (by decide) (Ev.pos (by decide) (Ev.bindc (g _ 2) ?_))
  rw [s _ 2]
  refine Ev.step ?_ (fun N => by rw [beehivelaw0_LendLimbs_L0])
  exact Ev.neg (by decide) (Ev.now _)
theorem lend_ev (l : List Int) (hl : l.length < 1000000) : Ev (fun N => beehivelaw0_LendLimbs N l) (l ++ [30583, 30583, 30583], l.length) := by
  have hw : IntKind.wrap .i64 (((l.length : Nat) : Int) + 3) = ((l.length + 3 : Nat) : Int) := by rw [wrapI _ (by omega) (by omega)]; omega
  have ha : Lift.appIn (List.replicate (l.length + 3) (0 : Int)) (Int.toNat (0 : Int)) l = some (l ++ [0, 0, 0]) := by
    unfold Lift.appIn
    rw [if_pos (by simp), Int.toNat_zero, List.take_zero, List.nil_append, Nat.zero_add, List.drop_replicate, show l.length + 3 - l.length = 3 by omega]
    rfl
  show Ev (fun N => (mk (0 : Int) (IntKind.wrap .i64 (((l.length : Nat) : Int) + (3 : Int)))).bind fun x1 => (Lift.appIn x1 (Int.toNat (0 : Int)) l).bind fun x2 => if 0 ≤ ((l.length : Nat) : Int) ∧ ((l.length : Nat) : Int) < IntKind.wrap .i64 (((l.length : Nat) : Int) + (3 : Int)) ∧ IntKind.wrap .i64 (((l.length : Nat) : Int) + (3 : Int)) ≤ ((x2.length : Nat) : Int) then (beehivelaw0_LendLimbs_L0 N l x2 (0 : Int)).bind fun r7 => if ((Int.toNat (0 : Int)) + l.length) ≤ r7.length then some (r7, ((Int.toNat (0 : Int)) + l.length)) else none else none) _
  rw [hw]
  refine Ev.bindc (mk_eq (by omega)) (Ev.bindc ha (Ev.pos ⟨by omega, by omega, by simp⟩ (Ev.bind (lend_loop l hl 0 0 0) (Ev.pos (by simp) ?_))))
  rw [Int.toNat_zero, Nat.zero_add]
  exact Ev.now _
theorem keep_ev (l : List Int) (hl : l.length < 1000000) : Ev (fun N => beehivelaw0_KeptLimbs N (l ++ [30583, 30583, 30583], l.length) l) true := by
  have hw : IntKind.wrap .i64 (((l.length : Nat) : Int) + 3) = ((l.length + 3 : Nat) : Int) := by rw [wrapI _ (by omega) (by omega)]; omega
  have gap : (((Int.toNat ((l.length + 3 : Nat) : Int) - Int.toNat ((l.length : Nat) : Int)) : Nat) : Int) = 3 := by omega
  have i1 : IntKind.i64.wrap ((0 : Int) + 1) = 1 := by decide
  have i2 : IntKind.i64.wrap ((1 : Int) + 1) = 2 := by decide
  have i3 : IntKind.i64.wrap ((2 : Int) + 1) = 3 := by decide
  have g : ∀ (k : Nat), k < 3 → (l ++ [(30583 : Int), 30583, 30583])[k + (Int.toNat ((l.length : Nat) : Int) + 0)]? = some 30583 := fun k hk => by
    rw [Int.toNat_natCast, List.getElem?_append_right (by omega), show k + (l.length + 0) - l.length = k by omega]
    rcases k with _ | _ | _ | k
    · rfl
    · rfl
    · rfl
    · omega
  have hloop : Ev (fun N => beehivelaw0_KeptLimbs_L0 N (l ++ [30583, 30583, 30583], l.length) l 0) (.inl ()) := by
    refine Ev.step ?_ (fun N => by rw [beehivelaw0_KeptLimbs_L0, hw, gap, i1])
    refine Ev.pos (by decide) (Ev.pos (by decide) (Ev.bindc (g 0 (by decide)) (Ev.neg (by decide) ?_)))
    refine Ev.step ?_ (fun N => by rw [beehivelaw0_KeptLimbs_L0, hw, gap, i2])
    refine Ev.pos (by decide) (Ev.pos (by decide) (Ev.bindc (g 1 (by decide)) (Ev.neg (by decide) ?_)))
    refine Ev.step ?_ (fun N => by rw [beehivelaw0_KeptLimbs_L0, hw, gap, i3])
    refine Ev.pos (by decide) (Ev.pos (by decide) (Ev.bindc (g 2 (by decide)) (Ev.neg (by decide) ?_)))
    refine Ev.step ?_ (fun N => by rw [beehivelaw0_KeptLimbs_L0])
    exact Ev.neg (by decide) (Ev.now _)
  refine Ev.pos ⟨by show (0 : Int) ≤ ((l.length : Nat) : Int); omega, by show ((l.length : Nat) : Int) < IntKind.wrap .i64 (((l.length : Nat) : Int) + 3); rw [hw]; omega, by show IntKind.wrap .i64 (((l.length : Nat) : Int) + 3) ≤ (((l ++ [30583, 30583, 30583] : List Int).length : Nat) : Int); rw [hw]; simp⟩ (Ev.bind hloop (Ev.pos (by simp) ?_))
  show Ev (fun N => (beehivelaw0_SameLimbs N ((l ++ [30583, 30583, 30583]).take l.length) l).bind fun r10 => some r10) true
  rw [List.take_left]
  refine Ev.bind (sameLimbs_ev l l (by rw [maxLen_eq]; omega)) ?_
  rw [decide_eq_true rfl]
  exact Ev.now _
theorem over_loop : ∀ (d i : Nat) (l : List Int), i + d = l.length → l.length < 1000000 → ∃ l' : List Int, Ev (fun N => beehivelaw0_OverLimbs_L0 N l i) l' ∧ l'.length = l.length := by
  intro d
  induction d with
  | zero =>
    intro i l h hl
    refine ⟨l, ?_, rfl⟩
    refine Ev.step ?_ (fun N => by rw [beehivelaw0_OverLimbs_L0])
    exact Ev.neg (by omega) (Ev.now _)
  | succ d ih =>
    intro i l h hl
    obtain ⟨l', e, hl'⟩ := ih (i + 1) (l.set i 61166) (by rw [List.length_set]; omega) (by rw [List.length_set]; omega)
    refine ⟨l', ?_, by rw [hl', List.length_set]⟩
    refine Ev.step ?_ (fun N => by rw [beehivelaw0_OverLimbs_L0, wrap_succ (by omega), Int.toNat_natCast])
    exact Ev.pos (by omega) (Ev.bindc (idx_dg (by omega)) e)
theorem over_ev (l : List Int) (hl : l.length ≤ 8) : Ev (fun N => beehivelaw0_OverLimbs N l) () := by
  obtain ⟨l', e, hl'⟩ := over_loop l.length 0 l (by omega) (by omega)
  exact Ev.bind e (Ev.bindc (app_one (by omega)) (Ev.now _))

/-! ### Two of them -/
theorem res_len (x : Int) : (res x).1.fMag.length ≤ 8 := by
  unfold res
  by_cases h : (x.natAbs : Int) < TOP
  · rw [if_pos h]; exact num_len x h
  · rw [if_neg h]; exact Nat.zero_le _
theorem both_add (a b : Tapi_Num) (ha : limbs a.fMag) (hb : limbs b.fMag) : ∃ r, Ev (fun N => num_Add N a b) r ∧ Ev (fun N => beehiveref1_Add N a b) r ∧ r.1.fMag.length ≤ 8 := by
  rcases rmay_or a ha with ⟨x, hx, rfl⟩ | ⟨m0, n0⟩
  · rcases rmay_or b hb with ⟨y, hy, rfl⟩ | ⟨m1, n1⟩
    · exact ⟨_, add_ev x y hx hy, radd_ev x y hx hy, res_len _⟩
    · exact ⟨_, Ev.bind (may_ev x hx) (Ev.neg (by simp) (Ev.bind m1 (Ev.pos (by simp) (Ev.now (Tapi_Num.mk false [], false))))), Ev.bind (rmayN_ev x hx) (Ev.neg (by simp) (Ev.bind n1 (Ev.pos (by simp) (Ev.now _)))), Nat.zero_le _⟩
  · exact ⟨_, Ev.bind m0 (Ev.pos (by simp) (Ev.now (Tapi_Num.mk false [], false))), Ev.bind n0 (Ev.pos (by simp) (Ev.now _)), Nat.zero_le _⟩
theorem both_mul (a b : Tapi_Num) (ha : limbs a.fMag) (hb : limbs b.fMag) : ∃ r, Ev (fun N => num_Mul N a b) r ∧ Ev (fun N => beehiveref1_Mul N a b) r ∧ r.1.fMag.length ≤ 8 := by
  rcases rmay_or a ha with ⟨x, hx, rfl⟩ | ⟨m0, n0⟩
  · rcases rmay_or b hb with ⟨y, hy, rfl⟩ | ⟨m1, n1⟩
    · exact ⟨_, mul_ev x y hx hy, rmul_ev x y hx hy, res_len _⟩
    · exact ⟨_, Ev.bind (may_ev x hx) (Ev.neg (by simp) (Ev.bind m1 (Ev.pos (by simp) (Ev.now (Tapi_Num.mk false [], false))))), Ev.bind (rmayN_ev x hx) (Ev.neg (by simp) (Ev.bind n1 (Ev.pos (by simp) (Ev.now _)))), Nat.zero_le _⟩
  · exact ⟨_, Ev.bind m0 (Ev.pos (by simp) (Ev.now (Tapi_Num.mk false [], false))), Ev.bind n0 (Ev.pos (by simp) (Ev.now _)), Nat.zero_le _⟩
theorem both_neg (a : Tapi_Num) (ha : limbs a.fMag) : ∃ r, Ev (fun N => num_Neg N a) r ∧ Ev (fun N => beehiveref1_Neg N a) r ∧ r.fMag.length ≤ 8 := by
  rcases rmay_or a ha with ⟨x, hx, rfl⟩ | ⟨m0, n0⟩
  · exact ⟨_, neg_ev x hx, rneg_ev x hx, num_len _ (by rw [Int.natAbs_neg]; exact hx)⟩
  · exact ⟨_, Ev.bind m0 (Ev.pos (by simp) (Ev.now (Tapi_Num.mk false []))), Ev.bind n0 (Ev.pos (by simp) (Ev.now _)), Nat.zero_le _⟩
theorem both_sub (a b : Tapi_Num) (ha : limbs a.fMag) (hb : limbs b.fMag) : ∃ r, Ev (fun N => num_Sub N a b) r ∧ Ev (fun N => beehiveref1_Sub N a b) r ∧ r.1.fMag.length ≤ 8 := by
  rcases rmay_or b hb with ⟨y, hy, rfl⟩ | ⟨m1, n1⟩
  · obtain ⟨r, h1, h2, h3⟩ := both_add a (numN (-y)) ha (num_limbs _)
    exact ⟨r, Ev.bind (may_ev y hy) (Ev.neg (by simp) (Ev.bind (neg_ev y hy) (Ev.bind h1 (Ev.eta _)))), Ev.bind (rmayN_ev y hy) (Ev.neg (by simp) (Ev.bind (rneg_ev y hy) (Ev.bind h2 (Ev.eta _)))), h3⟩
  · exact ⟨_, Ev.bind m1 (Ev.pos (by simp) (Ev.now (Tapi_Num.mk false [], false))), Ev.bind n1 (Ev.pos (by simp) (Ev.now _)), Nat.zero_le _⟩
theorem both_small (a : Tapi_Num) (ha : limbs a.fMag) : ∃ r, Ev (fun N => num_Small N a) r ∧ Ev (fun N => beehiveref1_Small N a) r := by
  rcases rmay_or a ha with ⟨x, hx, rfl⟩ | ⟨m0, n0⟩
  · exact ⟨_, small_ev x hx, rsmall_ev x hx⟩
  · have b0 : Ev (fun N => num_Small_B0 N a) (.inr ()) := by
      refine Ev.step ?_ (fun N => by rw [num_Small_B0])
      exact Ev.bind m0 (Ev.pos (by simp) (Ev.now _))
    have b1 : Ev (fun N => beehiveref1_Small_B0 N a) (.inr ()) := by
      refine Ev.step ?_ (fun N => by rw [beehiveref1_Small_B0])
      exact Ev.bind n0 (Ev.pos (by simp) (Ev.now _))
    exact ⟨_, Ev.bind b0 (Ev.now ((0 : Int), false)), Ev.bind b1 (Ev.now _)⟩
theorem both_cmp (a b : Tapi_Num) (ha : limbs a.fMag) (hb : limbs b.fMag) : ∃ r, Ev (fun N => num_Cmp N a b) r ∧ Ev (fun N => beehiveref1_Cmp N a b) r := by
  have other : Ev (fun N => num_Cmp_B0 N a b) true → Ev (fun N => beehiveref1_Cmp_B1 N a b) true → ∃ r, Ev (fun N => num_Cmp N a b) r ∧ Ev (fun N => beehiveref1_Cmp N a b) r := fun h1 h2 => by
    have h3 : Ev (fun N => beehiveref1_Cmp_B0 N a b) (.inr 0) := by
      refine Ev.step ?_ (fun N => by rw [beehiveref1_Cmp_B0])
      exact Ev.bind h2 (Ev.pos rfl (Ev.now _))
    exact ⟨0, Ev.bind h1 (Ev.pos rfl (Ev.now _)), Ev.bind h3 (Ev.now _)⟩
  rcases rmay_or a ha with ⟨x, hx, rfl⟩ | ⟨m0, n0⟩
  · rcases rmay_or b hb with ⟨y, hy, rfl⟩ | ⟨m1, n1⟩
    · exact ⟨_, cmp_ev x y hx hy, rcmp_ev x y hx hy⟩
    · refine other ?_ ?_
      · refine Ev.step ?_ (fun N => by rw [num_Cmp_B0])
        exact Ev.bind (may_ev x hx) (Ev.neg (by simp) (Ev.bind m1 (Ev.now _)))
      · refine Ev.step ?_ (fun N => by rw [beehiveref1_Cmp_B1])
        exact Ev.bind (rmayN_ev x hx) (Ev.neg (by simp) (Ev.bind n1 (Ev.now _)))
  · refine other ?_ ?_
    · refine Ev.step ?_ (fun N => by rw [num_Cmp_B0])
      exact Ev.bind m0 (Ev.pos (by simp) (Ev.now _))
    · refine Ev.step ?_ (fun N => by rw [beehiveref1_Cmp_B1])
      exact Ev.bind n0 (Ev.pos (by simp) (Ev.now _))
theorem both_may (a : Tapi_Num) (ha : limbs a.fMag) : ∃ r, Ev (fun N => num_May N a) r ∧ Ev (fun N => beehiveref1_May N a) r := by
  rcases rmay_or a ha with ⟨x, hx, rfl⟩ | ⟨m0, n0⟩
  · exact ⟨_, may_ev x hx, rmayN_ev x hx⟩
  · exact ⟨_, m0, n0⟩
namespace Pure
theorem NumTells (x0 : Tapi_Num) (x1 : Tapi_Num) (x2 : Int) (w0 : wTapi_Num x0) (w1 : wTapi_Num x1) (w2 : (InR .i64) x2) : ∃ N, beehivelaw1_NumTells N x0 x1 x2 = some true := by
  refine Ev.ex (f := fun N => beehivelaw1_NumTells N x0 x1 x2) ?_
  have la := limbs_of w0.Mag
  have lb := limbs_of w1.Mag
  rcases great_or x0 with ⟨h0, g0⟩ | g0
  case inr =>
    refine Ev.bind (a := .inr true) ?_ ?_
    · refine Ev.step ?_ (fun N => by rw [beehivelaw1_NumTells_B0])
      exact Ev.bind g0 (Ev.pos rfl (Ev.bind awake_ev (Ev.now _)))
    · exact Ev.now _
  rcases great_or x1 with ⟨h1, g1⟩ | g1
  case inr =>
    refine Ev.bind (a := .inr true) ?_ ?_
    · refine Ev.step ?_ (fun N => by rw [beehivelaw1_NumTells_B0])
      exact Ev.bind g0 (Ev.neg Bool.false_ne_true (Ev.bind g1 (Ev.pos rfl (Ev.bind awake_ev (Ev.now _)))))
    · exact Ev.now _
  have hB0 : Ev (fun N => beehivelaw1_NumTells_B0 N x0 x1 x2) (.inl ()) := by
    refine Ev.step ?_ (fun N => by rw [beehivelaw1_NumTells_B0])
    exact Ev.bind g0 (Ev.neg Bool.false_ne_true (Ev.bind g1 (Ev.neg Bool.false_ne_true (Ev.now _))))
  have k0 := keep_ev x0.fMag (by omega)
  have k1 := keep_ev x1.fMag (by omega)
  have l0 := lend_ev x0.fMag (by omega)
  have l1 := lend_ev x1.fMag (by omega)
  have t0 : Tapi_Num.mk x0.fNeg ((x0.fMag ++ [30583, 30583, 30583]).take x0.fMag.length) = x0 := by rw [List.take_left]
  have t1 : Tapi_Num.mk x1.fNeg ((x1.fMag ++ [30583, 30583, 30583]).take x1.fMag.length) = x1 := by rw [List.take_left]
  have c0 : x0.fMag.length ≤ (x0.fMag ++ [(30583 : Int), 30583, 30583]).length := by simp
  have c1 : x1.fMag.length ≤ (x1.fMag ++ [(30583 : Int), 30583, 30583]).length := by simp
  obtain ⟨ra, a1, a2, a3⟩ := both_add x0 x1 la lb
  obtain ⟨rs, s1, s2, s3⟩ := both_sub x0 x1 la lb
  obtain ⟨rm, m1, m2, m3⟩ := both_mul x0 x1 la lb
  obtain ⟨rl, z1, z2⟩ := both_small x0 la
  obtain ⟨rn, n1, n2, n3⟩ := both_neg x0 la
  obtain ⟨rc, e1, e2⟩ := both_cmp x0 x1 la lb
  obtain ⟨ry, y1, y2⟩ := both_may x0 la
  have mx : ∀ {n : Nat}, n ≤ 8 → n ≤ maxLen := fun h => by rw [maxLen_eq]; omega
  have w := inI w2
  have o2 := rOf_ev x2 (by omega) (by omega)
  have o1 := Of_ev x2 (by omega) (by omega)
  have ho : (numN x2).fMag.length ≤ 8 := num_len _ (lt_top (by omega))
  have hB1 : Ev (fun N => beehivelaw1_NumTells_B1 N x0 x1 x2 (x0.fMag ++ [30583, 30583, 30583], x0.fMag.length) (x1.fMag ++ [30583, 30583, 30583], x1.fMag.length) ra rs rm ra rs rm rl rl rn) true := by
    refine Ev.step ?_ (fun N => by rw [beehivelaw1_NumTells_B1])
    simp only [t0, t1]
    exact Ev.bind (same_self rfl (mx a3)) (Ev.pos (by trivial) (Ev.pos (by trivial) (Ev.bind (same_self rfl (mx s3)) (Ev.pos (by trivial) (Ev.pos (by trivial) (Ev.bind (same_self rfl (mx m3)) (Ev.pos (by trivial) (Ev.pos (by trivial) (Ev.pos c0 (Ev.pos c1 (Ev.bind e1 (Ev.bind e2 (Ev.pos (by trivial)
      (Ev.bind n2 (Ev.bind (same_self rfl (mx n3)) (Ev.pos (by trivial) (Ev.pos (by trivial) (Ev.pos (by trivial) (Ev.pos c0 (Ev.bind y1 (Ev.bind y2 (Ev.pos (by trivial) (Ev.bind o1 (Ev.bind o2 (Ev.bind (same_self rfl (mx ho)) (Ev.now _))))))))))))))))))))))))))
  refine Ev.bind hB0 ?_
  show Ev (fun N => (beehivelaw0_LendLimbs N x0.fMag).bind _) _
  refine Ev.bind l0 (Ev.bind l1 ?_)
  simp only [t0, t1]
  exact Ev.pos c0 (Ev.pos c1 (Ev.bind a1 (Ev.pos c0 (Ev.pos c1 (Ev.bind s1 (Ev.pos c0 (Ev.pos c1 (Ev.bind m1 (Ev.bind a2 (Ev.bind s2 (Ev.bind m2 (Ev.pos c0 (Ev.bind z1 (Ev.bind z2 (Ev.pos c0 (Ev.bind n1 (Ev.bind hB1
    (Ev.bind (over_ev _ a3) (Ev.bind (over_ev _ s3) (Ev.bind (over_ev _ m3) (Ev.bind (over_ev _ n3) (Ev.pos rfl (Ev.pos c0 (Ev.bind k0 (Ev.pos rfl (Ev.pos c1 (Ev.bind k1 (Ev.pos rfl (Ev.bind awake_ev (Ev.now _))))))))))))))))))))))))))))))
end Pure
end Go.Proofs.Ythoamfpjoinkpaa.Sh
