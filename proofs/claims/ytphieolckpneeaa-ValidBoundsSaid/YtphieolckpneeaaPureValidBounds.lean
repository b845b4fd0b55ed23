import Derived.Test.YtphieolckpneeaaInv
import Derived.Test.YtphieolckpneeaaLift3
set_option linter.unusedVariables false
set_option linter.unusedSimpArgs false
namespace Go.Proofs.Ytphieolckpneeaa.Sh
open Go Lift Go.Proofs
theorem lowE (x n : Int) (hx : InR .i64 x) (h0 : 0 < n) (h1 : n < 9223372036854775808) : ∃ r, Ev (fun N => beehivelaw0_Low N x n) r ∧ 0 ≤ r ∧ r < n ∧ r = IntKind.u64.wrap x % n := by
  have hu := wrapU_eq x
  have e1 : IntKind.u64.wrap n = n := wrapU n (by omega) (by omega)
  have hp : 0 ≤ IntKind.u64.wrap x := by omega
  have e2 : (IntKind.u64.wrap x).tmod n = IntKind.u64.wrap x % n := Int.tmod_eq_emod_of_nonneg hp
  have b0 := Int.emod_nonneg (IntKind.u64.wrap x) (show n ≠ 0 by omega)
  have b1 := Int.emod_lt_of_pos (IntKind.u64.wrap x) h0
  refine ⟨IntKind.u64.wrap x % n, ?_, b0, b1, rfl⟩
  refine Ev.bindc (a := IntKind.u64.wrap x % n) (by rw [e1, rem_eq (by omega), e2]) ?_
  have e3 : IntKind.i64.wrap (IntKind.u64.wrap x % n) = IntKind.u64.wrap x % n := wrapI _ (by omega) (by omega)
  show Ev (fun _ => some (IntKind.i64.wrap (IntKind.u64.wrap x % n))) _
  rw [e3]
  exact Ev.now _
/-- A register that is there. -/
def inReg (n : Int) : Bool := decide (0 ≤ n ∧ n ≤ 7)
theorem there_reg (p : Tapi_Program) (n : Int) : Ev (fun N => valid_there N p 1 n) (inReg n) := by
  refine Ev.from 1 fun N => ?_
  unfold inReg
  by_cases h : 0 ≤ n <;> simp [valid_there, valid_there_B0, h]
theorem there_none (p : Tapi_Program) (n : Int) : Ev (fun N => valid_there N p 0 n) (decide (n = 0)) := by
  refine Ev.from 1 fun N => ?_
  by_cases h : 0 ≤ n <;> simp [valid_there, valid_there_B0, h] <;> omega
theorem two_forms (k : Int) (hk : k = 2 ∨ k = 10 ∨ k = 11 ∨ k = 16 ∨ k = 17 ∨ k = 20) : Ev (fun N => valid_forms N k) (⟨1, 1, 0⟩, true) := by
  refine Ev.from 3 fun N => ?_
  rcases hk with rfl | rfl | rfl | rfl | rfl | rfl <;> rfl
theorem op_ev (k a b c : Int) (hk : k = 2 ∨ k = 10 ∨ k = 11 ∨ k = 16 ∨ k = 17 ∨ k = 20) : Ev (fun N => valid_Op N ⟨[⟨k, a, b, c⟩], []⟩ 0) (inReg a && inReg b && decide (c = 0)) := by
  have b0 : Ev (fun N => valid_Op_B0 N ⟨[⟨k, a, b, c⟩], []⟩ 0) (.inl ()) := by
    refine Ev.step ?_ (fun N => by rw [valid_Op_B0])
    exact Ev.neg (by decide) (Ev.neg (by simp) (Ev.now _))
  have b2 : Ev (fun N => valid_Op_B2 N ⟨[⟨k, a, b, c⟩], []⟩ ⟨k, a, b, c⟩ (⟨1, 1, 0⟩, true)) (!(inReg a && inReg b && decide (c = 0))) := by
    refine Ev.step ?_ (fun N => by rw [valid_Op_B2])
    refine Ev.neg (by simp) (Ev.bind (there_reg _ a) ?_)
    cases ha : inReg a with
    | false => exact Ev.pos (by simp) (Ev.now _)
    | true =>
      refine Ev.neg (by simp) (Ev.bind (there_reg _ b) ?_)
      cases hb : inReg b with
      | false => exact Ev.pos (by simp) (Ev.now _)
      | true => exact Ev.neg (by simp) (Ev.bind (there_none _ c) (Ev.now _))
  refine Ev.bind b0 (Ev.bindc (a := ⟨k, a, b, c⟩) rfl (Ev.bind (two_forms k hk) ?_))
  cases hg : (inReg a && inReg b && decide (c = 0)) with
  | true =>
    rw [hg] at b2
    refine Ev.bind (a := .inl ()) ?_ ?_
    · refine Ev.step ?_ (fun N => by rw [valid_Op_B1])
      exact Ev.bind b2 (Ev.neg (by simp) (Ev.now _))
    · exact Ev.pos (by show k ≠ 12; omega) (Ev.now _)
  | false =>
    rw [hg] at b2
    refine Ev.bind (a := .inr ()) ?_ ?_
    · refine Ev.step ?_ (fun N => by rw [valid_Op_B1])
      exact Ev.bind b2 (Ev.pos rfl (Ev.now _))
    · exact Ev.now _
theorem op_out (p : Tapi_Program) (i : Int) (h : i < 0 ∨ i ≥ ((p.fOps.length : Nat) : Int)) : Ev (fun N => valid_Op N p i) false := by
  refine Ev.bind (a := .inr ()) ?_ ?_
  · refine Ev.step ?_ (fun N => by rw [valid_Op_B0])
    by_cases h0 : i < 0
    · exact Ev.pos h0 (Ev.now _)
    · exact Ev.neg h0 (Ev.pos (by omega) (Ev.now _))
  · exact Ev.now _
theorem why_one (o : Tapi_Op) (g : Bool) (h : Ev (fun N => valid_Op N ⟨[o], []⟩ 0) g) : Ev (fun N => valid_Why N ⟨[o], []⟩) (if g then -1 else 0) := by
  have w1 : IntKind.i64.wrap ((0 : Int) + 1) = 1 := by decide
  cases g with
  | false =>
    refine Ev.bind (a := .inr 0) ?_ ?_
    · refine Ev.step ?_ (fun N => by rw [valid_Why_L0])
      exact Ev.pos (by simp) (Ev.pos (by simp) (Ev.bind h (Ev.pos (by simp) (Ev.now _))))
    · exact Ev.now _
  | true =>
    refine Ev.bind (a := .inl ()) ?_ ?_
    · refine Ev.step ?_ (fun N => by rw [valid_Why_L0, w1])
      refine Ev.pos (by simp) (Ev.pos (by simp) (Ev.bind h (Ev.neg (by simp) ?_)))
      refine Ev.step ?_ (fun N => by rw [valid_Why_L0])
      exact Ev.neg (by simp) (Ev.now _)
    · refine Ev.neg (by simp) (Ev.neg (by simp) (Ev.bind (a := false) ?_ (Ev.neg (by simp) (Ev.now _))))
      refine Ev.bind (a := -1) (Ev.bind (a := .inl ()) ?_ ?_) (Ev.now _)
      · refine Ev.step ?_ (fun N => by rw [slices_IndexFunc_api_Term_api_Term_L0])
        exact Ev.neg (by simp) (Ev.now _)
      · exact Ev.now _
theorem awake_ev : Ev (fun N => beehivelaw18_awake N) true := by
  refine Ev.bind (why_one _ false (Ev.from 5 fun N => by kernel_rfl)) (Ev.pos rfl (Ev.bind (a := -1) (Ev.from 8 fun N => by kernel_rfl) (Ev.pos rfl (Ev.bind (a := true) (Ev.from 5 fun N => by kernel_rfl) (Ev.now _)))))
namespace Pure
theorem ValidBounds (x0 : Int) (x1 : Int) (x2 : Int) (x3 : Int) (w0 : (InR .i64) x0) (w1 : (InR .i64) x1) (w2 : (InR .i64) x2) (w3 : (InR .i64) x3) : ∃ N, beehivelaw18_ValidBounds N x0 x1 x2 x3 = some true := by
  refine Ev.ex (f := fun N => beehivelaw18_ValidBounds N x0 x1 x2 x3) ?_
  obtain ⟨r, hr, r0, r1, _⟩ := lowE x0 6 w0 (by omega) (by omega)
  obtain ⟨k, hi, hk⟩ : ∃ k, idx ([2, 10, 11, 16, 17, 20] : List Int) r = some k ∧ (k = 2 ∨ k = 10 ∨ k = 11 ∨ k = 16 ∨ k = 17 ∨ k = 20) := by
    have : r = 0 ∨ r = 1 ∨ r = 2 ∨ r = 3 ∨ r = 4 ∨ r = 5 := by omega
    rcases this with rfl | rfl | rfl | rfl | rfl | rfl
    · exact ⟨2, rfl, by simp⟩
    · exact ⟨10, rfl, by simp⟩
    · exact ⟨11, rfl, by simp⟩
    · exact ⟨16, rfl, by simp⟩
    · exact ⟨17, rfl, by simp⟩
    · exact ⟨20, rfl, by simp⟩
  have hop := op_ev k x1 x2 x3 hk
  have b0 : Ev (fun N => beehivelaw18_ValidBounds_B0 N x1 x2 x3 k) (inReg x1 && inReg x2 && decide (x3 = 0)) := by
    refine Ev.from 1 fun N => ?_
    unfold inReg
    have e : (x3 == 0) = decide (x3 = 0) := rfl
    by_cases a0 : 0 ≤ x1 <;> by_cases a1 : x1 < 8 <;> by_cases c0 : 0 ≤ x2 <;> by_cases c1 : x2 < 8 <;> simp [beehivelaw18_ValidBounds_B0, e, a0, a1, c0, c1, show (x1 ≤ 7) = (x1 < 8) from propext (by omega), show (x2 ≤ 7) = (x2 < 8) from propext (by omega)]
  have hl : (((([(2 : Int), (10 : Int), (11 : Int), (16 : Int), (17 : Int), (20 : Int)] : List Int).length : Nat)) : Int) = 6 := rfl
  refine Ev.bind (a := r) (by rw [hl]; exact hr) (Ev.bindc hi (Ev.bind b0 ?_))
  refine Ev.bind (a := if (inReg x1 && inReg x2 && decide (x3 = 0)) then -1 else 0) ?_ ?_
  · refine Ev.step ?_ (fun N => by rw [beehivelaw18_ValidBounds_B1])
    exact Ev.iff (fun _ => Ev.now _) (fun _ => Ev.now _)
  · refine Ev.bind hop (Ev.pos rfl (Ev.bind (why_one _ _ hop) (Ev.pos rfl (Ev.bind (op_out _ 1 (Or.inr (by simp))) (Ev.pos (by simp) (Ev.bind (op_out _ (-1) (Or.inl (by decide))) (Ev.pos (by simp) (Ev.bind awake_ev (Ev.now _)))))))))
end Pure
end Go.Proofs.Ytphieolckpneeaa.Sh
