import Derived.Test.YtllcnlonkloabaaPureRealA
import Derived.Test.YtllcnlonkloabaaLift4
set_option linter.unusedVariables false
set_option linter.unusedSimpArgs false
namespace Go.Proofs.Ytllcnlonkloabaa.Sh
open Go Lift Go.Proofs
theorem xor63 (n : Nat) (h : n < 18446744073709551616) : n ^^^ 9223372036854775808 = fflip n := by
  have hS : (9223372036854775808 : Nat) = 2 ^ 63 := by decide
  have h1 : (n ^^^ 9223372036854775808) % 2 ^ 63 = n % 2 ^ 63 := by
    rw [Nat.xor_mod_two_pow, show (9223372036854775808 : Nat) % 2 ^ 63 = 0 by decide, Nat.xor_zero]
  have h2 : (n ^^^ 9223372036854775808) / 2 ^ 63 = (n / 2 ^ 63) ^^^ 1 := by
    rw [← Nat.shiftRight_eq_div_pow, ← Nat.shiftRight_eq_div_pow, Nat.shiftRight_xor_distrib]
    rfl
  rw [← hS] at h1 h2
  have h3 := Nat.div_add_mod (n ^^^ 9223372036854775808) 9223372036854775808
  rw [h1, h2] at h3
  unfold fflip
  by_cases c : n < 9223372036854775808
  · rw [show n / 9223372036854775808 = 0 by omega, Nat.zero_xor] at h3
    rw [if_pos c]; omega
  · rw [show n / 9223372036854775808 = 1 by omega, Nat.xor_self] at h3
    rw [if_neg c]; omega
theorem bxor63 {b : Int} (h : W64 b) : bxor .u64 b 9223372036854775808 = ((fflip b.toNat : Nat) : Int) := by
  obtain ⟨n, rfl⟩ := Int.eq_ofNat_of_zero_le h.lo
  have hn : n < 18446744073709551616 := by have := h.hi; omega
  unfold bxor
  have e2 : (BitVec.ofInt (IntKind.bits .u64) (9223372036854775808 : Int)).toNat = 9223372036854775808 := by decide
  rw [BitVec.toNat_xor, ofI (k := IntKind.bits .u64) (by exact hn), e2, xor63 n hn, Int.toNat_natCast]
  have := flip_lt hn
  exact wrapU _ (by omega) (by omega)
/-- A clean word: what it is. -/
theorem clean_cases {a : Int} (h : W64 a) (hn : nanW a.toNat = true → a = 9221120237041090561) : a = 9221120237041090561 ∨ ∃ s r, r ≤ 9218868437227405312 ∧ a = ((wd s r : Nat) : Int) := by
  cases hq : nanW a.toNat with
  | true => exact .inl (hn hq)
  | false =>
    right
    have h0 := h.lo
    have h1 := h.hi
    refine ⟨sg a.toNat, rg a.toNat, ?_, ?_⟩
    · rcases nan_no hq with k | k <;> omega
    · rw [wd_self (by omega)]; omega
theorem cleanW_wd (s : Bool) {r : Nat} (h : r ≤ 9218868437227405312) : cleanW ((wd s r : Nat) : Int) = ((wd s r : Nat) : Int) := by
  unfold cleanW
  rw [Int.toNat_natCast, nan_wd s h]
  simp
theorem opW_wd (s : Bool) {r : Nat} (h : r ≤ 9218868437227405312) : opW (some (wd s r)) = ((wd s r : Nat) : Int) := cleanW_wd s h
theorem opW_some {z : Nat} (h : nanW z = false) : opW (some z) = (z : Int) := by
  show cleanW (z : Int) = _
  unfold cleanW
  rw [Int.toNat_natCast, h]
  simp
theorem wd_not_NN (s : Bool) {r : Nat} (h : r ≤ 9218868437227405312) : ((wd s r : Nat) : Int) ≠ 9221120237041090561 := by
  intro e
  have := nan_wd s h
  rw [show wd s r = 9221120237041090561 by omega] at this
  exact absurd this (by decide)
theorem may_opW (o : Option Nat) : (decide (opW o = 9221120237041090561) || !nanW (opW o).toNat) = true := by
  cases h : nanW (opW o).toNat with
  | true => rw [opW_nan h]; rfl
  | false => simp
end Go.Proofs.Ytllcnlonkloabaa.Sh
