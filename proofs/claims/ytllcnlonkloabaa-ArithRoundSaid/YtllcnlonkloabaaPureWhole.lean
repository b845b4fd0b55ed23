import Derived.Test.YtllcnlonkloabaaPureNumE
import Derived.Test.YtllcnlonkloabaaLift4
import Derived.Test.YtllcnlonkloabaaLift3
set_option linter.unusedVariables false
set_option linter.unusedSimpArgs false
namespace Go.Proofs.Ytllcnlonkloabaa.Sh
open Go Lift Go.Proofs
/-! ### A float's whole part as an integer -/
theorem pow32 (j : Nat) : (4294967296 : Int) ^ j = ((2 ^ (32 * j) : Nat) : Int) := by
  rw [Nat.pow_mul, show (2 : Nat) ^ 32 = 4294967296 from by decide, Int.natCast_pow]
  rfl
/-- One bit more, above all that are there. -/
theorem bit_step {l : List Int} {k : Nat} (hl : limbs l) (hk : k < 32 * l.length) (hv : val l < ((2 ^ k : Nat) : Int)) :
    bor .u32 (dg l (k / 32)) ((2 ^ (k % 32) : Nat) : Int) = dg l (k / 32) + ((2 ^ (k % 32) : Nat) : Int) ∧ 0 ≤ dg l (k / 32) + ((2 ^ (k % 32) : Nat) : Int) ∧ dg l (k / 32) + ((2 ^ (k % 32) : Nat) : Int) < 4294967296 ∧
    val (l.set (k / 32) (dg l (k / 32) + ((2 ^ (k % 32) : Nat) : Int))) = val l + ((2 ^ k : Nat) : Int) := by
  have hj : k / 32 < l.length := by omega
  obtain ⟨h0, h1⟩ := dg_range hl (k / 32)
  have hlow : dg l (k / 32) * ((2 ^ (32 * (k / 32)) : Nat) : Int) ≤ val l := by
    have a := val_take_drop l (k / 32) (by omega)
    rw [val_drop, pow32] at a
    have b := val_nonneg (limbs_take hl (k / 32))
    have c := val_nonneg (limbs_drop hl (k / 32 + 1))
    have hp : (0 : Int) ≤ ((2 ^ (32 * (k / 32)) : Nat) : Int) := Int.natCast_nonneg _
    have d : 0 ≤ ((2 ^ (32 * (k / 32)) : Nat) : Int) * (4294967296 * val (l.drop (k / 32 + 1))) := Int.mul_nonneg hp (by omega)
    rw [Int.mul_add] at a
    rw [Int.mul_comm]
    omega
  have hsplit : (2 ^ k : Nat) = 2 ^ (k % 32) * 2 ^ (32 * (k / 32)) := by
    rw [← Nat.pow_add]; congr 1; omega
  have hdg : dg l (k / 32) < ((2 ^ (k % 32) : Nat) : Int) := by
    have hp : (0 : Int) < ((2 ^ (32 * (k / 32)) : Nat) : Int) := by exact_mod_cast Nat.two_pow_pos _
    refine Int.lt_of_mul_lt_mul_right (a := ((2 ^ (32 * (k / 32)) : Nat) : Int)) ?_ (Int.le_of_lt hp)
    have e : ((2 ^ (k % 32) : Nat) : Int) * ((2 ^ (32 * (k / 32)) : Nat) : Int) = ((2 ^ k : Nat) : Int) := by rw [hsplit]; push_cast; rfl
    rw [e]
    omega
  obtain ⟨d, hd⟩ := Int.eq_ofNat_of_zero_le h0
  rw [hd] at hdg h1 ⊢
  have hd2 : d < 2 ^ (k % 32) := by omega
  have hp32 : 2 ^ (k % 32) ≤ 2 ^ 31 := Nat.pow_le_pow_right (by decide) (by omega)
  have hp31 : (2 : Nat) ^ 31 = 2147483648 := by decide
  refine ⟨?_, by omega, by omega, ?_⟩
  · rw [bor_u32 (by omega) (by omega), or_top hd2]; push_cast; rfl
  · rw [val_set l _ _ hj, hd, pow32]
    have e : (2 : Nat) ^ (32 * (k / 32)) * 2 ^ (k % 32) = 2 ^ k := by rw [hsplit, Nat.mul_comm]
    have : ((2 ^ (32 * (k / 32)) : Nat) : Int) * ((d : Int) + ((2 ^ (k % 32) : Nat) : Int) - (d : Int)) = ((2 ^ k : Nat) : Int) := by
      rw [← e]; push_cast; rw [show ((d : Int) + (2 : Int) ^ (k % 32) - (d : Int)) = (2 : Int) ^ (k % 32) by omega]
    omega
/-- The loop that puts so many bits there. -/
theorem bits_loop (f : Nat → List Int → Int → Option (List Int)) (m e : Nat) (hm : m < 9007199254740992) (he : e + 53 ≤ 320)
    (hf : ∀ N l v, f (N + 1) l v = if v < (53 : Int) then (shr .u64 (m : Int) v).bind fun x5 => if (band .u64 x5 (1 : Int)) = (1 : Int) then (idx l (IntKind.wrap .i64 (Int.tdiv (IntKind.wrap .i64 ((e : Int) + v)) (32 : Int)))).bind fun x7 => (shl .u32 (1 : Int) (Int.tmod (IntKind.wrap .i64 ((e : Int) + v)) (32 : Int))).bind fun x8 => (idx l (IntKind.wrap .i64 (Int.tdiv (IntKind.wrap .i64 ((e : Int) + v)) (32 : Int)))).bind fun x9 => f N (l.set ((IntKind.wrap .i64 (Int.tdiv (IntKind.wrap .i64 ((e : Int) + v)) (32 : Int))).toNat) (bor .u32 x7 x8)) (IntKind.wrap .i64 (v + (1 : Int))) else f N l (IntKind.wrap .i64 (v + (1 : Int))) else some l) :
    ∀ (d i : Nat) (l : List Int), i + d = 53 → l.length = 10 → limbs l → val l = ((m % 2 ^ i * 2 ^ e : Nat) : Int) → ∃ l', Ev (fun N => f N l (i : Int)) l' ∧ l'.length = 10 ∧ limbs l' ∧ val l' = ((m * 2 ^ e : Nat) : Int)
  | 0, i, l, hd, hl, hb, hv => by
    have hi : i = 53 := by omega
    subst hi
    refine ⟨l, Ev.step ?_ (fun N => hf N l _), hl, hb, ?_⟩
    · exact Ev.neg (by omega) (Ev.now _)
    · rw [hv, Nat.mod_eq_of_lt (by exact hm)]
  | d + 1, i, l, hd, hl, hb, hv => by
    have hm' : m < 18446744073709551616 := by omega
    have hq : m / 2 ^ i < 18446744073709551616 := Nat.lt_of_le_of_lt (Nat.div_le_self _ _) hm'
    have hnext : m % 2 ^ (i + 1) = m % 2 ^ i + 2 ^ i * (m / 2 ^ i % 2) := by rw [Nat.pow_succ, Nat.mod_mul]
    have hw : IntKind.wrap .i64 ((i : Int) + 1) = ((i + 1 : Nat) : Int) := wrap_succ (by omega)
    have hei : IntKind.wrap .i64 ((e : Int) + (i : Int)) = ((e + i : Nat) : Int) := by rw [wrapI _ (by omega) (by omega)]; push_cast; rfl
    have htd : IntKind.wrap .i64 (Int.tdiv ((e + i : Nat) : Int) 32) = (((e + i) / 32 : Nat) : Int) := by
      rw [Int.tdiv_eq_ediv_of_nonneg (Int.natCast_nonneg _), wrapI _ (by omega) (by omega)]; omega
    have htm : Int.tmod ((e + i : Nat) : Int) 32 = (((e + i) % 32 : Nat) : Int) := by
      rw [Int.tmod_eq_emod_of_nonneg (Int.natCast_nonneg _)]; omega
    have hvl : val l < ((2 ^ (e + i) : Nat) : Int) := by
      rw [hv]
      have h1 : m % 2 ^ i < 2 ^ i := Nat.mod_lt _ (Nat.two_pow_pos i)
      have : m % 2 ^ i * 2 ^ e < 2 ^ (e + i) := by
        rw [Nat.pow_add, Nat.mul_comm (2 ^ e)]
        exact Nat.mul_lt_mul_of_pos_right h1 (Nat.two_pow_pos e)
      exact_mod_cast this
    by_cases hbit : m / 2 ^ i % 2 = 1
    · obtain ⟨s1, s2, s3, s4⟩ := bit_step hb (by omega) hvl
      obtain ⟨l', k1, k2, k3, k4⟩ := bits_loop f m e hm he hf d (i + 1) (l.set ((e + i) / 32) (dg l ((e + i) / 32) + ((2 ^ ((e + i) % 32) : Nat) : Int))) (by omega) (by rw [List.length_set]; exact hl) (limbs_set hb _ s2 s3) (by
        rw [s4, hv, hnext, hbit, Nat.mul_one, Nat.add_mul, ← Nat.pow_add, Nat.add_comm i e]; push_cast; rfl)
      refine ⟨l', Ev.step ?_ (fun N => hf N l _), k2, k3, k4⟩
      rw [hei, htd, htm, hw]
      refine Ev.pos (by omega) (Ev.bindc (shr_nat (by omega)) (Ev.pos (by rw [band_one hq, hbit]; rfl) (Ev.bindc (idx_dg (by omega)) (Ev.bindc (shl_u32 (by omega)) (Ev.bindc (idx_dg (by omega)) ?_)))))
      rw [s1, Int.toNat_natCast]
      exact k1
    · obtain ⟨l', k1, k2, k3, k4⟩ := bits_loop f m e hm he hf d (i + 1) l (by omega) hl hb (by
        rw [hv, hnext, show m / 2 ^ i % 2 = 0 by omega, Nat.mul_zero, Nat.add_zero])
      refine ⟨l', Ev.step ?_ (fun N => hf N l _), k2, k3, k4⟩
      rw [hw]
      refine Ev.pos (by omega) (Ev.bindc (shr_nat (by omega)) (Ev.neg ?_ k1))
      rw [band_one hq]; omega
theorem mant_eq (t : Nat) (h : t < 18446744073709551616) : bor .u64 (band .u64 ((t : Nat) : Int) (4503599627370495 : Int)) (4503599627370496 : Int) = ((4503599627370496 + t % 4503599627370496 : Nat) : Int) := by
  have h1 := band_u64 (b := 4503599627370495) h (by decide)
  rw [show ((4503599627370495 : Nat) : Int) = 4503599627370495 from rfl, show (4503599627370495 : Nat) = 2 ^ 52 - 1 by decide, and_mask] at h1
  rw [h1]
  have h2 := bor_u64 (a := t % 2 ^ 52) (b := 4503599627370496) (by omega) (by decide)
  rw [show ((4503599627370496 : Nat) : Int) = 4503599627370496 from rfl] at h2
  rw [h2, show (4503599627370496 : Nat) = 2 ^ 52 by decide, or_top (Nat.mod_lt _ (Nat.two_pow_pos 52)), Nat.add_comm]
theorem expo_eq (t : Nat) (h : t < 18446744073709551616) : IntKind.wrap .i64 ((IntKind.wrap .i64 (band .u64 (Int.fdiv ((t : Nat) : Int) (2 ^ (min (Int.toNat (52 : Int)) (IntKind.bits .u64)))) (2047 : Int))) - (1075 : Int)) = ((t / 4503599627370496 % 2048 : Nat) : Int) - 1075 := by
  have e : (2 : Int) ^ (min (Int.toNat (52 : Int)) (IntKind.bits .u64)) = 4503599627370496 := by decide
  rw [e, Int.fdiv_eq_ediv_of_nonneg _ (by decide), show ((t : Nat) : Int) / 4503599627370496 = ((t / 4503599627370496 : Nat) : Int) by omega]
  have h1 := band_u64 (a := t / 4503599627370496) (b := 2047) (by omega) (by decide)
  rw [show ((2047 : Nat) : Int) = 2047 from rfl, show (2047 : Nat) = 2 ^ 11 - 1 by decide, and_mask] at h1
  rw [h1, wrapI ((t / 4503599627370496 % 2 ^ 11 : Nat) : Int) (by omega) (by omega), wrapI _ (by omega) (by omega)]
theorem numN_signed (s : Bool) (T : Nat) (c : Bool) (hc : c = true ↔ s = true ∧ T ≠ 0) : (if c = true then (⟨decide ((((toL T).length : Nat) : Int) > 0), toL T⟩ : Tapi_Num) else ⟨false, toL T⟩) = numN (if s then -(T : Int) else (T : Int)) := by
  have a := toL_empty (T : Int) (by omega)
  rw [Int.toNat_natCast] at a
  cases s with
  | true =>
    simp only [if_true]
    unfold numN
    rw [Int.natAbs_neg, Int.natAbs_natCast]
    by_cases h : T = 0
    · have hcf : c = false := by cases c with | true => exact absurd h (hc.1 rfl).2 | false => rfl
      subst h; subst hcf; rfl
    · have hct : c = true := hc.2 ⟨rfl, h⟩
      rw [if_pos hct]
      congr 1
      exact decide_eq_decide.2 (by omega)
  | false =>
    have hcf : c = false := by cases c with | true => exact absurd (hc.1 rfl).1 (by simp) | false => rfl
    subst hcf
    simp only [Bool.false_eq_true, if_false]
    unfold numN
    rw [Int.natAbs_natCast]
    congr 1
theorem sV_zero : sV 0 = 0 := by decide
theorem nan_zero : nanW 0 = false := by decide
end Go.Proofs.Ytllcnlonkloabaa.Sh
