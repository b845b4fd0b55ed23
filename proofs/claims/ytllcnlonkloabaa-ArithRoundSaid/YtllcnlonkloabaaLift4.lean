import Derived.Test.YtllcnlonkloabaaLift3
import Derived.Laws.FloatBits
/- LIFT, part Fl: floats of 64 bits by their rungs. -/
set_option linter.unusedVariables false
namespace Lift
open Go

/-- The magnitude on a rung, in units of 2^-1074 (infinity as if the rungs went on). -/
def VV (r : Nat) : Nat := if r < 4503599627370496 then r else (4503599627370496 + r % 4503599627370496) * 2 ^ (r / 4503599627370496 - 1)
theorem VV_low {r : Nat} (h : r < 4503599627370496) : VV r = r := if_pos h
theorem VV_high {r : Nat} (h : ¬ r < 4503599627370496) : VV r = (4503599627370496 + r % 4503599627370496) * 2 ^ (r / 4503599627370496 - 1) := if_neg h
theorem VV_succ (r : Nat) : VV r < VV (r + 1) := by
  by_cases h1 : r + 1 < 4503599627370496
  · rw [VV_low h1, VV_low (by omega)]; omega
  · by_cases h2 : r < 4503599627370496
    · have e : r = 4503599627370495 := by omega
      subst e
      rw [VV_low h2, VV_high h1]; decide
    · rw [VV_high h2, VV_high h1]
      by_cases h3 : r % 4503599627370496 + 1 < 4503599627370496
      · rw [show (r + 1) % 4503599627370496 = r % 4503599627370496 + 1 by omega, show (r + 1) / 4503599627370496 = r / 4503599627370496 by omega]
        exact Nat.mul_lt_mul_of_pos_right (by omega) (Nat.two_pow_pos _)
      · rw [show (r + 1) % 4503599627370496 = 0 by omega, show (r + 1) / 4503599627370496 - 1 = (r / 4503599627370496 - 1) + 1 by omega, Nat.pow_succ]
        have hp := Nat.two_pow_pos (r / 4503599627370496 - 1)
        generalize 2 ^ (r / 4503599627370496 - 1) = p at hp ⊢
        calc (4503599627370496 + r % 4503599627370496) * p < 9007199254740992 * p := Nat.mul_lt_mul_of_pos_right (by omega) hp
          _ = (4503599627370496 + 0) * (p * 2) := by omega
theorem VV_lt : ∀ {r s : Nat}, r < s → VV r < VV s
  | r, 0, h => absurd h (Nat.not_lt_zero r)
  | r, s + 1, h => by
    by_cases e : r = s
    · subst e; exact VV_succ r
    · exact Nat.lt_trans (VV_lt (r := r) (s := s) (by omega)) (VV_succ s)
theorem VV_lt_iff {r s : Nat} : VV r < VV s ↔ r < s := by
  constructor
  · intro h
    rcases Nat.lt_trichotomy r s with h1 | h1 | h1
    · exact h1
    · subst h1; exact absurd h (Nat.lt_irrefl _)
    · exact absurd (VV_lt h1) (Nat.lt_asymm h)
  · exact VV_lt
theorem VV_inj {r s : Nat} (h : VV r = VV s) : r = s := by
  rcases Nat.lt_trichotomy r s with h1 | h1 | h1
  · have := VV_lt h1; omega
  · exact h1
  · have := VV_lt h1; omega
theorem VV_zero : VV 0 = 0 := rfl
theorem VV_pos {r : Nat} : 0 < VV r ↔ 0 < r := by
  rw [← VV_lt_iff (r := 0) (s := r), VV_zero]

theorem nanW_rg (x : Nat) : nanW x = decide (9218868437227405312 < rg x) := rfl
/-- What a word stands for, in units of 2^-1074. -/
def sV (x : Nat) : Int := if sg x then -((VV (rg x) : Nat) : Int) else ((VV (rg x) : Nat) : Int)
theorem fm_least : FloatKind.f64.format.leastPlace = -1074 := by decide
theorem fm_frac : FloatKind.f64.format.fractionBits = 52 := by decide
theorem read_inf {x : Nat} (h : rg x = 9218868437227405312) : FloatKind.f64.format.read x = .infinity (sg x) := by
  have h : x % 9223372036854775808 = 9218868437227405312 := h
  unfold Ieee.Format.read
  simp only [fm_sign, fm_bin, fm_inf]
  rw [if_neg (by omega), if_neg (by omega), if_pos (by omega)]
  rfl
/-- The magnitude and the place above the least one. -/
def mg (r : Nat) : Nat := if r < 4503599627370496 then r else 4503599627370496 + r % 4503599627370496
def ex (r : Nat) : Nat := if r < 4503599627370496 then 0 else r / 4503599627370496 - 1
theorem mg_ex (r : Nat) : mg r * 2 ^ ex r = VV r := by
  unfold mg ex VV
  by_cases h : r < 4503599627370496
  · rw [if_pos h, if_pos h, if_pos h]; simp
  · rw [if_neg h, if_neg h, if_neg h]
theorem ex_mg (r : Nat) : ex r * 4503599627370496 + mg r = r := by
  unfold ex mg
  by_cases hb : r < 4503599627370496
  · rw [if_pos hb, if_pos hb]; omega
  · rw [if_neg hb, if_neg hb]; omega
theorem mg_lt (r : Nat) : mg r < 9007199254740992 := by unfold mg; split <;> omega
theorem mg_zero {r : Nat} : mg r = 0 ↔ r = 0 := by unfold mg; split <;> omega
theorem read_num {x : Nat} (h : rg x < 9218868437227405312) : FloatKind.f64.format.read x = .number (sg x) (mg (rg x)) (-1074 + (ex (rg x) : Int)) := by
  have h' : x % 9223372036854775808 < 9218868437227405312 := h
  unfold Ieee.Format.read
  simp only [fm_sign, fm_bin, fm_inf, fm_least]
  unfold mg ex
  by_cases h1 : x % 9223372036854775808 < 4503599627370496
  · rw [if_pos h1, if_pos (show rg x < 4503599627370496 from h1), if_pos (show rg x < 4503599627370496 from h1)]
    rfl
  · rw [if_neg h1, if_pos h', if_neg (show ¬ rg x < 4503599627370496 from h1), if_neg (show ¬ rg x < 4503599627370496 from h1)]
    rfl
theorem three (x : Nat) : nanW x = true ∨ rg x = 9218868437227405312 ∨ rg x < 9218868437227405312 := by
  rw [nanW_rg, decide_eq_true_eq]
  omega
theorem nan_no {x : Nat} (h : nanW x = false) : rg x = 9218868437227405312 ∨ rg x < 9218868437227405312 := by
  rcases three x with k | k
  · rw [k] at h; cases h
  · exact k

/-! ### How they stand to each other -/
def cmp3 (a b : Int) : Ordering := if a < b then .lt else if a = b then .eq else .gt
theorem compare_int (a b : Int) : compare a b = cmp3 a b := rfl
theorem cmp3_scale (a b : Int) {k : Int} (h : 0 < k) : cmp3 (a * k) (b * k) = cmp3 a b := by
  unfold cmp3
  have h1 : a * k < b * k ↔ a < b := Int.mul_lt_mul_right h
  have h2 : a * k = b * k ↔ a = b := Int.mul_eq_mul_right_iff (by omega)
  rw [if_congr h1 rfl (if_congr h2 rfl rfl)]
theorem cmp3_lt {a b : Int} : cmp3 a b = .lt ↔ a < b := by unfold cmp3; split <;> (try split) <;> simp <;> omega
theorem cmp3_eq {a b : Int} : cmp3 a b = .eq ↔ a = b := by unfold cmp3; split <;> (try split) <;> simp <;> omega
theorem cmp3_gt {a b : Int} : cmp3 a b = .gt ↔ b < a := by unfold cmp3; split <;> (try split) <;> simp <;> omega
theorem signed_scale (s : Bool) (m a k : Nat) : Ieee.signed s m a * ((2 ^ k : Nat) : Int) = if s then -((m * 2 ^ (a + k) : Nat) : Int) else ((m * 2 ^ (a + k) : Nat) : Int) := by
  unfold Ieee.signed
  rw [Nat.shiftLeft_eq]
  have e : m * 2 ^ a * 2 ^ k = m * 2 ^ (a + k) := by rw [Nat.mul_assoc, ← Nat.pow_add]
  cases s with
  | true => simp only [if_true]; rw [← e]; push_cast; rw [Int.neg_mul]
  | false => simp only [Bool.false_eq_true, if_false]; rw [← e]; push_cast; rfl
theorem order_num (s t : Bool) (m n a b : Nat) : Ieee.Datum.order (.number s m (-1074 + (a : Int))) (.number t n (-1074 + (b : Int))) = some (cmp3 (if s then -((m * 2 ^ a : Nat) : Int) else ((m * 2 ^ a : Nat) : Int)) (if t then -((n * 2 ^ b : Nat) : Int) else ((n * 2 ^ b : Nat) : Int))) := by
  show some (compare _ _) = _
  congr 1
  have e1 : (-1074 + (a : Int) - min (-1074 + (a : Int)) (-1074 + (b : Int))).toNat = a - min a b := by omega
  have e2 : (-1074 + (b : Int) - min (-1074 + (a : Int)) (-1074 + (b : Int))).toNat = b - min a b := by omega
  rw [e1, e2, compare_int, ← cmp3_scale _ _ (k := ((2 ^ (min a b) : Nat) : Int)) (by exact_mod_cast Nat.two_pow_pos _), signed_scale, signed_scale,
    show a - min a b + min a b = a by omega, show b - min a b + min a b = b by omega]
def infE : Nat := 2098
theorem VV_inf : VV 9218868437227405312 = 2 ^ infE := by
  have e1 : (4503599627370496 + 9218868437227405312 % 4503599627370496 : Nat) = 2 ^ 52 := by decide
  have e2 : (9218868437227405312 / 4503599627370496 - 1 : Nat) = infE - 52 := by decide
  have e3 : 52 + (infE - 52) = infE := rfl
  rw [VV_high (by decide), e1, e2, ← Nat.pow_add, e3]
theorem VV_inf_ge (k : Nat) (h : k ≤ 2098) : 2 ^ k ≤ VV 9218868437227405312 := by rw [VV_inf]; exact Nat.pow_le_pow_right (by decide) h
theorem VV_inf_lt (k : Nat) (h : 2098 < k) : VV 9218868437227405312 < 2 ^ k := by rw [VV_inf]; exact Nat.pow_lt_pow_right (by decide) h
/-- A unit's inverse. -/
def UUn : Nat := 1074
def UU : Nat := 2 ^ UUn
theorem UU_def : 2 ^ UUn = UU := rfl
theorem UU_pos : 0 < UU := Nat.two_pow_pos _
theorem UU_two (a b : Nat) (h : a + b = 1074) : UU = 2 ^ a * 2 ^ b := by
  have h : a + b = UUn := h
  rw [← Nat.pow_add, h]; rfl
theorem UU_up (a b : Nat) (h : b = a + 1074) : 2 ^ b = 2 ^ a * UU := by
  have h : b = a + UUn := h
  rw [h, Nat.pow_add]; rfl
theorem UU_ge (a : Nat) (h : a ≤ 1074) : 2 ^ a ≤ UU := Nat.pow_le_pow_right (by decide) (show a ≤ UUn from h)
theorem VV_fin {r : Nat} (h : r < 9218868437227405312) : VV r < VV 9218868437227405312 := VV_lt h
theorem ordW {x y : Nat} (hx : nanW x = false) (hy : nanW y = false) : FloatKind.f64.format.order x y = some (cmp3 (sV x) (sV y)) := by
  unfold Ieee.Format.order
  have hp : 0 < VV 9218868437227405312 := VV_pos.2 (by decide)
  rcases nan_no hx with hx | hx <;> rcases nan_no hy with hy | hy
  · rw [read_inf hx, read_inf hy]
    unfold sV
    rw [hx, hy]
    cases sg x <;> cases sg y
    · simp only [Bool.false_eq_true, if_false]; rw [cmp3_eq.2 rfl]; rfl
    · simp only [Bool.false_eq_true, if_false, if_true]; rw [cmp3_gt.2 (by omega)]; rfl
    · simp only [Bool.false_eq_true, if_false, if_true]; rw [cmp3_lt.2 (by omega)]; rfl
    · simp only [if_true]; rw [cmp3_eq.2 rfl]; rfl
  · have hf := VV_fin hy
    rw [read_inf hx, read_num hy]
    unfold sV
    rw [hx]
    cases sg x
    · have : cmp3 ((VV 9218868437227405312 : Nat) : Int) (if sg y then -((VV (rg y) : Nat) : Int) else ((VV (rg y) : Nat) : Int)) = .gt := cmp3_gt.2 (by split <;> omega)
      simp only [Bool.false_eq_true, if_false]; rw [this]; rfl
    · have : cmp3 (-((VV 9218868437227405312 : Nat) : Int)) (if sg y then -((VV (rg y) : Nat) : Int) else ((VV (rg y) : Nat) : Int)) = .lt := cmp3_lt.2 (by split <;> omega)
      simp only [if_true]; rw [this]; rfl
  · have hf := VV_fin hx
    rw [read_num hx, read_inf hy]
    unfold sV
    rw [hy]
    cases sg y
    · have : cmp3 (if sg x then -((VV (rg x) : Nat) : Int) else ((VV (rg x) : Nat) : Int)) ((VV 9218868437227405312 : Nat) : Int) = .lt := cmp3_lt.2 (by split <;> omega)
      simp only [Bool.false_eq_true, if_false]; rw [this]; rfl
    · have : cmp3 (if sg x then -((VV (rg x) : Nat) : Int) else ((VV (rg x) : Nat) : Int)) (-((VV 9218868437227405312 : Nat) : Int)) = .gt := cmp3_gt.2 (by split <;> omega)
      simp only [if_true]; rw [this]; rfl
  · rw [read_num hx, read_num hy, order_num, mg_ex, mg_ex]
    rfl
theorem flt_eq {x y : Nat} (hx : nanW x = false) (hy : nanW y = false) : flt x y = decide (sV x < sV y) := by
  unfold flt; rw [ordW hx hy, Bool.eq_iff_iff, decide_eq_true_eq, ← cmp3_lt]; simp
theorem fgt_eq {x y : Nat} (hx : nanW x = false) (hy : nanW y = false) : fgt x y = decide (sV y < sV x) := by
  unfold fgt; rw [ordW hx hy, Bool.eq_iff_iff, decide_eq_true_eq, ← cmp3_gt]; simp
theorem feq_eq {x y : Nat} (hx : nanW x = false) (hy : nanW y = false) : feq x y = decide (sV x = sV y) := by
  unfold feq; rw [ordW hx hy, Bool.eq_iff_iff, decide_eq_true_eq, ← cmp3_eq]; simp
theorem fne_eq {x y : Nat} (hx : nanW x = false) (hy : nanW y = false) : fne x y = !decide (sV x = sV y) := by
  rw [← feq_eq hx hy]; rfl
theorem fle_eq {x y : Nat} (hx : nanW x = false) (hy : nanW y = false) : fle x y = decide (sV x ≤ sV y) := by
  unfold fle; rw [ordW hx hy, Bool.eq_iff_iff, decide_eq_true_eq]
  simp only [Bool.or_eq_true, beq_iff_eq, Option.some.injEq, cmp3_lt, cmp3_eq]
  omega
theorem fge_eq {x y : Nat} (hx : nanW x = false) (hy : nanW y = false) : fge x y = decide (sV y ≤ sV x) := by
  unfold fge; rw [ordW hx hy, Bool.eq_iff_iff, decide_eq_true_eq]
  simp only [Bool.or_eq_true, beq_iff_eq, Option.some.injEq, cmp3_gt, cmp3_eq]
  omega
theorem fne_self (x : Nat) : fne x x = nanW x := by
  cases h : nanW x with
  | true => unfold fne; rw [ordN1 h]; rfl
  | false => rw [fne_eq h h]; simp
theorem nan_flt {x y : Nat} (h : nanW x = true ∨ nanW y = true) : flt x y = false ∧ fgt x y = false ∧ feq x y = false ∧ fle x y = false ∧ fge x y = false := by
  have e : FloatKind.f64.format.order x y = none := h.elim ordN1 ordN2
  unfold flt fgt feq fle fge
  rw [e]
  exact ⟨rfl, rfl, rfl, rfl, rfl⟩

/-! ### To the nearest -/
theorem log_lo {n : Nat} (h : n ≠ 0) : 2 ^ n.log2 ≤ n := Nat.log2_self_le h
theorem log_hi (n : Nat) : n < 2 ^ (n.log2 + 1) := Nat.lt_log2_self
/-- A rung of a binade: q * B + k. -/
theorem VV_at {q k : Nat} (h1 : k ≤ 9007199254740992) (h2 : q = 0 ∨ 4503599627370496 ≤ k) : VV (q * 4503599627370496 + k) = k * 2 ^ q := by
  by_cases hk : k < 4503599627370496
  · have hq : q = 0 := by omega
    subst hq
    rw [VV_low (by omega)]; simp
  · by_cases h3 : k < 9007199254740992
    · rw [VV_high (by omega), show (q * 4503599627370496 + k) / 4503599627370496 - 1 = q by omega, show (q * 4503599627370496 + k) % 4503599627370496 = k - 4503599627370496 by omega, show 4503599627370496 + (k - 4503599627370496) = k by omega]
    · have e : k = 9007199254740992 := by omega
      subst e
      rw [VV_high (by omega), show (q * 4503599627370496 + 9007199254740992) / 4503599627370496 - 1 = q + 1 by omega, show (q * 4503599627370496 + 9007199254740992) % 4503599627370496 = 0 by omega, Nat.pow_succ]
      omega
theorem cut_zero (way : Ieee.Toward) (neg : Bool) (n : Nat) : way.cut neg n 0 = n := by
  have e : (1 : Nat) <<< min 0 (n.log2 + 2) = 1 := by rw [Nat.zero_min]; rfl
  unfold Ieee.Toward.cut
  simp only [e, Nat.div_one, Nat.mod_one, Nat.mul_zero]
  cases way <;> simp
/-- What is cut off is nothing. -/
theorem cut_whole (way : Ieee.Toward) (neg : Bool) (k d : Nat) (hk : k ≠ 0) : way.cut neg (k * 2 ^ d) d = k := by
  have hle : d ≤ (k * 2 ^ d).log2 := (Nat.le_log2 (by have := Nat.two_pow_pos d; exact Nat.mul_ne_zero hk (by omega))).2 (Nat.le_mul_of_pos_left _ (by omega))
  have hp := Nat.two_pow_pos d
  have e : (1 : Nat) <<< min d ((k * 2 ^ d).log2 + 2) = 2 ^ d := by rw [show min d ((k * 2 ^ d).log2 + 2) = d by omega, Nat.shiftLeft_eq, Nat.one_mul]
  unfold Ieee.Toward.cut
  simp only [e, Nat.mul_div_cancel _ hp, Nat.mul_mod_left, Nat.mul_zero]
  cases way <;> simp <;> omega
theorem word_eq (neg : Bool) (r : Nat) : FloatKind.f64.format.word neg r = if neg then 9223372036854775808 + r else r := by
  unfold Ieee.Format.word; rw [fm_sign]
theorem log2_mul_pow (k d : Nat) (h : k ≠ 0) : (k * 2 ^ d).log2 = k.log2 + d := by
  have hp := Nat.two_pow_pos d
  have hne : k * 2 ^ d ≠ 0 := Nat.mul_ne_zero h (by omega)
  have a := log_lo h
  have b := log_hi k
  refine (Nat.log2_eq_iff hne).2 ⟨?_, ?_⟩
  · rw [Nat.pow_add]; exact Nat.mul_le_mul_right _ a
  · rw [show k.log2 + d + 1 = (k.log2 + 1) + d by omega, Nat.pow_add]; exact Nat.mul_lt_mul_of_pos_right b hp
/-- A number that a word has is that word. -/
theorem nearest_exact {neg : Bool} {mag r a b : Nat} {place : Int} (hr : r ≤ 9218868437227405312) (h : mag * 2 ^ a = VV r * 2 ^ b) (hp : place + (b : Int) = -1074 + (a : Int)) :
    FloatKind.f64.format.nearest neg mag place = if neg then 9223372036854775808 + r else r := by
  by_cases hm : mag = 0
  · have hv : VV r = 0 := by
      subst hm
      have hp := Nat.two_pow_pos b
      rw [Nat.zero_mul] at h
      exact (Nat.mul_eq_zero.1 h.symm).resolve_right (by omega)
    have hr0 : r = 0 := VV_inj (s := 0) (by rw [hv]; rfl)
    subst hr0
    unfold Ieee.Format.nearest
    rw [if_pos hm, word_eq]
  · have hv : VV r ≠ 0 := by
      intro e
      rw [e, Nat.zero_mul] at h
      have hp := Nat.two_pow_pos a
      exact hm ((Nat.mul_eq_zero.1 h).resolve_right (by omega))
    have hr0 : r ≠ 0 := fun e => hv (by rw [e]; rfl)
    have hk : mg r ≠ 0 := fun e => hr0 (mg_zero.1 e)
    have hq := ex_mg r
    have hlog : mag.log2 + a = (mg r).log2 + (ex r + b) := by
      rw [← log2_mul_pow _ _ hm, h, ← mg_ex r, Nat.mul_assoc, ← Nat.pow_add, log2_mul_pow _ _ hk]
    have hlk : (ex r = 0 ∧ (mg r).log2 ≤ 52) ∨ (mg r).log2 = 52 := by
      have h1 := mg_lt r
      have h3 := log_lo hk
      have h4 : (mg r).log2 < 53 := (Nat.log2_lt hk).2 (by omega)
      by_cases hb : r < 4503599627370496
      · left; unfold ex; rw [if_pos hb]; omega
      · right
        have h2 : 4503599627370496 ≤ mg r := by unfold mg; rw [if_neg hb]; omega
        have : 52 ≤ (mg r).log2 := (Nat.le_log2 hk).2 (by omega)
        omega
    unfold Ieee.Format.nearest
    rw [if_neg hm, word_eq]
    simp only [fm_frac, fm_least, fm_bin, fm_inf]
    have hlast : max (place + (mag.log2 : Int) - ((52 : Nat) : Int)) (-1074) = -1074 + (ex r : Int) := by omega
    rw [hlast]
    have hkept : Ieee.Toward.even.cut neg (mag <<< (place - (-1074 + (ex r : Int))).toNat) ((-1074 + (ex r : Int)) - place).toNat = mg r := by
      have h' : mag * 2 ^ a = mg r * 2 ^ (ex r + b) := by rw [h, ← mg_ex r, Nat.mul_assoc, ← Nat.pow_add]
      by_cases hc : ex r + b ≤ a
      · rw [show ((-1074 + (ex r : Int)) - place).toNat = 0 by omega, show (place - (-1074 + (ex r : Int))).toNat = a - (ex r + b) by omega, cut_zero, Nat.shiftLeft_eq]
        refine Nat.eq_of_mul_eq_mul_right (Nat.two_pow_pos (ex r + b)) ?_
        rw [Nat.mul_assoc, ← Nat.pow_add, show a - (ex r + b) + (ex r + b) = a by omega, h']
      · rw [show ((-1074 + (ex r : Int)) - place).toNat = ex r + b - a by omega, show (place - (-1074 + (ex r : Int))).toNat = 0 by omega, Nat.shiftLeft_eq, Nat.pow_zero, Nat.mul_one]
        have e : mag = mg r * 2 ^ (ex r + b - a) := by
          refine Nat.eq_of_mul_eq_mul_right (Nat.two_pow_pos a) ?_
          rw [h', Nat.mul_assoc, ← Nat.pow_add, show ex r + b - a + a = ex r + b by omega]
        rw [e, cut_whole _ _ _ _ hk]
    rw [hkept, show ((-1074 + (ex r : Int)) - -1074).toNat = ex r by omega, hq, Nat.min_eq_left hr]
end Lift

/- LIFT, part Fn: reckoning with floats of 64 bits. -/
set_option linter.unusedVariables false
namespace Lift
open Go Ieee

/-- The word of a sign and a rung. -/
def wd (s : Bool) (r : Nat) : Nat := if s then 9223372036854775808 + r else r
theorem rg_lt (x : Nat) : rg x < 9223372036854775808 := Nat.mod_lt _ (by decide)
theorem rg_wd (s : Bool) {r : Nat} (h : r < 9223372036854775808) : rg (wd s r) = r := by unfold rg wd; cases s <;> simp <;> omega
theorem sg_wd (s : Bool) {r : Nat} (h : r < 9223372036854775808) : sg (wd s r) = s := by
  unfold sg wd
  cases s
  · simp only [Bool.false_eq_true, if_false]; rw [show r / 9223372036854775808 = 0 by omega]; rfl
  · simp only [if_true]; rw [show (9223372036854775808 + r) / 9223372036854775808 = 1 by omega]; rfl
theorem wd_self {x : Nat} (h : x < 18446744073709551616) : wd (sg x) (rg x) = x := by
  unfold wd sg rg
  by_cases c : x < 9223372036854775808
  · rw [show x / 9223372036854775808 = 0 by omega]; simp; omega
  · rw [show x / 9223372036854775808 = 1 by omega]; simp; omega
theorem wd_lt (s : Bool) {r : Nat} (h : r < 9223372036854775808) : wd s r < 18446744073709551616 := by unfold wd; split <;> omega
theorem nan_wd (s : Bool) {r : Nat} (h : r ≤ 9218868437227405312) : nanW (wd s r) = false := by
  rw [nanW_rg, rg_wd s (by omega)]; exact decide_eq_false (by omega)
theorem wd_eq (s : Bool) (r : Nat) : FloatKind.f64.format.word s r = wd s r := word_eq s r
/-- The other sign. -/
def fflip (x : Nat) : Nat := if x < 9223372036854775808 then x + 9223372036854775808 else x - 9223372036854775808
theorem flip_wd (s : Bool) {r : Nat} (h : r < 9223372036854775808) : fflip (wd s r) = wd (!s) r := by
  unfold fflip wd
  cases s
  · simp only [Bool.false_eq_true, if_false, Bool.not_false, if_true]; rw [if_pos h]; omega
  · simp only [if_true, Bool.not_true, Bool.false_eq_true, if_false]; rw [if_neg (by omega)]; omega
theorem flip_lt {x : Nat} (h : x < 18446744073709551616) : fflip x < 18446744073709551616 := by unfold fflip; split <;> omega
theorem rg_flip {x : Nat} (h : x < 18446744073709551616) : rg (fflip x) = rg x := by unfold fflip rg; split <;> omega
theorem sg_flip {x : Nat} (h : x < 18446744073709551616) : sg (fflip x) = !sg x := by
  unfold fflip sg
  by_cases c : x < 9223372036854775808
  · rw [if_pos c, show (x + 9223372036854775808) / 9223372036854775808 = 1 by omega, show x / 9223372036854775808 = 0 by omega]; rfl
  · rw [if_neg c, show (x - 9223372036854775808) / 9223372036854775808 = 0 by omega, show x / 9223372036854775808 = 1 by omega]; rfl
theorem nan_flip {x : Nat} (h : x < 18446744073709551616) : nanW (fflip x) = nanW x := by
  show decide (9218868437227405312 < rg (fflip x)) = decide (9218868437227405312 < rg x)
  rw [rg_flip h]
/-! ### To the nearest, whatever the sign -/
theorem wd_false (r : Nat) : wd false r = r := by unfold wd; rw [if_neg (by simp)]
theorem even_cut (s : Bool) (n d : Nat) : Ieee.Toward.even.cut s n d = Ieee.Toward.even.cut false n d := by unfold Ieee.Toward.cut; rfl
def nearR (m : Nat) (p : Int) : Nat := FloatKind.f64.format.nearest false m p
theorem nearest_wd (s : Bool) (m : Nat) (p : Int) : FloatKind.f64.format.nearest s m p = wd s (nearR m p) := by
  unfold nearR Ieee.Format.nearest
  by_cases h : m = 0
  · rw [if_pos h, if_pos h, wd_eq, wd_eq, wd_false]
  · rw [if_neg h, if_neg h, wd_eq, wd_eq, wd_false]
    simp only [even_cut s]
theorem nearR_le (m : Nat) (p : Int) : nearR m p ≤ 9218868437227405312 := by
  unfold nearR Ieee.Format.nearest
  by_cases h : m = 0
  · rw [if_pos h, wd_eq, wd_false]; exact Nat.zero_le _
  · rw [if_neg h, wd_eq, wd_false]
    simp only [fm_inf]
    exact Nat.min_le_right _ _
theorem nearR_exact {mag r a b : Nat} {place : Int} (hr : r ≤ 9218868437227405312) (h : mag * 2 ^ a = VV r * 2 ^ b) (hp : place + (b : Int) = -1074 + (a : Int)) : nearR mag place = r := by
  unfold nearR
  rw [nearest_exact hr h hp, if_neg (by simp)]
theorem nearR_zero (p : Int) : nearR 0 p = 0 := by
  unfold nearR Ieee.Format.nearest
  rw [if_pos rfl, wd_eq, wd_false]
theorem write_num (s : Bool) (m : Nat) (p : Int) : FloatKind.f64.format.write (.number s m p) = wd s (nearR m p) := nearest_wd s m p
theorem write_inf (s : Bool) : FloatKind.f64.format.write (.infinity s) = wd s 9218868437227405312 := by
  show FloatKind.f64.format.word s FloatKind.f64.format.infRung = _
  rw [wd_eq, fm_inf]
/-- A word's datum, if it is a number or an infinity. -/
theorem read_wd (s : Bool) {r : Nat} (h : r ≤ 9218868437227405312) : FloatKind.f64.format.read (wd s r) = if r = 9218868437227405312 then .infinity s else .number s (mg r) (-1074 + (ex r : Int)) := by
  have h1 := rg_wd s (r := r) (by omega)
  have h2 := sg_wd s (r := r) (by omega)
  by_cases c : r = 9218868437227405312
  · rw [if_pos c, read_inf (by rw [h1]; exact c), h2]
  · rw [if_neg c, read_num (by rw [h1]; omega), h1, h2]
theorem read_flip {x : Nat} (h : x < 18446744073709551616) : FloatKind.f64.format.read (fflip x) = (FloatKind.f64.format.read x).opposite := by
  have hr := rg_flip h
  have hs := sg_flip h
  rcases three x with k | k | k
  · rw [read_nan k, read_nan (by rw [nan_flip h]; exact k), hr, hs]; rfl
  · rw [read_inf k, read_inf (by rw [hr]; exact k), hs]; rfl
  · rw [read_num k, read_num (by rw [hr]; exact k), hr, hs]; rfl
/-! ### Sums -/
theorem signed_zero (s : Bool) (u : Nat) : Ieee.signed s 0 u = 0 := by unfold Ieee.signed; cases s <;> simp
theorem signed_opp (s : Bool) (m u : Nat) : Ieee.signed (!s) m u = -(Ieee.signed s m u) := by unfold Ieee.signed; cases s <;> simp
theorem sum_comm (d e : Datum) : d.sum e = e.sum d := by
  cases d with
  | nan s f => cases e <;> rfl
  | infinity s => cases e with
    | nan t g => rfl
    | infinity t => cases s <;> cases t <;> rfl
    | number t n j => rfl
  | number s m i => cases e with
    | nan t g => rfl
    | infinity t => rfl
    | number t n j =>
      simp only [Datum.sum]
      rw [Int.min_comm i j, Int.add_comm (Ieee.signed s m _), Bool.and_comm]
theorem fadd_comm (x y : Nat) : fadd x y = fadd y x := by
  unfold fadd Ieee.Format.add
  rw [sum_comm]
theorem product_comm (d e : Datum) : d.product e = e.product d := by
  cases d with
  | nan s f => cases e <;> rfl
  | infinity s => cases e with
    | nan t g => rfl
    | infinity t => simp only [Datum.product]; rw [Bool.xor_comm]
    | number t n j => simp only [Datum.product]; try rw [Bool.xor_comm]
  | number s m i => cases e with
    | nan t g => rfl
    | infinity t => simp only [Datum.product]; try rw [Bool.xor_comm]
    | number t n j => simp only [Datum.product]; rw [Bool.xor_comm, Nat.mul_comm, Int.add_comm]
theorem fmul_comm (x y : Nat) : fmul x y = fmul y x := by
  unfold fmul Ieee.Format.mul
  rw [product_comm]
theorem fadd_nan {x y : Nat} (h : nanW x = true ∨ nanW y = true) : fadd x y = none := by
  unfold fadd Ieee.Format.add
  rcases h with h | h
  · rw [read_nan h]; cases FloatKind.f64.format.read y <;> rfl
  · rw [read_nan h]; cases FloatKind.f64.format.read x <;> rfl
theorem fsub_nan {x y : Nat} (h : nanW x = true ∨ nanW y = true) : fsub x y = none := by
  unfold fsub Ieee.Format.sub
  rcases h with h | h
  · rw [read_nan h]; cases (FloatKind.f64.format.read y) <;> rfl
  · rw [read_nan h]; cases FloatKind.f64.format.read x <;> rfl
theorem fmul_nan {x y : Nat} (h : nanW x = true ∨ nanW y = true) : fmul x y = none := by
  unfold fmul Ieee.Format.mul
  rcases h with h | h
  · rw [read_nan h]; cases FloatKind.f64.format.read y <;> rfl
  · rw [read_nan h]; cases FloatKind.f64.format.read x <;> rfl
theorem fdiv_nan {x y : Nat} (h : nanW x = true ∨ nanW y = true) : fdiv x y = none := by
  unfold fdiv Ieee.Format.div
  rcases h with h | h
  · rw [read_nan h]; cases FloatKind.f64.format.read y <;> rfl
  · rw [read_nan h]; cases FloatKind.f64.format.read x <;> rfl
theorem signed_shift (s : Bool) (m u : Nat) : Ieee.signed s m u = if s then -((m * 2 ^ u : Nat) : Int) else ((m * 2 ^ u : Nat) : Int) := by
  unfold Ieee.signed; rw [Nat.shiftLeft_eq]
theorem nearR_at {r : Nat} (h : r ≤ 9218868437227405312) : nearR (VV r) (-1074) = r := nearR_exact (a := 0) (b := 0) h rfl rfl
/-- Nothing added. -/
theorem fadd_zero (s : Bool) {r : Nat} (h : r ≤ 9218868437227405312) : fadd (wd s r) 0 = some (if r = 0 then 0 else wd s r) := by
  have h0 : FloatKind.f64.format.read 0 = .number false 0 (-1074) := by
    have := read_wd false (r := 0) (by decide)
    exact this
  unfold fadd Ieee.Format.add
  rw [read_wd s h, h0]
  by_cases c : r = 9218868437227405312
  · rw [if_pos c, if_neg (by omega)]
    show some (FloatKind.f64.format.write (.infinity s)) = _
    rw [write_inf, c]
  · rw [if_neg c]
    have e1 : ((-1074 + (ex r : Int)) - -1074).toNat = ex r := by omega
    have e3 : min (-1074 + (ex r : Int)) (-1074) = -1074 := by omega
    have hv : mg r * 2 ^ ex r = VV r := mg_ex r
    simp only [Datum.sum, Option.map_some, e3]
    congr 1
    rw [write_num, e1, signed_zero, Int.add_zero, signed_shift, hv]
    have hp : VV r = 0 ↔ r = 0 := ⟨fun h => VV_inj (s := 0) (by rw [h]; rfl), fun h => by rw [h]; rfl⟩
    by_cases z : r = 0
    · rw [if_pos z, hp.2 z]
      cases s <;> simp [nearR_zero, wd]
    · rw [if_neg z]
      have hne : VV r ≠ 0 := fun q => z (hp.1 q)
      cases s with
      | true =>
        simp only [if_true]
        rw [if_neg (by omega), decide_eq_true (by omega), Int.natAbs_neg, Int.natAbs_natCast, nearR_at h]
      | false =>
        simp only [Bool.false_eq_true, if_false]
        rw [if_neg (by omega), decide_eq_false (by omega), Int.natAbs_natCast, nearR_at h]
/-- What is taken from itself. -/
theorem fsub_self (s : Bool) {r : Nat} (h : r ≤ 9218868437227405312) : fsub (wd s r) (wd s r) = if r = 9218868437227405312 then none else some 0 := by
  unfold fsub Ieee.Format.sub
  rw [read_wd s h]
  by_cases c : r = 9218868437227405312
  · rw [if_pos c, if_pos c]; cases s <;> rfl
  · rw [if_neg c, if_neg c]
    simp only [Datum.opposite, Datum.sum, Int.min_self, Int.sub_self, signed_opp]
    rw [Int.add_right_neg, if_pos rfl]
    show some (FloatKind.f64.format.write (.number (s && !s) 0 _)) = _
    rw [write_num, nearR_zero]
    cases s <;> rfl
/-! ### Products and quotients by one -/
def oneR : Nat := 4607182418800017408
theorem one_mg : mg oneR = 4503599627370496 := by decide
theorem one_ex : ex oneR = 1022 := by decide
theorem fmul_one (s t : Bool) {r : Nat} (h : r ≤ 9218868437227405312) : fmul (wd s r) (wd t oneR) = some (wd (s ^^ t) r) := by
  unfold fmul Ieee.Format.mul
  rw [read_wd s h, read_wd t (r := oneR) (by decide), if_neg (show ¬ oneR = 9218868437227405312 by decide), one_mg, one_ex]
  by_cases c : r = 9218868437227405312
  · rw [if_pos c]
    show some (FloatKind.f64.format.write (.infinity (s ^^ t))) = _
    rw [write_inf, c]
  · rw [if_neg c]
    show some (FloatKind.f64.format.write (.number (s ^^ t) _ _)) = _
    rw [write_num, nearR_exact (a := ex r) (b := 52) h ?_ (by omega)]
    rw [← mg_ex r, Nat.mul_assoc, Nat.mul_assoc, Nat.mul_comm (2 ^ ex r), show (4503599627370496 : Nat) = 2 ^ 52 by decide]
theorem fdiv_one (s : Bool) {r : Nat} (h : r ≤ 9218868437227405312) : fdiv (wd s r) (wd false oneR) = some (wd s r) := by
  unfold fdiv Ieee.Format.div
  rw [read_wd s h, read_wd false (r := oneR) (by decide), if_neg (show ¬ oneR = 9218868437227405312 by decide), one_mg, one_ex]
  by_cases c : r = 9218868437227405312
  · rw [if_pos c]
    show some (FloatKind.f64.format.write (.infinity (s ^^ false))) = _
    rw [write_inf, c, Bool.xor_false]
  · rw [if_neg c]
    have hl : Nat.log2 4503599627370496 = 52 := by decide
    have hm : (mg r).log2 ≤ 52 := by
      by_cases z : mg r = 0
      · rw [z]; decide
      · have := (Nat.log2_lt z).2 (show mg r < 2 ^ 53 by have := mg_lt r; omega); omega
    simp only [Datum.quotient, fm_frac, hl]
    rw [if_neg (by decide)]
    show some (FloatKind.f64.format.write (.number (s ^^ false) _ _)) = _
    have hmore : 52 + 2 + 52 - (mg r).log2 = 52 + (54 - (mg r).log2) := by omega
    have hdiv : mg r <<< (52 + 2 + 52 - (mg r).log2) / 4503599627370496 = mg r * 2 ^ (54 - (mg r).log2) := by
      rw [Nat.shiftLeft_eq, hmore, Nat.pow_add, show (4503599627370496 : Nat) = 2 ^ 52 by decide, Nat.mul_comm (2 ^ 52), ← Nat.mul_assoc, Nat.mul_div_cancel _ (Nat.two_pow_pos 52)]
    have hmod : mg r <<< (52 + 2 + 52 - (mg r).log2) % 4503599627370496 = 0 := by
      rw [Nat.shiftLeft_eq, hmore, Nat.pow_add, show (4503599627370496 : Nat) = 2 ^ 52 by decide, Nat.mul_comm (2 ^ 52), ← Nat.mul_assoc, Nat.mul_mod_left]
    rw [hdiv, hmod, write_num, Bool.xor_false]
    have e0 : ((0 : Nat) != 0).toNat = 0 := rfl
    rw [e0, Nat.add_zero, nearR_exact (a := ex r) (b := 55 - (mg r).log2) h ?_ (by omega)]
    rw [← mg_ex r, show 55 - (mg r).log2 = (54 - (mg r).log2) + 1 by omega, Nat.pow_succ]
    generalize 2 ^ (54 - (mg r).log2) = P
    generalize 2 ^ ex r = Q
    rw [Nat.mul_assoc (mg r) Q, Nat.mul_comm Q (P * 2), Nat.mul_comm P 2, Nat.mul_assoc 2, ← Nat.mul_assoc 2 (mg r * P) Q, Nat.mul_comm 2 (mg r * P), Nat.mul_assoc (mg r), Nat.mul_assoc (mg r), Nat.mul_comm P 2]
/-! ### The other sign -/
theorem product_opp (d e : Datum) : d.opposite.product e = (d.product e).map Datum.opposite := by
  cases d with
  | nan s f => cases e <;> rfl
  | infinity s => cases e with
    | nan t g => rfl
    | infinity t => cases s <;> cases t <;> rfl
    | number t n j =>
      simp only [Datum.opposite, Datum.product]
      by_cases h : n = 0
      · rw [if_pos h, if_pos h]; rfl
      · rw [if_neg h, if_neg h]; cases s <;> cases t <;> rfl
  | number s m i => cases e with
    | nan t g => rfl
    | infinity t =>
      simp only [Datum.opposite, Datum.product]
      by_cases h : m = 0
      · rw [if_pos h, if_pos h]; rfl
      · rw [if_neg h, if_neg h]; cases s <;> cases t <;> rfl
    | number t n j => cases s <;> cases t <;> rfl
theorem quotient_opp (k : Nat) (d e : Datum) : d.opposite.quotient k e = (d.quotient k e).map Datum.opposite := by
  cases d with
  | nan s f => cases e <;> rfl
  | infinity s => cases e with
    | nan t g => rfl
    | infinity t => rfl
    | number t n j => cases s <;> cases t <;> rfl
  | number s m i => cases e with
    | nan t g => rfl
    | infinity t => cases s <;> cases t <;> rfl
    | number t n j =>
      simp only [Datum.opposite, Datum.quotient]
      by_cases h : n = 0
      · rw [if_pos h, if_pos h]
        by_cases z : m = 0
        · rw [if_pos z, if_pos z]; rfl
        · rw [if_neg z, if_neg z]; cases s <;> cases t <;> rfl
      · rw [if_neg h, if_neg h]; cases s <;> cases t <;> rfl
theorem quotient_opp2 (k : Nat) (d e : Datum) : d.quotient k e.opposite = (d.quotient k e).map Datum.opposite := by
  cases d with
  | nan s f => cases e <;> rfl
  | infinity s => cases e with
    | nan t g => rfl
    | infinity t => rfl
    | number t n j => cases s <;> cases t <;> rfl
  | number s m i => cases e with
    | nan t g => rfl
    | infinity t => cases s <;> cases t <;> rfl
    | number t n j =>
      simp only [Datum.opposite, Datum.quotient]
      by_cases h : n = 0
      · rw [if_pos h, if_pos h]
        by_cases z : m = 0
        · rw [if_pos z, if_pos z]; rfl
        · rw [if_neg z, if_neg z]; cases s <;> cases t <;> rfl
      · rw [if_neg h, if_neg h]; cases s <;> cases t <;> rfl
/-- What is written is of the other sign, if it is no NaN. -/
def NoNan : Datum → Prop
  | .nan .. => False
  | _ => True
theorem write_opp {d : Datum} (h : NoNan d) : FloatKind.f64.format.write d.opposite = fflip (FloatKind.f64.format.write d) := by
  cases d with
  | nan s f => exact h.elim
  | infinity s =>
    show FloatKind.f64.format.write (.infinity (!s)) = _
    rw [write_inf, write_inf, flip_wd _ (by decide)]
  | number s m i =>
    show FloatKind.f64.format.write (.number (!s) m i) = _
    have := nearR_le m i
    rw [write_num, write_num, flip_wd _ (by omega)]
theorem write_nonan {d : Datum} (h : NoNan d) : nanW (FloatKind.f64.format.write d) = false ∧ FloatKind.f64.format.write d < 18446744073709551616 := by
  cases d with
  | nan s f => exact h.elim
  | infinity s => rw [write_inf]; exact ⟨nan_wd s (by decide), wd_lt s (by decide)⟩
  | number s m i =>
    have := nearR_le m i
    rw [write_num]; exact ⟨nan_wd s this, wd_lt s (by omega)⟩
theorem sum_nonan {d e r : Datum} (h : d.sum e = some r) : NoNan r := by
  cases d with
  | nan s f => cases e <;> cases h
  | infinity s => cases e with
    | nan t g => cases h
    | infinity t =>
      simp only [Datum.sum] at h
      split at h
      · injection h with h; subst h; trivial
      · cases h
    | number t n j => injection h with h; subst h; trivial
  | number s m i => cases e with
    | nan t g => cases h
    | infinity t => injection h with h; subst h; trivial
    | number t n j => injection h with h; subst h; trivial
theorem product_nonan {d e r : Datum} (h : d.product e = some r) : NoNan r := by
  cases d with
  | nan s f => cases e <;> cases h
  | infinity s => cases e with
    | nan t g => cases h
    | infinity t => injection h with h; subst h; trivial
    | number t n j =>
      simp only [Datum.product] at h
      split at h
      · cases h
      · injection h with h; subst h; trivial
  | number s m i => cases e with
    | nan t g => cases h
    | infinity t =>
      simp only [Datum.product] at h
      split at h
      · cases h
      · injection h with h; subst h; trivial
    | number t n j => injection h with h; subst h; trivial
theorem quotient_nonan {k : Nat} {d e r : Datum} (h : d.quotient k e = some r) : NoNan r := by
  cases d with
  | nan s f => cases e <;> cases h
  | infinity s => cases e with
    | nan t g => cases h
    | infinity t => cases h
    | number t n j => injection h with h; subst h; trivial
  | number s m i => cases e with
    | nan t g => cases h
    | infinity t => injection h with h; subst h; trivial
    | number t n j =>
      simp only [Datum.quotient] at h
      split at h
      · split at h
        · cases h
        · injection h with h; subst h; trivial
      · injection h with h; subst h; trivial
theorem fadd_nonan {x y z : Nat} (h : fadd x y = some z) : nanW z = false ∧ z < 18446744073709551616 := by
  unfold fadd Ieee.Format.add at h
  obtain ⟨r, hr, rfl⟩ := Option.map_eq_some_iff.1 h
  exact write_nonan (sum_nonan hr)
theorem fmul_nonan {x y z : Nat} (h : fmul x y = some z) : nanW z = false ∧ z < 18446744073709551616 := by
  unfold fmul Ieee.Format.mul at h
  obtain ⟨r, hr, rfl⟩ := Option.map_eq_some_iff.1 h
  exact write_nonan (product_nonan hr)
theorem fdiv_nonan {x y z : Nat} (h : fdiv x y = some z) : nanW z = false ∧ z < 18446744073709551616 := by
  unfold fdiv Ieee.Format.div at h
  obtain ⟨r, hr, rfl⟩ := Option.map_eq_some_iff.1 h
  exact write_nonan (quotient_nonan hr)
theorem map_write_opp {o : Option Datum} (h : ∀ r, o = some r → NoNan r) : (o.map Datum.opposite).map FloatKind.f64.format.write = (o.map FloatKind.f64.format.write).map fflip := by
  cases o with
  | none => rfl
  | some d => simp only [Option.map_some]; rw [write_opp (h d rfl)]
theorem fmul_flip {x : Nat} (y : Nat) (h : x < 18446744073709551616) : fmul (fflip x) y = (fmul x y).map fflip := by
  unfold fmul Ieee.Format.mul
  rw [read_flip h, product_opp, map_write_opp fun r hr => product_nonan hr]
theorem fdiv_flip {x : Nat} (y : Nat) (h : x < 18446744073709551616) : fdiv (fflip x) y = (fdiv x y).map fflip := by
  unfold fdiv Ieee.Format.div
  rw [read_flip h, quotient_opp, map_write_opp fun r hr => quotient_nonan hr]
theorem fdiv_flip2 (x : Nat) {y : Nat} (h : y < 18446744073709551616) : fdiv x (fflip y) = (fdiv x y).map fflip := by
  unfold fdiv Ieee.Format.div
  rw [read_flip h, quotient_opp2, map_write_opp fun r hr => quotient_nonan hr]
theorem fsub_flip (x : Nat) {y : Nat} (h : y < 18446744073709551616) : fsub x y = fadd x (fflip y) := by
  unfold fsub fadd Ieee.Format.sub Ieee.Format.add
  rw [read_flip h]
/-- Sums of two that are turned. -/
theorem fadd_flip {x y : Nat} (hx : x < 18446744073709551616) (hy : y < 18446744073709551616) :
    (fadd x y = none ∧ fadd (fflip x) (fflip y) = none) ∨ ∃ z z', fadd x y = some z ∧ fadd (fflip x) (fflip y) = some z' ∧ (z' = fflip z ∨ (rg z = 0 ∧ rg z' = 0)) := by
  have e1 : fadd x y = ((FloatKind.f64.format.read x).sum (FloatKind.f64.format.read y)).map FloatKind.f64.format.write := rfl
  have e2 : fadd (fflip x) (fflip y) = ((FloatKind.f64.format.read x).opposite.sum (FloatKind.f64.format.read y).opposite).map FloatKind.f64.format.write := by
    rw [← read_flip hx, ← read_flip hy]; rfl
  rw [e1, e2]
  cases FloatKind.f64.format.read x with
  | nan s f => cases FloatKind.f64.format.read y <;> exact .inl ⟨rfl, rfl⟩
  | infinity s => cases FloatKind.f64.format.read y with
    | nan t g => exact .inl ⟨rfl, rfl⟩
    | infinity t =>
      by_cases h : s = t
      · subst h
        refine .inr ⟨wd s 9218868437227405312, wd (!s) 9218868437227405312, ?_, ?_, .inl (flip_wd s (by decide)).symm⟩
        · simp only [Datum.sum, if_true, Option.map_some, write_inf]
        · simp only [Datum.opposite, Datum.sum, if_true, Option.map_some, write_inf]
      · refine .inl ⟨?_, ?_⟩
        · simp only [Datum.sum, if_neg h, Option.map_none]
        · have h' : ¬ (!s) = (!t) := by cases s <;> cases t <;> simp_all
          simp only [Datum.opposite, Datum.sum, if_neg h', Option.map_none]
    | number t n j =>
      refine .inr ⟨wd s 9218868437227405312, wd (!s) 9218868437227405312, ?_, ?_, .inl (flip_wd s (by decide)).symm⟩
      · simp only [Datum.sum, Option.map_some, write_inf]
      · simp only [Datum.opposite, Datum.sum, Option.map_some, write_inf]
  | number s m i => cases FloatKind.f64.format.read y with
    | nan t g => exact .inl ⟨rfl, rfl⟩
    | infinity t =>
      refine .inr ⟨wd t 9218868437227405312, wd (!t) 9218868437227405312, ?_, ?_, .inl (flip_wd t (by decide)).symm⟩
      · simp only [Datum.sum, Option.map_some, write_inf]
      · simp only [Datum.opposite, Datum.sum, Option.map_some, write_inf]
    | number t n j =>
      simp only [Datum.opposite, Datum.sum, Option.map_some, signed_opp, write_num]
      generalize Ieee.signed s m (i - min i j).toNat = A
      generalize Ieee.signed t n (j - min i j).toNat = B
      have hneg : -A + -B = -(A + B) := by omega
      rw [hneg]
      generalize A + B = T
      refine .inr ⟨_, _, rfl, rfl, ?_⟩
      by_cases h : T = 0
      · right
        subst h
        have e : (0 : Int).natAbs = 0 := rfl
        have e' : (-(0 : Int)).natAbs = 0 := rfl
        rw [e, e', nearR_zero, rg_wd _ (by decide), rg_wd _ (by decide)]
        exact ⟨rfl, rfl⟩
      · left
        have := nearR_le T.natAbs (min i j)
        rw [if_neg h, if_neg (by omega), Int.natAbs_neg, flip_wd _ (by omega)]
        congr 1
        by_cases h0 : T < 0
        · rw [decide_eq_true h0, decide_eq_false (by omega)]; rfl
        · rw [decide_eq_false h0, decide_eq_true (by omega)]; rfl
end Lift

/- LIFT, part Fr: rounding to floats of 64 bits. -/
set_option linter.unusedVariables false
namespace Lift
open Go Ieee

def cutE (n d : Nat) : Nat := Toward.even.cut false n d
theorem cutE_eq {n d : Nat} (h : d ≤ n.log2 + 2) : cutE n d = n / 2 ^ d + (if 2 ^ d < 2 * (n % 2 ^ d) ∨ (2 ^ d = 2 * (n % 2 ^ d) ∧ n / 2 ^ d % 2 = 1) then 1 else 0) := by
  have e : (1 : Nat) <<< min d (n.log2 + 2) = 2 ^ d := by rw [Nat.min_eq_left h, Nat.shiftLeft_eq, Nat.one_mul]
  unfold cutE Toward.cut
  simp only [e]
  congr 1
  by_cases h1 : 2 ^ d < 2 * (n % 2 ^ d)
  · simp [h1]
  · by_cases h2 : 2 ^ d = 2 * (n % 2 ^ d) ∧ n / 2 ^ d % 2 = 1
    · obtain ⟨a, b⟩ := h2
      rw [if_pos (.inr ⟨a, b⟩), decide_eq_false h1, b]
      simp [← a]
    · rw [if_neg (by rintro (h | h); exact h1 h; exact h2 h), decide_eq_false h1]
      simp only [Bool.false_or]
      by_cases a : 2 ^ d = 2 * (n % 2 ^ d)
      · have b : ¬ n / 2 ^ d % 2 = 1 := fun b => h2 ⟨a, b⟩
        simp [b]
      · have : (2 ^ d == 2 * (n % 2 ^ d)) = false := by simpa using a
        simp [this]
/-- The nearest float of a whole number that has bits to lose, or just as many as a float. -/
theorem nearR_big {m : Nat} (h : 4503599627370496 ≤ m) : nearR m 0 = min ((m.log2 - 52 + 1074) * 4503599627370496 + cutE m (m.log2 - 52)) 9218868437227405312 := by
  have hm : m ≠ 0 := by omega
  have hl : 52 ≤ m.log2 := (Nat.le_log2 hm).2 (by omega)
  unfold nearR Format.nearest
  rw [if_neg hm, wd_eq, wd_false]
  simp only [fm_frac, fm_least, fm_bin, fm_inf]
  have e1 : max ((0 : Int) + (m.log2 : Int) - ((52 : Nat) : Int)) (-1074) = ((m.log2 - 52 : Nat) : Int) := by omega
  rw [e1]
  have e2 : ((0 : Int) - ((m.log2 - 52 : Nat) : Int)).toNat = 0 := by omega
  have e3 : (((m.log2 - 52 : Nat) : Int) - 0).toNat = m.log2 - 52 := by omega
  have e4 : (((m.log2 - 52 : Nat) : Int) - -1074).toNat = m.log2 - 52 + 1074 := by omega
  rw [e2, e3, e4, Nat.shiftLeft_zero]
  rfl
theorem cutE_le {n d : Nat} (h : d ≤ n.log2 + 2) : cutE n d ≤ n / 2 ^ d + 1 := by
  rw [cutE_eq h]; split <;> omega
/-- What is lost counts as one bit. -/
theorem cut_sticky {t e low : Nat} (hlow : low < 2 ^ e) (ht : 9223372036854775808 ≤ t) (ht2 : t < 18446744073709551616) :
    cutE (t * 2 ^ e + low) (11 + e) = cutE (t ||| (if low ≠ 0 then 1 else 0)) 11 := by
  have hp := Nat.two_pow_pos e
  have hT : t ||| (if low ≠ 0 then 1 else 0) = if low ≠ 0 ∧ t % 2 = 0 then t + 1 else t := by
    by_cases c : low ≠ 0
    · rw [if_pos c]
      by_cases d : t % 2 = 0
      · rw [if_pos ⟨c, d⟩]
        have := Nat.two_pow_add_eq_or_of_lt (show 1 < 2 ^ 1 by decide) (t / 2)
        rw [show 2 ^ 1 * (t / 2) = t by omega] at this
        exact this.symm
      · rw [if_neg (fun h => d h.2)]
        have := Nat.two_pow_add_eq_or_of_lt (show 1 < 2 ^ 1 by decide) (t / 2)
        have e1 : t = 2 ^ 1 * (t / 2) ||| 1 := by rw [← this]; omega
        rw [e1, Nat.or_assoc, Nat.or_self]
    · rw [if_neg c, if_neg (fun h => c h.1), Nat.or_zero]
  have hn : t * 2 ^ e + low ≠ 0 := by have := Nat.mul_le_mul_right (2 ^ e) ht; omega
  have hlogn : 63 + e ≤ (t * 2 ^ e + low).log2 := (Nat.le_log2 hn).2 (by
    rw [Nat.pow_add]; have := Nat.mul_le_mul_right (2 ^ e) ht; rw [show (9223372036854775808 : Nat) = 2 ^ 63 by decide] at this; omega)
  rw [hT]
  have hlogT : 63 ≤ (if low ≠ 0 ∧ t % 2 = 0 then t + 1 else t).log2 := (Nat.le_log2 (by split <;> omega)).2 (by split <;> omega)
  rw [cutE_eq (by omega), cutE_eq (by omega)]
  have hdiv : (t * 2 ^ e + low) / 2 ^ (11 + e) = t / 2048 := by
    rw [Nat.add_comm 11 e, Nat.pow_add, ← Nat.div_div_eq_div_mul, Nat.mul_comm t, Nat.mul_add_div hp, Nat.div_eq_of_lt hlow, Nat.add_zero]
  have hmod : (t * 2 ^ e + low) % 2 ^ (11 + e) = t % 2048 * 2 ^ e + low := by
    rw [Nat.add_comm 11 e, Nat.pow_add, Nat.mod_mul, Nat.mul_comm t, Nat.mul_add_mod, Nat.mod_eq_of_lt hlow, Nat.mul_add_div hp, Nat.div_eq_of_lt hlow, Nat.add_zero]
    rw [Nat.mul_comm (2 ^ e)]
    show low + t % 2048 * 2 ^ e = _
    omega
  have hgap : (2 : Nat) ^ (11 + e) = 2048 * 2 ^ e := by rw [Nat.pow_add]
  rw [hdiv, hmod, hgap, show (2 : Nat) ^ 11 = 2048 by decide]
  have hlt : t % 2048 < 2048 := Nat.mod_lt _ (by decide)
  have hTd : (if low ≠ 0 ∧ t % 2 = 0 then t + 1 else t) / 2048 = t / 2048 := by split <;> omega
  have hTm : (if low ≠ 0 ∧ t % 2 = 0 then t + 1 else t) % 2048 = if low ≠ 0 ∧ t % 2 = 0 then t % 2048 + 1 else t % 2048 := by split <;> omega
  rw [hTd, hTm]
  congr 1
  have hpar : t % 2 = t % 2048 % 2 := by omega
  rw [hpar]
  generalize t % 2048 = r at *
  generalize t / 2048 = q at *
  generalize 2 ^ e = P at *
  -- the halves
  have key : (2048 * P < 2 * (r * P + low) ↔ (1024 < r ∨ (r = 1024 ∧ low ≠ 0))) ∧ (2048 * P = 2 * (r * P + low) ↔ (r = 1024 ∧ low = 0)) := by
    rcases Nat.lt_trichotomy r 1024 with h | h | h
    · have := Nat.mul_le_mul_right P (show r + 1 ≤ 1024 by omega)
      rw [Nat.add_mul, Nat.one_mul] at this
      omega
    · subst h; omega
    · have := Nat.mul_le_mul_right P (show 1024 + 1 ≤ r by omega)
      rw [Nat.add_mul, Nat.one_mul] at this
      omega
  refine if_congr ?_ rfl rfl
  rw [key.1, key.2]
  by_cases c : low ≠ 0 ∧ r % 2 = 0
  · rw [if_pos c]; omega
  · rw [if_neg c]; omega
theorem log2_mul_add {t e low : Nat} (hlow : low < 2 ^ e) (ht : t ≠ 0) : (t * 2 ^ e + low).log2 = t.log2 + e := by
  have hp := Nat.two_pow_pos e
  have hne : t * 2 ^ e + low ≠ 0 := by have := Nat.mul_le_mul_right (2 ^ e) (show 1 ≤ t by omega); omega
  refine (Nat.log2_eq_iff hne).2 ⟨?_, ?_⟩
  · rw [Nat.pow_add]; have := Nat.mul_le_mul_right (2 ^ e) (log_lo ht); omega
  · rw [show t.log2 + e + 1 = t.log2 + 1 + e by omega, Nat.pow_add]
    have := Nat.mul_le_mul_right (2 ^ e) (show t + 1 ≤ 2 ^ (t.log2 + 1) from log_hi t)
    rw [Nat.add_mul, Nat.one_mul] at this
    omega
theorem stick_num {e c T : Nat} (he : e ≤ 900) (c1 : c ≤ T / 2048 + 1) (c2 : T / 2048 ≤ c) (h1 : 9223372036854775808 ≤ T) (h2 : T < 18446744073709551616) :
    min ((11 + e + 1074) * 4503599627370496 + c) 9218868437227405312 = min ((11 + 1074) * 4503599627370496 + c) 9218868437227405312 + e * 4503599627370496 ∧ min ((11 + 1074) * 4503599627370496 + c) 9218868437227405312 ≤ 1087 * 4503599627370496 ∧ 1086 * 4503599627370496 ≤ min ((11 + 1074) * 4503599627370496 + c) 9218868437227405312 := by
  omega
/-- A great number's float is its top's, so many binades up. -/
theorem nearR_sticky {t e low : Nat} (hlow : low < 2 ^ e) (ht : 9223372036854775808 ≤ t) (ht2 : t < 18446744073709551616) (he : e ≤ 900) :
    nearR (t * 2 ^ e + low) 0 = nearR (t ||| (if low ≠ 0 then 1 else 0)) 0 + e * 4503599627370496 ∧ nearR (t ||| (if low ≠ 0 then 1 else 0)) 0 ≤ 1087 * 4503599627370496 ∧ 1086 * 4503599627370496 ≤ nearR (t ||| (if low ≠ 0 then 1 else 0)) 0 := by
  have hs := cut_sticky hlow ht ht2
  have hTb : 9223372036854775808 ≤ (t ||| (if low ≠ 0 then 1 else 0)) ∧ (t ||| (if low ≠ 0 then 1 else 0)) < 18446744073709551616 := by
    refine ⟨Nat.le_trans ht Nat.left_le_or, ?_⟩
    have : (t ||| (if low ≠ 0 then 1 else 0)) < 2 ^ 64 := Nat.or_lt_two_pow ht2 (by split <;> decide)
    exact this
  generalize (t ||| (if low ≠ 0 then 1 else 0)) = T at *
  have hlT : T.log2 = 63 := (Nat.log2_eq_iff (by omega)).2 ⟨by omega, by omega⟩
  have hlt : t.log2 = 63 := (Nat.log2_eq_iff (by omega)).2 ⟨by omega, by omega⟩
  have hln := log2_mul_add hlow (show t ≠ 0 by omega)
  have hge : 4503599627370496 ≤ t * 2 ^ e + low := by
    have := Nat.mul_le_mul_left t (Nat.two_pow_pos e); omega
  have hc1 := cutE_le (n := T) (d := 11) (by omega)
  have hc2 : T / 2048 ≤ cutE T 11 := by rw [cutE_eq (by omega)]; exact Nat.le_add_right _ _
  rw [show (2 : Nat) ^ 11 = 2048 by decide] at hc1
  rw [nearR_big hge, nearR_big (m := T) (by omega), hln, hlt, hlT]
  rw [show 63 + e - 52 = 11 + e by omega, show 63 - 52 = 11 from rfl, hs]
  exact stick_num he hc1 hc2 hTb.1 hTb.2
/-- A small number's float is the number. -/
theorem nearR_small {m r : Nat} (h : VV r = m * UU) (hr : r ≤ 9218868437227405312) : nearR m 0 = r :=
  nearR_exact (a := UUn) (b := 0) hr (by rw [h, UU_def, Nat.pow_zero, Nat.mul_one]) (by decide)
theorem fint_eq (n : Int) : fint n = wd (decide (n < 0)) (nearR n.natAbs 0) := write_num _ _ _
theorem VV_bin (k : Nat) : VV ((k + 1) * 4503599627370496) = 2 ^ (52 + k) := by
  have := VV_at (q := k) (k := 4503599627370496) (by decide) (.inr (by decide))
  rw [show k * 4503599627370496 + 4503599627370496 = (k + 1) * 4503599627370496 by omega] at this
  rw [this, Nat.pow_add]
theorem xor_top (n : Nat) (h : n < 18446744073709551616) : n ^^^ 9223372036854775808 = fflip n := by
  have hS : (9223372036854775808 : Nat) = 2 ^ 63 := by decide
  have h1 : (n ^^^ 9223372036854775808) % 2 ^ 63 = n % 2 ^ 63 := by
    rw [Nat.xor_mod_two_pow, show (9223372036854775808 : Nat) % 2 ^ 63 = 0 by decide, Nat.xor_zero]
  have h2 : (n ^^^ 9223372036854775808) / 2 ^ 63 = (n / 2 ^ 63) ^^^ 1 := by
    rw [← Nat.shiftRight_eq_div_pow, ← Nat.shiftRight_eq_div_pow, Nat.shiftRight_xor_distrib]
    rfl
  rw [← hS] at h1 h2
  have h3 := Nat.div_add_mod (n ^^^ 9223372036854775808) 9223372036854775808
  rw [h1, h2] at h3
  unfold fflip
  by_cases c : n < 9223372036854775808
  · rw [show n / 9223372036854775808 = 0 by omega, Nat.zero_xor] at h3
    rw [if_pos c]; omega
  · rw [show n / 9223372036854775808 = 1 by omega, Nat.xor_self] at h3
    rw [if_neg c]; omega
theorem fneg_eq {x : Nat} (h : x < 18446744073709551616) : fneg x = fflip x := by
  show x ^^^ 2 ^ (11 + 52) = _
  rw [show (2 : Nat) ^ (11 + 52) = 9223372036854775808 by decide, xor_top x h]
theorem fflip_wd_false (R : Nat) (h : R ≤ 9218868437227405312) : fflip R = wd true R := by
  have := flip_wd false (r := R) (by omega)
  rwa [wd_false] at this
/-- The exponent's bits, and all others. -/
theorem band_i64_exp {a : Nat} (h : a < 2048) : band .i64 (a : Int) 2047 = (a : Int) := by
  unfold band
  have e1 : (BitVec.ofInt (IntKind.bits .i64) (a : Int)).toNat = a := ofI (by show a < 2 ^ 64; omega)
  have e2 : (BitVec.ofInt (IntKind.bits .i64) (2047 : Int)).toNat = 2 ^ 11 - 1 := by decide
  rw [BitVec.toNat_and, e1, e2, and_mask, Nat.mod_eq_of_lt h, wrapI _ (by omega) (by omega)]
theorem bandn_exp {n : Nat} (h : n < 9223372036854775808) : bandn .u64 (n : Int) 9218868437227405312 = ((n % 4503599627370496 : Nat) : Int) := by
  unfold bandn
  have e1 : (BitVec.ofInt (IntKind.bits .u64) (n : Int)).toNat = n := ofI (by show n < 2 ^ 64; omega)
  have e2 : (~~~ (BitVec.ofInt (IntKind.bits .u64) (9218868437227405312 : Int))).toNat = 2 ^ 63 ||| (2 ^ 52 - 1) := by decide
  have e3 : n &&& 2 ^ 63 = 0 := Nat.eq_of_testBit_eq fun i => by
    rw [Nat.testBit_and, Nat.testBit_two_pow, Nat.zero_testBit]
    by_cases hi : 63 = i
    · subst hi; rw [Nat.testBit_lt_two_pow (by omega)]; rfl
    · rw [decide_eq_false hi, Bool.and_false]
  rw [BitVec.toNat_and, e1, e2, Nat.and_or_distrib_left, e3, Nat.zero_or, and_mask, show (2 : Nat) ^ 52 = 4503599627370496 by decide]
  exact wrapU _ (by omega) (by omega)
theorem bor_exp {E f : Nat} (h : f < 4503599627370496) (hE : E < 2048) : bor .u64 (f : Int) ((E * 4503599627370496 : Nat) : Int) = ((E * 4503599627370496 + f : Nat) : Int) := by
  rw [bor_u64 (by omega) (by omega)]
  congr 1
  have := Nat.two_pow_add_eq_or_of_lt (show f < 2 ^ 52 by omega) E
  rw [show (2 : Nat) ^ 52 = 4503599627370496 by decide] at this
  rw [Nat.or_comm, Nat.mul_comm E, ← this]
end Lift
