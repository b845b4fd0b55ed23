import Derived.Test.YtllcnlonkloabaaLift3
import Derived.Laws.FloatBits
/- LIFT,part Fn: reckoning with floats of 64 bits. -/
set_option linter.unusedVariables false
namespace Lift
open Go Ieee

/-- The word of a sign and a rung. -/
def wd (s:Bool) (r:Nat) : Nat := if s then 9223372036854775808 + r else r
theorem rg_wd (s:Bool) {r : Nat} (h:r < 9223372036854775808) : rg (wd s r) = r := by unfold rg wd; cases s <;> simp <;> omega
theorem sg_wd (s:Bool) {r : Nat} (h:r < 9223372036854775808) : sg (wd s r) = s := by
  unfold sg wd
  cases s
  · simp only [Bool.false_eq_true,if_false]; rw [show r / 9223372036854775808 = 0 by omega]; rfl
  · simp only [if_true]; rw [show (9223372036854775808 + r) / 9223372036854775808 = 1 by omega]; rfl
theorem nan_wd (s:Bool) {r : Nat} (h:r ≤ 9218868437227405312) : nanW (wd s r) = false := by
  rw [nanW_rg,rg_wd s (by omega)]; exact decide_eq_false (by omega)
theorem wd_eq (s:Bool) (r:Nat) : FloatKind.f64.format.word s r = wd s r := word_eq s r
/-- The other sign. -/
def fflip (x:Nat) : Nat := if x < 9223372036854775808 then x + 9223372036854775808 else x - 9223372036854775808
theorem flip_wd (s:Bool) {r : Nat} (h:r < 9223372036854775808) : fflip (wd s r) = wd (!s) r := by
  unfold fflip wd
  cases s
  · simp only [Bool.false_eq_true,if_false,Bool.not_false,if_true]; rw [if_pos h]; omega
  · simp only [if_true,Bool.not_true,Bool.false_eq_true,if_false]; rw [if_neg (by omega)]; omega
/-! ### To the nearest,whatever the sign -/
theorem wd_false (r:Nat) : wd false r = r := by unfold wd; rw [if_neg (by simp)]
theorem even_cut (s:Bool) (n d:Nat) : Ieee.Toward.even.cut s n d = Ieee.Toward.even.cut false n d := by unfold Ieee.Toward.cut; rfl
def nearR (m:Nat) (p:Int) : Nat := FloatKind.f64.format.nearest false m p
theorem nearest_wd (s:Bool) (m:Nat) (p:Int) : FloatKind.f64.format.nearest s m p = wd s (nearR m p) := by
  unfold nearR Ieee.Format.nearest
  by_cases h : m = 0
  · rw [if_pos h,if_pos h,wd_eq,wd_eq,wd_false]
  · rw [if_neg h,if_neg h,wd_eq,wd_eq,wd_false]
    simp only [even_cut s]
theorem nearR_exact {mag r a b : Nat} {place : Int} (hr:r ≤ 9218868437227405312) (h:mag * 2 ^ a = VV r * 2 ^ b) (hp:place + (b:Int) = -1074 + (a:Int)) : nearR mag place = r := by
  unfold nearR
  rw [nearest_exact hr h hp,if_neg (by simp)]
theorem nearR_zero (p:Int) : nearR 0 p = 0 := by
  unfold nearR Ieee.Format.nearest
  rw [if_pos rfl,wd_eq,wd_false]
theorem write_num (s:Bool) (m:Nat) (p:Int) : FloatKind.f64.format.write (.number s m p) = wd s (nearR m p) := nearest_wd s m p
theorem write_inf (s:Bool) : FloatKind.f64.format.write (.infinity s) = wd s 9218868437227405312 := by
  show FloatKind.f64.format.word s FloatKind.f64.format.infRung = _
  rw [wd_eq,fm_inf]
/-- A word's datum,if it is a number or an infinity. -/
theorem read_wd (s:Bool) {r : Nat} (h:r ≤ 9218868437227405312) : FloatKind.f64.format.read (wd s r) = if r = 9218868437227405312 then .infinity s else .number s (mg r) (-1074 + (ex r:Int)) := by
  have h1 := rg_wd s (r := r) (by omega)
  have h2 := sg_wd s (r := r) (by omega)
  by_cases c : r = 9218868437227405312
  · rw [if_pos c,read_inf (by rw [h1]; exact c),h2]
  · rw [if_neg c,read_num (by rw [h1]; omega),h1,h2]
/-! ### Sums -/
theorem sum_comm (d e:Datum) : d.sum e = e.sum d := by
  cases d with
  | nan s f => cases e <;> rfl
  | infinity s => cases e with
    | nan t g => rfl
    | infinity t => cases s <;> cases t <;> rfl
    | number t n j => rfl
  | number s m i => cases e with
    | nan t g => rfl
    | infinity t => rfl
    | number t n j =>
      simp only [Datum.sum]
      rw [Int.min_comm i j,Int.add_comm (Ieee.signed s m _),Bool.and_comm]
theorem fadd_comm (x y:Nat) : fadd x y = fadd y x := by
  unfold fadd Ieee.Format.add
  rw [sum_comm]
theorem product_comm (d e:Datum) : d.product e = e.product d := by
  cases d with
  | nan s f => cases e <;> rfl
  | infinity s => cases e with
    | nan t g => rfl
    | infinity t => simp only [Datum.product]; rw [Bool.xor_comm]
    | number t n j => simp only [Datum.product]; try rw [Bool.xor_comm]
  | number s m i => cases e with
    | nan t g => rfl
    | infinity t => simp only [Datum.product]; try rw [Bool.xor_comm]
    | number t n j => simp only [Datum.product]; rw [Bool.xor_comm,Nat.mul_comm,Int.add_comm]
theorem fmul_comm (x y:Nat) : fmul x y = fmul y x := by
  unfold fmul Ieee.Format.mul
  rw [product_comm]
/-! ### Products and quotients by one -/
def oneR : Nat := 4607182418800017408
theorem one_mg : mg oneR = 4503599627370496 := by decide
theorem one_ex : ex oneR = 1022 := by decide
theorem fmul_one (s t:Bool) {r : Nat} (h:r ≤ 9218868437227405312) : fmul (wd s r) (wd t oneR) = some (wd (s ^^ t) r) := by
  unfold fmul Ieee.Format.mul
  rw [read_wd s h,read_wd t (r := oneR) (by decide),if_neg (show ¬ oneR = 9218868437227405312 by decide),one_mg,one_ex]
  by_cases c : r = 9218868437227405312
  · rw [if_pos c]
    show some (FloatKind.f64.format.write (.infinity (s ^^ t))) = _
    rw [write_inf,c]
  · rw [if_neg c]
    show some (FloatKind.f64.format.write (.number (s ^^ t) _ _)) = _
    rw [write_num,nearR_exact (a := ex r) (b := 52) h ?_ (by omega)]
    rw [← mg_ex r,Nat.mul_assoc,Nat.mul_assoc,Nat.mul_comm (2 ^ ex r),show (4503599627370496:Nat) = 2 ^ 52 by decide]
/-! ### The other sign -/
end Lift

/- LIFT,part Fr: rounding to floats of 64 bits. -/
set_option linter.unusedVariables false
namespace Lift
open Go Ieee

def cutE (n d:Nat) : Nat := Toward.even.cut false n d
theorem cutE_eq {n d : Nat} (h:d ≤ n.log2 + 2) : cutE n d = n / 2 ^ d + (if 2 ^ d < 2 * (n % 2 ^ d) ∨ (2 ^ d = 2 * (n % 2 ^ d) ∧ n / 2 ^ d % 2 = 1) then 1 else 0) := by
  have e : (1:Nat) <<< min d (n.log2 + 2) = 2 ^ d := by rw [Nat.min_eq_left h,Nat.shiftLeft_eq,Nat.one_mul]
  unfold cutE Toward.cut
  simp only [e]
  congr 1
  by_cases h1 : 2 ^ d < 2 * (n % 2 ^ d)
  · simp [h1]
  · by_cases h2 : 2 ^ d = 2 * (n % 2 ^ d) ∧ n / 2 ^ d % 2 = 1
    · obtain ⟨a,b⟩ := h2
      rw [if_pos (.inr ⟨a,b⟩),decide_eq_false h1,b]
      simp [← a]
    · rw [if_neg (by rintro (h | h); exact h1 h; exact h2 h),decide_eq_false h1]
      simp only [Bool.false_or]
      by_cases a : 2 ^ d = 2 * (n % 2 ^ d)
      · have b : ¬ n / 2 ^ d % 2 = 1 := fun b => h2 ⟨a,b⟩
        simp [b]
      · have : (2 ^ d == 2 * (n % 2 ^ d)) = false := by simpa using a
        simp [this]
/-- The nearest float of a whole number that has bits to lose,or just as many as a float. -/
theorem nearR_big {m : Nat} (h:4503599627370496 ≤ m) : nearR m 0 = min ((m.log2 - 52 + 1074) * 4503599627370496 + cutE m (m.log2 - 52)) 9218868437227405312 := by
  have hm : m ≠ 0 := by omega
  have hl : 52 ≤ m.log2 := (Nat.le_log2 hm).2 (by omega)
  unfold nearR Format.nearest
  rw [if_neg hm,wd_eq,wd_false]
  simp only [fm_frac,fm_least,fm_bin,fm_inf]
  have e1 : max ((0:Int) + (m.log2 : Int) - ((52:Nat) : Int)) (-1074) = ((m.log2 - 52 : Nat) : Int) := by omega
  rw [e1]
  have e2 : ((0:Int) - ((m.log2 - 52 : Nat) : Int)).toNat = 0 := by omega
  have e3 : (((m.log2 - 52 : Nat) : Int) - 0).toNat = m.log2 - 52 := by omega
  have e4 : (((m.log2 - 52 : Nat) : Int) - -1074).toNat = m.log2 - 52 + 1074 := by omega
  rw [e2,e3,e4,Nat.shiftLeft_zero]
  rfl
theorem cutE_le {n d : Nat} (h:d ≤ n.log2 + 2) : cutE n d ≤ n / 2 ^ d + 1 := by
  rw [cutE_eq h]; split <;> omega
/-- What is lost counts as one bit. -/
theorem cut_sticky {t e low : Nat} (hlow:low < 2 ^ e) (ht:9223372036854775808 ≤ t) (ht2:t < 18446744073709551616) :
    cutE (t * 2 ^ e + low) (11 + e) = cutE (t ||| (if low ≠ 0 then 1 else 0)) 11 := by
  have hp := Nat.two_pow_pos e
  have hT : t ||| (if low ≠ 0 then 1 else 0) = if low ≠ 0 ∧ t % 2 = 0 then t + 1 else t := by
    by_cases c : low ≠ 0
    · rw [if_pos c]
      by_cases d : t % 2 = 0
      · rw [if_pos ⟨c,d⟩]
        have := Nat.two_pow_add_eq_or_of_lt (show 1 < 2 ^ 1 by decide) (t / 2)
        rw [show 2 ^ 1 * (t / 2) = t by omega] at this
        exact this.symm
      · rw [if_neg (fun h => d h.2)]
        have := Nat.two_pow_add_eq_or_of_lt (show 1 < 2 ^ 1 by decide) (t / 2)
        have e1 : t = 2 ^ 1 * (t / 2) ||| 1 := by rw [← this]; omega
        rw [e1,Nat.or_assoc,Nat.or_self]
    · rw [if_neg c,if_neg (fun h => c h.1),Nat.or_zero]
  have hn : t * 2 ^ e + low ≠ 0 := by have := Nat.mul_le_mul_right (2 ^ e) ht; omega
  have hlogn : 63 + e ≤ (t * 2 ^ e + low).log2 := (Nat.le_log2 hn).2 (by
    rw [Nat.pow_add]; have := Nat.mul_le_mul_right (2 ^ e) ht; rw [show (9223372036854775808:Nat) = 2 ^ 63 by decide] at this; omega)
  rw [hT]
  have hlogT : 63 ≤ (if low ≠ 0 ∧ t % 2 = 0 then t + 1 else t).log2 := (Nat.le_log2 (by split <;> omega)).2 (by split <;> omega)
  rw [cutE_eq (by omega),cutE_eq (by omega)]
  have hdiv : (t * 2 ^ e + low) / 2 ^ (11 + e) = t / 2048 := by
    rw [Nat.add_comm 11 e,Nat.pow_add, ← Nat.div_div_eq_div_mul,Nat.mul_comm t,Nat.mul_add_div hp,Nat.div_eq_of_lt hlow,Nat.add_zero]
  have hmod : (t * 2 ^ e + low) % 2 ^ (11 + e) = t % 2048 * 2 ^ e + low := by
    rw [Nat.add_comm 11 e,Nat.pow_add,Nat.mod_mul,Nat.mul_comm t,Nat.mul_add_mod,Nat.mod_eq_of_lt hlow,Nat.mul_add_div hp,Nat.div_eq_of_lt hlow,Nat.add_zero]
    rw [Nat.mul_comm (2 ^ e)]
    show low + t % 2048 * 2 ^ e = _
    omega
  have hgap : (2:Nat) ^ (11 + e) = 2048 * 2 ^ e := by rw [Nat.pow_add]
  rw [hdiv,hmod,hgap,show (2:Nat) ^ 11 = 2048 by decide]
  have hlt : t % 2048 < 2048 := Nat.mod_lt _ (by decide)
  have hTd : (if low ≠ 0 ∧ t % 2 = 0 then t + 1 else t) / 2048 = t / 2048 := by split <;> omega
  have hTm : (if low ≠ 0 ∧ t % 2 = 0 then t + 1 else t) % 2048 = if low ≠ 0 ∧ t % 2 = 0 then t % 2048 + 1 else t % 2048 := by split <;> omega
  rw [hTd,hTm]
  congr 1
  have hpar : t % 2 = t % 2048 % 2 := by omega
  rw [hpar]
  generalize t % 2048 = r at *
  generalize t / 2048 = q at *
  generalize 2 ^ e = P at *
  -- the halves
  have key : (2048 * P < 2 * (r * P + low) ↔ (1024 < r ∨ (r = 1024 ∧ low ≠ 0))) ∧ (2048 * P = 2 * (r * P + low) ↔ (r = 1024 ∧ low = 0)) := by
    rcases Nat.lt_trichotomy r 1024 with h | h | h
    · have := Nat.mul_le_mul_right P (show r + 1 ≤ 1024 by omega)
      rw [Nat.add_mul,Nat.one_mul] at this
      omega
    · subst h; omega
    · have := Nat.mul_le_mul_right P (show 1024 + 1 ≤ r by omega)
      rw [Nat.add_mul,Nat.one_mul] at this
      omega
  refine if_congr ?_ rfl rfl
  rw [key.1,key.2]
  by_cases c : low ≠ 0 ∧ r % 2 = 0
  · rw [if_pos c]; omega
  · rw [if_neg c]; omega
theorem log2_mul_add {t e low : Nat} (hlow:low < 2 ^ e) (ht:t ≠ 0) : (t * 2 ^ e + low).log2 = t.log2 + e := by
  have hp := Nat.two_pow_pos e
  have hne : t * 2 ^ e + low ≠ 0 := by have := Nat.mul_le_mul_right (2 ^ e) (show 1 ≤ t by omega); omega
  refine (Nat.log2_eq_iff hne).2 ⟨?_, ?_⟩
  · rw [Nat.pow_add]; have := Nat.mul_le_mul_right (2 ^ e) (log_lo ht); omega
  · rw [show t.log2 + e + 1 = t.log2 + 1 + e by omega,Nat.pow_add]
    have := Nat.mul_le_mul_right (2 ^ e) (show t + 1 ≤ 2 ^ (t.log2 + 1) from log_hi t)
    rw [Nat.add_mul,Nat.one_mul] at this
    omega
theorem stick_num {e c T : Nat} (he:e ≤ 900) (c1:c ≤ T / 2048 + 1) (c2:T / 2048 ≤ c) (h1:9223372036854775808 ≤ T) (h2:T < 18446744073709551616) :
    min ((11 + e + 1074) * 4503599627370496 + c) 9218868437227405312 = min ((11 + 1074) * 4503599627370496 + c) 9218868437227405312 + e * 4503599627370496 ∧ min ((11 + 1074) * 4503599627370496 + c) 9218868437227405312 ≤ 1087 * 4503599627370496 ∧ 1086 * 4503599627370496 ≤ min ((11 + 1074) * 4503599627370496 + c) 9218868437227405312 := by
  omega
/-- A great number's float is its top's,so many binades up. -/
theorem nearR_sticky {t e low : Nat} (hlow:low < 2 ^ e) (ht:9223372036854775808 ≤ t) (ht2:t < 18446744073709551616) (he:e ≤ 900) :
    nearR (t * 2 ^ e + low) 0 = nearR (t ||| (if low ≠ 0 then 1 else 0)) 0 + e * 4503599627370496 ∧ nearR (t ||| (if low ≠ 0 then 1 else 0)) 0 ≤ 1087 * 4503599627370496 ∧ 1086 * 4503599627370496 ≤ nearR (t ||| (if low ≠ 0 then 1 else 0)) 0 := by
  have hs := cut_sticky hlow ht ht2
  have hTb : 9223372036854775808 ≤ (t ||| (if low ≠ 0 then 1 else 0)) ∧ (t ||| (if low ≠ 0 then 1 else 0)) < 18446744073709551616 := by
    refine ⟨Nat.le_trans ht Nat.left_le_or, ?_⟩
    have : (t ||| (if low ≠ 0 then 1 else 0)) < 2 ^ 64 := Nat.or_lt_two_pow ht2 (by split <;> decide)
    exact this
  generalize (t ||| (if low ≠ 0 then 1 else 0)) = T at *
  have hlT : T.log2 = 63 := (Nat.log2_eq_iff (by omega)).2 ⟨by omega,by omega⟩
  have hlt : t.log2 = 63 := (Nat.log2_eq_iff (by omega)).2 ⟨by omega,by omega⟩
  have hln := log2_mul_add hlow (show t ≠ 0 by omega)
  have hge : 4503599627370496 ≤ t * 2 ^ e + low := by
    have := Nat.mul_le_mul_left t (Nat.two_pow_pos e); omega
  have hc1 := cutE_le (n := T) (d := 11) (by omega)
  have hc2 : T / 2048 ≤ cutE T 11 := by rw [cutE_eq (by omega)]; exact Nat.le_add_right _ _
  rw [show (2:Nat) ^ 11 = 2048 by decide] at hc1
  rw [nearR_big hge,nearR_big (m := T) (by omega),hln,hlt,hlT]
  rw [show 63 + e - 52 = 11 + e by omega,show 63 - 52 = 11 from rfl,hs]
  exact stick_num he hc1 hc2 hTb.1 hTb.2
/-- A small number's float is the number. -/
theorem nearR_small {m r : Nat} (h:VV r = m * UU) (hr:r ≤ 9218868437227405312) : nearR m 0 = r :=
  nearR_exact (a := UUn) (b := 0) hr (by rw [h,UU_def,Nat.pow_zero,Nat.mul_one]) (by decide)
theorem fint_eq (n:Int) : fint n = wd (decide (n < 0)) (nearR n.natAbs 0) := write_num _ _ _
theorem VV_bin (k:Nat) : VV ((k + 1) * 4503599627370496) = 2 ^ (52 + k) := by
  have := VV_at (q := k) (k := 4503599627370496) (by decide) (.inr (by decide))
  rw [show k * 4503599627370496 + 4503599627370496 = (k + 1) * 4503599627370496 by omega] at this
  rw [this,Nat.pow_add]
theorem xor_top (n:Nat) (h:n < 18446744073709551616) : n ^^^ 9223372036854775808 = fflip n := by
  have hS : (9223372036854775808:Nat) = 2 ^ 63 := by decide
  have h1 : (n ^^^ 9223372036854775808) % 2 ^ 63 = n % 2 ^ 63 := by
    rw [Nat.xor_mod_two_pow,show (9223372036854775808:Nat) % 2 ^ 63 = 0 by decide,Nat.xor_zero]
  have h2 : (n ^^^ 9223372036854775808) / 2 ^ 63 = (n / 2 ^ 63) ^^^ 1 := by
    rw [← Nat.shiftRight_eq_div_pow, ← Nat.shiftRight_eq_div_pow,Nat.shiftRight_xor_distrib]
    rfl
  rw [← hS] at h1 h2
  have h3 := Nat.div_add_mod (n ^^^ 9223372036854775808) 9223372036854775808
  rw [h1,h2] at h3
  unfold fflip
  by_cases c : n < 9223372036854775808
  · rw [show n / 9223372036854775808 = 0 by omega,Nat.zero_xor] at h3
    rw [if_pos c]; omega
  · rw [show n / 9223372036854775808 = 1 by omega,Nat.xor_self] at h3
    rw [if_neg c]; omega
theorem fneg_eq {x : Nat} (h:x < 18446744073709551616) : fneg x = fflip x := by
  show x ^^^ 2 ^ (11 + 52) = _
  rw [show (2:Nat) ^ (11 + 52) = 9223372036854775808 by decide,xor_top x h]
theorem fflip_wd_false (R:Nat) (h:R ≤ 9218868437227405312) : fflip R = wd true R := by
  have := flip_wd false (r := R) (by omega)
  rwa [wd_false] at this
/-- The exponent's bits,and all others. -/
theorem band_i64_exp {a : Nat} (h:a < 2048) : band .i64 (a:Int) 2047 = (a:Int) := by
  unfold band
  have e1 : (BitVec.ofInt (IntKind.bits .i64) (a:Int)).toNat = a := ofI (by show a < 2 ^ 64; omega)
  have e2 : (BitVec.ofInt (IntKind.bits .i64) (2047:Int)).toNat = 2 ^ 11 - 1 := by decide
  rw [BitVec.toNat_and,e1,e2,and_mask,Nat.mod_eq_of_lt h,wrapI _ (by omega) (by omega)]
theorem bandn_exp {n : Nat} (h:n < 9223372036854775808) : bandn .u64 (n:Int) 9218868437227405312 = ((n % 4503599627370496 : Nat) : Int) := by
  unfold bandn
  have e1 : (BitVec.ofInt (IntKind.bits .u64) (n:Int)).toNat = n := ofI (by show n < 2 ^ 64; omega)
  have e2 : (~~~ (BitVec.ofInt (IntKind.bits .u64) (9218868437227405312:Int))).toNat = 2 ^ 63 ||| (2 ^ 52 - 1) := by decide
  have e3 : n &&& 2 ^ 63 = 0 := Nat.eq_of_testBit_eq fun i => by
    rw [Nat.testBit_and,Nat.testBit_two_pow,Nat.zero_testBit]
    by_cases hi : 63 = i
    · subst hi; rw [Nat.testBit_lt_two_pow (by omega)]; rfl
    · rw [decide_eq_false hi,Bool.and_false]
  rw [BitVec.toNat_and,e1,e2,Nat.and_or_distrib_left,e3,Nat.zero_or,and_mask,show (2:Nat) ^ 52 = 4503599627370496 by decide]
  exact wrapU _ (by omega) (by omega)
theorem bor_exp {E f : Nat} (h:f < 4503599627370496) (hE:E < 2048) : bor .u64 (f:Int) ((E * 4503599627370496 : Nat) : Int) = ((E * 4503599627370496 + f : Nat) : Int) := by
  rw [bor_u64 (by omega) (by omega)]
  congr 1
  have := Nat.two_pow_add_eq_or_of_lt (show f < 2 ^ 52 by omega) E
  rw [show (2:Nat) ^ 52 = 4503599627370496 by decide] at this
  rw [Nat.or_comm,Nat.mul_comm E, ← this]
end Lift
