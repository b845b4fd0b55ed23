import Derived.Test.YtllcnlonkloabaaPureWhole
import Derived.Test.YtllcnlonkloabaaPureReal
set_option linter.unusedVariables false
set_option linter.unusedSimpArgs false
namespace Go.Proofs.Ytllcnlonkloabaa.Sh
open Go Lift Go.Proofs
/-! ### An integer and a float -/
theorem rung_of : ∀ (e k : Nat), k < 9007199254740992 → ∃ r, VV r = k * 2 ^ e
  | 0, k, h => ⟨k, by have := VV_at (q := 0) (k := k) (by omega) (.inl rfl); rw [Nat.zero_mul, Nat.zero_add] at this; exact this⟩
  | e + 1, k, h => by
    by_cases hk : k < 4503599627370496
    · obtain ⟨r, hr⟩ := rung_of e (2 * k) (by omega)
      exact ⟨r, by rw [hr, Nat.pow_succ]; rw [Nat.mul_comm 2 k, Nat.mul_assoc, Nat.mul_comm 2]⟩
    · exact ⟨(e + 1) * 4503599627370496 + k, VV_at (by omega) (.inr (by omega))⟩
theorem rg_word (s : Bool) {r : Nat} (h : r < 9223372036854775808) : rg (if s then 9223372036854775808 + r else r) = r := by
  unfold rg; cases s <;> simp <;> omega
theorem sg_word (s : Bool) {r : Nat} (h : r < 9223372036854775808) : sg (if s then 9223372036854775808 + r else r) = s := by
  unfold sg
  cases s
  · simp only [Bool.false_eq_true, if_false]; rw [show r / 9223372036854775808 = 0 by omega]; rfl
  · simp only [if_true]; rw [show (9223372036854775808 + r) / 9223372036854775808 = 1 by omega]; rfl
theorem encode_num (s : Bool) (m : Nat) (p : Int) : FloatKind.f64.encode (.number s m p) = FloatKind.f64.format.nearest s m p := rfl
theorem cut_trunc (f : Nat) : Ieee.Toward.zero.cut (sg f) (mg (rg f) <<< (-1074 + (ex (rg f) : Int)).toNat) (-(-1074 + (ex (rg f) : Int))).toNat = VV (rg f) / UU ∧ ∃ r, VV r = (VV (rg f) / UU) * UU := by
  rw [← mg_ex (rg f)]
  by_cases h : 1074 ≤ ex (rg f)
  · have e : mg (rg f) * 2 ^ ex (rg f) = mg (rg f) * 2 ^ (ex (rg f) - 1074) * UU := by
      rw [Nat.mul_assoc, ← UU_up (ex (rg f) - 1074) (ex (rg f)) (by omega)]
    rw [show (-(-1074 + (ex (rg f) : Int))).toNat = 0 by omega, cut_zero, show (-1074 + (ex (rg f) : Int)).toNat = ex (rg f) - 1074 by omega, Nat.shiftLeft_eq, e, Nat.mul_div_cancel _ UU_pos]
    refine ⟨rfl, rg f, ?_⟩
    rw [← e, mg_ex]
  · rw [show (-1074 + (ex (rg f) : Int)).toNat = 0 by omega, Nat.shiftLeft_eq, Nat.pow_zero, Nat.mul_one, show (-(-1074 + (ex (rg f) : Int))).toNat = 1074 - ex (rg f) by omega]
    have e : mg (rg f) * 2 ^ ex (rg f) / UU = mg (rg f) / 2 ^ (1074 - ex (rg f)) := by
      have : UU = 2 ^ (1074 - ex (rg f)) * 2 ^ ex (rg f) := UU_two _ _ (by omega)
      rw [this, Nat.mul_div_mul_right _ _ (Nat.two_pow_pos _)]
    rw [e]
    constructor
    · by_cases hm : mg (rg f) = 0
      · rw [hm]
        unfold Ieee.Toward.cut
        simp
      · unfold Ieee.Toward.cut
        simp only [Bool.toNat_false, Nat.add_zero, Nat.shiftLeft_eq, Nat.one_mul]
        by_cases hc : 1074 - ex (rg f) ≤ (mg (rg f)).log2 + 2
        · rw [Nat.min_eq_left hc]
        · rw [Nat.min_eq_right (by omega)]
          have h1 := log_hi (mg (rg f))
          have h2 : (2 : Nat) ^ ((mg (rg f)).log2 + 1) ≤ 2 ^ ((mg (rg f)).log2 + 2) := Nat.pow_le_pow_right (by decide) (by omega)
          have h3 : (2 : Nat) ^ ((mg (rg f)).log2 + 1) ≤ 2 ^ (1074 - ex (rg f)) := Nat.pow_le_pow_right (by decide) (by omega)
          rw [Nat.div_eq_of_lt (by omega), Nat.div_eq_of_lt (by omega)]
    · have := mg_lt (rg f)
      exact rung_of UUn _ (Nat.lt_of_le_of_lt (Nat.div_le_self _ _) this)
/-- The whole part. -/
theorem trunc_at (f : Nat) (hf : rg f < 9218868437227405312) : ∃ t T, ftrunc f = some t ∧ t < 18446744073709551616 ∧ nanW t = false ∧ sg t = sg f ∧ VV (rg t) = T * UU ∧ T = VV (rg f) / UU := by
  have hd : FloatKind.f64.decode f = .number (sg f) (mg (rg f)) (-1074 + (ex (rg f) : Int)) := read_num hf
  have hcut := cut_trunc f
  obtain ⟨hc, r, hr⟩ := hcut
  have hrf : r ≤ rg f := by
    apply Classical.byContradiction
    intro h
    have h1 := VV_lt (r := rg f) (s := r) (by omega)
    have h2 := Nat.div_mul_le_self (VV (rg f)) UU
    omega
  have hmag : VV (rg f) / UU * 2 ^ UUn = VV r * 2 ^ 0 := by rw [hr, Nat.pow_zero, Nat.mul_one, UU_def]
  have hpl : (0 : Int) + ((0 : Nat) : Int) = -1074 + ((UUn : Nat) : Int) := by decide
  have hnear : FloatKind.f64.format.nearest (sg f) (VV (rg f) / UU) 0 = if sg f then 9223372036854775808 + r else r := nearest_exact (Nat.le_of_lt (Nat.lt_of_le_of_lt hrf hf)) hmag hpl
  refine ⟨if sg f then 9223372036854775808 + r else r, VV (rg f) / UU, ?_, ?_, ?_, sg_word _ (by omega), by rw [rg_word _ (by omega), hr], rfl⟩
  · unfold ftrunc
    rw [hd]
    show some (FloatKind.f64.encode (.number (sg f) _ 0)) = _
    rw [hc, encode_num, hnear]
  · split <;> omega
  · rw [nanW_rg, rg_word _ (by omega)]; exact decide_eq_false (by omega)
def K256 : Nat := 5760103923406864384
theorem ldexp_ev : Ev (fun N => math_Ldexp N 4607182418800017408 (256 : Int)) K256 := Ev.from 60 (fun N => by kernel_rfl)
theorem nan_K : nanW K256 = false := by decide
theorem sV_K : sV K256 = ((2 ^ 256 * UU : Nat) : Int) := by
  have h1 : sg K256 = false := by decide
  have h2 : rg K256 = K256 := by decide
  have e : VV K256 = 2 ^ 256 * UU := by
    rw [VV_high (by decide), ← UU_up 256 1330 rfl, show (4503599627370496 + K256 % 4503599627370496 : Nat) = 2 ^ 52 by decide, ← Nat.pow_add, show 52 + (K256 / 4503599627370496 - 1) = 1330 from by decide]
  unfold sV
  rw [h1, h2, if_neg (by simp), e]
theorem nan_words (b : Int) (h : 0 ≤ b) : nanB b = nanW b.toNat := by
  unfold nanB nanW
  exact decide_eq_decide.2 (by omega)
/-- How an integer stands to a float: never at the same place. -/
def cmpF (x : Int) (b : Nat) : Int := if nanW b then -1 else if sV b < x * (UU : Int) then 1 else -1
theorem sV_abs {f : Nat} : (VV (rg f) : Int) = if sg f then -(sV f) else sV f := by unfold sV; split <;> simp_all
theorem cmp_fin (x T ρ U : Int) (s : Bool) (hU : 0 < U) (h0 : 0 ≤ ρ) (h1 : ρ < U) :
    (sgn (x - (if s then -T else T)) ≠ 0 → sgn (x - (if s then -T else T)) = if (if s then -(T * U + ρ) else T * U + ρ) < x * U then 1 else -1) ∧
    (sgn (x - (if s then -T else T)) = 0 → (if s = true ∧ 0 < ρ then 1 else -1) = (if (if s then -(T * U + ρ) else T * U + ρ) < x * U then (1 : Int) else -1)) := by
  have key : ∀ y : Int, x < y → x * U + U ≤ y * U := fun y h => by
    have := Int.mul_le_mul_of_nonneg_right (show x + 1 ≤ y by omega) (Int.le_of_lt hU)
    rw [Int.add_mul, Int.one_mul] at this
    exact this
  have key2 : ∀ y : Int, y < x → y * U + U ≤ x * U := fun y h => by
    have := Int.mul_le_mul_of_nonneg_right (show y + 1 ≤ x by omega) (Int.le_of_lt hU)
    rw [Int.add_mul, Int.one_mul] at this
    exact this
  have hneg : (-T) * U = -(T * U) := Int.neg_mul _ _
  cases s with
  | false =>
    simp only [Bool.false_eq_true, if_false, false_and]
    rcases Int.lt_trichotomy x T with h | h | h
    · have k := key _ h
      rw [sgn_neg (by omega), if_neg (by omega)]
      exact ⟨fun _ => rfl, fun h => by cases h⟩
    · subst h
      rw [Int.sub_self, if_neg (by omega)]
      exact ⟨fun h => absurd rfl h, fun _ => rfl⟩
    · have k := key2 _ h
      rw [sgn_pos (by omega), if_pos (by omega)]
      exact ⟨fun _ => rfl, fun h => by cases h⟩
  | true =>
    simp only [if_true, true_and]
    rcases Int.lt_trichotomy x (-T) with h | h | h
    · have k := key _ h
      rw [hneg] at k
      rw [sgn_neg (by omega), if_neg (by omega)]
      exact ⟨fun _ => rfl, fun h => by cases h⟩
    · subst h
      rw [Int.sub_self, hneg]
      refine ⟨fun h => absurd rfl h, fun _ => ?_⟩
      exact if_congr (by omega) rfl rfl
    · have k := key2 _ h
      rw [hneg] at k
      rw [sgn_pos (by omega), if_pos (by omega)]
      exact ⟨fun _ => rfl, fun h => by cases h⟩
/-! ### Two floats -/
/-- A float's place: infinities ahead of and behind all, NaN last; -0 below 0. -/
def place (b : Nat) : Int := if nanW b then 9223372036854775808 else if sg b then -(rg b : Int) - 1 else (rg b : Int)
theorem sV_lt {a b : Nat} : sV a < sV b ↔ (if sg a then -(rg a : Int) else (rg a : Int)) < (if sg b then -(rg b : Int) else (rg b : Int)) := by
  have h1 : ∀ {r s : Nat}, ((VV r : Nat) : Int) < ((VV s : Nat) : Int) ↔ (r : Int) < (s : Int) := fun {r s} => by
    rw [Int.ofNat_lt, Int.ofNat_lt]; exact VV_lt_iff
  have h0 : ∀ {r : Nat}, (0 : Int) < ((VV r : Nat) : Int) ↔ (0 : Int) < (r : Int) := fun {r} => by
    have := h1 (r := 0) (s := r); rw [VV_zero] at this; exact this
  have ha := h0 (r := rg a)
  have hb := h0 (r := rg b)
  have hab := h1 (r := rg a) (s := rg b)
  have hba := h1 (r := rg b) (s := rg a)
  unfold sV
  cases sg a <;> cases sg b <;> simp only [Bool.false_eq_true, if_false, if_true] <;> omega
end Go.Proofs.Ytllcnlonkloabaa.Sh
