import Derived.Test.YtehocjeeaigkeaaPureRealB
import Derived.Test.YtehocjeeaigkeaaPureOfB
import Derived.Test.YtehocjeeaigkeaaPureRefOf
set_option linter.unusedVariables false
set_option linter.unusedSimpArgs false
namespace Go.Proofs.Ytehocjeeaigkeaa.Sh
open Go Lift Go.Proofs
theorem low2 (x n : Int) (h0 : 0 < n) (h1 : n < 9223372036854775808) : ∃ r, Ev (fun N => beehivelaw0_Low N x n) r ∧ 0 ≤ r ∧ r < n := by
  have hu := wrapU_eq x
  have e1 : IntKind.u64.wrap n = n := wrapU n (by omega) (by omega)
  have hp : 0 ≤ IntKind.u64.wrap x := by omega
  have e2 : (IntKind.u64.wrap x).tmod n = IntKind.u64.wrap x % n := Int.tmod_eq_emod_of_nonneg hp
  have b0 := Int.emod_nonneg (IntKind.u64.wrap x) (show n ≠ 0 by omega)
  have b1 := Int.emod_lt_of_pos (IntKind.u64.wrap x) h0
  refine ⟨IntKind.u64.wrap x % n, ?_, b0, b1⟩
  refine Ev.bindc (a := IntKind.u64.wrap x % n) (by rw [e1, rem_eq (by omega), e2]) ?_
  have e3 : IntKind.i64.wrap (IntKind.u64.wrap x % n) = IntKind.u64.wrap x % n := wrapI _ (by omega) (by omega)
  show Ev (fun _ => some (IntKind.i64.wrap (IntKind.u64.wrap x % n))) _
  rw [e3]
  exact Ev.now _
theorem rung_le {T : Nat} (h : T ≤ 9007199254740992) : ∃ r, VV r = T * UU ∧ r < 9218868437227405312 := by
  have : ∃ r, VV r = T * UU := by
    by_cases c : T < 9007199254740992
    · obtain ⟨r, hr⟩ := rung_of UUn T c
      exact ⟨r, by rw [hr, UU_def]⟩
    · obtain ⟨r, hr⟩ := rung_of (1 + UUn) 4503599627370496 (by decide)
      refine ⟨r, ?_⟩
      rw [hr, Nat.pow_add, UU_def, Nat.pow_one, ← Nat.mul_assoc, show T = 4503599627370496 * 2 by omega]
  obtain ⟨r, hr⟩ := this
  refine ⟨r, hr, ?_⟩
  have h1 : VV r < VV 9218868437227405312 := by
    rw [hr]
    have e1 := VV_inf_ge 1200 (by decide)
    rw [UU_up 126 1200 rfl] at e1
    have e2 := Nat.mul_le_mul_right UU (show T ≤ 9007199254740992 from h)
    have e3 : 9007199254740992 * UU < 2 ^ 126 * UU := Nat.mul_lt_mul_of_pos_right (by decide) UU_pos
    omega
  exact VV_lt_iff.1 h1
theorem sV_wd (s : Bool) {r : Nat} (h : r < 9223372036854775808) : sV (wd s r) = if s then -((VV r : Nat) : Int) else ((VV r : Nat) : Int) := by
  unfold sV
  rw [sg_wd s h, rg_wd s h]
/-- A whole number as a float. -/
theorem small_float {m : Int} (h : m.natAbs ≤ 9007199254740992) : ∃ r, nearR m.natAbs 0 = r ∧ r < 9218868437227405312 ∧ VV r = m.natAbs * UU ∧ sV (wd (decide (m < 0)) r) = m * (UU : Int) ∧ (r = 0 ↔ m = 0) := by
  obtain ⟨r, hr, hlt⟩ := rung_le h
  refine ⟨r, nearR_small hr (by omega), hlt, hr, ?_, ?_⟩
  · rw [sV_wd _ (by omega), hr, Int.natCast_mul]
    by_cases c : m < 0
    · rw [decide_eq_true c, if_pos rfl, ← Int.neg_mul]; congr 1; omega
    · rw [decide_eq_false c, if_neg (by simp)]; congr 1; omega
  · have hU := UU_pos
    constructor
    · intro e; subst e
      rw [VV_zero] at hr
      have := (Nat.mul_eq_zero.1 hr.symm).resolve_right (by omega)
      omega
    · intro e
      have : VV r = 0 := by rw [hr, e]; simp
      have := VV_inj (s := 0) (by rw [this]; rfl)
      exact this
def negInf : Nat := 18442240474082181120
theorem inf_ev : Ev (fun N => math_Inf N (-1 : Int)) negInf := Ev.from 3 (fun N => by kernel_rfl)
theorem sV_negInf : sV negInf = -((VV 9218868437227405312 : Nat) : Int) := by
  have : negInf = wd true 9218868437227405312 := by decide
  rw [this, sV_wd true (by decide), if_pos rfl]
/-- The next float below. -/
theorem below_ev {m : Int} (h : m.natAbs ≤ 9007199254740992) : ∃ b, Ev (fun N => math_Nextafter N (wd (decide (m < 0)) (nearR m.natAbs 0)) negInf) b ∧ b < 18446744073709551616 ∧ nanW b = false ∧ sV b < m * (UU : Int) := by
  obtain ⟨r, hr, hlt, hv, hs, hz⟩ := small_float h
  rw [hr]
  have nx := nan_wd (decide (m < 0)) (r := r) (by omega)
  have ni : nanW negInf = false := by decide
  have hB1 : Ev (fun N => math_Nextafter_B1 N (wd (decide (m < 0)) r) negInf) false := by
    refine Ev.step ?_ (fun N => by rw [math_Nextafter_B1])
    refine Ev.bind (a := false) ?_ (Ev.neg (by simp) (Ev.bind (a := false) ?_ (Ev.now _)))
    · rw [← nx, ← Lift.fne_self]; exact Ev.now _
    · rw [← ni, ← Lift.fne_self]; exact Ev.now _
  have hbig : ((VV r : Nat) : Int) < ((VV 9218868437227405312 : Nat) : Int) := Int.ofNat_lt.2 (VV_lt hlt)
  have hx := sV_wd (decide (m < 0)) (r := r) (by omega)
  have hp0 : (0 : Int) ≤ ((VV r : Nat) : Int) := Int.natCast_nonneg _
  have hne : ¬ Lift.feq (wd (decide (m < 0)) r) negInf = true := by
    rw [feq_eq nx ni, decide_eq_true_eq, sV_negInf, hx]
    split <;> omega
  have hgt : Lift.fgt negInf (wd (decide (m < 0)) r) = false := by
    rw [fgt_eq ni nx, sV_negInf, hx]
    exact decide_eq_false (by split <;> omega)
  have hUp : (0 : Int) < (UU : Int) := Int.ofNat_lt.2 UU_pos
  have zero : ¬ m = 0 → ¬ Lift.feq (wd (decide (m < 0)) r) 0 = true := fun hm => by
    rw [feq_eq nx nan_zero, decide_eq_true_eq, sV_zero, hs]
    intro e
    exact hm ((Int.mul_eq_zero.1 e).resolve_right (by omega))
  rcases Int.lt_trichotomy m 0 with c | c | c
  · have hr0 : r ≠ 0 := fun e => by have := hz.1 e; omega
    rw [decide_eq_true c] at *
    have ew : wd true r = 9223372036854775808 + r := by unfold wd; rw [if_pos rfl]
    have hfz : Lift.fgt (wd true r) 0 = false := by
      rw [fgt_eq nx nan_zero, sV_zero, hs]
      refine decide_eq_false ?_
      have := Int.mul_lt_mul_of_pos_right c hUp
      rw [Int.zero_mul] at this
      omega
    have hB0 : Ev (fun N => math_Nextafter_B0 N (wd true r) negInf) (wd true (r + 1)) := by
      refine Ev.step ?_ (fun N => by rw [math_Nextafter_B0])
      refine Ev.bind hB1 (Ev.neg (by simp) (Ev.neg hne (Ev.neg (zero (by omega)) (Ev.pos (by rw [hgt, hfz]) ?_))))
      have e : Int.toNat (IntKind.wrap .u64 (((wd true r : Nat) : Int) + (1 : Int))) = wd true (r + 1) := by
        rw [ew, wrapU _ (by omega) (by omega)]; unfold wd; rw [if_pos rfl]; omega
      rw [e]; exact Ev.now _
    refine ⟨wd true (r + 1), Ev.bind hB0 (Ev.now _), wd_lt _ (by omega), nan_wd _ (by omega), ?_⟩
    rw [← hs, hx, sV_wd true (by omega), if_pos rfl, if_pos rfl]
    have := Int.ofNat_lt.2 (VV_succ r)
    omega
  · subst c
    have hr0 := hz.2 rfl
    subst hr0
    refine ⟨9223372036854775809, ?_, by decide, by decide, ?_⟩
    · exact Ev.from 20 (fun N => by kernel_rfl)
    · rw [Int.zero_mul]; decide
  · have hr0 : r ≠ 0 := fun e => by have := hz.1 e; omega
    rw [decide_eq_false (show ¬ m < 0 by omega)] at *
    have hfz : Lift.fgt (wd false r) 0 = true := by
      rw [fgt_eq nx nan_zero, sV_zero, hs]
      refine decide_eq_true ?_
      have := Int.mul_lt_mul_of_pos_right c hUp
      rw [Int.zero_mul] at this
      exact this
    have hB0 : Ev (fun N => math_Nextafter_B0 N (wd false r) negInf) (wd false (r - 1)) := by
      refine Ev.step ?_ (fun N => by rw [math_Nextafter_B0])
      refine Ev.bind hB1 (Ev.neg (by simp) (Ev.neg hne (Ev.neg (zero (by omega)) (Ev.neg (by rw [hgt, hfz]; simp) ?_))))
      have e : Int.toNat (IntKind.wrap .u64 (((wd false r : Nat) : Int) - (1 : Int))) = wd false (r - 1) := by
        rw [wd_false, wd_false, wrapU _ (by omega) (by omega)]; omega
      rw [e]; exact Ev.now _
    refine ⟨wd false (r - 1), Ev.bind hB0 (Ev.now _), wd_lt _ (by omega), nan_wd _ (by omega), ?_⟩
    rw [← hs, hx, sV_wd false (by omega), if_neg (by simp), if_neg (by simp)]
    have := Int.ofNat_lt.2 (VV_lt (show r - 1 < r by omega))
    omega
theorem cmpF_vals (x : Int) (b : Nat) : cmpF x b = 1 ∨ cmpF x b = -1 := by
  unfold cmpF
  split
  · exact .inr rfl
  · split
    · exact .inl rfl
    · exact .inr rfl
theorem place_sV2 {a b : Nat} (na : nanW a = false) (nb : nanW b = false) (h : sV a < sV b) : place a < place b := by
  rw [sV_lt] at h
  unfold place
  rw [na, nb]
  simp only [Bool.false_eq_true, if_false]
  split <;> split <;> simp_all <;> omega
theorem cmpF_mono {x : Int} {a b : Nat} (h : place a ≤ place b) (hp : cmpF x a = -1) : cmpF x b = -1 := by
  have hra : rg a < 9223372036854775808 := Nat.mod_lt _ (by decide)
  have hrb : rg b < 9223372036854775808 := Nat.mod_lt _ (by decide)
  unfold cmpF at hp ⊢
  cases nb : nanW b with
  | true => rfl
  | false =>
    have na : nanW a = false := by
      cases q : nanW a with
      | false => rfl
      | true =>
        unfold place at h
        rw [q, nb] at h
        simp only [if_true, Bool.false_eq_true, if_false] at h
        split at h <;> omega
    rw [na] at hp
    simp only [Bool.false_eq_true, if_false] at hp ⊢
    split at hp
    · cases hp
    · rename_i hn
      have : ¬ sV b < sV a := fun q => by have := place_sV2 nb na q; omega
      rw [if_neg (by omega)]
namespace Pure
end Pure
end Go.Proofs.Ytehocjeeaigkeaa.Sh
