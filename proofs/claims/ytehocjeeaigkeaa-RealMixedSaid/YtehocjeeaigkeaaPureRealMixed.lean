import Derived.Test.YtehocjeeaigkeaaPureRealB
import Derived.Test.YtehocjeeaigkeaaPureOfB
import Derived.Test.YtehocjeeaigkeaaPureRefOf
set_option linter.unusedVariables false
set_option linter.unusedSimpArgs false
namespace Go.Proofs.Ytehocjeeaigkeaa.Sh
open Go Lift Go.Proofs
theorem low2 (x n : Int) (h0 : 0 < n) (h1 : n < 9223372036854775808) : ∃ r, Ev (fun N => beehivelaw0_Low N x n) r ∧ 0 ≤ r ∧ r < n := by
  have hu := wrapU_eq x
  have e1 : IntKind.u64.wrap n = n := wrapU n (by omega) (by omega)
  have hp : 0 ≤ IntKind.u64.wrap x := by omega
  have e2 : (IntKind.u64.wrap x).tmod n = IntKind.u64.wrap x % n := Int.tmod_eq_emod_of_nonneg hp
  have b0 := Int.emod_nonneg (IntKind.u64.wrap x) (show n ≠ 0 by omega)
  have b1 := Int.emod_lt_of_pos (IntKind.u64.wrap x) h0
  refine ⟨IntKind.u64.wrap x % n, ?_, b0, b1⟩
  refine Ev.bindc (a := IntKind.u64.wrap x % n) (by rw [e1, rem_eq (by omega), e2]) ?_
  have e3 : IntKind.i64.wrap (IntKind.u64.wrap x % n) = IntKind.u64.wrap x % n := wrapI _ (by omega) (by omega)
  show Ev (fun _ => some (IntKind.i64.wrap (IntKind.u64.wrap x % n))) _
  rw [e3]
  exact Ev.now _
theorem rung_le {T : Nat} (h : T ≤ 9007199254740992) : ∃ r, VV r = T * UU ∧ r < 9218868437227405312 := by
  have : ∃ r, VV r = T * UU := by
    by_cases c : T < 9007199254740992
    · obtain ⟨r, hr⟩ := rung_of UUn T c
      exact ⟨r, by rw [hr, UU_def]⟩
    · obtain ⟨r, hr⟩ := rung_of (1 + UUn) 4503599627370496 (by decide)
      refine ⟨r, ?_⟩
      rw [hr, Nat.pow_add, UU_def, Nat.pow_one, ← Nat.mul_assoc, show T = 4503599627370496 * 2 by omega]
  obtain ⟨r, hr⟩ := this
  refine ⟨r, hr, ?_⟩
  have h1 : VV r < VV 9218868437227405312 := by
    rw [hr]
    have e1 := VV_inf_ge 1200 (by decide)
    rw [UU_up 126 1200 rfl] at e1
    have e2 := Nat.mul_le_mul_right UU (show T ≤ 9007199254740992 from h)
    have e3 : 9007199254740992 * UU < 2 ^ 126 * UU := Nat.mul_lt_mul_of_pos_right (by decide) UU_pos
    omega
  exact VV_lt_iff.1 h1
theorem sV_wd (s : Bool) {r : Nat} (h : r < 9223372036854775808) : sV (wd s r) = if s then -((VV r : Nat) : Int) else ((VV r : Nat) : Int) := by
  unfold sV
  rw [sg_wd s h, rg_wd s h]
/-- A whole number as a float. -/
theorem small_float {m : Int} (h : m.natAbs ≤ 9007199254740992) : ∃ r, nearR m.natAbs 0 = r ∧ r < 9218868437227405312 ∧ VV r = m.natAbs * UU ∧ sV (wd (decide (m < 0)) r) = m * (UU : Int) ∧ (r = 0 ↔ m = 0) := by
  obtain ⟨r, hr, hlt⟩ := rung_le h
  refine ⟨r, nearR_small hr (by omega), hlt, hr, ?_, ?_⟩
  · rw [sV_wd _ (by omega), hr, Int.natCast_mul]
    by_cases c : m < 0
    · rw [decide_eq_true c, if_pos rfl, ← Int.neg_mul]; congr 1; omega
    · rw [decide_eq_false c, if_neg (by simp)]; congr 1; omega
  · have hU := UU_pos
    constructor
    · intro e; subst e
      rw [VV_zero] at hr
      have := (Nat.mul_eq_zero.1 hr.symm).resolve_right (by omega)
      omega
    · intro e
      have : VV r = 0 := by rw [hr, e]; simp
      have := VV_inj (s := 0) (by rw [this]; rfl)
      exact this
def negInf : Nat := 18442240474082181120
theorem inf_ev : Ev (fun N => math_Inf N (-1 : Int)) negInf := Ev.from 3 (fun N => by kernel_rfl)
theorem sV_negInf : sV negInf = -((VV 9218868437227405312 : Nat) : Int) := by
  have : negInf = wd true 9218868437227405312 := by decide
  rw [this, sV_wd true (by decide), if_pos rfl]
/-- The next float below. -/
theorem below_ev {m : Int} (h : m.natAbs ≤ 9007199254740992) : ∃ b, Ev (fun N => math_Nextafter N (wd (decide (m < 0)) (nearR m.natAbs 0)) negInf) b ∧ b < 18446744073709551616 ∧ nanW b = false ∧ sV b < m * (UU : Int) := by
  obtain ⟨r, hr, hlt, hv, hs, hz⟩ := small_float h
  rw [hr]
  have nx := nan_wd (decide (m < 0)) (r := r) (by omega)
  have ni : nanW negInf = false := by decide
  have hB1 : Ev (fun N => math_Nextafter_B1 N (wd (decide (m < 0)) r) negInf) false := by
    refine Ev.step ?_ (fun N => by rw [math_Nextafter_B1])
    refine Ev.bind (a := false) ?_ (Ev.neg (by simp) (Ev.bind (a := false) ?_ (Ev.now _)))
    · rw [← nx, ← Lift.fne_self]; exact Ev.now _
    · rw [← ni, ← Lift.fne_self]; exact Ev.now _
  have hbig : ((VV r : Nat) : Int) < ((VV 9218868437227405312 : Nat) : Int) := Int.ofNat_lt.2 (VV_lt hlt)
  have hx := sV_wd (decide (m < 0)) (r := r) (by omega)
  have hp0 : (0 : Int) ≤ ((VV r : Nat) : Int) := Int.natCast_nonneg _
  have hne : ¬ Lift.feq (wd (decide (m < 0)) r) negInf = true := by
    rw [feq_eq nx ni, decide_eq_true_eq, sV_negInf, hx]
    split <;> omega
  have hgt : Lift.fgt negInf (wd (decide (m < 0)) r) = false := by
    rw [fgt_eq ni nx, sV_negInf, hx]
    exact decide_eq_false (by split <;> omega)
  have hUp : (0 : Int) < (UU : Int) := Int.ofNat_lt.2 UU_pos
  have zero : ¬ m = 0 → ¬ Lift.feq (wd (decide (m < 0)) r) 0 = true := fun hm => by
    rw [feq_eq nx nan_zero, decide_eq_true_eq, sV_zero, hs]
    intro e
    exact hm ((Int.mul_eq_zero.1 e).resolve_right (by omega))
  rcases Int.lt_trichotomy m 0 with c | c | c
  · have hr0 : r ≠ 0 := fun e => by have := hz.1 e; omega
    rw [decide_eq_true c] at *
    have ew : wd true r = 9223372036854775808 + r := by unfold wd; rw [if_pos rfl]
    have hfz : Lift.fgt (wd true r) 0 = false := by
      rw [fgt_eq nx nan_zero, sV_zero, hs]
      refine decide_eq_false ?_
      have := Int.mul_lt_mul_of_pos_right c hUp
      rw [Int.zero_mul] at this
      omega
    have hB0 : Ev (fun N => math_Nextafter_B0 N (wd true r) negInf) (wd true (r + 1)) := by
      refine Ev.step ?_ (fun N => by rw [math_Nextafter_B0])
      refine Ev.bind hB1 (Ev.neg (by simp) (Ev.neg hne (Ev.neg (zero (by omega)) (Ev.pos (by rw [hgt, hfz]) ?_))))
      have e : Int.toNat (IntKind.wrap .u64 (((wd true r : Nat) : Int) + (1 : Int))) = wd true (r + 1) := by
        rw [ew, wrapU _ (by omega) (by omega)]; unfold wd; rw [if_pos rfl]; omega
      rw [e]; exact Ev.now _
    refine ⟨wd true (r + 1), Ev.bind hB0 (Ev.now _), wd_lt _ (by omega), nan_wd _ (by omega), ?_⟩
    rw [← hs, hx, sV_wd true (by omega), if_pos rfl, if_pos rfl]
    have := Int.ofNat_lt.2 (VV_succ r)
    omega
  · subst c
    have hr0 := hz.2 rfl
    subst hr0
    refine ⟨9223372036854775809, ?_, by decide, by decide, ?_⟩
    · exact Ev.from 20 (fun N => by kernel_rfl)
    · rw [Int.zero_mul]; decide
  · have hr0 : r ≠ 0 := fun e => by have := hz.1 e; omega
    rw [decide_eq_false (show ¬ m < 0 by omega)] at *
    have hfz : Lift.fgt (wd false r) 0 = true := by
      rw [fgt_eq nx nan_zero, sV_zero, hs]
      refine decide_eq_true ?_
      have := Int.mul_lt_mul_of_pos_right c hUp
      rw [Int.zero_mul] at this
      exact this
    have hB0 : Ev (fun N => math_Nextafter_B0 N (wd false r) negInf) (wd false (r - 1)) := by
      refine Ev.step ?_ (fun N => by rw [math_Nextafter_B0])
      refine Ev.bind hB1 (Ev.neg (by simp) (Ev.neg hne (Ev.neg (zero (by omega)) (Ev.neg (by rw [hgt, hfz]; simp) ?_))))
      have e : Int.toNat (IntKind.wrap .u64 (((wd false r : Nat) : Int) - (1 : Int))) = wd false (r - 1) := by
        rw [wd_false, wd_false, wrapU _ (by omega) (by omega)]; omega
      rw [e]; exact Ev.now _
    refine ⟨wd false (r - 1), Ev.bind hB0 (Ev.now _), wd_lt _ (by omega), nan_wd _ (by omega), ?_⟩
    rw [← hs, hx, sV_wd false (by omega), if_neg (by simp), if_neg (by simp)]
    have := Int.ofNat_lt.2 (VV_lt (show r - 1 < r by omega))
    omega
theorem cmpF_vals (x : Int) (b : Nat) : cmpF x b = 1 ∨ cmpF x b = -1 := by
  unfold cmpF
  split
  · exact .inr rfl
  · split
    · exact .inl rfl
    · exact .inr rfl
theorem place_sV2 {a b : Nat} (na : nanW a = false) (nb : nanW b = false) (h : sV a < sV b) : place a < place b := by
  rw [sV_lt] at h
  unfold place
  rw [na, nb]
  simp only [Bool.false_eq_true, if_false]
  split <;> split <;> simp_all <;> omega
theorem cmpF_mono {x : Int} {a b : Nat} (h : place a ≤ place b) (hp : cmpF x a = -1) : cmpF x b = -1 := by
  have hra : rg a < 9223372036854775808 := Nat.mod_lt _ (by decide)
  have hrb : rg b < 9223372036854775808 := Nat.mod_lt _ (by decide)
  unfold cmpF at hp ⊢
  cases nb : nanW b with
  | true => rfl
  | false =>
    have na : nanW a = false := by
      cases q : nanW a with
      | false => rfl
      | true =>
        unfold place at h
        rw [q, nb] at h
        simp only [if_true, Bool.false_eq_true, if_false] at h
        split at h <;> omega
    rw [na] at hp
    simp only [Bool.false_eq_true, if_false] at hp ⊢
    split at hp
    · cases hp
    · rename_i hn
      have : ¬ sV b < sV a := fun q => by have := place_sV2 nb na q; omega
      rw [if_neg (by omega)]
namespace Pure
theorem RealMixed (x0 : Int) (x1 : Int) (x2 : Int) (w0 : (InR .i64) x0) (w1 : (InR .u64) x1) (w2 : (InR .u64) x2) : ∃ N, beehivelaw2_RealMixed N x0 x1 x2 = some true := by
  refine Ev.ex (f := fun N => beehivelaw2_RealMixed N x0 x1 x2) ?_
  obtain ⟨r1, e1, l0, l1⟩ := low2 x0 18014398509481984 (by decide) (by decide)
  have hw : IntKind.wrap .i64 (r1 - (9007199254740992 : Int)) = r1 - 9007199254740992 := wrapI _ (by omega) (by omega)
  refine Ev.bind e1 ?_
  rw [hw]
  generalize hm : r1 - 9007199254740992 = m
  have hm2 : m.natAbs ≤ 9007199254740992 := by omega
  have htop : (m.natAbs : Int) < TOP := by unfold TOP; omega
  obtain ⟨r, hr, hlt, hv, hs, hz⟩ := small_float hm2
  have h1 := cleanW_w (inW w1)
  have h2 := cleanW_w (inW w2)
  refine Ev.bind (refOf_ev m (by omega) (by omega)) (Ev.bind (clean_ev x1) (Ev.bind (clean_ev x2) ?_))
  generalize cleanW x1 = a at *
  generalize cleanW x2 = b at *
  obtain ⟨p, q, hpq, hp, hq, hB0⟩ : ∃ p q : Int, place p.toNat ≤ place q.toNat ∧ W64 p ∧ W64 q ∧ Ev (fun N => beehivelaw2_RealMixed_B0 N r1 (numN m) a b) (p, q) := by
    have hc := pcmp_ev a b h1 h2
    by_cases c : sgn (place a.toNat - place b.toNat) > 0
    · refine ⟨b, a, ?_, h2, h1, ?_⟩
      · have : 0 < place a.toNat - place b.toNat := by
          apply Classical.byContradiction
          intro hn
          unfold sgn at c
          split at c
          · omega
          · split at c <;> omega
        omega
      · refine Ev.step ?_ (fun N => by rw [beehivelaw2_RealMixed_B0])
        exact Ev.bind hc (Ev.pos c (Ev.now _))
    · refine ⟨a, b, ?_, h1, h2, ?_⟩
      · apply Classical.byContradiction
        intro hn
        exact c (by rw [sgn_pos (by omega)]; decide)
      · refine Ev.step ?_ (fun N => by rw [beehivelaw2_RealMixed_B0])
        exact Ev.bind hc (Ev.neg c (Ev.now _))
  have cn := fun (z : Int) (hz : W64 z) => cmpNum_ev m htop z hz.lo hz.hi
  have hf : Lift.fint m = wd (decide (m < 0)) (nearR m.natAbs 0) := fint_eq m
  have nf : nanW (wd (decide (m < 0)) r) = false := nan_wd _ (by omega)
  obtain ⟨bl, eb, b0, b1, b2⟩ := below_ev hm2
  have hwl := wd_lt (decide (m < 0)) (r := r) (by omega)
  have tail : ∀ (r8 r9 : Int), (r8 = 1 ∨ r8 = -1) → (r9 = 1 ∨ r9 = -1) → Ev (fun N => if (IntKind.wrap .i64 (r8 * r8)) = (1 : Int) then if (IntKind.wrap .i64 (r9 * r9)) = (1 : Int) then (real_CmpNum N (numN m) ((wd (decide (m < 0)) r : Nat) : Int)).bind fun r17 => if r17 = (-1 : Int) then (real_CmpNum N (numN m) ((bl : Nat) : Int)).bind fun r19 => if r19 = (1 : Int) then (real_CmpNum N (numN m) (9221120237041090561 : Int)).bind fun r21 => if r21 = (-1 : Int) then (real_CmpNum N (numN m) (9218868437227405312 : Int)).bind fun r23 => if r23 = (-1 : Int) then (real_CmpNum N (numN m) (18442240474082181120 : Int)).bind fun r25 => if r25 = (1 : Int) then (beehivelaw2_awake N).bind fun r27 => some r27 else some false else some false else some false else some false else some false else some false else some false) true := fun r8 r9 k8 k9 => by
    have sq : ∀ z : Int, z = 1 ∨ z = -1 → IntKind.wrap .i64 (z * z) = 1 := fun z hz => by rcases hz with rfl | rfl <;> decide
    have hbig : ((VV r : Nat) : Int) < ((VV 9218868437227405312 : Nat) : Int) := Int.ofNat_lt.2 (VV_lt hlt)
    have hp0 : (0 : Int) ≤ ((VV r : Nat) : Int) := Int.natCast_nonneg _
    have hx := sV_wd (decide (m < 0)) (r := r) (by omega)
    refine Ev.pos (sq r8 k8) (Ev.pos (sq r9 k9) ?_)
    refine Ev.bind (cn _ ⟨by omega, by omega⟩) (Ev.pos ?_ (Ev.bind (cn _ ⟨by omega, by omega⟩) (Ev.pos ?_ ?_)))
    · unfold cmpF
      rw [Int.toNat_natCast, nf, hs, if_neg (by simp), if_neg (by omega)]
    · unfold cmpF
      rw [Int.toNat_natCast, b1, if_neg (by simp), if_pos b2]
    · refine Ev.bind (cn _ ⟨by decide, by decide⟩) (Ev.pos ?_ (Ev.bind (cn _ ⟨by decide, by decide⟩) (Ev.pos ?_ (Ev.bind (cn _ ⟨by decide, by decide⟩) (Ev.pos ?_ (Ev.bind awake2_ev (Ev.now _)))))))
      · unfold cmpF
        rw [if_pos (by decide)]
      · have e : (9218868437227405312 : Int).toNat = wd false 9218868437227405312 := by decide
        have es : sV (wd false 9218868437227405312) = ((VV 9218868437227405312 : Nat) : Int) := by rw [sV_wd false (by decide), if_neg (by simp)]
        unfold cmpF
        rw [e, nan_wd false (by decide), es]
        simp only [Bool.false_eq_true, if_false]
        rw [if_neg (by rw [← hs, hx]; split <;> omega)]
      · have e : (18442240474082181120 : Int).toNat = wd true 9218868437227405312 := by decide
        have es : sV (wd true 9218868437227405312) = -((VV 9218868437227405312 : Nat) : Int) := by rw [sV_wd true (by decide), if_pos rfl]
        unfold cmpF
        rw [e, nan_wd true (by decide), es]
        simp only [Bool.false_eq_true, if_false]
        rw [if_pos (by rw [← hs, hx]; split <;> omega)]
  have hB1 : Ev (fun N => beehivelaw2_RealMixed_B1 N (numN m) (cmpF m p.toNat) (cmpF m q.toNat) ((wd (decide (m < 0)) r : Nat) : Int) bl) true := by
    refine Ev.step ?_ (fun N => by rw [beehivelaw2_RealMixed_B1])
    have t := tail _ _ (cmpF_vals m p.toNat) (cmpF_vals m q.toNat)
    by_cases c : cmpF m p.toNat > 0
    · exact Ev.pos c t
    · have hp1 : cmpF m p.toNat = -1 := by
        rcases cmpF_vals m p.toNat with h | h
        · rw [h] at c; exact absurd (by decide) c
        · exact h
      have hq1 := cmpF_mono hpq hp1
      exact Ev.neg c (Ev.pos (by rw [hq1]; decide) t)
  refine Ev.bind hB0 (Ev.bind (cn p hp) (Ev.bind (cn q hq) (Ev.bind (rOf_ev m htop) ?_)))
  rw [hf, hr] at *
  refine Ev.neg ?_ (Ev.bind inf_ev (Ev.bind eb (Ev.bind hB1 (Ev.now _))))
  rw [Int.toNat_natCast, Lift.fne_self, nf]
  simp
end Pure
end Go.Proofs.Ytehocjeeaigkeaa.Sh
