import Derived.Test.YtehocjeeaigkeaaPureRealA
set_option linter.unusedVariables false
namespace Go.Proofs.Ytehocjeeaigkeaa.Sh
open Go Lift Go.Proofs
theorem place_inj {a b : Int} (ha : W64 a) (hb : W64 b) (na : nanW a.toNat = true → a = 9221120237041090561) (nb : nanW b.toNat = true → b = 9221120237041090561) : place a.toNat = place b.toNat ↔ a = b := by
  have a0 := ha.lo; have a1 := ha.hi; have b0 := hb.lo; have b1 := hb.hi
  constructor
  · intro h
    have ea : nanW a.toNat = decide (9218868437227405312 < a.toNat % 9223372036854775808) := rfl
    have eb : nanW b.toNat = decide (9218868437227405312 < b.toNat % 9223372036854775808) := rfl
    unfold place at h
    rw [sg_ge ha, sg_ge hb] at h
    cases ka : nanW a.toNat with
    | true =>
      cases kb : nanW b.toNat with
      | true => rw [na ka, nb kb]
      | false =>
        rw [ka, kb] at h
        rw [eb, decide_eq_false_iff_not] at kb
        unfold rg at h
        simp only [decide_eq_true_eq, if_true, Bool.false_eq_true, if_false] at h
        split at h <;> omega
    | false =>
      rw [ka] at h
      rw [ea, decide_eq_false_iff_not] at ka
      cases kb : nanW b.toNat with
      | true =>
        rw [kb] at h
        unfold rg at h
        simp only [decide_eq_true_eq, if_true, Bool.false_eq_true, if_false] at h
        split at h <;> omega
      | false =>
        rw [kb] at h
        unfold rg at h
        simp only [decide_eq_true_eq, Bool.false_eq_true, if_false] at h
        split at h <;> split at h <;> omega
  · intro h; rw [h]
theorem place_sV {a b : Nat} (na : nanW a = false) (nb : nanW b = false) (h : sV a < sV b) : place a < place b := by
  rw [sV_lt] at h
  unfold place
  rw [na, nb]
  simp only [Bool.false_eq_true, if_false]
  split <;> split <;> simp_all <;> omega
namespace Pure
theorem RealOrder (x0 : Int) (x1 : Int) (x2 : Int) (w0 : (InR .u64) x0) (w1 : (InR .u64) x1) (w2 : (InR .u64) x2) : ∃ N, beehivelaw2_RealOrder N x0 x1 x2 = some true := by
  refine Ev.ex (f := fun N => beehivelaw2_RealOrder N x0 x1 x2) ?_
  have h0 := cleanW_w (inW w0)
  have h1 := cleanW_w (inW w1)
  have h2 := cleanW_w (inW w2)
  have n0 := fun h => cleanW_nan (b := x0) h
  have n1 := fun h => cleanW_nan (b := x1) h
  refine Ev.bind (clean_ev x0) (Ev.bind (clean_ev x1) (Ev.bind (clean_ev x2) ?_))
  generalize cleanW x0 = a at *
  generalize cleanW x1 = b at *
  generalize cleanW x2 = c at *
  have e0 := pcmp_ev a b h0 h1
  have e1 := pcmp_ev b c h1 h2
  have e2 := pcmp_ev a c h0 h2
  have e3 := pcmp_ev b a h1 h0
  have haw : Ev (fun N => (beehivelaw2_awake N).bind fun r34 => some r34) true := Ev.bind awake2_ev (Ev.now _)
  have hinj := place_inj h0 h1 n0 n1
  have hlt : ∀ {u v : Int}, Lift.flt u.toNat v.toNat = true → place u.toNat < place v.toNat := fun {u v} h => by
    by_cases hn : nanW u.toNat = true ∨ nanW v.toNat = true
    · rw [(nan_flt hn).1] at h; cases h
    · have nu : nanW u.toNat = false := by cases hq : nanW u.toNat with | true => exact absurd (.inl hq) hn | false => rfl
      have nv : nanW v.toNat = false := by cases hq : nanW v.toNat with | true => exact absurd (.inr hq) hn | false => rfl
      rw [flt_eq nu nv, decide_eq_true_eq] at h
      exact place_sV nu nv h
  have hgt : ∀ {u v : Int}, Lift.fgt u.toNat v.toNat = true → place v.toNat < place u.toNat := fun {u v} h => by
    by_cases hn : nanW u.toNat = true ∨ nanW v.toNat = true
    · rw [(nan_flt hn).2.1] at h; cases h
    · have nu : nanW u.toNat = false := by cases hq : nanW u.toNat with | true => exact absurd (.inl hq) hn | false => rfl
      have nv : nanW v.toNat = false := by cases hq : nanW v.toNat with | true => exact absurd (.inr hq) hn | false => rfl
      rw [fgt_eq nu nv, decide_eq_true_eq] at h
      exact place_sV nv nu h
  have hlt' := hlt (u := a) (v := b)
  have hgt' := hgt (u := a) (v := b)
  have hB1 : Ev (fun N => beehivelaw2_RealOrder_B1 N a b (sgn (place a.toNat - place b.toNat)) (sgn (place b.toNat - place c.toNat)) (sgn (place a.toNat - place c.toNat))) false := by
    refine Ev.step ?_ (fun N => by rw [beehivelaw2_RealOrder_B1])
    have k1 : sgn (place b.toNat - place a.toNat) = -(sgn (place a.toNat - place b.toNat)) := by unfold sgn; repeat' split <;> omega
    have k2 : (sgn (place a.toNat - place b.toNat) == 0) = (a == b) := by rw [Bool.eq_iff_iff, beq_iff_eq, beq_iff_eq, sgn_zero, ← hinj]; omega
    rw [k1] at e3
    have bx : -1 ≤ sgn (place a.toNat - place b.toNat) ∧ sgn (place a.toNat - place b.toNat) ≤ 1 := by unfold sgn; repeat' split <;> omega
    have t1 : sgn (place a.toNat - place b.toNat) ≤ 0 → sgn (place b.toNat - place c.toNat) ≤ 0 → sgn (place a.toNat - place c.toNat) ≤ 0 := by unfold sgn; repeat' split <;> omega
    have t2 : sgn (place a.toNat - place b.toNat) ≥ 0 → sgn (place b.toNat - place c.toNat) ≥ 0 → ¬ sgn (place a.toNat - place c.toNat) < 0 := by unfold sgn; repeat' split <;> omega
    generalize sgn (place a.toNat - place b.toNat) = x at *
    generalize sgn (place b.toNat - place c.toNat) = y at *
    generalize sgn (place a.toNat - place c.toNat) = z at *
    refine Ev.bind e3 (Ev.neg (by rw [wrapI _ (by omega) (by omega)]; omega) (Ev.neg (by rw [k2]; simp) ?_))
    have tail : Ev (fun _ => if x ≥ (0 : Int) then if y ≥ (0 : Int) then some (decide (z < (0 : Int))) else some false else some false) false := by
      by_cases c1 : x ≥ 0
      · refine Ev.pos c1 ?_
        by_cases c2 : y ≥ 0
        · refine Ev.pos c2 ?_
          rw [decide_eq_false (t2 c1 c2)]
          exact Ev.now _
        · exact Ev.neg c2 (Ev.now _)
      · exact Ev.neg c1 (Ev.now _)
    by_cases c1 : x ≤ 0
    · refine Ev.pos c1 ?_
      by_cases c2 : y ≤ 0
      · exact Ev.pos c2 (Ev.neg (by have := t1 c1 c2; omega) tail)
      · exact Ev.neg c2 tail
    · exact Ev.neg c1 tail
  have hB0 : Ev (fun N => beehivelaw2_RealOrder_B0 N a b (sgn (place a.toNat - place b.toNat)) (sgn (place b.toNat - place c.toNat)) (sgn (place a.toNat - place c.toNat))) (.inl ()) := by
    refine Ev.step ?_ (fun N => by rw [beehivelaw2_RealOrder_B0])
    exact Ev.bind hB1 (Ev.neg (by simp) (Ev.now _))
  have hB3 : Ev (fun N => beehivelaw2_RealOrder_B3 N a b (sgn (place a.toNat - place b.toNat))) false := by
    refine Ev.step ?_ (fun N => by rw [beehivelaw2_RealOrder_B3])
    have tail : Ev (fun _ => if Lift.fgt a.toNat b.toNat = true then some (sgn (place a.toNat - place b.toNat) != (1 : Int)) else some false) false := by
      by_cases c : Lift.fgt a.toNat b.toNat = true
      · refine Ev.pos c ?_
        have := hgt' c
        rw [sgn_pos (by omega)]
        exact Ev.now _
      · exact Ev.neg c (Ev.now _)
    by_cases c : Lift.flt a.toNat b.toNat = true
    · have := hlt' c
      exact Ev.pos c (Ev.neg (by rw [sgn_neg (by omega)]; simp) tail)
    · exact Ev.neg c tail
  have hB2 : Ev (fun N => beehivelaw2_RealOrder_B2 N a b (sgn (place a.toNat - place b.toNat))) (.inl ()) := by
    refine Ev.step ?_ (fun N => by rw [beehivelaw2_RealOrder_B2])
    exact Ev.bind hB3 (Ev.neg (by simp) (Ev.now _))
  refine Ev.bind e0 (Ev.bind e1 (Ev.bind e2 (Ev.bind hB0 (Ev.bind hB2 ?_))))
  by_cases hn : a = 9221120237041090561
  · exact Ev.pos hn haw
  · have hnan : nanW a.toNat = false := by cases hq : nanW a.toNat with | true => exact absurd (n0 hq) hn | false => rfl
    have hl : sgn (place a.toNat - place (9221120237041090561 : Int).toNat) = -1 := by
      refine sgn_neg ?_
      have hr : rg a.toNat < 9223372036854775808 := Nat.mod_lt _ (by decide)
      have e : place (9221120237041090561 : Int).toNat = 9223372036854775808 := by unfold place; rw [if_pos nan_NN]
      rw [e]
      unfold place
      rw [hnan]
      simp only [Bool.false_eq_true, if_false]
      split <;> omega
    have e4 := pcmp_ev a 9221120237041090561 h0 ⟨by decide, by decide⟩
    rw [hl] at e4
    exact Ev.neg hn (Ev.bind e4 (Ev.pos rfl haw))
end Pure
end Go.Proofs.Ytehocjeeaigkeaa.Sh
