import Derived.Test.YtehocjeeaigkeaaPureNumE
set_option linter.unusedVariables false
set_option linter.unusedSimpArgs false
namespace Go.Proofs.Ytehocjeeaigkeaa.Sh
open Go Lift Go.Proofs
/-! ### The document's integer of a number -/
theorem fit_loop (neg : Bool) (l : List Int) (hb : limbs l) (hl : l.length < 1000000) : ∀ k : Nat, k ≤ l.length → val l = val (l.take k) → Ev (fun N => beehiveref1_fit_L0 N neg l (k : Int)) ((((toL (val l).toNat).length : Nat)) : Int) ∧ toL (val l).toNat = l.take (toL (val l).toNat).length
  | 0, hk, hv => by
    have h0 : val l = 0 := by rw [hv]; rfl
    rw [h0, Int.toNat_zero, toL_zero]
    refine ⟨?_, by simp⟩
    refine Ev.step ?_ (fun N => by rw [beehiveref1_fit_L0])
    exact Ev.neg (by simp) (Ev.now _)
  | k + 1, hk, hv => by
    have hw : IntKind.wrap .i64 (((k + 1 : Nat) : Int) - 1) = (k : Int) := by rw [wrapI _ (by omega) (by omega)]; omega
    by_cases h : dg l k = 0
    · have e : val l = val (l.take k) := by
        have a := val_take l k (by omega)
        rw [h, Int.mul_zero, Int.add_zero] at a
        rw [hv, a]
      obtain ⟨h1, h2⟩ := fit_loop neg l hb hl k (by omega) e
      refine ⟨?_, h2⟩
      refine Ev.step ?_ (fun N => by rw [beehiveref1_fit_L0, hw])
      exact Ev.pos (by omega) (Ev.bindc (idx_dg (by omega)) (Ev.pos h h1))
    · have hn : norm (l.take (k + 1)) := ⟨limbs_take hb _, fun _ => by
        have e : (l.take (k + 1)).length - 1 = k := by rw [List.length_take]; omega
        rw [e]
        have : dg (l.take (k + 1)) k = dg l k := by
          unfold dg
          rw [List.getD_eq_getElem?_getD, List.getD_eq_getElem?_getD, List.getElem?_take]
          rw [if_pos (by omega)]
        rw [this]; exact h⟩
      have e : toL (val l).toNat = l.take (k + 1) := by rw [hv]; exact (norm_toL hn).symm
      have el : (toL (val l).toNat).length = k + 1 := by rw [e, List.length_take]; omega
      refine ⟨?_, by rw [el]; exact e⟩
      rw [el]
      refine Ev.step ?_ (fun N => by rw [beehiveref1_fit_L0, hw])
      exact Ev.pos (by omega) (Ev.bindc (idx_dg (by omega)) (Ev.neg h (Ev.now _)))
theorem fit_ev (neg : Bool) (l : List Int) (hb : limbs l) (hl : l.length < 1000000) : Ev (fun N => beehiveref1_fit N neg l) (⟨neg && decide (val l ≠ 0), toL (val l).toNat⟩ : Tapi_Num) := by
  obtain ⟨h1, h2⟩ := fit_loop neg l hb hl l.length (Nat.le_refl _) (by rw [List.take_length])
  have hv := val_nonneg hb
  have he := toL_empty (val l) hv
  refine Ev.bind h1 ?_
  by_cases h0 : val l = 0
  · have e1 : toL (val l).toNat = [] := by rw [h0]; exact toL_zero
    rw [e1]
    refine Ev.pos rfl ?_
    rw [h0, decide_eq_false (by simp), Bool.and_false]
    exact Ev.now _
  · have hpos := he.2 h0
    have hle : (toL (val l).toNat).length ≤ l.length := by rw [h2, List.length_take]; omega
    refine Ev.neg (by omega) (Ev.bindc (cut_front hle) (Ev.bindc (app0_eq (by rw [List.length_take, lim_eq]; omega)) ?_))
    rw [decide_eq_true h0, Bool.and_true, ← h2]
    exact Ev.now _
theorem refOf_ev (n : Int) (h0 : -9223372036854775808 ≤ n) (h1 : n ≤ 9223372036854775807) : Ev (fun N => beehiveref1_Of N n) (numN n) := by
  have key : ∀ u : Nat, u < 18446744073709551616 → limbs [((u % 4294967296 : Nat) : Int), ((u / 4294967296 : Nat) : Int)] ∧ val [((u % 4294967296 : Nat) : Int), ((u / 4294967296 : Nat) : Int)] = (u : Int) := fun u hu => by
    refine ⟨limbs_mk (by omega) (by omega) (limbs_mk (by omega) (by omega) limbs_nil), ?_⟩
    rw [val, val, val]; omega
  have fin : ∀ (u : Nat) (neg : Bool), u = n.natAbs → neg = decide (n < 0) → (⟨neg && decide ((u : Int) ≠ 0), toL u⟩ : Tapi_Num) = numN n := fun u neg hu hn => by
    subst hu; subst hn
    unfold numN
    congr 1
    by_cases c : n < 0
    · rw [decide_eq_true c, decide_eq_true (by omega)]; rfl
    · rw [decide_eq_false c]; rfl
  have p32 : (2 : Int) ^ (min (Int.toNat (32 : Int)) (IntKind.bits .u64)) = 4294967296 := p32u
  have lst : ∀ u : Nat, u < 18446744073709551616 → [IntKind.wrap .u32 (u : Int), IntKind.wrap .u32 (Int.fdiv (u : Int) 4294967296)] = [((u % 4294967296 : Nat) : Int), ((u / 4294967296 : Nat) : Int)] := fun u hu => by
    rw [w32, w32, fdiv32]
    congr 1
    congr 1
    omega
  by_cases c : n < 0
  · refine Ev.pos c ?_
    have hu : IntKind.wrap .u64 (0 - IntKind.wrap .u64 n) = ((n.natAbs : Nat) : Int) := by rw [wrapU_eq, wrapU_eq]; omega
    rw [hu, p32, lst _ (by omega)]
    obtain ⟨k1, k2⟩ := key n.natAbs (by omega)
    have := fit_ev (decide (n < 0)) _ k1 (by simp)
    rw [k2, Int.toNat_natCast, fin n.natAbs _ rfl rfl] at this
    exact Ev.bind this (Ev.now _)
  · refine Ev.neg c ?_
    have hu : IntKind.wrap .u64 n = ((n.natAbs : Nat) : Int) := by rw [wrapU_eq]; omega
    rw [hu, p32, lst _ (by omega)]
    obtain ⟨k1, k2⟩ := key n.natAbs (by omega)
    have := fit_ev (decide (n < 0)) _ k1 (by simp)
    rw [k2, Int.toNat_natCast, fin n.natAbs _ rfl rfl] at this
    exact Ev.bind this (Ev.now _)
end Go.Proofs.Ytehocjeeaigkeaa.Sh
