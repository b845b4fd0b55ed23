import Derived.Test.YtehocjeeaigkeaaPureRealB
set_option linter.unusedVariables false
set_option linter.unusedSimpArgs false
namespace Go.Proofs.Ytehocjeeaigkeaa.Sh
open Go Lift Go.Proofs
structure EdgeFacts (a b want selv back : Int) : Prop where
  e1 : opW (fadd a.toNat (0 : Int).toNat) = want
  e2 : opW (fmul a.toNat (4607182418800017408 : Int).toNat) = a
  e3 : opW (fdiv a.toNat (4607182418800017408 : Int).toNat) = a
  e4 : opW (fsub a.toNat a.toNat) = selv
  e5 : opW (fadd a.toNat (9221120237041090561 : Int).toNat) = 9221120237041090561
  e6 : opW (fmul (9221120237041090561 : Int).toNat b.toNat) = 9221120237041090561
  e9 : opW (fmul a.toNat (13830554455654793216 : Int).toNat) = back
theorem edges_b3 {a b want selv back : Int} (h : EdgeFacts a b want selv back) : Ev (fun N => beehivelaw2_RealEdges_B3 N a b want selv back) true := by
  refine Ev.step ?_ (fun N => by rw [beehivelaw2_RealEdges_B3])
  refine Ev.bind (add_ev' _ _) (Ev.pos h.e1 (Ev.bind (mul_ev' _ _) (Ev.pos h.e2 (Ev.bind (div_ev' _ _) (Ev.pos h.e3 (Ev.bind (sub_ev' _ _) (Ev.pos h.e4 ?_)))))))
  refine Ev.bind (add_ev' _ _) (Ev.pos h.e5 (Ev.bind (mul_ev' _ _) (Ev.pos h.e6 ?_)))
  refine Ev.bind (add_ev' _ _) (Ev.bind (add_ev' _ _) (Ev.pos (by rw [fadd_comm]) ?_))
  refine Ev.bind (mul_ev' _ _) (Ev.bind (mul_ev' _ _) (Ev.pos (by rw [fmul_comm]) ?_))
  refine Ev.bind (mul_ev' _ _) (Ev.pos h.e9 (Ev.bind (div_ev' _ _) (Ev.bind (mayW_ev _) (Ev.pos (may_opW _) (Ev.bind awake2_ev (Ev.now _))))))
theorem nn_nan : nanW (9221120237041090561 : Int).toNat = true := by decide
theorem one_w : (4607182418800017408 : Int).toNat = wd false oneR := by decide
theorem mone_w : (13830554455654793216 : Int).toNat = wd true oneR := by decide
namespace Pure
theorem RealEdges (x0 : Int) (x1 : Int) (w0 : (InR .u64) x0) (w1 : (InR .u64) x1) : ∃ N, beehivelaw2_RealEdges N x0 x1 = some true := by
  refine Ev.ex (f := fun N => beehivelaw2_RealEdges N x0 x1) ?_
  have h0 := cleanW_w (inW w0)
  have n0 := fun h => cleanW_nan (b := x0) h
  refine Ev.bind (clean_ev x0) (Ev.bind (clean_ev x1) ?_)
  generalize cleanW x0 = a at *
  generalize cleanW x1 = b at *
  have hB0 : Ev (fun N => beehivelaw2_RealEdges_B0 N a b) (if a = 9223372036854775808 then 0 else a) := by
    refine Ev.step ?_ (fun N => by rw [beehivelaw2_RealEdges_B0])
    exact Ev.iff (fun _ => Ev.now _) (fun _ => Ev.now _)
  have hB1 : ∀ v : Int, Ev (fun N => beehivelaw2_RealEdges_B1 N a b v) (if a = 9221120237041090561 then 9221120237041090561 else if a % 9223372036854775808 = 9218868437227405312 then 9221120237041090561 else 0) := fun v => by
    refine Ev.step ?_ (fun N => by rw [beehivelaw2_RealEdges_B1, bandn_63 a h0.lo (by have := h0.hi; omega)])
    exact Ev.iff (fun _ => Ev.now _) (fun _ => Ev.iff (fun _ => Ev.now _) (fun _ => Ev.now _))
  have hB2 : ∀ v u : Int, Ev (fun N => beehivelaw2_RealEdges_B2 N a b v u) (if a ≠ 9221120237041090561 then ((fflip a.toNat : Nat) : Int) else a) := fun v u => by
    refine Ev.step ?_ (fun N => by rw [beehivelaw2_RealEdges_B2, bxor63 h0])
    exact Ev.iff (fun _ => Ev.now _) (fun _ => Ev.now _)
  refine Ev.bind hB0 (Ev.bind (hB1 _) (Ev.bind (hB2 _ _) (Ev.bind (edges_b3 ?_) (Ev.now _))))
  rcases clean_cases h0 n0 with rfl | ⟨s, r, hr, rfl⟩
  · rw [if_neg (by decide), if_pos rfl, if_neg (by simp)]
    exact ⟨by rw [fadd_nan (.inl nn_nan)]; rfl, by rw [fmul_nan (.inl nn_nan)]; rfl, by rw [fdiv_nan (.inl nn_nan)]; rfl, by rw [fsub_nan (.inl nn_nan)]; rfl, by rw [fadd_nan (.inl nn_nan)]; rfl, by rw [fmul_nan (.inl nn_nan)]; rfl, by rw [fmul_nan (.inl nn_nan)]; rfl⟩
  · have hne := wd_not_NN s hr
    have hlt := wd_lt s (r := r) (by omega)
    rw [if_neg hne, if_pos hne, Int.toNat_natCast]
    have hmod : ((wd s r : Nat) : Int) % 9223372036854775808 = (r : Int) := by
      have := rg_wd s (r := r) (by omega)
      unfold rg at this
      omega
    refine ⟨?_, ?_, ?_, ?_, ?_, ?_, ?_⟩
    · rw [Int.toNat_natCast, show (0 : Int).toNat = 0 from rfl, fadd_zero s hr]
      by_cases z : r = 0
      · rw [if_pos z]
        subst z
        cases s <;> decide
      · rw [if_neg z, opW_wd s hr, if_neg]
        intro e
        have : ((wd s r : Nat) : Int) % 9223372036854775808 = 0 := by rw [e]; rfl
        omega
    · rw [Int.toNat_natCast, one_w, fmul_one s false hr, Bool.xor_false, opW_wd s hr]
    · rw [Int.toNat_natCast, one_w, fdiv_one s hr, opW_wd s hr]
    · rw [Int.toNat_natCast, fsub_self s hr, hmod]
      by_cases z : r = 9218868437227405312
      · rw [if_pos z, if_pos (by omega)]; rfl
      · rw [if_neg z, if_neg (by omega)]; rfl
    · rw [fadd_nan (.inr nn_nan)]; rfl
    · rw [fmul_nan (.inl nn_nan)]; rfl
    · rw [Int.toNat_natCast, mone_w, fmul_one s true hr, Bool.xor_true, opW_wd _ hr, flip_wd s (by omega)]
end Pure
end Go.Proofs.Ytehocjeeaigkeaa.Sh
