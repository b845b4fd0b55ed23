import Derived.Test.YtllcnlonkloabaaPureArith
import Derived.Test.YtllcnlonkloabaaPureRealB
set_option linter.unusedVariables false
set_option linter.unusedSimpArgs false
namespace Go.Proofs.Ytllcnlonkloabaa.Sh
open Go Lift Go.Proofs
/-! ### What comes of reckoning may be -/
theorem inU_mk {z : Int} (h:W64 z) : InR .u64 z := by
  obtain ⟨h0,h1⟩ := h
  show (Lit.int .u64 z).wf = true
  simp [Lit.wf,IntKind.min,IntKind.max,IntKind.bits,IntKind.signed]
  omega
theorem fine_flt {b : Int} (hb:W64 b) (hm:b = 9221120237041090561 ∨ nanW b.toNat = false) : Fine (fltT b) := by
  refine ⟨Small.mk (by simp [fltT]) (by show 0 ≤ 1000; omega) (by simp [fltT]) (fun x h => by cases h),wTapi_Term.mk (show InR .i64 3 from inI_mk (by decide) (by decide)) (show InR .i64 0 from inI_mk (by decide) (by decide)) (wTapi_Num.mk trivial ⟨by simp [fltT],fun x h => by cases h⟩) (inU_mk hb) (by show 0 ≤ maxLen; omega) (by show 0 ≤ maxLen; omega) (fun y h => by cases h), ?_⟩
  have hr : realMay b = true := by
    unfold realMay
    rcases hm with h | h
    · rw [decide_eq_true h]; rfl
    · rw [nan_words b hb.lo,h]; simp
  rw [mayT_iff,rightT_eq]
  have h1 : wt (fltT b) = 1 := by rw [wt_eq]; simp [fltT]
  have h2 : okT (fltT b) = true := hr
  have h3 : bareT (fltT b) = true := by unfold bareT; simp [fltT,zN,zNum,zB,zS,zA]
  have h4 : rightsT (fltT b).fArgs = true := by show rightsT [] = true; rw [rightsT]
  rw [h1,h2,h3,h4]
  rfl
theorem fine_int {n : Int} (hn:(n.natAbs : Int) < TOP) : Fine (intT n) := by
  have hlen := num_len n hn
  unfold intT
  by_cases c : -1152921504606846976 ≤ n ∧ n ≤ 1152921504606846975
  · rw [if_pos c]
    refine ⟨Small.mk (by simp) (by show 0 ≤ 1000; omega) (by simp) (fun x h => by cases h),wTapi_Term.mk (show InR .i64 1 from inI_mk (by decide) (by decide)) (show InR .i64 n from inI_mk (by omega) (by omega)) (wTapi_Num.mk trivial ⟨by simp,fun x h => by cases h⟩) (by show (Lit.int .u64 0).wf = true; decide) (by show 0 ≤ maxLen; omega) (by show 0 ≤ maxLen; omega) (fun y h => by cases h), ?_⟩
    rw [mayT_iff,rightT_eq]
    have h1 : wt (⟨1,n,⟨false,[]⟩,0,ByteArray.mk #[],[]⟩ : Tapi_Term) = 1 := by rw [wt_eq]; simp
    have h2 : okT (⟨1,n,⟨false,[]⟩,0,ByteArray.mk #[],[]⟩ : Tapi_Term) = true := by unfold okT; rw [if_pos rfl]; exact decide_eq_true c
    have h3 : bareT (⟨1,n,⟨false,[]⟩,0,ByteArray.mk #[],[]⟩ : Tapi_Term) = true := by unfold bareT; simp [zN,zNum,zB,zS,zA]
    have h4 : rightsT (⟨1,n,⟨false,[]⟩,0,ByteArray.mk #[],[]⟩ : Tapi_Term).fArgs = true := by show rightsT [] = true; rw [rightsT]
    rw [h1,h2,h3,h4]
    rfl
  · rw [if_neg c]
    refine ⟨Small.mk (by show (numN n).fMag.length ≤ 40; omega) (by show 0 ≤ 1000; omega) (by simp) (fun x h => by cases h),wTapi_Term.mk (show InR .i64 2 from inI_mk (by decide) (by decide)) (show InR .i64 0 from inI_mk (by decide) (by decide)) (wTapi_Num.mk trivial ⟨by show (numN n).fMag.length ≤ maxLen; rw [maxLen_eq]; omega,fun x hx => ?_⟩) (by show (Lit.int .u64 0).wf = true; decide) (by show 0 ≤ maxLen; omega) (by show 0 ≤ maxLen; omega) (fun y h => by cases h), ?_⟩
    · obtain ⟨h0,h1⟩ := num_limbs n x hx
      show (Lit.int .u32 x).wf = true
      simp [Lit.wf,IntKind.min,IntKind.max,IntKind.bits,IntKind.signed]
      omega
    rw [mayT_iff,rightT_eq]
    have h1 : wt (⟨2,0,numN n,0,ByteArray.mk #[],[]⟩ : Tapi_Term) = 1 + ((numN n).fMag.length : Int) := by rw [wt_eq]; simp
    have hmN : mayN (numN n) = true := Ev.det (nmay_ev (numN n)) (may_ev n hn)
    have h2 : okT (⟨2,0,numN n,0,ByteArray.mk #[],[]⟩ : Tapi_Term) = true := by
      unfold okT
      rw [if_neg (show ¬ (2:Int) = 1 by decide),if_pos rfl,hmN,smallN_num hn,if_neg c]
      rfl
    have h3 : bareT (⟨2,0,numN n,0,ByteArray.mk #[],[]⟩ : Tapi_Term) = true := by unfold bareT; simp [zN,zNum,zB,zS,zA]
    have h4 : rightsT (⟨2,0,numN n,0,ByteArray.mk #[],[]⟩ : Tapi_Term).fArgs = true := by show rightsT [] = true; rw [rightsT]
    rw [h1,h2,h3,h4,decide_eq_true (by omega)]
    rfl
theorem kind_int (n:Int) : (intT n).fKind = 1 ∨ (intT n).fKind = 2 := by unfold intT; split; exact .inl rfl; exact .inr rfl
theorem numV_int (n:Int) : numV (intT n) = n := by
  unfold intT numV
  split
  · rfl
  · show (if (2:Int) = 1 then _ else bigV (numN n)) = n
    rw [if_neg (by decide),bigV_num]
theorem opF_w (op x y:Int) : W64 (opF op x y) ∧ (opF op x y = 9221120237041090561 ∨ nanW (opF op x y).toNat = false) := by
  have key : ∀ o : Option Nat,(∀ z,o = some z → z < 18446744073709551616) → W64 (opW o) ∧ (opW o = 9221120237041090561 ∨ nanW (opW o).toNat = false) := by
    intro o ho
    cases o with
    | none => exact ⟨⟨by decide,by decide⟩,.inl rfl⟩
    | some z =>
      have hz := ho z rfl
      refine ⟨cleanW_w ⟨Int.natCast_nonneg _,by omega⟩, ?_⟩
      cases hn : nanW (opW (some z)).toNat with
      | true => exact .inl (opW_nan hn)
      | false => exact .inr rfl
  unfold opF
  refine key _ fun z hz => ?_
  split at hz
  · have := Ieee.Format.add_lt _ hz; rwa [w64] at this
  · split at hz
    · have := Ieee.Format.sub_lt _ hz; rwa [w64] at this
    · split at hz
      · have := Ieee.Format.mul_lt _ hz; rwa [w64] at this
      · have := Ieee.Format.div_lt _ hz; rwa [w64] at this
end Go.Proofs.Ytllcnlonkloabaa.Sh
