import Derived.Test.YtocgnoohfkpbhaaPureFine
import Derived.Test.YtocgnoohfkpbhaaPureSame
set_option linter.unusedVariables false
set_option linter.unusedSimpArgs false
namespace Go.Proofs.Ytocgnoohfkpbhaa.Sh
open Go Lift Go.Proofs
def noT : Tapi_Term := ⟨0, 0, ⟨false, []⟩, 0, ByteArray.mk #[], []⟩
def intT (x : Int) : Tapi_Term := if -1152921504606846976 ≤ x ∧ x ≤ 1152921504606846975 then ⟨1, x, ⟨false, []⟩, 0, ByteArray.mk #[], []⟩ else ⟨2, 0, numN x, 0, ByteArray.mk #[], []⟩
theorem lim_num' (n : Int) : lim32 (numN n).fMag := fun x hx => num_limbs n x hx
theorem val2_val' : ∀ {l : List Int}, l.length ≤ 2 → val2 l = val l
  | [], _ => rfl
  | [a], _ => by rw [val2, val, val]; omega
  | [a, b], _ => by rw [val2, val, val, val]; omega
  | a :: b :: c :: l, h => by simp at h
theorem smallN_num {x : Int} (hx : (x.natAbs : Int) < TOP) : smallN (numN x) = if -1152921504606846976 ≤ x ∧ x ≤ 1152921504606846975 then (x, true) else (0, false) := by
  have hm : mayN (numN x) = true := Ev.det (nmay_ev (numN x)) (may_ev x hx)
  have hl := toL_len (x.natAbs : Int) 2 (by omega)
  rw [Int.toNat_natCast] at hl
  have hl : (numN x).fMag.length ≤ 2 ↔ (x.natAbs : Int) < 4294967296 ^ 2 := hl
  rw [show (4294967296 : Int) ^ 2 = 18446744073709551616 by decide] at hl
  unfold smallN
  by_cases c : (numN x).fMag.length ≤ 2
  · rw [if_pos ⟨hm, c⟩, val2_val' c, num_val]
    have hn : (numN x).fNeg = decide (x < 0) := rfl
    by_cases s : x < 0
    · rw [if_pos (by rw [hn]; exact decide_eq_true s)]
      by_cases d : -1152921504606846976 ≤ x
      · rw [if_pos (by omega), if_pos (by omega), show -((x.natAbs : Nat) : Int) = x by omega]
      · rw [if_neg (by omega), if_neg (by omega)]
    · rw [if_neg (by rw [hn]; simpa using s)]
      by_cases d : x ≤ 1152921504606846975
      · rw [if_pos (by omega), if_pos (by omega), show ((x.natAbs : Nat) : Int) = x by omega]
      · rw [if_neg (by omega), if_neg (by omega)]
  · rw [if_neg (fun h => c h.2), if_neg (fun h => c (hl.2 (by omega)))]
theorem ofNum_ev {x : Int} (hx : (x.natAbs : Int) < TOP) : Ev (fun N => term_OfNum N (numN x)) (intT x, true) := by
  refine Ev.bind (may_ev x hx) (Ev.neg (by simp) ?_)
  have hs := small_ev (numN x) (lim_num' x)
  rw [smallN_num hx] at hs
  unfold intT
  by_cases c : -1152921504606846976 ≤ x ∧ x ≤ 1152921504606846975
  · rw [if_pos c] at hs ⊢
    exact Ev.bind hs (Ev.pos rfl (Ev.now _))
  · rw [if_neg c] at hs ⊢
    have hl := num_len x hx
    exact Ev.bind hs (Ev.neg (by simp) (Ev.bind (clone32_ev _ (by rw [lim_eq]; omega)) (Ev.now _)))
theorem fine_int {n : Int} (hn : (n.natAbs : Int) < TOP) : Fine (intT n) := by
  have hlen := num_len n hn
  unfold intT
  by_cases c : -1152921504606846976 ≤ n ∧ n ≤ 1152921504606846975
  · rw [if_pos c]
    refine ⟨Small.mk (by simp) (by show 0 ≤ 3000; omega) (by simp) (fun x h => by cases h), wTapi_Term.mk (show InR .i64 1 from inI_mk (by decide) (by decide)) (show InR .i64 n from inI_mk (by omega) (by omega)) (wTapi_Num.mk trivial ⟨by simp, fun x h => by cases h⟩) (by show (Lit.int .u64 0).wf = true; decide) (by show 0 ≤ maxLen; omega) (by show 0 ≤ maxLen; omega) (fun y h => by cases h), ?_⟩
    rw [mayT_iff, rightT_eq]
    have h1 : wt (⟨1, n, ⟨false, []⟩, 0, ByteArray.mk #[], []⟩ : Tapi_Term) = 1 := by rw [wt_eq]; simp
    have h2 : okT (⟨1, n, ⟨false, []⟩, 0, ByteArray.mk #[], []⟩ : Tapi_Term) = true := by unfold okT; rw [if_pos rfl]; exact decide_eq_true c
    have h3 : bareT (⟨1, n, ⟨false, []⟩, 0, ByteArray.mk #[], []⟩ : Tapi_Term) = true := by unfold bareT; simp [zN, zNum, zB, zS, zA]
    have h4 : rightsT (⟨1, n, ⟨false, []⟩, 0, ByteArray.mk #[], []⟩ : Tapi_Term).fArgs = true := by show rightsT [] = true; rw [rightsT]
    rw [h1, h2, h3, h4]
    rfl
  · rw [if_neg c]
    refine ⟨Small.mk (by show (numN n).fMag.length ≤ 40; omega) (by show 0 ≤ 3000; omega) (by simp) (fun x h => by cases h), wTapi_Term.mk (show InR .i64 2 from inI_mk (by decide) (by decide)) (show InR .i64 0 from inI_mk (by decide) (by decide)) (wTapi_Num.mk trivial ⟨by show (numN n).fMag.length ≤ maxLen; rw [maxLen_eq]; omega, fun x hx => ?_⟩) (by show (Lit.int .u64 0).wf = true; decide) (by show 0 ≤ maxLen; omega) (by show 0 ≤ maxLen; omega) (fun y h => by cases h), ?_⟩
    · obtain ⟨h0, h1⟩ := num_limbs n x hx
      show (Lit.int .u32 x).wf = true
      simp [Lit.wf, IntKind.min, IntKind.max, IntKind.bits, IntKind.signed]
      omega
    rw [mayT_iff, rightT_eq]
    have h1 : wt (⟨2, 0, numN n, 0, ByteArray.mk #[], []⟩ : Tapi_Term) = 1 + ((numN n).fMag.length : Int) := by rw [wt_eq]; simp
    have hmN : mayN (numN n) = true := Ev.det (nmay_ev (numN n)) (may_ev n hn)
    have h2 : okT (⟨2, 0, numN n, 0, ByteArray.mk #[], []⟩ : Tapi_Term) = true := by
      unfold okT
      rw [if_neg (show ¬ (2 : Int) = 1 by decide), if_pos rfl, hmN, smallN_num hn, if_neg c]
      rfl
    have h3 : bareT (⟨2, 0, numN n, 0, ByteArray.mk #[], []⟩ : Tapi_Term) = true := by unfold bareT; simp [zN, zNum, zB, zS, zA]
    have h4 : rightsT (⟨2, 0, numN n, 0, ByteArray.mk #[], []⟩ : Tapi_Term).fArgs = true := by show rightsT [] = true; rw [rightsT]
    rw [h1, h2, h3, h4, decide_eq_true (by omega)]
    rfl
theorem args_int (n : Int) : (intT n).fArgs = [] := by unfold intT; split <;> rfl
theorem sameSelf {t : Tapi_Term} (h : Small t) (hc : t.fArgs = []) : Ev (fun N => beehivelaw0_SameTerm N t t) true :=
  sameTerm_self t h (by rw [cnt_eq, hc]; show 1 + cnts [] ≤ 100000; rw [cnts]; omega)
theorem noT_small : Small noT := Small.mk (by simp [noT]) (by show 0 ≤ 3000; omega) (by simp [noT]) (fun x h => by cases h)
end Go.Proofs.Ytocgnoohfkpbhaa.Sh
