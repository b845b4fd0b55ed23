import Derived.Test.YtocgnoohfkpbhaaPureNumTerm
import Derived.Test.YtocgnoohfkpbhaaPureIntT
set_option linter.unusedVariables false
set_option linter.unusedSimpArgs false
namespace Go.Proofs.Ytocgnoohfkpbhaa.Sh
open Go Lift Go.Proofs
theorem awake_ev : Ev (fun N => beehivelaw4_awake N) true := Ev.from 40 (fun N => by kernel_rfl)
theorem rofNum_ev {x : Int} (hx : (x.natAbs : Int) < TOP) : Ev (fun N => beehiveref4_OfNum N (numN x)) (intT x, true) := by
  have hm := rnmay_ev (numN x)
  rw [show mayN (numN x) = true from Ev.det (nmay_ev (numN x)) (may_ev x hx)] at hm
  refine Ev.bind hm (Ev.neg (fun h => h rfl) ?_)
  have hs := rsmall_ev (numN x) (lim_num' x)
  rw [smallN_num hx] at hs
  unfold intT
  by_cases c : -1152921504606846976 ≤ x ∧ x ≤ 1152921504606846975
  · rw [if_pos c] at hs ⊢
    exact Ev.bind hs (Ev.pos rfl (Ev.now _))
  · rw [if_neg c] at hs ⊢
    have hl := num_len x hx
    exact Ev.bind hs (Ev.neg Bool.false_ne_true (Ev.bindc (app0_eq (by rw [lim_eq]; omega)) (Ev.now _)))
theorem rtermInt_ev {n : Int} (h0 : -9223372036854775808 ≤ n) (h1 : n ≤ 9223372036854775807) : Ev (fun N => beehiveref4_Int N n) (intT n) :=
  Ev.bind (rOfN_ev n h0 h1) (Ev.bind (rofNum_ev (by unfold TOP; omega)) (Ev.now _))
theorem tInt_ev {n : Int} (h0 : -9223372036854775808 ≤ n) (h1 : n ≤ 9223372036854775807) : Ev (fun N => term_Int N n) (intT n) := by
  have e : (⟨(intT n).fKind, (intT n).fN, (intT n).fNum, (intT n).fBits, (intT n).fBytes, []⟩ : Tapi_Term) = intT n := by unfold intT; split <;> rfl
  have h : Ev (fun N => term_Int N n) (⟨(intT n).fKind, (intT n).fN, (intT n).fNum, (intT n).fBits, (intT n).fBytes, []⟩ : Tapi_Term) := by
    refine Ev.bind (Of_ev n h0 h1) (Ev.bind (ofNum_ev (x := n) (by unfold TOP; omega)) ?_)
    exact Ev.now _
  rw [e] at h
  exact h
theorem numT_int {x : Int} (hx : (x.natAbs : Int) < TOP) : numT (intT x) = (numN x, true) := by
  unfold numT
  rw [if_pos (fine_int hx).m]
  unfold intT
  split
  · rfl
  · rw [if_neg (show ¬ (2 : Int) = 1 by decide), if_pos rfl]
theorem size_loop : ∀ (k : Nat) (l : List Int), k ≤ l.length → l.length ≤ 100000 → Ev (fun N => beehiveref1_size_L0 N l l ((k : Int) - 1)) (.inl ())
  | 0, l, hk, hl => by
    refine Ev.step ?_ (fun N => by rw [beehiveref1_size_L0])
    exact Ev.neg (by omega) (Ev.now _)
  | k + 1, l, hk, hl => by
    have ih := size_loop k l (by omega) hl
    have e : (((k + 1 : Nat) : Int) - 1) = (k : Int) := by omega
    rw [e]
    refine Ev.step ?_ (fun N => by rw [beehiveref1_size_L0, wrapI ((k : Int) - 1) (by omega) (by omega)])
    exact Ev.pos (by omega) (Ev.bindc (idx_eq (show k < l.length by omega)) (Ev.bindc (idx_eq (show k < l.length by omega)) (Ev.neg (Int.lt_irrefl _) (Ev.neg (Int.lt_irrefl _) ih))))
theorem size_self (l : List Int) (hl : l.length ≤ 100000) : Ev (fun N => beehiveref1_size N l l) 0 := by
  have h := size_loop l.length l (Nat.le_refl _) hl
  rw [← wrapI ((l.length : Int) - 1) (by omega) (by omega)] at h
  exact Ev.neg (fun h => h rfl) (Ev.bind h (Ev.now _))
theorem rcmp_self (n : Tapi_Num) (hm : mayN n = true) (hl : n.fMag.length ≤ 100000) : Ev (fun N => beehiveref1_Cmp N n n) 0 := by
  have h := rnmay_ev n
  rw [hm] at h
  have hB1 : Ev (fun N => beehiveref1_Cmp_B1 N n n) false := by
    refine Ev.step ?_ (fun N => by rw [beehiveref1_Cmp_B1])
    exact Ev.bind h (Ev.neg (fun h => h rfl) (Ev.bind h (Ev.now _)))
  have hB2 : Ev (fun N => beehiveref1_Cmp_B2 N n n) false := by
    refine Ev.step ?_ (fun N => by rw [beehiveref1_Cmp_B2])
    by_cases c : n.fNeg = true
    · have e : (!n.fNeg) = false := by rw [c]; rfl
      rw [← e]
      exact Ev.pos c (Ev.now _)
    · exact Ev.neg c (Ev.now _)
  have hs := size_self n.fMag hl
  by_cases c : n.fNeg = true
  · have hB0 : Ev (fun N => beehiveref1_Cmp_B0 N n n) (.inr 0) := by
      refine Ev.step ?_ (fun N => by rw [beehiveref1_Cmp_B0])
      exact Ev.bind hB1 (Ev.neg Bool.false_ne_true (Ev.bind hB2 (Ev.neg Bool.false_ne_true (Ev.neg (fun h => h c) (Ev.pos c (Ev.bind hs (Ev.now _)))))))
    exact Ev.bind hB0 (Ev.now _)
  · have hB0 : Ev (fun N => beehiveref1_Cmp_B0 N n n) (.inl ()) := by
      refine Ev.step ?_ (fun N => by rw [beehiveref1_Cmp_B0])
      exact Ev.bind hB1 (Ev.neg Bool.false_ne_true (Ev.bind hB2 (Ev.neg Bool.false_ne_true (Ev.pos c (Ev.neg c (Ev.neg c (Ev.now _)))))))
    exact Ev.bind hB0 (Ev.bind hs (Ev.now _))
theorem overT_ev (t : Tapi_Term) (hl : t.fNum.fMag.length ≤ 100000) : Ev (fun N => beehivelaw0_OverTerm N t) () := by
  have h0 : Ev (fun N => beehivelaw0_OverTerm_L0 N t) () := by
    refine Ev.step ?_ (fun N => by rw [beehivelaw0_OverTerm_L0])
    exact Ev.neg (Int.lt_irrefl _) (Ev.now _)
  refine Ev.step ?_ (fun N => by rw [beehivelaw0_OverTerm])
  exact Ev.bind (overL_ev _ hl) (Ev.bind h0 (Ev.now _))
theorem atom_small (n : Int) : Small (⟨4, n, ⟨false, []⟩, 0, ByteArray.mk #[], []⟩ : Tapi_Term) := Small.mk (by simp) (by show 0 ≤ 3000; omega) (by simp) (fun x h => by cases h)
theorem nums_B0 (x0 : Tapi_Num) {x1 : Int} {t : Tapi_Term} {b : Bool} (hs : Small t) (ha : t.fArgs = []) (h0 : -9223372036854775808 ≤ x1) (h1 : x1 ≤ 9223372036854775807) : Ev (fun N => beehivelaw4_TermNums_B0 N x0 x1 (t, b) (t, b)) (.inl ()) := by
  have fi := fine_int (n := x1) (by unfold TOP; omega)
  have et : (⟨t.fKind, t.fN, t.fNum, t.fBits, t.fBytes, []⟩ : Tapi_Term) = t := by cases t; cases ha; rfl
  have hB1 : Ev (fun N => beehivelaw4_TermNums_B1 N x0 x1 (t, b) (t, b)) false := by
    refine Ev.step ?_ (fun N => by rw [beehivelaw4_TermNums_B1])
    show Ev (fun N => (beehivelaw0_SameTerm N ⟨t.fKind, t.fN, t.fNum, t.fBits, t.fBytes, []⟩ t).bind _) _
    rw [et]
    exact Ev.bind (sameSelf hs ha) (Ev.neg (fun h => h rfl) (Ev.neg (fun h => h rfl) (Ev.bind (tInt_ev h0 h1) (Ev.bind (rtermInt_ev h0 h1) (Ev.bind (sameSelf fi.s (args_int x1)) (Ev.neg (fun h => h rfl) (Ev.bind (Ev.now _) (Ev.bind (Ev.now _) (Ev.bind (sameSelf (atom_small x1) rfl) (Ev.now _))))))))))
  refine Ev.step ?_ (fun N => by rw [beehivelaw4_TermNums_B0])
  exact Ev.bind hB1 (Ev.neg Bool.false_ne_true (Ev.now _))
namespace Pure
theorem TermNums (x0 : Tapi_Num) (x1 : Int) (w0 : wTapi_Num x0) (w1 : (InR .i64) x1) : ∃ N, beehivelaw4_TermNums N x0 x1 = some true := by
  refine Ev.ex ?_
  obtain ⟨n0, n1⟩ := inI w1
  have hlim : lim32 x0.fMag := lim32_of w0.Mag
  by_cases hg : ((x0.fMag.length : Nat) : Int) > 40
  · have hG : Ev (fun N => beehivelaw0_GreatNum N x0) true := by
      have := Ev.now (decide (((x0.fMag.length : Nat) : Int) > (40 : Int)))
      rw [decide_eq_true hg] at this
      show Ev (fun _ => some (decide (((x0.fMag.length : Nat) : Int) > (40 : Int)))) _
      rw [decide_eq_true hg]
      exact Ev.now _
    exact Ev.bind hG (Ev.pos rfl (Ev.bind awake_ev (Ev.now _)))
  have hG : Ev (fun N => beehivelaw0_GreatNum N x0) false := by
    show Ev (fun _ => some (decide (((x0.fMag.length : Nat) : Int) > (40 : Int)))) _
    rw [decide_eq_false hg]
    exact Ev.now _
  refine Ev.bind hG (Ev.neg Bool.false_ne_true ?_)
  have hm := nmay_ev x0
  have hrm := rnmay_ev x0
  by_cases h : mayN x0 = true
  · obtain ⟨x, hx, rfl⟩ : ∃ x : Int, (x.natAbs : Int) < TOP ∧ x0 = numN x := by
      rcases may_or x0 hlim with h' | h'
      · exact h'
      · have := Ev.det hm h'; rw [h] at this; cases this
    have fi := fine_int hx
    have hof := ofNum_ev hx
    have hlen := num_len x hx
    have hl : (intT x).fNum.fMag.length ≤ 40 := fi.s.mag
    have et : (⟨(intT x).fKind, (intT x).fN, (intT x).fNum, (intT x).fBits, (intT x).fBytes, []⟩ : Tapi_Term) = intT x := by unfold intT; split <;> rfl
    have hN := tNum_ev (intT x) fi.s fi.w
    rw [numT_int hx] at hN
    have hM := mayT_ev (intT x) fi.s fi.w
    rw [fi.m] at hM
    have hB3 : Ev (fun N => beehivelaw4_TermNums_B3 N (numN x) (intT x, true) (intT x, true) (numN x, true)) false := by
      refine Ev.step ?_ (fun N => by rw [beehivelaw4_TermNums_B3])
      refine Ev.neg (fun h => h rfl) (Ev.bind (sameNum_self (numN x) (by omega)) (Ev.neg (fun h => h rfl) ?_))
      show Ev (fun N => (term_May N ⟨(intT x).fKind, (intT x).fN, (intT x).fNum, (intT x).fBits, (intT x).fBytes, []⟩).bind _) _
      rw [et]
      exact Ev.bind hM (Ev.neg (fun h => h rfl) (Ev.bind (rcmp_self (numN x) h (by omega)) (Ev.now _)))
    have hB2 : Ev (fun N => beehivelaw4_TermNums_B2 N (numN x) (intT x, true) (intT x, true)) (.inl ((intT x).fNum.fMag, (intT x).fKind, (intT x).fN, (intT x).fNum.fNeg, (intT x).fBits, (intT x).fBytes)) := by
      refine Ev.step ?_ (fun N => by rw [beehivelaw4_TermNums_B2])
      refine Ev.pos rfl ?_
      show Ev (fun N => (term_Num N ⟨(intT x).fKind, (intT x).fN, (intT x).fNum, (intT x).fBits, (intT x).fBytes, []⟩).bind fun r22 => (beehivelaw4_TermNums_B3 N (numN x) (intT x, true) (intT x, true) r22).bind fun r29 => if r29 = true then some (.inr () : ((List Int) × Int × Int × Bool × Int × ByteArray) ⊕ Unit) else (beehivelaw0_OverTerm N ⟨(intT x).fKind, (intT x).fN, (intT x).fNum, (intT x).fBits, (intT x).fBytes, []⟩).bind fun r31 => (term_OfNum N (numN x)).bind fun r32 => some (.inl (r32.1.fNum.fMag, r32.1.fKind, r32.1.fN, r32.1.fNum.fNeg, r32.1.fBits, r32.1.fBytes) : ((List Int) × Int × Int × Bool × Int × ByteArray) ⊕ Unit)) _
      rw [et]
      exact Ev.bind hN (Ev.bind hB3 (Ev.neg Bool.false_ne_true (Ev.bind (overT_ev _ (by omega)) (Ev.bind hof (Ev.now _)))))
    refine Ev.bind hof (Ev.bind (rofNum_ev hx) (Ev.bind (nums_B0 (numN x) fi.s (args_int x) n0 n1) (Ev.bind hB2 ?_)))
    show Ev (fun N => (beehivelaw0_SameTerm N ⟨(intT x).fKind, (intT x).fN, (intT x).fNum, (intT x).fBits, (intT x).fBytes, []⟩ (intT x)).bind _) _
    rw [et]
    exact Ev.bind (sameSelf fi.s (args_int x)) (Ev.pos rfl (Ev.bind awake_ev (Ev.now _)))
  · have o1 : Ev (fun N => term_OfNum N x0) (noT, false) := Ev.bind hm (Ev.pos h (Ev.now _))
    have o2 : Ev (fun N => beehiveref4_OfNum N x0) (noT, false) := Ev.bind hrm (Ev.pos h (Ev.now _))
    have hB2 : Ev (fun N => beehivelaw4_TermNums_B2 N x0 (noT, false) (noT, false)) (.inl ([], 0, 0, false, 0, ByteArray.mk #[])) := by
      refine Ev.step ?_ (fun N => by rw [beehivelaw4_TermNums_B2])
      exact Ev.neg Bool.false_ne_true (Ev.now _)
    exact Ev.bind o1 (Ev.bind o2 (Ev.bind (nums_B0 x0 noT_small rfl n0 n1) (Ev.bind hB2 (Ev.bind (sameSelf noT_small rfl) (Ev.pos rfl (Ev.bind awake_ev (Ev.now _)))))))
end Pure
end Go.Proofs.Ytocgnoohfkpbhaa.Sh
