import Derived.Test.YtllcnlonkloabaaPureFine
import Derived.Test.YtllcnlonkloabaaPureArD
import Derived.Test.YtllcnlonkloabaaPureRealA
import Derived.Test.YtllcnlonkloabaaPureOfB
import Derived.Test.YtllcnlonkloabaaPureSame
set_option linter.unusedVariables false
set_option linter.unusedSimpArgs false
namespace Go.Proofs.Ytllcnlonkloabaa.Sh
open Go Lift Go.Proofs
/-! ### What an operator makes of two terms -/
def noT : Tapi_Term := ⟨0,0,⟨false,[]⟩,0,ByteArray.mk #[],[]⟩
def fltT (b:Int) : Tapi_Term := ⟨3,0,⟨false,[]⟩,b,ByteArray.mk #[],[]⟩
def intT (x:Int) : Tapi_Term := if -1152921504606846976 ≤ x ∧ x ≤ 1152921504606846975 then ⟨1,x,⟨false,[]⟩,0,ByteArray.mk #[],[]⟩ else ⟨2,0,numN x,0,ByteArray.mk #[],[]⟩
theorem lim_num' (n:Int) : lim32 (numN n).fMag := fun x hx => num_limbs n x hx
theorem val2_val' : ∀ {l : List Int},l.length ≤ 2 → val2 l = val l
  | [],_ => rfl
  | [a],_ => by rw [val2,val,val]; omega
  | [a,b],_ => by rw [val2,val,val,val]; omega
  | a :: b :: c :: l,h => by simp at h
theorem smallN_num {x : Int} (hx:(x.natAbs : Int) < TOP) : smallN (numN x) = if -1152921504606846976 ≤ x ∧ x ≤ 1152921504606846975 then (x,true) else (0,false) := by
  have hm : mayN (numN x) = true := Ev.det (nmay_ev (numN x)) (may_ev x hx)
  have hl := toL_len (x.natAbs : Int) 2 (by omega)
  rw [Int.toNat_natCast] at hl
  have hl : (numN x).fMag.length ≤ 2 ↔ (x.natAbs : Int) < 4294967296 ^ 2 := hl
  rw [show (4294967296:Int) ^ 2 = 18446744073709551616 by decide] at hl
  unfold smallN
  by_cases c : (numN x).fMag.length ≤ 2
  · rw [if_pos ⟨hm,c⟩,val2_val' c,num_val]
    have hn : (numN x).fNeg = decide (x < 0) := rfl
    by_cases s : x < 0
    · rw [if_pos (by rw [hn]; exact decide_eq_true s)]
      by_cases d : -1152921504606846976 ≤ x
      · rw [if_pos (by omega),if_pos (by omega),show -((x.natAbs : Nat) : Int) = x by omega]
      · rw [if_neg (by omega),if_neg (by omega)]
    · rw [if_neg (by rw [hn]; simpa using s)]
      by_cases d : x ≤ 1152921504606846975
      · rw [if_pos (by omega),if_pos (by omega),show ((x.natAbs : Nat) : Int) = x by omega]
      · rw [if_neg (by omega),if_neg (by omega)]
  · rw [if_neg (fun h => c h.2),if_neg (fun h => c (hl.2 (by omega)))]
theorem ofNum_ev {x : Int} (hx:(x.natAbs : Int) < TOP) : Ev (fun N => term_OfNum N (numN x)) (intT x,true) := by
  refine Ev.bind (may_ev x hx) (Ev.neg (by simp) ?_)
  have hs := small_ev (numN x) (lim_num' x)
  rw [smallN_num hx] at hs
  unfold intT
  by_cases c : -1152921504606846976 ≤ x ∧ x ≤ 1152921504606846975
  · rw [if_pos c] at hs ⊢
    exact Ev.bind hs (Ev.pos rfl (Ev.now _))
  · rw [if_neg c] at hs ⊢
    have hl := num_len x hx
    exact Ev.bind hs (Ev.neg (by simp) (Ev.bind (clone32_ev _ (by rw [lim_eq]; omega)) (Ev.now _)))
theorem termInt_ev {n : Int} (h0 : -9223372036854775808 ≤ n) (h1:n ≤ 9223372036854775807) : Ev (fun N => term_Int N n) (intT n) :=
  Ev.bind (Of_ev n h0 h1) (Ev.bind (ofNum_ev (by unfold TOP; omega)) (Ev.now _))
def isN (k:Int) : Bool := decide (k = 1 ∨ k = 2 ∨ k = 3)
def wdOf (x:Int) : Int := ((wd (decide (x < 0)) (nearR x.natAbs 0) : Nat) : Int)
def bitsT (t:Tapi_Term) : Int := if t.fKind = 3 then t.fBits else wdOf (numV t)
def opF (op x y:Int) : Int := opW (if op = 5 then fadd x.toNat y.toNat else if op = 6 then fsub x.toNat y.toNat else if op = 7 then fmul x.toNat y.toNat else fdiv x.toNat y.toNat)
def opZ (op x y:Int) : Int := if op = 5 then x + y else if op = 6 then x - y else x * y
def doW (op:Int) (a b:Tapi_Term) : Tapi_Term × Int :=
  if isN a.fKind = true ∧ isN b.fKind = true ∧ 5 ≤ op ∧ op ≤ 8 then
    if a.fKind ≠ 3 ∧ b.fKind ≠ 3 ∧ op ≠ 8 then (if ((opZ op (numV a) (numV b)).natAbs : Int) < TOP then (intT (opZ op (numV a) (numV b)), -1) else (noT,1))
    else (fltT (opF op (bitsT a) (bitsT b)), -1)
  else (noT,1)
theorem number_ev {t : Tapi_Term} (h:Fine t) : Ev (fun N => arith_number N t) (isN t.fKind) := by
  have hm := mayT_ev t h.s h.w
  rw [h.m] at hm
  refine Ev.bind hm (Ev.pos rfl ?_)
  unfold isN
  by_cases h1 : t.fKind = 1
  · rw [decide_eq_true (.inl h1)]; exact Ev.pos h1 (Ev.now _)
  · by_cases h2 : t.fKind = 2
    · rw [decide_eq_true (.inr (.inl h2))]; exact Ev.neg h1 (Ev.pos h2 (Ev.now _))
    · have : decide (t.fKind = 1 ∨ t.fKind = 2 ∨ t.fKind = 3) = (t.fKind == 3) := by by_cases h3 : t.fKind = 3 <;> simp [h1,h2,h3]
      rw [this]
      exact Ev.neg h1 (Ev.neg h2 (Ev.now _))
theorem fail_t : Ev (fun N => arith_fail N true) (some ()) := Ev.neg (by simp) (Ev.now _)
theorem fail_f : Ev (fun N => arith_fail N false) none := Ev.pos (by simp) (Ev.now _)
theorem abits_ev {t : Tapi_Term} (h:Fine t) (hk:isN t.fKind = true) : Ev (fun N => arith_bits N t) (bitsT t) := by
  have hk := of_decide_eq_true hk
  unfold bitsT
  by_cases h3 : t.fKind = 3
  · rw [if_pos h3]
    exact Ev.bind (termFloat_ev h h3) (Ev.neg (by simp) (Ev.now _))
  · rw [if_neg h3]
    exact Ev.bind (termNum_ev h (by omega)) (Ev.pos rfl (Ev.bind (rOf_ev _ (h.numV_top (by omega))) (Ev.now _)))
theorem floats_ev (op x y:Int) : Ev (fun N => arith_floats N op x y) (fltT (opF op x y)) := by
  unfold opF
  by_cases h5 : op = 5
  · rw [if_pos h5]; exact Ev.pos h5 (Ev.bind (add_ev' x y) (Ev.now _))
  · rw [if_neg h5]
    by_cases h6 : op = 6
    · rw [if_pos h6]; exact Ev.neg h5 (Ev.pos h6 (Ev.bind (sub_ev' x y) (Ev.now _)))
    · rw [if_neg h6]
      by_cases h7 : op = 7
      · rw [if_pos h7]; exact Ev.neg h5 (Ev.neg h6 (Ev.pos h7 (Ev.bind (mul_ev' x y) (Ev.now _))))
      · rw [if_neg h7]; exact Ev.neg h5 (Ev.neg h6 (Ev.neg h7 (Ev.bind (div_ev' x y) (Ev.now _))))
theorem whole_res {f : Nat → Option (Tapi_Num × Bool)} {z : Int} (h:Ev f (res z)) : Ev (fun N => (f N).bind fun r2 => (arith_fail N r2.2).bind fun r3 => (match r3 with | .none => some (.none : Option Tapi_Term) | .some q4 => (term_OfNum N r2.1).bind fun r5 => some (.some r5.1))) (if (z.natAbs : Int) < TOP then some (intT z) else none) := by
  refine Ev.bind h ?_
  unfold res
  by_cases c : (z.natAbs : Int) < TOP
  · rw [if_pos c,if_pos c]
    exact Ev.bind fail_t (Ev.bind (ofNum_ev c) (Ev.now _))
  · rw [if_neg c,if_neg c]
    exact Ev.bind fail_f (Ev.now _)
theorem awhole_ev {op x y : Int} (h0:5 ≤ op) (h1:op ≤ 7) (hx:(x.natAbs : Int) < TOP) (hy:(y.natAbs : Int) < TOP) : Ev (fun N => arith_whole N op (numN x) (numN y)) (if ((opZ op x y).natAbs : Int) < TOP then some (intT (opZ op x y)) else none) := by
  unfold opZ
  by_cases h5 : op = 5
  · rw [if_pos h5]; exact Ev.pos h5 (whole_res (nadd_ev x y hx hy))
  · rw [if_neg h5]
    by_cases h6 : op = 6
    · rw [if_pos h6]; exact Ev.neg h5 (Ev.pos h6 (whole_res (nsub_ev x y hx hy)))
    · rw [if_neg h6]; exact Ev.neg h5 (Ev.neg h6 (Ev.pos (by omega) (whole_res (nmul_ev x y hx hy))))
def reckonW (op:Int) (a b:Tapi_Term) : Option Tapi_Term :=
  if isN a.fKind = true ∧ isN b.fKind = true ∧ 5 ≤ op ∧ op ≤ 8 then
    if a.fKind ≠ 3 ∧ b.fKind ≠ 3 ∧ op ≠ 8 then (if ((opZ op (numV a) (numV b)).natAbs : Int) < TOP then some (intT (opZ op (numV a) (numV b))) else none)
    else some (fltT (opF op (bitsT a) (bitsT b)))
  else none
theorem reckonB_ev (op:Int) {a b : Tapi_Term} (ha:Fine a) (hb:Fine b) : Ev (fun N => arith_reckon_B0 N op a b) (if isN a.fKind = true ∧ isN b.fKind = true ∧ 5 ≤ op ∧ op ≤ 8 then .inr () else .inl ()) := by
  refine Ev.step ?_ (fun N => by rw [arith_reckon_B0])
  have hA := number_ev ha
  have hB := number_ev hb
  by_cases c1 : isN a.fKind = true
  · rw [c1] at hA
    refine Ev.bind hA (Ev.pos rfl ?_)
    by_cases c2 : isN b.fKind = true
    · rw [c2] at hB
      refine Ev.bind hB (Ev.pos rfl ?_)
      by_cases c3 : 5 ≤ op
      · refine Ev.pos c3 ?_
        by_cases c4 : op ≤ 8
        · rw [if_pos ⟨c1,c2,c3,c4⟩,decide_eq_true c4]; exact Ev.bind fail_t (Ev.now _)
        · rw [if_neg (fun h => c4 h.2.2.2),decide_eq_false c4]; exact Ev.bind fail_f (Ev.now _)
      · rw [if_neg (fun h => c3 h.2.2.1)]; exact Ev.neg c3 (Ev.bind fail_f (Ev.now _))
    · rw [if_neg (fun h => c2 h.2.1)]
      exact Ev.bind hB (Ev.neg c2 (Ev.bind fail_f (Ev.now _)))
  · rw [if_neg (fun h => c1 h.1)]
    exact Ev.bind hA (Ev.neg c1 (Ev.bind fail_f (Ev.now _)))
theorem reckon_ev (op:Int) {a b : Tapi_Term} (ha:Fine a) (hb:Fine b) : Ev (fun N => arith_reckon N op a b) (reckonW op a b) := by
  refine Ev.bind (reckonB_ev op ha hb) ?_
  unfold reckonW
  by_cases c : isN a.fKind = true ∧ isN b.fKind = true ∧ 5 ≤ op ∧ op ≤ 8
  · rw [if_pos c,if_pos c]
    have ka := of_decide_eq_true c.1
    have kb := of_decide_eq_true c.2.1
    have hfl : Ev (fun N => (arith_bits N a).bind fun r27 => (arith_bits N b).bind fun r28 => (arith_floats N op r27 r28).bind fun r29 => some (some r29)) (some (fltT (opF op (bitsT a) (bitsT b)))) :=
      Ev.bind (abits_ev ha c.1) (Ev.bind (abits_ev hb c.2.1) (Ev.bind (floats_ev op _ _) (Ev.now _)))
    by_cases a3 : a.fKind = 3
    · rw [if_neg (fun h => h.1 a3)]
      have hy : ∃ v,Ev (fun N => term_Num N b) v := by
        by_cases b3 : b.fKind = 3
        · exact ⟨_,termFloat_ev hb b3⟩
        · exact ⟨_,termNum_ev hb (by omega)⟩
      obtain ⟨v,hv⟩ := hy
      exact Ev.bind (termFloat_ev ha a3) (Ev.bind hv (Ev.neg (by simp) hfl))
    · refine Ev.bind (termNum_ev ha (by omega)) ?_
      by_cases b3 : b.fKind = 3
      · rw [if_neg (fun h => h.2.1 b3)]
        exact Ev.bind (termFloat_ev hb b3) (Ev.pos rfl (Ev.neg (by simp) hfl))
      · refine Ev.bind (termNum_ev hb (by omega)) (Ev.pos rfl (Ev.pos rfl ?_))
        by_cases o8 : op = 8
        · rw [if_neg (fun h => h.2.2 o8)]
          exact Ev.neg (fun h => h o8) hfl
        · rw [if_pos ⟨a3,b3,o8⟩]
          refine Ev.pos o8 (Ev.bind (awhole_ev c.2.2.1 (by omega) (ha.numV_top (by omega)) (hb.numV_top (by omega))) ?_)
          by_cases d : ((opZ op (numV a) (numV b)).natAbs : Int) < TOP
          · rw [if_pos d]; exact Ev.now _
          · rw [if_neg d]; exact Ev.now _
  · rw [if_neg c,if_neg c]
    exact Ev.now _
theorem do_ev (op:Int) {a b : Tapi_Term} (ha:Fine a) (hb:Fine b) : Ev (fun N => arith_Do N op a b) (doW op a b) := by
  refine Ev.bind (reckon_ev op ha hb) ?_
  unfold reckonW doW
  by_cases c : isN a.fKind = true ∧ isN b.fKind = true ∧ 5 ≤ op ∧ op ≤ 8
  · rw [if_pos c,if_pos c]
    by_cases d : a.fKind ≠ 3 ∧ b.fKind ≠ 3 ∧ op ≠ 8
    · rw [if_pos d,if_pos d]
      by_cases e : ((opZ op (numV a) (numV b)).natAbs : Int) < TOP
      · rw [if_pos e,if_pos e]; exact Ev.bind (Ev.now _) (Ev.now _)
      · rw [if_neg e,if_neg e]; exact Ev.bind (Ev.now _) (Ev.now _)
    · rw [if_neg d,if_neg d]; exact Ev.bind (Ev.now _) (Ev.now _)
  · rw [if_neg c,if_neg c]
    exact Ev.bind (Ev.now _) (Ev.now _)
end Go.Proofs.Ytllcnlonkloabaa.Sh
