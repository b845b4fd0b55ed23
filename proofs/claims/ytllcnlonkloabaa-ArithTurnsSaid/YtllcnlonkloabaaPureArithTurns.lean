import Derived.Test.YtllcnlonkloabaaPureArithFine
import Derived.Test.YtllcnlonkloabaaPureGreat
set_option linter.unusedVariables false
set_option linter.unusedSimpArgs false
namespace Go.Proofs.Ytllcnlonkloabaa.Sh
open Go Lift Go.Proofs
theorem awake6_ev : Ev (fun N => beehivelaw6_awake N) true := Ev.from 60 (fun N => by kernel_rfl)
theorem sameSelf {t : Tapi_Term} (h:Fine t ∨ t = noT) (hc:t.fArgs = []) : Ev (fun N => beehivelaw0_SameTerm N t t) true := by
  refine sameTerm_self t ?_ (by rw [cnt_eq,hc]; show 1 + cnts [] ≤ 100000; rw [cnts]; omega)
  rcases h with h | rfl
  · exact h.s
  · exact Small.mk (by simp [noT]) (by show 0 ≤ 1000; omega) (by simp [noT]) (fun x h => by cases h)
theorem args_int (n:Int) : (intT n).fArgs = [] := by unfold intT; split <;> rfl
theorem isN_int (n:Int) : isN (intT n).fKind = true := by have := kind_int n; exact decide_eq_true (by omega)
/-- What comes is a whole number,a float,or none. -/
theorem do_cases (op:Int) (a b:Tapi_Term) : (∃ z : Int,(z.natAbs : Int) < TOP ∧ doW op a b = (intT z, -1)) ∨ (∃ x y,doW op a b = (fltT (opF op x y), -1)) ∨ doW op a b = (noT,1) := by
  unfold doW
  split
  · split
    · split
      · rename_i h; exact .inl ⟨_,h,rfl⟩
      · exact .inr (.inr rfl)
    · exact .inr (.inl ⟨_,_,rfl⟩)
  · exact .inr (.inr rfl)
theorem do_same (op:Int) (a b:Tapi_Term) : Ev (fun N => beehivelaw0_SameTerm N (doW op a b).1 (doW op a b).1) true := by
  rcases do_cases op a b with ⟨z,hz,e⟩ | ⟨x,y,e⟩ | e
  · rw [e]; exact sameSelf (.inl (fine_int hz)) (args_int z)
  · rw [e]; exact sameSelf (.inl (fine_flt (opF_w op x y).1 (opF_w op x y).2)) rfl
  · rw [e]; exact sameSelf (.inr rfl) rfl
theorem do_fine {op : Int} {a b : Tapi_Term} (h:(doW op a b).2 = -1) : Fine (doW op a b).1 := by
  rcases do_cases op a b with ⟨z,hz,e⟩ | ⟨x,y,e⟩ | e
  · rw [e]; exact fine_int hz
  · rw [e]; exact fine_flt (opF_w op x y).1 (opF_w op x y).2
  · rw [e] at h; exact absurd h (by decide)
theorem opF_comm {op x y : Int} (h:op = 5 ∨ op = 7) : opF op x y = opF op y x := by
  unfold opF
  rcases h with rfl | rfl
  · rw [if_pos rfl,if_pos rfl,fadd_comm]
  · rw [if_neg (by decide),if_neg (by decide),if_pos rfl,if_neg (by decide),if_neg (by decide),if_pos rfl,fmul_comm]
theorem opZ_comm {op x y : Int} (h:op = 5 ∨ op = 7) : opZ op x y = opZ op y x := by
  unfold opZ
  rcases h with rfl | rfl
  · rw [if_pos rfl,if_pos rfl,Int.add_comm]
  · rw [if_neg (by decide),if_neg (by decide),if_neg (by decide),if_neg (by decide),Int.mul_comm]
theorem do_comm {op : Int} (h:op = 5 ∨ op = 7) (a b:Tapi_Term) : doW op a b = doW op b a := by
  unfold doW
  rw [opF_comm h,opZ_comm h]
  refine if_congr (by constructor <;> (intro ⟨p,q,r⟩; exact ⟨q,p,r⟩)) (if_congr (by constructor <;> (intro ⟨p,q,r⟩; exact ⟨q,p,r⟩)) rfl rfl) rfl
theorem great2 (a b:Tapi_Term) (wa:wTapi_Term a) (wb:wTapi_Term b) : ∃ v,Ev (fun N => beehivelaw6_ArithTurns_B1 N a b) v ∧ (v = false → Fine a ∧ Fine b) := by
  obtain ⟨g0,e0,k0⟩ := great_ev a wa 400 (by omega) (by omega)
  obtain ⟨g1,e1,k1⟩ := great_ev b wb 400 (by omega) (by omega)
  cases g0 with
  | true =>
    refine ⟨true, ?_,fun h => by cases h⟩
    refine Ev.step ?_ (fun N => by rw [beehivelaw6_ArithTurns_B1])
    exact Ev.bind e0 (Ev.pos rfl (Ev.now _))
  | false =>
    obtain ⟨s0,c0⟩ := k0 rfl
    cases g1 with
    | true =>
      refine ⟨true, ?_,fun h => by cases h⟩
      refine Ev.step ?_ (fun N => by rw [beehivelaw6_ArithTurns_B1])
      exact Ev.bind e0 (Ev.neg Bool.false_ne_true (Ev.bind e1 (Ev.pos rfl (Ev.now _))))
    | false =>
      obtain ⟨s1,c1⟩ := k1 rfl
      have m0 := mayT_ev a s0 wa
      have m1 := mayT_ev b s1 wb
      by_cases h0 : mayT a = true
      · refine ⟨!mayT b, ?_,fun h => ⟨⟨s0,wa,h0⟩,⟨s1,wb,by simpa using h⟩⟩⟩
        refine Ev.step ?_ (fun N => by rw [beehivelaw6_ArithTurns_B1])
        exact Ev.bind e0 (Ev.neg Bool.false_ne_true (Ev.bind e1 (Ev.neg Bool.false_ne_true (Ev.bind m0 (Ev.neg (fun h => h h0) (Ev.bind m1 (Ev.now _)))))))
      · refine ⟨true, ?_,fun h => by cases h⟩
        refine Ev.step ?_ (fun N => by rw [beehivelaw6_ArithTurns_B1])
        exact Ev.bind e0 (Ev.neg Bool.false_ne_true (Ev.bind e1 (Ev.neg Bool.false_ne_true (Ev.bind m0 (Ev.pos h0 (Ev.now _))))))
theorem turnsNum_ev (a b:Tapi_Term) (r14 r15 r16 r17 r18:Tapi_Term × Int) (r20:Bool) : Ev (fun N => beehivelaw6_ArithTurns_B3 N a b r14 r15 r16 r17 r18 r20) (isN a.fKind && isN b.fKind) := by
  refine Ev.step ?_ (fun N => by rw [beehivelaw6_ArithTurns_B3])
  have inner : Ev (fun _ => if b.fKind = (1:Int) then some true else if b.fKind = (2:Int) then some true else some (b.fKind == (3:Int))) (isN b.fKind) := by
    unfold isN
    by_cases h1 : b.fKind = 1
    · rw [decide_eq_true (.inl h1)]; exact Ev.pos h1 (Ev.now _)
    · by_cases h2 : b.fKind = 2
      · rw [decide_eq_true (.inr (.inl h2))]; exact Ev.neg h1 (Ev.pos h2 (Ev.now _))
      · have : decide (b.fKind = 1 ∨ b.fKind = 2 ∨ b.fKind = 3) = (b.fKind == 3) := by by_cases h3 : b.fKind = 3 <;> simp [h1,h2,h3]
        rw [this]
        exact Ev.neg h1 (Ev.neg h2 (Ev.now _))
  by_cases h1 : a.fKind = 1
  · rw [show isN a.fKind = true from decide_eq_true (.inl h1),Bool.true_and]; exact Ev.pos h1 inner
  · by_cases h2 : a.fKind = 2
    · rw [show isN a.fKind = true from decide_eq_true (.inr (.inl h2)),Bool.true_and]; exact Ev.neg h1 (Ev.pos h2 inner)
    · by_cases h3 : a.fKind = 3
      · rw [show isN a.fKind = true from decide_eq_true (.inr (.inr h3)),Bool.true_and]; exact Ev.neg h1 (Ev.neg h2 (Ev.pos h3 inner))
      · rw [show isN a.fKind = false from decide_eq_false (by omega),Bool.false_and]; exact Ev.neg h1 (Ev.neg h2 (Ev.neg h3 (Ev.now _)))
theorem turnsWhole_ev (a b:Tapi_Term) (r14 r15 r16 r17 r18:Tapi_Term × Int) : Ev (fun N => beehivelaw6_ArithTurns_B2 N a b r14 r15 r16 r17 r18) (decide (a.fKind ≠ 3 ∧ b.fKind ≠ 3)) := by
  refine Ev.step ?_ (fun N => by rw [beehivelaw6_ArithTurns_B2])
  by_cases h1 : a.fKind ≠ 3
  · have e : decide (a.fKind ≠ 3 ∧ b.fKind ≠ 3) = (b.fKind != 3) := by by_cases h2 : b.fKind = 3 <;> simp [h1,h2]
    rw [e]
    exact Ev.pos h1 (Ev.now _)
  · rw [decide_eq_false (fun h => h1 h.1)]
    exact Ev.neg h1 (Ev.now _)
theorem doW_not {op : Int} {a b : Tapi_Term} (h:(isN a.fKind && isN b.fKind) = false) : doW op a b = (noT,1) := by
  unfold doW
  rw [if_neg (fun k => by rw [k.1,k.2.1] at h; cases h)]
theorem doW_flt {op : Int} {a b : Tapi_Term} (ha:isN a.fKind = true) (hb:isN b.fKind = true) (h0:5 ≤ op) (h1:op ≤ 8) (hf : ¬ (a.fKind ≠ 3 ∧ b.fKind ≠ 3 ∧ op ≠ 8)) : doW op a b = (fltT (opF op (bitsT a) (bitsT b)), -1) := by
  unfold doW
  rw [if_pos ⟨ha,hb,h0,h1⟩,if_neg hf]
theorem doW_whole {op : Int} {a b : Tapi_Term} (ha:isN a.fKind = true) (hb:isN b.fKind = true) (h0:5 ≤ op) (h1:op ≤ 7) (h3:a.fKind ≠ 3) (k3:b.fKind ≠ 3) : doW op a b = if ((opZ op (numV a) (numV b)).natAbs : Int) < TOP then (intT (opZ op (numV a) (numV b)), -1) else (noT,1) := by
  unfold doW
  rw [if_pos ⟨ha,hb,h0,by omega⟩,if_pos ⟨h3,k3,by omega⟩]
theorem mayF {t : Tapi_Term} (h:Fine t) : Ev (fun N => term_May N t) true := by
  have := mayT_ev t h.s h.w
  rw [h.m] at this
  exact this
theorem turnsMay_ev {a b : Tapi_Term} (ha:Fine a) (hb:Fine b) (ka:isN a.fKind = true) (kb:isN b.fKind = true) : Ev (fun N => beehivelaw6_ArithTurns_B7 N a b (doW 5 a b) (doW 7 a b) (doW 8 a b) (decide (a.fKind ≠ 3 ∧ b.fKind ≠ 3))) false := by
  refine Ev.step ?_ (fun N => by rw [beehivelaw6_ArithTurns_B7])
  have e8 : doW 8 a b = (fltT (opF 8 (bitsT a) (bitsT b)), -1) := doW_flt ka kb (by decide) (by decide) (fun h => h.2.2 rfl)
  have f8 : Fine (doW 8 a b).1 := do_fine (by rw [e8])
  have l8 : ¬ ((doW 8 a b).1.fKind ≠ 3) := fun h => h (by rw [e8]; rfl)
  have t8 : Ev (fun N => if (doW 8 a b).1.fKind ≠ (3:Int) then some true else (term_May N (doW 8 a b).1).bind fun r54 => some (!r54)) false := Ev.neg l8 (Ev.bind (mayF f8) (Ev.now _))
  have t7 : Ev (fun N => if (doW 7 a b).2 = (-1 : Int) then (term_May N (doW 7 a b).1).bind fun r51 => if ¬ (r51 = true) then some true else if (doW 8 a b).1.fKind ≠ (3:Int) then some true else (term_May N (doW 8 a b).1).bind fun r54 => some (!r54) else if (doW 8 a b).1.fKind ≠ (3:Int) then some true else (term_May N (doW 8 a b).1).bind fun r54 => some (!r54)) false := by
    by_cases h7 : (doW 7 a b).2 = -1
    · exact Ev.pos h7 (Ev.bind (mayF (do_fine h7)) (Ev.neg (fun h => h rfl) t8))
    · exact Ev.neg h7 t8
  by_cases h5 : (doW 5 a b).2 = -1
  · refine Ev.pos h5 (Ev.bind (mayF (do_fine h5)) (Ev.neg (fun h => h rfl) (Ev.neg ?_ t7)))
    by_cases w : a.fKind ≠ 3 ∧ b.fKind ≠ 3
    · rw [decide_eq_true w]
      have e5 := doW_whole (op := 5) ka kb (by decide) (by decide) w.1 w.2
      by_cases c : ((opZ 5 (numV a) (numV b)).natAbs : Int) < TOP
      · rw [if_pos c] at e5
        rw [e5]
        have := kind_int (opZ 5 (numV a) (numV b))
        intro h
        have h : (intT (opZ 5 (numV a) (numV b))).fKind = 3 := by simpa using h
        omega
      · rw [if_neg c] at e5
        rw [e5] at h5
        exact absurd h5 (by decide)
    · rw [decide_eq_false w,doW_flt (op := 5) ka kb (by decide) (by decide) (fun h => w ⟨h.1,h.2.1⟩)]
      show ¬ (((3:Int) == 3) = false)
      decide
  · exact Ev.neg h5 t7
theorem numV_top' {t : Tapi_Term} (h:Fine t) (hk:isN t.fKind = true) (h3:t.fKind ≠ 3) : ((numV t).natAbs : Int) < TOP := h.numV_top (by have := of_decide_eq_true hk; omega)
/-- What is turned. -/
theorem turned {b : Tapi_Term} (hb:Fine b) (kb:isN b.fKind = true) : (doW 7 b (intT (-1))).2 = -1 ∧ (b.fKind ≠ 3 → doW 7 b (intT (-1)) = (intT (-numV b), -1)) := by
  have k1 := kind_int (-1)
  by_cases w : b.fKind ≠ 3
  · have e := doW_whole (op := 7) (a := b) (b := intT (-1)) kb (isN_int _) (by decide) (by decide) w (by omega)
    have ht := numV_top' hb kb w
    have ez : opZ 7 (numV b) (numV (intT (-1))) = -numV b := by
      rw [numV_int]
      unfold opZ
      rw [if_neg (by decide),if_neg (by decide)]
      omega
    rw [ez,if_pos (by omega)] at e
    exact ⟨by rw [e],fun _ => e⟩
  · have e := doW_flt (op := 7) (a := b) (b := intT (-1)) kb (isN_int _) (by decide) (by decide) (fun h => w h.1)
    exact ⟨by rw [e],fun h => absurd h w⟩
theorem differ {a b : Tapi_Term} (hb:Fine b) (ka:isN a.fKind = true) (kb:isN b.fKind = true) (wa:a.fKind ≠ 3) (wb:b.fKind ≠ 3) : doW 5 a (doW 7 b (intT (-1))).1 = doW 6 a b := by
  rw [(turned hb kb).2 wb]
  have k1 := kind_int (-numV b)
  rw [doW_whole (op := 5) (a := a) (b := intT (-numV b)) ka (isN_int _) (by decide) (by decide) wa (by omega),doW_whole (op := 6) ka kb (by decide) (by decide) wa wb]
  have e : opZ 5 (numV a) (numV (intT (-numV b))) = opZ 6 (numV a) (numV b) := by
    rw [numV_int]
    unfold opZ
    rw [if_pos rfl,if_neg (by decide),if_pos rfl]
    omega
  rw [e]
namespace Pure
theorem ArithTurns (x0:Tapi_Term) (x1:Tapi_Term) (w0:wTapi_Term x0) (w1:wTapi_Term x1) : ∃ N,beehivelaw6_ArithTurns N x0 x1 = some true := by
  refine Ev.ex ?_
  obtain ⟨v,hv,kv⟩ := great2 x0 x1 w0 w1
  cases v with
  | true =>
    have hB : Ev (fun N => beehivelaw6_ArithTurns_B0 N x0 x1) (.inr true) := by
      refine Ev.step ?_ (fun N => by rw [beehivelaw6_ArithTurns_B0])
      exact Ev.bind hv (Ev.pos rfl (Ev.bind awake6_ev (Ev.now _)))
    exact Ev.bind hB (Ev.now _)
  | false =>
    obtain ⟨fa,fb⟩ := kv rfl
    have hB : Ev (fun N => beehivelaw6_ArithTurns_B0 N x0 x1) (.inl ()) := by
      refine Ev.step ?_ (fun N => by rw [beehivelaw6_ArithTurns_B0])
      exact Ev.bind hv (Ev.neg Bool.false_ne_true (Ev.now _))
    refine Ev.bind hB ?_
    refine Ev.bind (do_ev 5 fa fb) ?_
    have d51 := do_ev 5 fb fa
    rw [← do_comm (.inl rfl) x0 x1] at d51
    refine Ev.bind d51 (Ev.bind (do_ev 7 fa fb) ?_)
    have d71 := do_ev 7 fb fa
    rw [← do_comm (.inr rfl) x0 x1] at d71
    refine Ev.bind d71 (Ev.bind (do_ev 8 fa fb) (Ev.bind (turnsWhole_ev _ _ _ _ _ _ _) (Ev.bind (turnsNum_ev _ _ _ _ _ _ _ _) ?_)))
    have hB4 : Ev (fun N => beehivelaw6_ArithTurns_B4 N x0 x1 (doW 5 x0 x1) (doW 5 x0 x1) (doW 7 x0 x1) (doW 7 x0 x1) (doW 8 x0 x1) (decide (x0.fKind ≠ 3 ∧ x1.fKind ≠ 3)) (isN x0.fKind && isN x1.fKind)) (.inl ()) := by
      refine Ev.step ?_ (fun N => by rw [beehivelaw6_ArithTurns_B4])
      have hB5 : Ev (fun N => beehivelaw6_ArithTurns_B5 N x0 x1 (doW 5 x0 x1) (doW 5 x0 x1) (doW 7 x0 x1) (doW 7 x0 x1) (doW 8 x0 x1) (decide (x0.fKind ≠ 3 ∧ x1.fKind ≠ 3)) (isN x0.fKind && isN x1.fKind)) false := by
        refine Ev.step ?_ (fun N => by rw [beehivelaw6_ArithTurns_B5])
        refine Ev.bind (do_same 5 x0 x1) (Ev.neg (fun h => h rfl) (Ev.neg (fun h => h rfl) (Ev.bind (do_same 7 x0 x1) (Ev.neg (fun h => h rfl) (Ev.neg (fun h => h rfl) ?_)))))
        have e : (((doW 8 x0 x1).2 == (-1 : Int)) != (isN x0.fKind && isN x1.fKind)) = false := by
          cases hn : (isN x0.fKind && isN x1.fKind) with
          | false => rw [doW_not hn]; rfl
          | true =>
            have hn := Bool.and_eq_true_iff.1 hn
            rw [doW_flt (op := 8) hn.1 hn.2 (by decide) (by decide) (fun h => h.2.2 rfl)]; rfl
        rw [e]
        exact Ev.now _
      exact Ev.bind hB5 (Ev.neg Bool.false_ne_true (Ev.now _))
    refine Ev.bind hB4 ?_
    cases hn : (isN x0.fKind && isN x1.fKind) with
    | false =>
      refine Ev.pos Bool.false_ne_true (Ev.pos (by rw [doW_not hn]) (Ev.pos (by rw [doW_not hn]) (Ev.bind awake6_ev (Ev.now _))))
    | true =>
      have hn := Bool.and_eq_true_iff.1 hn
      obtain ⟨ka,kb⟩ := hn
      refine Ev.neg (fun h => h rfl) ?_
      have hB6 : Ev (fun N => beehivelaw6_ArithTurns_B6 N x0 x1 (doW 5 x0 x1) (doW 7 x0 x1) (doW 8 x0 x1) (decide (x0.fKind ≠ 3 ∧ x1.fKind ≠ 3))) (.inl ()) := by
        refine Ev.step ?_ (fun N => by rw [beehivelaw6_ArithTurns_B6])
        exact Ev.bind (turnsMay_ev fa fb ka kb) (Ev.neg Bool.false_ne_true (Ev.now _))
      refine Ev.bind hB6 ?_
      have f1 : Fine (intT (-1)) := fine_int (by unfold TOP; decide)
      have ht := turned fb kb
      have fy := do_fine ht.1
      refine Ev.bind (do_ev 6 fa fb) (Ev.bind (termInt_ev (n := -1) (by decide) (by decide)) (Ev.bind (do_ev 7 fb f1) (Ev.bind (do_ev 5 fa fy) ?_)))
      by_cases w : x0.fKind ≠ 3 ∧ x1.fKind ≠ 3
      · refine Ev.neg (fun h => h (decide_eq_true w)) (Ev.pos ht.1 ?_)
        have hd := differ (a := x0) fb ka kb w.1 w.2
        have hs : Ev (fun N => beehivelaw0_SameTerm N (doW 5 x0 (doW 7 x1 (intT (-1))).1).1 (doW 6 x0 x1).1) true := by
          rw [hd]; exact do_same 6 x0 x1
        exact Ev.bind hs (Ev.pos rfl (Ev.pos (by rw [hd]) (Ev.bind awake6_ev (Ev.now _))))
      · refine Ev.pos (fun h => w (of_decide_eq_true h)) (Ev.bind awake6_ev (Ev.now _))
end Pure
end Go.Proofs.Ytllcnlonkloabaa.Sh
