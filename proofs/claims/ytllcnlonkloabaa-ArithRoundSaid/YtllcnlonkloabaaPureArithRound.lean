import Derived.Test.YtllcnlonkloabaaPureArithFine
set_option linter.unusedVariables false
set_option linter.unusedSimpArgs false
namespace Go.Proofs.Ytllcnlonkloabaa.Sh
open Go Lift Go.Proofs
theorem awake6_ev : Ev (fun N => beehivelaw6_awake N) true := Ev.from 60 (fun N => by kernel_rfl)
theorem low4 (x : Int) : ∃ r, Ev (fun N => beehivelaw0_Low N x (4 : Int)) r ∧ 0 ≤ r ∧ r < 4 := by
  have hu := wrapU_eq x
  have e1 : IntKind.u64.wrap (4 : Int) = 4 := wrapU 4 (by omega) (by omega)
  have hp : 0 ≤ IntKind.u64.wrap x := by omega
  have e2 : (IntKind.u64.wrap x).tmod 4 = IntKind.u64.wrap x % 4 := Int.tmod_eq_emod_of_nonneg hp
  refine ⟨IntKind.u64.wrap x % 4, ?_, by omega, by omega⟩
  refine Ev.bindc (a := IntKind.u64.wrap x % 4) (by rw [e1, rem_eq (by omega), e2]) ?_
  have e3 : IntKind.i64.wrap (IntKind.u64.wrap x % 4) = IntKind.u64.wrap x % 4 := wrapI _ (by omega) (by omega)
  show Ev (fun _ => some (IntKind.i64.wrap (IntKind.u64.wrap x % 4))) _
  rw [e3]
  exact Ev.now _
theorem sameFlt (b : Int) : Ev (fun N => beehivelaw0_SameTerm N (fltT b) (fltT b)) true :=
  sameTerm_self (fltT b) (Small.mk (by simp [fltT]) (by show 0 ≤ 1000; omega) (by simp [fltT]) (fun x h => by cases h)) (by rw [cnt_eq]; show 1 + cnts [] ≤ 100000; rw [cnts]; omega)
theorem isN_int (n : Int) : isN (intT n).fKind = true := by have := kind_int n; exact decide_eq_true (by omega)
theorem bits_int (n : Int) : bitsT (intT n) = wdOf n := by
  unfold bitsT
  rw [if_neg (by have := kind_int n; omega), numV_int]
/-- With a float on either side all is reckoned with floats. -/
theorem do_flt (op : Int) {a b : Tapi_Term} (ha : isN a.fKind = true) (hb : isN b.fKind = true) (h0 : 5 ≤ op) (h1 : op ≤ 8) (hf : a.fKind = 3 ∨ b.fKind = 3 ∨ op = 8) : doW op a b = (fltT (opF op (bitsT a) (bitsT b)), -1) := by
  unfold doW
  rw [if_pos ⟨ha, hb, h0, h1⟩, if_neg (fun h => by rcases hf with e | e | e; exact h.1 e; exact h.2.1 e; exact h.2.2 e)]
theorem mul_oneF (n : Int) : opF 7 (wdOf n) 4607182418800017408 = wdOf n := by
  obtain ⟨_, _, e, hr⟩ := wdOf_w n
  unfold opF
  rw [if_neg (by decide), if_neg (by decide), if_pos rfl, e, Int.toNat_natCast]
  have h1 : (4607182418800017408 : Int).toNat = wd false oneR := by decide
  rw [h1, fmul_one _ _ hr, Bool.xor_false, opW_wd _ hr]
namespace Pure
theorem ArithRound (x0 : Int) (x1 : Int) (x2 : Int) (w0 : (InR .i64) x0) (w1 : (InR .i64) x1) (w2 : (InR .u64) x2) : ∃ N, beehivelaw6_ArithRound N x0 x1 x2 = some true := by
  refine Ev.ex ?_
  obtain ⟨r, hr, r0, r1⟩ := low4 x0
  obtain ⟨n0, n1⟩ := inI w1
  have hop : IntKind.wrap .i64 ((5 : Int) + r) = 5 + r := wrapI _ (by omega) (by omega)
  have hb := inW w2
  have hn : (x1.natAbs : Int) < TOP := by unfold TOP; omega
  refine Ev.bind hr (Ev.bind (termInt_ev n0 n1) ?_)
  rw [hop]
  have fi := fine_int hn
  -- the float
  have s3 : Small (fltT x2) := Small.mk (by simp [fltT]) (by show 0 ≤ 1000; omega) (by simp [fltT]) (fun x h => by cases h)
  have w3 : wTapi_Term (fltT x2) := wTapi_Term.mk (show InR .i64 3 from inI_mk (by decide) (by decide)) (show InR .i64 0 from inI_mk (by decide) (by decide)) (wTapi_Num.mk trivial ⟨by simp [fltT], fun x h => by cases h⟩) w2 (by show 0 ≤ maxLen; omega) (by show 0 ≤ maxLen; omega) (fun y h => by cases h)
  refine Ev.bind (mayT_ev (fltT x2) s3 w3) ?_
  by_cases hm : mayT (fltT x2) = true
  · have fb : Fine (fltT x2) := ⟨s3, w3, hm⟩
    have fone : Fine (fltT 4607182418800017408) := fine_flt ⟨by decide, by decide⟩ (.inr (by decide))
    obtain ⟨ww, wn, we, _⟩ := wdOf_w x1
    have ff : Fine (fltT (wdOf x1)) := fine_flt ww (.inr wn)
    have f7 : Fine (intT 7) := fine_int (by unfold TOP; decide)
    have kI := isN_int x1
    have k7 := isN_int 7
    have kF : ∀ b, isN (fltT b).fKind = true := fun b => decide_eq_true (.inr (.inr rfl))
    have dF := do_ev 7 fi fone
    rw [do_flt 7 kI (kF _) (by decide) (by decide) (.inr (.inl rfl)), bits_int] at dF
    have hone : opF 7 (wdOf x1) (bitsT (fltT 4607182418800017408)) = wdOf x1 := mul_oneF x1
    rw [hone] at dF
    have dX := do_ev (5 + r) fi fb
    rw [do_flt (5 + r) kI (kF _) (by omega) (by omega) (.inr (.inl rfl)), bits_int] at dX
    have dY := do_ev (5 + r) ff fb
    rw [do_flt (5 + r) (kF _) (kF _) (by omega) (by omega) (.inr (.inl rfl))] at dY
    have dU := do_ev (5 + r) fb fi
    rw [do_flt (5 + r) (kF _) kI (by omega) (by omega) (.inl rfl), bits_int] at dU
    have dV := do_ev (5 + r) fb ff
    rw [do_flt (5 + r) (kF _) (kF _) (by omega) (by omega) (.inl rfl)] at dV
    have dP := do_ev 8 fi f7
    rw [do_flt 8 kI k7 (by decide) (by decide) (.inr (.inr rfl)), bits_int] at dP
    have dQ := do_ev 8 ff f7
    rw [do_flt 8 (kF _) k7 (by decide) (by decide) (.inr (.inr rfl))] at dQ
    refine Ev.neg (by rw [hm]; simp) ?_
    refine Ev.bind dF (Ev.bind dX (Ev.bind dY (Ev.bind dU (Ev.bind dV (Ev.bind (termInt_ev (n := 7) (by decide) (by decide)) (Ev.bind dP (Ev.bind dQ ?_)))))))
    have hB : Ev (fun N => beehivelaw6_ArithRound_B0 N (fltT (wdOf x1), -1) (fltT (opF (5 + r) (wdOf x1) (bitsT (fltT x2))), -1) (fltT (opF (5 + r) (bitsT (fltT (wdOf x1))) (bitsT (fltT x2))), -1) (fltT (opF (5 + r) (bitsT (fltT x2)) (wdOf x1)), -1) (fltT (opF (5 + r) (bitsT (fltT x2)) (bitsT (fltT (wdOf x1)))), -1) (fltT (opF 8 (wdOf x1) (bitsT (intT 7))), -1) (fltT (opF 8 (bitsT (fltT (wdOf x1))) (bitsT (intT 7))), -1)) true := by
      refine Ev.step ?_ (fun N => by rw [beehivelaw6_ArithRound_B0])
      refine Ev.pos rfl (Ev.pos rfl (Ev.pos rfl (Ev.pos rfl (Ev.pos rfl (Ev.pos rfl (Ev.pos rfl (Ev.pos rfl ?_)))))))
      exact Ev.bind (sameFlt _) (Ev.pos rfl (Ev.bind (sameFlt _) (Ev.pos rfl (Ev.bind (sameFlt _) (Ev.pos rfl (Ev.bind awake6_ev (Ev.now _)))))))
    exact Ev.bind hB (Ev.now _)
  · exact Ev.pos (by simpa using hm) (Ev.bind awake6_ev (Ev.now _))
end Pure
end Go.Proofs.Ytllcnlonkloabaa.Sh
