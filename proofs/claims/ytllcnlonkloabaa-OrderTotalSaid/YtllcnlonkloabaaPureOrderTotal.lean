import Derived.Test.YtllcnlonkloabaaPureCmpLaw
import Derived.Test.YtllcnlonkloabaaPureGreat
import Derived.Test.YtllcnlonkloabaaPureAwake5
set_option linter.unusedVariables false
set_option linter.unusedSimpArgs false
namespace Go.Proofs.Ytllcnlonkloabaa.Sh
open Go Lift Go.Proofs
open ListHand (listTm consTm nilTm)
theorem wt_consTm (a b : Tapi_Term) : wt (consTm a b) = 1 + (wt a + wt b) := by
  rw [consTm, wt, wts, wts, wts]
  simp
theorem right_consTm (a b : Tapi_Term) : rightT (consTm a b) = (rightT a && rightT b) := by
  have h1 : okT (consTm a b) = true := by unfold okT; simp [consTm]
  have h2 : bareT (consTm a b) = true := by unfold bareT; simp [consTm, zN, zNum, zB, zS]
  rw [rightT_eq, h1, h2, Bool.true_and, Bool.true_and]
  show rightsT [a, b] = _
  rw [rightsT, rightsT, rightsT, Bool.and_true]
theorem may_consTm {a b : Tapi_Term} (ha : Fine a) (hb : Fine b) : mayT (consTm a b) = decide (1 + (wt a + wt b) ≤ 300) := by
  have h1 := ha.m
  have h2 := hb.m
  rw [mayT_iff, Bool.and_eq_true] at h1 h2
  rw [mayT_iff, wt_consTm, right_consTm, h1.2, h2.2, Bool.and_true, Bool.and_true]
theorem cmpT_self {a : Tapi_Term} (h : Fine a) : cmpT a a = 0 := by
  have := cmpT_turn a h a h
  omega
theorem cmp_consTm {a b c : Tapi_Term} (ha : Fine a) (hb : Fine b) (hc : Fine c) : cmpT (consTm c a) (consTm c b) = cmpT a b := by
  rw [cmpT_lex]
  unfold restT
  have e1 : (consTm c a).fKind = 8 := rfl
  have e2 : (consTm c b).fKind = 8 := rfl
  rw [e1, e2, Int.sub_self]
  rw [if_neg (by decide), if_neg (by decide), if_pos rfl]
  show lex 0 (cmpA [c, a] [c, b]) = _
  rw [cmpA_cons, cmpA_cons, cmpA, cmpT_self hc]
  unfold lex
  have := cmpT_b3 a b
  by_cases h : cmpT a b = 0
  · simp [h]
  · simp [h]
theorem nocmp_ev {a b : Tapi_Term} (sa : Small a) (wa : wTapi_Term a) (sb : Small b) (wb : wTapi_Term b) (h : mayT a = false ∨ mayT b = false) : Ev (fun N => order_Cmp N a b) 0 := by
  have h1 := mayT_ev a sa wa
  have h2 := mayT_ev b sb wb
  refine Ev.bind h1 ?_
  cases ha : mayT a with
  | false => exact Ev.pos (by simp) (Ev.now _)
  | true =>
    rcases h with h | h
    · rw [ha] at h; cases h
    · rw [h] at h2
      exact Ev.neg (by simp) (Ev.bind h2 (Ev.pos (by simp) (Ev.now _)))
theorem tot_b3 {a b c : Tapi_Term} (ha : Fine a) (hb : Fine b) (hc : Fine c) : Ev (fun N => beehivelaw5_OrderTotal_B3 N a b c (cmpT a b) (cmpT b c) (cmpT a c)) false := by
  have b1 := cmpT_b3 a b
  have b2 := cmpT_b3 b c
  have b3 := cmpT_b3 a c
  unfold B3 at b1 b2 b3
  obtain ⟨z1, z2, lo, hi⟩ := cmpT_tr a ha b hb c hc
  have ht := ocmp_ev hb ha
  rw [cmpT_turn a ha b hb] at ht
  have hs := same_ev a ha b hb
  have hl := oless_ev ha hb
  have hL : Ev (fun N => (order_Less N a b).bind fun r33 => some (r33 != (cmpT a b == (-1 : Int)))) false := by
    refine Ev.bind hl ?_
    rw [show false = (decide (cmpT a b < 0) != (cmpT a b == (-1 : Int))) from by
      rcases b1 with h | h | h <;> rw [h] <;> decide]
    exact Ev.now _
  refine Ev.step ?_ (fun N => by rw [beehivelaw5_OrderTotal_B3])
  generalize cmpT a b = x at *
  generalize cmpT b c = y at *
  generalize cmpT a c = z at *
  refine Ev.neg (by omega) (Ev.neg (by omega) (Ev.bind ht (Ev.neg (by rw [wrapI _ (by omega) (by omega)]; omega) (Ev.bind hs (Ev.neg ?_ ?_)))))
  · simp only [ne_eq, Decidable.not_not]
    rw [Bool.eq_iff_iff]; simp
  · have tail : Ev (fun N => if x ≥ (0 : Int) then if y ≥ (0 : Int) then if z < (0 : Int) then some true else (order_Less N a b).bind fun r33 => some (r33 != (x == (-1 : Int))) else (order_Less N a b).bind fun r34 => some (r34 != (x == (-1 : Int))) else (order_Less N a b).bind fun r35 => some (r35 != (x == (-1 : Int)))) false := by
      by_cases c1 : x ≥ 0
      · refine Ev.pos c1 ?_
        by_cases c2 : y ≥ 0
        · exact Ev.pos c2 (Ev.neg (by omega) hL)
        · exact Ev.neg c2 hL
      · exact Ev.neg c1 hL
    by_cases c1 : x ≤ 0
    · refine Ev.pos c1 ?_
      by_cases c2 : y ≤ 0
      · exact Ev.pos c2 (Ev.neg (by omega) tail)
      · exact Ev.neg c2 tail
    · exact Ev.neg c1 tail
theorem may_or_not {t : Tapi_Term} (hs : Small t) (hw : wTapi_Term t) : ∃ r, Ev (fun N => term_May N t) r ∧ (r = true → Fine t) := ⟨mayT t, mayT_ev t hs hw, fun h => ⟨hs, hw, h⟩⟩
namespace Pure
theorem OrderTotal (x0 : Tapi_Term) (x1 : Tapi_Term) (x2 : Tapi_Term) (w0 : wTapi_Term x0) (w1 : wTapi_Term x1) (w2 : wTapi_Term x2) : ∃ N, beehivelaw5_OrderTotal N x0 x1 x2 = some true := by
  refine Ev.ex (f := fun N => beehivelaw5_OrderTotal N x0 x1 x2) ?_
  have hB1 : ∃ r, Ev (fun N => beehivelaw5_OrderTotal_B1 N x0 x1 x2) r ∧ (r = false → Fine x0 ∧ Fine x1 ∧ Fine x2) := by
    obtain ⟨g0, e0, k0⟩ := great_ev x0 w0 400 (by omega) (by omega)
    obtain ⟨g1, e1, k1⟩ := great_ev x1 w1 400 (by omega) (by omega)
    obtain ⟨g2, e2, k2⟩ := great_ev x2 w2 400 (by omega) (by omega)
    cases g0 with
    | true => exact ⟨true, (by refine Ev.step ?_ (fun N => by rw [beehivelaw5_OrderTotal_B1]); exact Ev.bind e0 (Ev.pos rfl (Ev.now _))), fun h => by cases h⟩
    | false =>
    cases g1 with
    | true => exact ⟨true, (by refine Ev.step ?_ (fun N => by rw [beehivelaw5_OrderTotal_B1]); exact Ev.bind e0 (Ev.neg (by simp) (Ev.bind e1 (Ev.pos rfl (Ev.now _))))), fun h => by cases h⟩
    | false =>
    cases g2 with
    | true => exact ⟨true, (by refine Ev.step ?_ (fun N => by rw [beehivelaw5_OrderTotal_B1]); exact Ev.bind e0 (Ev.neg (by simp) (Ev.bind e1 (Ev.neg (by simp) (Ev.bind e2 (Ev.pos rfl (Ev.now _))))))), fun h => by cases h⟩
    | false =>
    obtain ⟨m0, f0, l0⟩ := may_or_not (k0 rfl).1 w0
    obtain ⟨m1, f1, l1⟩ := may_or_not (k1 rfl).1 w1
    obtain ⟨m2, f2, l2⟩ := may_or_not (k2 rfl).1 w2
    cases m0 with
    | false => exact ⟨true, (by refine Ev.step ?_ (fun N => by rw [beehivelaw5_OrderTotal_B1]); exact Ev.bind e0 (Ev.neg (by simp) (Ev.bind e1 (Ev.neg (by simp) (Ev.bind e2 (Ev.neg (by simp) (Ev.bind f0 (Ev.pos (by simp) (Ev.now _))))))))), fun h => by cases h⟩
    | true =>
    cases m1 with
    | false => exact ⟨true, (by refine Ev.step ?_ (fun N => by rw [beehivelaw5_OrderTotal_B1]); exact Ev.bind e0 (Ev.neg (by simp) (Ev.bind e1 (Ev.neg (by simp) (Ev.bind e2 (Ev.neg (by simp) (Ev.bind f0 (Ev.neg (by simp) (Ev.bind f1 (Ev.pos (by simp) (Ev.now _))))))))))), fun h => by cases h⟩
    | true => exact ⟨!m2, (by refine Ev.step ?_ (fun N => by rw [beehivelaw5_OrderTotal_B1]); exact Ev.bind e0 (Ev.neg (by simp) (Ev.bind e1 (Ev.neg (by simp) (Ev.bind e2 (Ev.neg (by simp) (Ev.bind f0 (Ev.neg (by simp) (Ev.bind f1 (Ev.neg (by simp) (Ev.bind f2 (Ev.now _)))))))))))), fun h => ⟨l0 rfl, l1 rfl, l2 (by simpa using h)⟩⟩
  obtain ⟨r, hr, hf⟩ := hB1
  cases r with
  | true => 
    have hb0 : Ev (fun N => beehivelaw5_OrderTotal_B0 N x0 x1 x2) (.inr true) := by
      refine Ev.step ?_ (fun N => by rw [beehivelaw5_OrderTotal_B0])
      exact Ev.bind hr (Ev.pos rfl (Ev.bind awake5_ev (Ev.now _)))
    exact Ev.bind hb0 (Ev.now _)
  | false =>
    obtain ⟨f0, f1, f2⟩ := hf rfl
    have hb0 : Ev (fun N => beehivelaw5_OrderTotal_B0 N x0 x1 x2) (.inl ()) := by
      refine Ev.step ?_ (fun N => by rw [beehivelaw5_OrderTotal_B0])
      exact Ev.bind hr (Ev.neg (by simp) (Ev.now _))
    have hb2 : Ev (fun N => beehivelaw5_OrderTotal_B2 N x0 x1 x2 (cmpT x0 x1) (cmpT x1 x2) (cmpT x0 x2)) (.inl ()) := by
      refine Ev.step ?_ (fun N => by rw [beehivelaw5_OrderTotal_B2])
      exact Ev.bind (tot_b3 f0 f1 f2) (Ev.neg (by simp) (Ev.now _))
    refine Ev.bind hb0 ?_
    refine Ev.bind (ocmp_ev f0 f1) (Ev.bind (ocmp_ev f1 f2) (Ev.bind (ocmp_ev f0 f2) ?_))
    refine Ev.bind hb2 ?_
    have haw : Ev (fun N => (beehivelaw5_awake N).bind fun r55 => some r55) true := Ev.bind awake5_ev (Ev.now _)
    have sc0 := small_cons f2.s f0.s
    have sc1 := small_cons f2.s f1.s
    have wc0 := w_cons f2.w f0.w
    have wc1 := w_cons f2.w f1.w
    have mc0 := may_consTm f2 f0
    have mc1 := may_consTm f2 f1
    by_cases hm : mayT (consTm x2 x0) = true ∧ mayT (consTm x2 x1) = true
    · have hc := ocmp_ev (a := consTm x2 x0) (b := consTm x2 x1) ⟨sc0, wc0, hm.1⟩ ⟨sc1, wc1, hm.2⟩
      rw [cmp_consTm f0 f1 f2] at hc
      exact Ev.bind hc (Ev.pos rfl haw)
    · have hm' : mayT (consTm x2 x0) = false ∨ mayT (consTm x2 x1) = false := by
        cases h1 : mayT (consTm x2 x0) with
        | false => exact .inl rfl
        | true =>
          right
          cases h2 : mayT (consTm x2 x1) with
          | false => rfl
          | true => exact absurd ⟨h1, h2⟩ hm
      refine Ev.bind (nocmp_ev sc0 wc0 sc1 wc1 hm') ?_
      by_cases hx : 0 = cmpT x0 x1
      · exact Ev.pos hx haw
      · refine Ev.neg hx (Ev.bind (a := listTm [x2, x0, x1, x2]) (Ev.pos (by simp) (Ev.now _)) ?_)
        have all4 : ∀ (Q : Tapi_Term → Prop), Q x0 → Q x1 → Q x2 → ∀ x ∈ [x2, x0, x1, x2], Q x := fun Q a b c x hx => by
          simp only [List.mem_cons, List.not_mem_nil, or_false] at hx
          rcases hx with rfl | rfl | rfl | rfl <;> assumption
        have hmay := mayT_ev (listTm [x2, x0, x1, x2]) (small_list (all4 _ f0.s f1.s f2.s)) (w_list (all4 _ f0.w f1.w f2.w))
        have hw : ∀ t, Fine t → wt t ≤ 300 := fun t h => by
          have := h.m
          rw [mayT_iff, Bool.and_eq_true, decide_eq_true_eq] at this
          exact this.1
        have hno : mayT (listTm [x2, x0, x1, x2]) = false := by
          rw [may_list, sum_same _ (all4 _ (hw _ f0) (hw _ f1) (hw _ f2))]
          split
          · refine decide_eq_false ?_
            have p0 := wt_pos x0
            have p1 := wt_pos x1
            have p2 := wt_pos x2
            simp only [sumW]
            rw [mc0, mc1] at hm'
            rcases hm' with h | h
            · have := of_decide_eq_false h; omega
            · have := of_decide_eq_false h; omega
          · rfl
        rw [hno] at hmay
        exact Ev.bind hmay (Ev.pos (by simp) haw)
end Pure
end Go.Proofs.Ytllcnlonkloabaa.Sh
