import Derived.Test.YtocgnoohfkpbhaaPureWireC
set_option linter.unusedVariables false
set_option linter.unusedSimpArgs false
namespace Go.Proofs.Ytocgnoohfkpbhaa.Sh
open Go Lift Go.Proofs
theorem joins2 (a b : Tapi_Term) (wa : wTapi_Term a) (wb : wTapi_Term b) : ∃ v, Ev (fun N => beehivelaw7_WireJoins_B1 N a b) v ∧ (v = false → (Small a ∧ mayT a = true) ∧ Small b ∧ mayT b = true) := by
  obtain ⟨g0, e0, k0⟩ := great_ev a wa 400 (by omega) (by omega)
  obtain ⟨g1, e1, k1⟩ := great_ev b wb 400 (by omega) (by omega)
  cases g0 with
  | true =>
    refine ⟨true, ?_, fun h => by cases h⟩
    refine Ev.step ?_ (fun N => by rw [beehivelaw7_WireJoins_B1])
    exact Ev.bind e0 (Ev.pos rfl (Ev.now _))
  | false =>
    obtain ⟨s0, c0⟩ := k0 rfl
    cases g1 with
    | true =>
      refine ⟨true, ?_, fun h => by cases h⟩
      refine Ev.step ?_ (fun N => by rw [beehivelaw7_WireJoins_B1])
      exact Ev.bind e0 (Ev.neg Bool.false_ne_true (Ev.bind e1 (Ev.pos rfl (Ev.now _))))
    | false =>
      obtain ⟨s1, c1⟩ := k1 rfl
      have m0 := mayT_ev a s0 wa
      have m1 := mayT_ev b s1 wb
      by_cases h0 : mayT a = true
      · refine ⟨!mayT b, ?_, fun h => ⟨⟨s0, h0⟩, s1, by simpa using h⟩⟩
        refine Ev.step ?_ (fun N => by rw [beehivelaw7_WireJoins_B1])
        exact Ev.bind e0 (Ev.neg Bool.false_ne_true (Ev.bind e1 (Ev.neg Bool.false_ne_true (Ev.bind m0 (Ev.neg (fun h => h h0) (Ev.bind m1 (Ev.now _)))))))
      · refine ⟨true, ?_, fun h => by cases h⟩
        refine Ev.step ?_ (fun N => by rw [beehivelaw7_WireJoins_B1])
        exact Ev.bind e0 (Ev.neg Bool.false_ne_true (Ev.bind e1 (Ev.neg Bool.false_ne_true (Ev.bind m0 (Ev.pos h0 (Ev.now _))))))
theorem joined (k : Int) (hk : k = 6 ∨ k = 8) (l : List Tapi_Term) (hl : l.length ≤ 3) (hs : ∀ x ∈ l, Small x) (hw : ∀ x ∈ l, wTapi_Term x) : Small ⟨k, 0, ⟨false, []⟩, 0, ByteArray.mk #[], l⟩ ∧ wTapi_Term ⟨k, 0, ⟨false, []⟩, 0, ByteArray.mk #[], l⟩ := by
  refine ⟨Small.mk (by simp) (by show 0 ≤ 3000; omega) (by show l.length ≤ maxLen; rw [maxLen_eq]; omega) hs, ?_⟩
  exact wTapi_Term.mk (show InR .i64 k from inI_mk (by omega) (by omega)) (show InR .i64 0 from inI_mk (by decide) (by decide)) (wTapi_Num.mk trivial ⟨by simp, fun x h => by cases h⟩) (by show (Lit.int .u64 0).wf = true; decide) (by show 0 ≤ maxLen; omega) (by show l.length ≤ maxLen; rw [maxLen_eq]; omega) hw
theorem laid2 (t : Tapi_Term) : ((laid t).2 == (0 : Int)) = mayT t := by
  unfold laid
  by_cases h : mayT t = true
  · rw [if_pos h, h]; rfl
  · rw [if_neg h, Bool.eq_false_iff.2 h]; rfl
namespace Pure
theorem WireJoins (x0 : Tapi_Term) (x1 : Tapi_Term) (w0 : wTapi_Term x0) (w1 : wTapi_Term x1) : ∃ N, beehivelaw7_WireJoins N x0 x1 = some true := by
  refine Ev.ex ?_
  obtain ⟨v, hv, kv⟩ := joins2 x0 x1 w0 w1
  cases v with
  | true =>
    have hB : Ev (fun N => beehivelaw7_WireJoins_B0 N x0 x1) (.inr true) := by
      refine Ev.step ?_ (fun N => by rw [beehivelaw7_WireJoins_B0])
      exact Ev.bind hv (Ev.pos rfl (Ev.bind awake7_ev (Ev.now _)))
    exact Ev.bind hB (Ev.now _)
  | false =>
    obtain ⟨⟨s0, m0⟩, s1, m1⟩ := kv rfl
    have hB : Ev (fun N => beehivelaw7_WireJoins_B0 N x0 x1) (.inl ()) := by
      refine Ev.step ?_ (fun N => by rw [beehivelaw7_WireJoins_B0])
      exact Ev.bind hv (Ev.neg Bool.false_ne_true (Ev.now _))
    obtain ⟨sp, wp⟩ := joined 8 (.inr rfl) [x0, x1] (by simp) (by simp [s0, s1]) (by simp [w0, w1])
    obtain ⟨st, wt'⟩ := joined 6 (.inl rfl) [x1, x0, x1] (by simp) (by simp [s0, s1]) (by simp [w0, w1])
    have l0 : laid x0 = (layT x0, 0) := by unfold laid; rw [if_pos m0]
    have l1 : laid x1 = (layT x1, 0) := by unfold laid; rw [if_pos m1]
    have n0 := laid_len x0
    have n1 := laid_len x1
    have L0 := Lay_ev x0 s0 w0
    have L1 := Lay_ev x1 s1 w1
    rw [l0] at n0 L0
    rw [l1] at n1 L1
    have n0 : (layT x0).length ≤ 3000 := n0
    have n1 : (layT x1).length ≤ 3000 := n1
    have ep : layT ⟨8, 0, ⟨false, []⟩, 0, ByteArray.mk #[], [x0, x1]⟩ = [8] ++ layT x0 ++ layT x1 := by
      rw [layT_eq]
      show IntKind.u8.wrap 8 :: ([] ++ layTs [x0, x1]) = _
      rw [layTs, layTs, layTs, List.append_nil, List.append_assoc]
      rfl
    have et : layT ⟨6, 0, ⟨false, []⟩, 0, ByteArray.mk #[], [x1, x0, x1]⟩ = [6, 3] ++ layT x1 ++ layT x0 ++ layT x1 := by
      rw [layT_eq]
      show IntKind.u8.wrap 6 :: ([IntKind.u8.wrap 3] ++ layTs [x1, x0, x1]) = _
      rw [layTs, layTs, layTs, layTs, List.append_nil, List.append_assoc, List.append_assoc]
      rfl
    refine Ev.bind hB (Ev.bind L0 (Ev.bind L1 (Ev.bind (Lay_ev _ sp wp) (Ev.bind (Lay_ev _ st wt') ?_))))
    have np := laid_len ⟨8, 0, ⟨false, []⟩, 0, ByteArray.mk #[], [x0, x1]⟩
    have nt := laid_len ⟨6, 0, ⟨false, []⟩, 0, ByteArray.mk #[], [x1, x0, x1]⟩
    have hp2 := laid2 ⟨8, 0, ⟨false, []⟩, 0, ByteArray.mk #[], [x0, x1]⟩
    have ht2 := laid2 ⟨6, 0, ⟨false, []⟩, 0, ByteArray.mk #[], [x1, x0, x1]⟩
    have mp := mayT_ev _ sp wp
    have mt := mayT_ev _ st wt'
    have fp : (laid ⟨8, 0, ⟨false, []⟩, 0, ByteArray.mk #[], [x0, x1]⟩).2 = 0 → (laid ⟨8, 0, ⟨false, []⟩, 0, ByteArray.mk #[], [x0, x1]⟩).1 = [8] ++ layT x0 ++ layT x1 := fun h => by
      rw [← ep]; unfold laid at h ⊢; split; rfl; rename_i k; rw [if_neg k] at h; cases h
    have ft : (laid ⟨6, 0, ⟨false, []⟩, 0, ByteArray.mk #[], [x1, x0, x1]⟩).2 = 0 → (laid ⟨6, 0, ⟨false, []⟩, 0, ByteArray.mk #[], [x1, x0, x1]⟩).1 = [6, 3] ++ layT x1 ++ layT x0 ++ layT x1 := fun h => by
      rw [← et]; unfold laid at h ⊢; split; rfl; rename_i k; rw [if_neg k] at h; cases h
    have hB3 : Ev (fun N => beehivelaw7_WireJoins_B3 N x0 x1 (layT x0, 0) (layT x1, 0) (laid ⟨8, 0, ⟨false, []⟩, 0, ByteArray.mk #[], [x0, x1]⟩) (laid ⟨6, 0, ⟨false, []⟩, 0, ByteArray.mk #[], [x1, x0, x1]⟩)) false := by
      refine Ev.step ?_ (fun N => by rw [beehivelaw7_WireJoins_B3])
      refine Ev.neg (fun h => h rfl) (Ev.neg (fun h => h rfl) (Ev.bind mp (Ev.neg (fun h => h hp2) (Ev.bind mt ?_))))
      rw [ht2, bne_self_eq_false]
      exact Ev.now _
    have hB2 : Ev (fun N => beehivelaw7_WireJoins_B2 N x0 x1 (layT x0, 0) (layT x1, 0) (laid ⟨8, 0, ⟨false, []⟩, 0, ByteArray.mk #[], [x0, x1]⟩) (laid ⟨6, 0, ⟨false, []⟩, 0, ByteArray.mk #[], [x1, x0, x1]⟩)) (.inl ()) := by
      refine Ev.step ?_ (fun N => by rw [beehivelaw7_WireJoins_B2])
      exact Ev.bind hB3 (Ev.neg Bool.false_ne_true (Ev.now _))
    refine Ev.bind hB2 ?_
    generalize laid ⟨8, 0, ⟨false, []⟩, 0, ByteArray.mk #[], [x0, x1]⟩ = P at np fp
    generalize laid ⟨6, 0, ⟨false, []⟩, 0, ByteArray.mk #[], [x1, x0, x1]⟩ = T at nt ft
    have fin : Ev (fun N => if T.2 ≠ (0 : Int) then (beehivelaw7_awake N).bind fun r34 => some r34 else (app ([(6 : Int), (3 : Int)] : List Int) (layT x1)).bind fun x35 => (app x35 (layT x0)).bind fun x36 => (app x36 (layT x1)).bind fun x37 => (beehivelaw0_SameBytes N T.1 x37).bind fun r38 => if r38 = true then (beehivelaw7_awake N).bind fun r40 => some r40 else some false) true := by
      by_cases h : T.2 = 0
      · refine Ev.neg (fun k => k h) (Ev.bindc (app9 (by show 2 + (layT x1).length ≤ _; omega)) (Ev.bindc (app9 (by rw [List.length_append]; show 2 + (layT x1).length + (layT x0).length ≤ _; omega)) (Ev.bindc (app9 (by rw [List.length_append, List.length_append]; show 2 + (layT x1).length + (layT x0).length + _ ≤ _; omega)) ?_)))
        rw [← ft h]
        exact Ev.bind (sameB_self _ (by omega)) (Ev.pos rfl (Ev.bind awake7_ev (Ev.now _)))
      · exact Ev.pos h (Ev.bind awake7_ev (Ev.now _))
    by_cases h : P.2 = 0
    · refine Ev.pos h (Ev.bindc (app9 (by show 1 + (layT x0).length ≤ _; omega)) (Ev.bindc (app9 (by rw [List.length_append]; show 1 + (layT x0).length + (layT x1).length ≤ _; omega)) ?_))
      rw [← fp h]
      exact Ev.bind (sameB_self _ (by omega)) (Ev.neg (fun k => k rfl) fin)
    · exact Ev.neg h fin
end Pure
end Go.Proofs.Ytocgnoohfkpbhaa.Sh
