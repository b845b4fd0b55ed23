import Derived.Test.YtopopkdnjpnafaaPureAwake3
set_option linter.unusedVariables false
namespace Go.Proofs.Ytopopkdnjpnafaa.Sh
open Go Lift Go.Proofs
namespace Pure
theorem WeighGrows (x0 : Tapi_Term) (x1 : Tapi_Term) (w0 : wTapi_Term x0) (w1 : wTapi_Term x1) : ∃ N, beehivelaw3_WeighGrows N x0 x1 = some true := by
  refine Ev.ex (f := fun N => beehivelaw3_WeighGrows N x0 x1) ?_
  have haw : Ev (fun N => (beehivelaw3_awake N).bind fun r3 => some r3) true := Ev.bind awake_ev (Ev.now _)
  obtain ⟨b, hb, hg⟩ := great_ev x0 w0 400 (by omega) (by omega)
  refine Ev.bind hb ?_
  cases b with
  | true => exact Ev.pos rfl haw
  | false =>
    refine Ev.neg (by decide) ?_
    obtain ⟨b, hb, hgs⟩ := great_ev x1 w1 400 (by omega) (by omega)
    refine Ev.bind hb ?_
    cases b with
    | true => exact Ev.pos rfl haw
    | false =>
      refine Ev.neg (by decide) ?_
      have h0 := (hg rfl).1
      have h1 := (hgs rfl).1
      have p0 := wt_pos x0
      have p1 := wt_pos x1
      have l0 : lo (wt x0) = if 301 < wt x0 then 301 else wt x0 := rfl
      have l1 : lo (wt x1) = if 301 < wt x1 then 301 else wt x1 := rfl
      have b0 : 1 ≤ lo (wt x0) ∧ lo (wt x0) ≤ 301 := by split at l0 <;> omega
      have b1 : 1 ≤ lo (wt x1) ∧ lo (wt x1) ≤ 301 := by split at l1 <;> omega
      refine Ev.bind (weight_ev x0 h0) (Ev.bind (weight_ev x1 h1) ?_)
      have e8 : wt (tOf 8 [x0, x1]) = 1 + (wt x0 + wt x1) := by simp [tOf, wt, wts]
      have e6 : wt (tOf 6 [x1, x0]) = 1 + (wt x0 + wt x1) := by simp [tOf, wt, wts]; omega
      refine Ev.bind (weight_ev (tOf 8 [x0, x1]) (small_two 8 h0 h1)) (Ev.bind (weight_ev (tOf 6 [x1, x0]) (small_two 6 h1 h0)) ?_)
      rw [e8, e6]
      have w1 : IntKind.i64.wrap (lo (wt x0) + lo (wt x1)) = lo (wt x0) + lo (wt x1) := wrapI _ (by omega) (by omega)
      have w2 : IntKind.i64.wrap (lo (wt x0) + lo (wt x1) + 1) = lo (wt x0) + lo (wt x1) + 1 := wrapI _ (by omega) (by omega)
      have w3 : IntKind.i64.wrap (lo (wt x0) + lo (wt x1) - 1) = lo (wt x0) + lo (wt x1) - 1 := wrapI _ (by omega) (by omega)
      rw [w1, w2, w3]
      refine Ev.pos (by omega) (Ev.pos (by omega) (Ev.pos ?_ (Ev.pos rfl ?_)))
      · generalize hm : lo (1 + (wt x0 + wt x1)) = m
        unfold lo at hm
        split at l0 <;> split at l1 <;> split at hm <;> split <;> omega
      · have hb2 : ∀ x ∈ [x0, x1], Small x := fun x hx => by
          simp at hx
          rcases hx with rfl | rfl
          · exact h0
          · exact h1
        have ha : above 0 [x0, x1] = lo (wt x0) + lo (wt x1) := by
          simp only [above]
          rw [wrapI (0 + lo (wt x0)) (by omega) (by omega), wrapI _ (by omega) (by omega)]
          omega
        refine Ev.bind (above_ev _ [x0, x1] hb2 (by simp [maxLen_eq])) ?_
        rw [ha]
        refine Ev.pos (by simp; omega) ?_
        refine Ev.bind (above_ev _ [x0, x1] hb2 (by simp [maxLen_eq])) ?_
        rw [ha]
        exact Ev.pos (by simp) haw
end Pure
end Go.Proofs.Ytopopkdnjpnafaa.Sh
