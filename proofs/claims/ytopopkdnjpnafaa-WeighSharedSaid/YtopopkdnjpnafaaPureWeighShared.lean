import Derived.Test.YtopopkdnjpnafaaPureAwake3
set_option linter.unusedVariables false
namespace Go.Proofs.Ytopopkdnjpnafaa.Sh
open Go Lift Go.Proofs
theorem low_ev (x m : Int) (h0 : 0 < m) (h1 : m < 9223372036854775808) : ∃ r, Ev (fun N => beehivelaw0_Low N x m) r ∧ 0 ≤ r ∧ r < m := by
  have e : IntKind.u64.wrap m = m := wrapU m (by omega) (by omega)
  have hx : 0 ≤ IntKind.u64.wrap x := by rw [wrapU_eq]; omega
  have a := Int.emod_nonneg (IntKind.u64.wrap x) (show m ≠ 0 by omega)
  have b := Int.emod_lt_of_pos (IntKind.u64.wrap x) h0
  refine ⟨IntKind.u64.wrap x % m, ?_, a, b⟩
  have hr : rem (IntKind.u64.wrap x) (IntKind.u64.wrap m) = some (IntKind.u64.wrap x % m) := by
    unfold rem
    rw [e, if_neg (by omega), Int.tmod_eq_emod_of_nonneg hx]
  refine Ev.bindc hr ?_
  rw [wrapI _ (by omega) (by omega)]
  exact Ev.now _
theorem shared_loop (r : Int) (h1 : r ≤ 1000) : ∀ (n : Nat) (i : Int), 0 ≤ i → (r - i).toNat = n → ∀ (a : List Tapi_Term) (k v : Int), Small (tOf k a) → lo (wt (tOf k a)) = v →
    ∃ a' k' v', Ev (fun N => beehivelaw3_WeighShared_L0 N r a k v i) (a', k', v') ∧ Small (tOf k' a') ∧ lo (wt (tOf k' a')) = v'
  | 0, i, hi, hn, a, k, v, hs, hl => by
    refine ⟨a, k, v, ?_, hs, hl⟩
    refine Ev.step ?_ (fun N => by rw [beehivelaw3_WeighShared_L0])
    exact Ev.neg (by omega) (Ev.now _)
  | n + 1, i, hi, hn, a, k, v, hs, hl => by
    have hp := wt_pos (tOf k a)
    have hl0 : lo (wt (tOf k a)) = if 301 < wt (tOf k a) then 301 else wt (tOf k a) := rfl
    have hv : 1 ≤ v ∧ v ≤ 301 := by split at hl0 <;> omega
    have e1 : IntKind.i64.wrap (2 * v) = 2 * v := wrapI _ (by omega) (by omega)
    have e2 : IntKind.i64.wrap (2 * v + 1) = 2 * v + 1 := wrapI _ (by omega) (by omega)
    have e3 : IntKind.i64.wrap (i + 1) = i + 1 := wrapI _ (by omega) (by omega)
    have e8 : wt (tOf 8 [tOf k a, tOf k a]) = 1 + (wt (tOf k a) + wt (tOf k a)) := by simp [tOf, wt, wts]
    obtain ⟨a', k', v', he, hs', hl'⟩ := shared_loop r h1 n (i + 1) (by omega) (by omega) [tOf k a, tOf k a] 8 (if (301 : Int) < 2 * v + 1 then (301 : Int) else 2 * v + 1) (small_two 8 hs hs) (by
      rw [e8]
      generalize hm : lo (1 + (wt (tOf k a) + wt (tOf k a))) = m
      unfold lo at hm
      split at hl0 <;> split at hm <;> split <;> omega)
    refine ⟨a', k', v', ?_, hs', hl'⟩
    refine Ev.step ?_ (fun N => by rw [beehivelaw3_WeighShared_L0])
    refine Ev.pos (by omega) ?_
    rw [e1, e2, e3]
    exact he
namespace Pure
theorem WeighShared (x0 : Int) (w0 : (InR .i64) x0) : ∃ N, beehivelaw3_WeighShared N x0 = some true := by
  refine Ev.ex (f := fun N => beehivelaw3_WeighShared N x0) ?_
  obtain ⟨r, hr, r0, r1⟩ := low_ev x0 1000 (by omega) (by omega)
  refine Ev.bind hr ?_
  obtain ⟨a, k, v, he, hs, hl⟩ := shared_loop r (by omega) (r - 0).toNat 0 (by omega) rfl [] 7 1 (small_nil 7) (by simp [tOf, wt, lo])
  refine Ev.bind he ?_
  refine Ev.bind (weight_ev (tOf k a) hs) ?_
  exact Ev.pos hl (Ev.bind awake_ev (Ev.now _))
end Pure
end Go.Proofs.Ytopopkdnjpnafaa.Sh
