import Derived.Test.YtllcnlonkloabaaPureTermMay
set_option linter.unusedVariables false
set_option linter.unusedSimpArgs false
namespace Go.Proofs.Ytllcnlonkloabaa.Sh
open Go Lift Go.Proofs
open ListHand (listTm consTm nilTm)
theorem small_nil : Small nilTm := Small.mk (by simp [nilTm]) (by show 0 ≤ 1000; omega) (by simp [nilTm]) (fun x h => by cases h)
theorem small_cons {a b : Tapi_Term} (ha : Small a) (hb : Small b) : Small (consTm a b) := by
  refine Small.mk (by simp [consTm]) (by show 0 ≤ 1000; omega) ?_ (fun x h => ?_)
  · show 2 ≤ maxLen
    rw [maxLen_eq]; omega
  · simp only [consTm, List.mem_cons, List.not_mem_nil, or_false] at h
    rcases h with rfl | rfl
    · exact ha
    · exact hb
theorem small_list : ∀ {ts : List Tapi_Term}, (∀ x ∈ ts, Small x) → Small (listTm ts)
  | [], _ => small_nil
  | x :: xs, h => small_cons (h x (by simp)) (small_list fun y hy => h y (by simp [hy]))
theorem w_nil : wTapi_Term nilTm := by
  refine wTapi_Term.mk ?_ ?_ ?_ ?_ ?_ ?_ ?_
  · exact inI_mk (by decide) (by decide)
  · exact inI_mk (by decide) (by decide)
  · exact wTapi_Num.mk trivial ⟨by simp [nilTm], fun x h => by cases h⟩
  · show (Lit.int .u64 0).wf = true; decide
  · show 0 ≤ maxLen; omega
  · show 0 ≤ maxLen; omega
  · intro y h; cases h
theorem w_cons {a b : Tapi_Term} (ha : wTapi_Term a) (hb : wTapi_Term b) : wTapi_Term (consTm a b) := by
  refine wTapi_Term.mk ?_ ?_ ?_ ?_ ?_ ?_ ?_
  · show InR .i64 8; exact inI_mk (by decide) (by decide)
  · show InR .i64 0; exact inI_mk (by decide) (by decide)
  · exact wTapi_Num.mk trivial ⟨by simp [consTm], fun x h => by cases h⟩
  · show (Lit.int .u64 0).wf = true; decide
  · show 0 ≤ maxLen; omega
  · show 2 ≤ maxLen; rw [maxLen_eq]; omega
  · intro x h
    simp only [consTm, List.mem_cons, List.not_mem_nil, or_false] at h
    rcases h with rfl | rfl
    · exact ha
    · exact hb
theorem w_list : ∀ {ts : List Tapi_Term}, (∀ x ∈ ts, wTapi_Term x) → wTapi_Term (listTm ts)
  | [], _ => w_nil
  | x :: xs, h => w_cons (h x (by simp)) (w_list fun y hy => h y (by simp [hy]))
def sumW : List Tapi_Term → Int
  | [] => 0
  | x :: xs => 1 + wt x + sumW xs
def sumL : List Tapi_Term → Int
  | [] => 0
  | x :: xs => 1 + lo (wt x) + sumL xs
theorem wt_list : ∀ ts : List Tapi_Term, wt (listTm ts) = 1 + sumW ts
  | [] => by rw [listTm, nilTm, wt, sumW]; simp
  | x :: xs => by
    rw [listTm, consTm, wt, wts, wts, wts, wt_list xs, sumW]
    simp
    omega
theorem right_list : ∀ ts : List Tapi_Term, rightT (listTm ts) = rightsT ts
  | [] => by rw [listTm, nilTm, rightT, rightsT]; decide
  | x :: xs => by
    have h1 : okT (consTm x (listTm xs)) = true := by unfold okT; simp [consTm]
    have h2 : bareT (consTm x (listTm xs)) = true := by unfold bareT; simp [consTm, zN, zNum, zB, zS]
    rw [listTm, rightT_eq, h1, h2, Bool.true_and, Bool.true_and, rightsT]
    show rightsT [x, listTm xs] = _
    rw [rightsT, rightsT, rightsT, right_list xs, Bool.and_true]
theorem sumW_nonneg : ∀ ts : List Tapi_Term, 0 ≤ sumW ts
  | [] => by simp [sumW]
  | x :: xs => by have := sumW_nonneg xs; have := wt_pos x; rw [sumW]; omega
theorem lo_le (m : Int) : lo m ≤ 301 := by unfold lo; split <;> omega
theorem sumL_bnd : ∀ ts : List Tapi_Term, 0 ≤ sumL ts ∧ sumL ts ≤ 302 * (ts.length : Int)
  | [] => by simp [sumL]
  | x :: xs => by
    have h1 := sumL_bnd xs
    have h2 := lo_le (wt x)
    have h3 : 0 ≤ lo (wt x) := by have := wt_pos x; unfold lo; split <;> omega
    rw [sumL, List.length_cons]
    omega
theorem sum_same : ∀ ts : List Tapi_Term, (∀ x ∈ ts, wt x ≤ 300) → sumL ts = sumW ts
  | [], _ => rfl
  | x :: xs, h => by
    have h1 := h x (by simp)
    rw [sumL, sumW, sum_same xs fun y hy => h y (by simp [hy])]
    unfold lo
    rw [if_neg (by omega)]
theorem sum_great : ∀ ts : List Tapi_Term, (∃ x ∈ ts, 300 < wt x) → 300 < sumW ts
  | [], ⟨x, h, _⟩ => by cases h
  | x :: xs, ⟨y, hy, hw⟩ => by
    have h1 := wt_pos x
    have h2 := sumW_nonneg xs
    rw [sumW]
    rcases List.mem_cons.1 hy with rfl | hy
    · omega
    · have := sum_great xs ⟨y, hy, hw⟩; omega
theorem mayT_iff (t : Tapi_Term) : mayT t = (decide (wt t ≤ 300) && rightT t) := by
  unfold mayT
  congr 1
  unfold lo
  split
  · rw [decide_eq_false (by omega), decide_eq_false (by omega)]
  · rfl
theorem rights_all : ∀ ts : List Tapi_Term, rightsT ts = ts.all rightT
  | [] => rfl
  | x :: xs => by rw [rightsT, rights_all xs, List.all_cons]
theorem may_list (ts : List Tapi_Term) : mayT (listTm ts) = if ts.all mayT = true then decide (1 + sumL ts ≤ 300) else false := by
  rw [mayT_iff, wt_list, right_list, rights_all]
  by_cases h : ts.all mayT = true
  · rw [if_pos h]
    have h1 : ∀ x ∈ ts, mayT x = true := List.all_eq_true.1 h
    have h2 : ∀ x ∈ ts, wt x ≤ 300 ∧ rightT x = true := fun x hx => by
      have := h1 x hx
      rw [mayT_iff, Bool.and_eq_true, decide_eq_true_eq] at this
      exact this
    rw [sum_same ts fun x hx => (h2 x hx).1, List.all_eq_true.2 fun x hx => (h2 x hx).2, Bool.and_true]
  · rw [if_neg h]
    by_cases hr : ts.all rightT = true
    · have : ∃ x ∈ ts, 300 < wt x := by
        apply Classical.byContradiction
        intro hn
        refine h (List.all_eq_true.2 fun x hx => ?_)
        rw [mayT_iff, List.all_eq_true.1 hr x hx, Bool.and_true, decide_eq_true_eq]
        rcases Int.lt_or_le 300 (wt x) with h | h
        · exact absurd ⟨x, hx, h⟩ hn
        · exact h
      have := sum_great ts this
      rw [decide_eq_false (by omega), Bool.false_and]
    · rw [Bool.not_eq_true] at hr
      rw [hr, Bool.and_false]
end Go.Proofs.Ytllcnlonkloabaa.Sh
