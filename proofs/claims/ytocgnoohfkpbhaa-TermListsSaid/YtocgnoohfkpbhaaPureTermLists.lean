import Derived.Test.YtocgnoohfkpbhaaPureTermMay
import Derived.Test.YtocgnoohfkpbhaaPureGreats
import Derived.Test.YtocgnoohfkpbhaaPureSame
set_option linter.unusedVariables false
set_option linter.unusedSimpArgs false
namespace Go.Proofs.Ytocgnoohfkpbhaa.Sh
open Go Lift Go.Proofs
open ListHand (listTm consTm nilTm)
theorem awake_ev : Ev (fun N => beehivelaw4_awake N) true := Ev.from 40 (fun N => by kernel_rfl)
theorem small_nil : Small nilTm := Small.mk (by simp [nilTm]) (by show 0 ≤ 1000; omega) (by simp [nilTm]) (fun x h => by cases h)
theorem small_cons {a b : Tapi_Term} (ha : Small a) (hb : Small b) : Small (consTm a b) := by
  refine Small.mk (by simp [consTm]) (by show 0 ≤ 1000; omega) ?_ (fun x h => ?_)
  · show 2 ≤ maxLen
    rw [maxLen_eq]; omega
  · simp only [consTm, List.mem_cons, List.not_mem_nil, or_false] at h
    rcases h with rfl | rfl
    · exact ha
    · exact hb
theorem small_list : ∀ {ts : List Tapi_Term}, (∀ x ∈ ts, Small x) → Small (listTm ts)
  | [], _ => small_nil
  | x :: xs, h => small_cons (h x (by simp)) (small_list fun y hy => h y (by simp [hy]))
theorem w_nil : wTapi_Term nilTm := by
  refine wTapi_Term.mk ?_ ?_ ?_ ?_ ?_ ?_ ?_
  · exact inI_mk (by decide) (by decide)
  · exact inI_mk (by decide) (by decide)
  · exact wTapi_Num.mk trivial ⟨by simp [nilTm], fun x h => by cases h⟩
  · show (Lit.int .u64 0).wf = true; decide
  · show 0 ≤ maxLen; omega
  · show 0 ≤ maxLen; omega
  · intro y h; cases h
theorem w_cons {a b : Tapi_Term} (ha : wTapi_Term a) (hb : wTapi_Term b) : wTapi_Term (consTm a b) := by
  refine wTapi_Term.mk ?_ ?_ ?_ ?_ ?_ ?_ ?_
  · show InR .i64 8; exact inI_mk (by decide) (by decide)
  · show InR .i64 0; exact inI_mk (by decide) (by decide)
  · exact wTapi_Num.mk trivial ⟨by simp [consTm], fun x h => by cases h⟩
  · show (Lit.int .u64 0).wf = true; decide
  · show 0 ≤ maxLen; omega
  · show 2 ≤ maxLen; rw [maxLen_eq]; omega
  · intro x h
    simp only [consTm, List.mem_cons, List.not_mem_nil, or_false] at h
    rcases h with rfl | rfl
    · exact ha
    · exact hb
theorem w_list : ∀ {ts : List Tapi_Term}, (∀ x ∈ ts, wTapi_Term x) → wTapi_Term (listTm ts)
  | [], _ => w_nil
  | x :: xs, h => w_cons (h x (by simp)) (w_list fun y hy => h y (by simp [hy]))
def sumW : List Tapi_Term → Int
  | [] => 0
  | x :: xs => 1 + wt x + sumW xs
def sumL : List Tapi_Term → Int
  | [] => 0
  | x :: xs => 1 + lo (wt x) + sumL xs
theorem wt_list : ∀ ts : List Tapi_Term, wt (listTm ts) = 1 + sumW ts
  | [] => by rw [listTm, nilTm, wt, sumW]; simp
  | x :: xs => by
    rw [listTm, consTm, wt, wts, wts, wts, wt_list xs, sumW]
    simp
    omega
theorem right_list : ∀ ts : List Tapi_Term, rightT (listTm ts) = rightsT ts
  | [] => by rw [listTm, nilTm, rightT, rightsT]; decide
  | x :: xs => by
    have h1 : okT (consTm x (listTm xs)) = true := by unfold okT; simp [consTm]
    have h2 : bareT (consTm x (listTm xs)) = true := by unfold bareT; simp [consTm, zN, zNum, zB, zS]
    rw [listTm, rightT_eq, h1, h2, Bool.true_and, Bool.true_and, rightsT]
    show rightsT [x, listTm xs] = _
    rw [rightsT, rightsT, rightsT, right_list xs, Bool.and_true]
theorem sumW_nonneg : ∀ ts : List Tapi_Term, 0 ≤ sumW ts
  | [] => by simp [sumW]
  | x :: xs => by have := sumW_nonneg xs; have := wt_pos x; rw [sumW]; omega
theorem lo_le (m : Int) : lo m ≤ 301 := by unfold lo; split <;> omega
theorem sumL_bnd : ∀ ts : List Tapi_Term, 0 ≤ sumL ts ∧ sumL ts ≤ 302 * (ts.length : Int)
  | [] => by simp [sumL]
  | x :: xs => by
    have h1 := sumL_bnd xs
    have h2 := lo_le (wt x)
    have h3 : 0 ≤ lo (wt x) := by have := wt_pos x; unfold lo; split <;> omega
    rw [sumL, List.length_cons]
    omega
theorem sum_same : ∀ ts : List Tapi_Term, (∀ x ∈ ts, wt x ≤ 300) → sumL ts = sumW ts
  | [], _ => rfl
  | x :: xs, h => by
    have h1 := h x (by simp)
    rw [sumL, sumW, sum_same xs fun y hy => h y (by simp [hy])]
    unfold lo
    rw [if_neg (by omega)]
theorem sum_great : ∀ ts : List Tapi_Term, (∃ x ∈ ts, 300 < wt x) → 300 < sumW ts
  | [], ⟨x, h, _⟩ => by cases h
  | x :: xs, ⟨y, hy, hw⟩ => by
    have h1 := wt_pos x
    have h2 := sumW_nonneg xs
    rw [sumW]
    rcases List.mem_cons.1 hy with rfl | hy
    · omega
    · have := sum_great xs ⟨y, hy, hw⟩; omega
theorem mayT_iff (t : Tapi_Term) : mayT t = (decide (wt t ≤ 300) && rightT t) := by
  unfold mayT
  congr 1
  unfold lo
  split
  · rw [decide_eq_false (by omega), decide_eq_false (by omega)]
  · rfl
theorem rights_all : ∀ ts : List Tapi_Term, rightsT ts = ts.all rightT
  | [] => rfl
  | x :: xs => by rw [rightsT, rights_all xs, List.all_cons]
theorem may_list (ts : List Tapi_Term) : mayT (listTm ts) = if ts.all mayT = true then decide (1 + sumL ts ≤ 300) else false := by
  rw [mayT_iff, wt_list, right_list, rights_all]
  by_cases h : ts.all mayT = true
  · rw [if_pos h]
    have h1 : ∀ x ∈ ts, mayT x = true := List.all_eq_true.1 h
    have h2 : ∀ x ∈ ts, wt x ≤ 300 ∧ rightT x = true := fun x hx => by
      have := h1 x hx
      rw [mayT_iff, Bool.and_eq_true, decide_eq_true_eq] at this
      exact this
    rw [sum_same ts fun x hx => (h2 x hx).1, List.all_eq_true.2 fun x hx => (h2 x hx).2, Bool.and_true]
  · rw [if_neg h]
    by_cases hr : ts.all rightT = true
    · have : ∃ x ∈ ts, 300 < wt x := by
        apply Classical.byContradiction
        intro hn
        refine h (List.all_eq_true.2 fun x hx => ?_)
        rw [mayT_iff, List.all_eq_true.1 hr x hx, Bool.and_true, decide_eq_true_eq]
        rcases Int.lt_or_le 300 (wt x) with h | h
        · exact absurd ⟨x, hx, h⟩ hn
        · exact h
      have := sum_great ts this
      rw [decide_eq_false (by omega), Bool.false_and]
    · rw [Bool.not_eq_true] at hr
      rw [hr, Bool.and_false]
theorem lists_sum (l : List Tapi_Term) (r4 : Tapi_Term) (hl : l.length ≤ 1000) : ∀ (ts : List Tapi_Term), (∀ x ∈ ts, Small x) → (∀ x ∈ ts, wTapi_Term x) → ∀ (i : Nat) (v : Int) (g : Bool), l.drop i = ts → 0 ≤ v → v ≤ 1000 * ((i : Int) + 1) →
    Ev (fun N => beehivelaw4_TermLists_L0 N l r4 v g (i : Nat)) (v + sumL ts, g && ts.all mayT)
  | [], hs, hw, i, v, g, hd, h0, h1 => by
    have := drop_end hd
    refine Ev.step ?_ (fun N => by rw [beehivelaw4_TermLists_L0])
    rw [sumL, Int.add_zero, List.all_nil, Bool.and_true]
    exact Ev.neg (by omega) (Ev.now _)
  | x :: xs, hs, hw, i, v, g, hd, h0, h1 => by
    have hlen := drop_len hd
    have b1 := lo_le (wt x)
    have b2 : 0 ≤ lo (wt x) := by have := wt_pos x; unfold lo; split <;> omega
    have e : IntKind.i64.wrap (IntKind.i64.wrap (v + 1) + lo (wt x)) = v + (1 + lo (wt x)) := by
      rw [wrapI (v + 1) (by omega) (by omega), wrapI _ (by omega) (by omega)]; omega
    have hwt := weight_ev x (hs x (by simp))
    have hm := mayT_ev x (hs x (by simp)) (hw x (by simp))
    have ih := fun g => lists_sum l r4 hl xs (fun y hy => hs y (by simp [hy])) (fun y hy => hw y (by simp [hy])) (i + 1) (v + (1 + lo (wt x))) g (drop_next hd) (by omega) (by omega)
    rw [sumL, List.all_cons, show v + (1 + lo (wt x) + sumL xs) = v + (1 + lo (wt x)) + sumL xs by omega]
    refine Ev.step ?_ (fun N => by rw [beehivelaw4_TermLists_L0, wrap_succ (by omega)])
    refine Ev.pos (by omega) (Ev.bindc (idx_at hd) (Ev.bind hwt ?_))
    show Ev (fun N => if g = true then (term_May N x).bind fun r10 => beehivelaw4_TermLists_L0 N l r4 (IntKind.i64.wrap (IntKind.i64.wrap (v + 1) + lo (wt x))) r10 ((i + 1 : Nat) : Int) else beehivelaw4_TermLists_L0 N l r4 (IntKind.i64.wrap (IntKind.i64.wrap (v + 1) + lo (wt x))) false ((i + 1 : Nat) : Int)) _
    rw [e]
    cases g with
    | true =>
      have := ih (mayT x)
      rw [Bool.true_and]
      exact Ev.pos rfl (Ev.bind hm this)
    | false =>
      have := ih false
      rw [Bool.false_and] at this ⊢
      exact Ev.neg (by simp) this
theorem lists_walk (l : List Tapi_Term) (hl : l.length ≤ 1000) : ∀ (ts : List Tapi_Term), (∀ x ∈ ts, Small x) → (∀ x ∈ ts, cnt x ≤ 1000) → ∀ (i : Nat), l.drop i = ts →
    Ev (fun N => beehivelaw4_TermLists_L1 N l (listTm ts).fKind (listTm ts).fN (listTm ts).fNum.fNeg (listTm ts).fNum.fMag (listTm ts).fBits (listTm ts).fBytes (listTm ts).fArgs (i : Nat)) (.inl (7, 0, false, [], 0, ByteArray.mk #[], []))
  | [], hs, hc, i, hd => by
    have := drop_end hd
    refine Ev.step ?_ (fun N => by rw [beehivelaw4_TermLists_L1])
    exact Ev.neg (by omega) (Ev.now _)
  | x :: xs, hs, hc, i, hd => by
    have hlen := drop_len hd
    have ih := lists_walk l hl xs (fun y hy => hs y (by simp [hy])) (fun y hy => hc y (by simp [hy])) (i + 1) (drop_next hd)
    have hx := sameTerm_self x (hs x (by simp)) (by have := hc x (by simp); omega)
    refine Ev.step ?_ (fun N => by rw [beehivelaw4_TermLists_L1, wrap_succ (by omega)])
    exact Ev.pos (by omega) (Ev.neg (by simp [listTm, consTm]) (Ev.neg (by simp [listTm, consTm]) (Ev.bindc (a := x) rfl (Ev.bindc (idx_at hd) (Ev.bind hx (Ev.neg (by simp) (Ev.bindc (a := listTm xs) rfl ih)))))))
theorem cnt_mem' : ∀ {ts : List Tapi_Term} {x : Tapi_Term}, x ∈ ts → cnt x ≤ cnts ts
  | y :: ys, x, h => by
    rw [cnts]
    rcases List.mem_cons.1 h with rfl | h
    · omega
    · have := cnt_mem' h; omega
namespace Pure
theorem TermLists (x0 : (List Tapi_Term)) (w0 : (ListR wTapi_Term) x0) : ∃ N, beehivelaw4_TermLists N x0 = some true := by
  refine Ev.ex (f := fun N => beehivelaw4_TermLists N x0) ?_
  have haw : Ev (fun N => (beehivelaw4_awake N).bind fun r3 => some r3) true := Ev.bind awake_ev (Ev.now _)
  obtain ⟨b, hb, hf⟩ := greats_ev x0 w0 300 (by decide) (by decide)
  refine Ev.bind hb ?_
  cases b with
  | true => exact Ev.pos rfl haw
  | false =>
    obtain ⟨hs, hc⟩ := hf rfl
    have hlen := cnts_len x0
    have hcx : ∀ x ∈ x0, cnt x ≤ 1000 := fun x hx => by have := cnt_mem' hx; omega
    have hL : Ev (fun N => term_List N x0) (listTm x0) := Ev.pos (by omega) (Ev.now _)
    have h0 := lists_sum x0 (listTm x0) (by omega) x0 hs w0.all 0 1 true rfl (by decide) (by decide)
    have hm := mayT_ev (listTm x0) (small_list hs) (w_list w0.all)
    have hk := lists_walk x0 (by omega) x0 hs hcx 0 rfl
    have hn := sameTerm_self nilTm small_nil (by rw [nilTm, cnt, cnts]; omega)
    rw [Bool.true_and] at h0
    refine Ev.neg (by simp) (Ev.bind hL (Ev.bind h0 (Ev.bind hm ?_)))
    rw [may_list]
    by_cases h : x0.all mayT = true
    · rw [if_pos h]
      refine Ev.pos h (Ev.neg (by simp) (Ev.bind hk (Ev.bind hn (Ev.pos rfl haw))))
    · rw [if_neg h]
      refine Ev.neg h (Ev.neg (by simp) (Ev.bind hk (Ev.bind hn (Ev.pos rfl haw))))
end Pure
end Go.Proofs.Ytocgnoohfkpbhaa.Sh
