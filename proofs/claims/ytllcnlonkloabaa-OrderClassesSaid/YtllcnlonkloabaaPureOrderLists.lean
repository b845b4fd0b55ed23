import Derived.Test.YtllcnlonkloabaaPureLists
import Derived.Test.YtllcnlonkloabaaPureNumE
set_option linter.unusedVariables false
set_option linter.unusedSimpArgs false
namespace Go.Proofs.Ytllcnlonkloabaa.Sh
open Go Lift Go.Proofs
open ListHand (listTm consTm nilTm)
theorem awake_ev : Ev (fun N => beehivelaw5_awake N) true := Ev.from 60 (fun N => by kernel_rfl)
abbrev eT (t : Tapi_Term) : Tapi_Term := ⟨t.fKind, t.fN, ⟨t.fNum.fNeg, t.fNum.fMag⟩, t.fBits, t.fBytes, t.fArgs⟩
theorem eta_T (t : Tapi_Term) : eT t = t := by cases t; rfl
/-! ### A number's term -/
def smN (n : Int) : Int × Bool := smallN (numN n)
def termI (n : Int) : Tapi_Term := if (smN n).2 = true then ⟨1, (smN n).1, ⟨false, []⟩, 0, ByteArray.mk #[], []⟩ else ⟨2, 0, ⟨(numN n).fNeg, (numN n).fMag⟩, 0, ByteArray.mk #[], []⟩
structure I64 (n : Int) : Prop where
  lo : -9223372036854775808 ≤ n
  hi : n ≤ 9223372036854775807
theorem I64.top {n : Int} (h : I64 n) : (n.natAbs : Int) < TOP := by
  have := h.lo; have := h.hi
  unfold TOP; omega
theorem I64.len {n : Int} (h : I64 n) : (numN n).fMag.length ≤ 2 := by
  have a := toL_len (n.natAbs : Int) 2 (by omega)
  rw [Int.toNat_natCast] at a
  have := h.lo; have := h.hi
  exact a.2 (by show (n.natAbs : Int) < 4294967296 ^ 2; omega)
theorem lim_num (n : Int) : lim32 (numN n).fMag := fun x hx => num_limbs n x hx
theorem val2_val : ∀ {l : List Int}, l.length ≤ 2 → val2 l = val l
  | [], _ => rfl
  | [a], _ => by rw [val2, val, val]; omega
  | [a, b], _ => by rw [val2, val, val, val]; omega
  | _ :: _ :: _ :: _, h => by simp at h
theorem smN_is {n : Int} (h : I64 n) (h2 : (smN n).2 = true) : (smN n).1 = n := by
  have hv : val2 (numN n).fMag = (n.natAbs : Int) := by rw [val2_val h.len, num_val]
  have hn : (numN n).fNeg = decide (n < 0) := rfl
  unfold smN smallN at h2 ⊢
  split
  · rename_i hc
    rw [if_pos hc] at h2
    split
    · rename_i hneg
      rw [if_pos hneg] at h2
      rw [hn] at hneg
      simp only [decide_eq_true_eq] at hneg
      split
      · rw [hv]; show -(n.natAbs : Int) = n; omega
      · rename_i hb; rw [if_neg hb] at h2; cases h2
    · rename_i hneg
      rw [if_neg hneg] at h2
      rw [hn] at hneg
      simp only [decide_eq_true_eq] at hneg
      split
      · rw [hv]; show (n.natAbs : Int) = n; omega
      · rename_i hb; rw [if_neg hb] at h2; cases h2
  · rename_i hc; rw [if_neg hc] at h2; cases h2
theorem termI_ev {n : Int} (h : I64 n) : Ev (fun N => term_Int N n) (termI n) := by
  have h1 := Of_ev n h.lo h.hi
  have h2 := may_ev n h.top
  have h3 := small_ev (numN n) (lim_num n)
  have h4 := clone32_ev (numN n).fMag (by rw [lim_eq]; have := h.len; omega)
  unfold termI
  by_cases hs : (smN n).2 = true
  · rw [if_pos hs]
    exact Ev.bind h1 (Ev.bind (a := (⟨1, (smN n).1, ⟨false, []⟩, 0, ByteArray.mk #[], []⟩, true)) (Ev.bind h2 (Ev.neg (by simp) (Ev.bind h3 (Ev.pos hs (Ev.now _))))) (Ev.now _))
  · rw [if_neg hs]
    exact Ev.bind h1 (Ev.bind (a := (⟨2, 0, ⟨(numN n).fNeg, (numN n).fMag⟩, 0, ByteArray.mk #[], []⟩, true)) (Ev.bind h2 (Ev.neg (by simp) (Ev.bind h3 (Ev.neg hs (Ev.bind h4 (Ev.now _)))))) (Ev.now _))
theorem small_I {n : Int} (h : I64 n) : Small (termI n) := by
  have := h.len
  unfold termI
  split
  · exact Small.mk (by simp) (by show 0 ≤ 1000; omega) (by simp) (fun x h => by cases h)
  · exact Small.mk (by show (numN n).fMag.length ≤ 40; omega) (by show 0 ≤ 1000; omega) (by simp) (fun x h => by cases h)
theorem w_I {n : Int} (h : I64 n) : wTapi_Term (termI n) := by
  have hlen := h.len
  unfold termI
  split
  · rename_i hs
    have := smN_is h hs
    refine wTapi_Term.mk (show InR .i64 1 from inI_mk (by decide) (by decide)) (show InR .i64 (smN n).1 from inI_mk (by rw [this]; exact h.lo) (by rw [this]; exact h.hi)) (wTapi_Num.mk trivial ⟨by simp, fun x h => by cases h⟩) (by show (Lit.int .u64 0).wf = true; decide) (by show 0 ≤ maxLen; omega) (by show 0 ≤ maxLen; omega) (fun y h => by cases h)
  · refine wTapi_Term.mk (show InR .i64 2 from inI_mk (by decide) (by decide)) (show InR .i64 0 from inI_mk (by decide) (by decide)) (wTapi_Num.mk trivial ⟨by show (numN n).fMag.length ≤ maxLen; rw [maxLen_eq]; omega, fun x hx => ?_⟩) (by show (Lit.int .u64 0).wf = true; decide) (by show 0 ≤ maxLen; omega) (by show 0 ≤ maxLen; omega) (fun y h => by cases h)
    obtain ⟨h0, h1⟩ := num_limbs n x hx
    show (Lit.int .u32 x).wf = true
    simp [Lit.wf, IntKind.min, IntKind.max, IntKind.bits, IntKind.signed]
    omega
theorem numI_ev {n : Int} (h : I64 n) (hm : mayT (termI n) = true) : Ev (fun N => term_Num N (termI n)) (numN n, true) := by
  have h0 := mayT_ev (termI n) (small_I h) (w_I h)
  rw [hm] at h0
  have h1 := Of_ev n h.lo h.hi
  have h4 := clone32_ev (numN n).fMag (by rw [lim_eq]; have := h.len; omega)
  refine Ev.bind h0 (Ev.neg (by simp) ?_)
  by_cases hs : (smN n).2 = true
  · have e : termI n = ⟨1, n, ⟨false, []⟩, 0, ByteArray.mk #[], []⟩ := by unfold termI; rw [if_pos hs, smN_is h hs]
    rw [e]
    exact Ev.pos rfl (Ev.bind h1 (Ev.now _))
  · have e : termI n = ⟨2, 0, ⟨(numN n).fNeg, (numN n).fMag⟩, 0, ByteArray.mk #[], []⟩ := by unfold termI; rw [if_neg hs]
    rw [e]
    exact Ev.neg (by show ¬ (2 : Int) = 1; decide) (Ev.pos rfl (Ev.bind h4 (Ev.now _)))
theorem kindI (n : Int) : (termI n).fKind = 1 ∨ (termI n).fKind = 2 := by
  unfold termI
  split
  · exact .inl rfl
  · exact .inr rfl
theorem classI_ev (n : Int) : Ev (fun N => order_class N (termI n).fKind) 0 := by
  rcases kindI n with h | h
  · exact Ev.pos h (Ev.now _)
  · exact Ev.neg (by rw [h]; decide) (Ev.pos h (Ev.now _))
theorem compI_ev {n m : Int} (hn : I64 n) (hm : I64 m) (h1 : mayT (termI n) = true) (h2 : mayT (termI m) = true) : Ev (fun N => order_compare N (termI n) (termI m)) (sgn (n - m)) := by
  have hB : Ev (fun N => order_compare_B0 N (termI n) (termI m)) (.inl ()) := by
    refine Ev.step ?_ (fun N => by rw [order_compare_B0])
    rcases kindI n with h | h
    · exact Ev.pos h (Ev.now _)
    · exact Ev.neg (by rw [h]; decide) (Ev.pos h (Ev.now _))
  have hN : Ev (fun N => order_numbers N (termI n) (termI m)) (sgn (n - m)) :=
    Ev.bind (numI_ev hn h1) (Ev.bind (numI_ev hm h2) (Ev.pos rfl (Ev.pos rfl (Ev.bind (cmp_ev n m hn.top hm.top) (Ev.now _)))))
  refine Ev.step ?_ (fun N => by rw [order_compare])
  exact Ev.bind (classI_ev n) (Ev.bind (classI_ev m) (Ev.bind (cmpI_ev 0 0) (Ev.neg (by decide) (Ev.bind hB (Ev.bind hN (Ev.now _))))))
/-! ### Lists of them -/
def listI (l : List Int) : Tapi_Term := listTm (l.map termI)
def cmpL : List Int → List Int → Int
  | [], [] => 0
  | [], _ :: _ => -1
  | _ :: _, [] => 1
  | x :: xs, y :: ys => if sgn (x - y) ≠ 0 then sgn (x - y) else cmpL xs ys
theorem class_ev (k : Int) (h1 : k ≠ 1) (h2 : k ≠ 2) (h3 : k ≠ 3) : Ev (fun N => order_class N k) k := Ev.neg h1 (Ev.neg h2 (Ev.neg h3 (Ev.now _)))
theorem b0_ev (a b : Tapi_Term) (h1 : a.fKind ≠ 1) (h2 : a.fKind ≠ 2) (h3 : a.fKind ≠ 3) : Ev (fun N => order_compare_B0 N a b) (.inr ()) := by
  refine Ev.step ?_ (fun N => by rw [order_compare_B0])
  exact Ev.neg h1 (Ev.neg h2 (Ev.neg h3 (Ev.now _)))
theorem comp_lists : ∀ (xs ys : List Int), (∀ x ∈ xs, I64 x ∧ mayT (termI x) = true) → (∀ y ∈ ys, I64 y ∧ mayT (termI y) = true) → Ev (fun N => order_compare N (listI xs) (listI ys)) (cmpL xs ys)
  | [], [], hx, hy => by
    refine Ev.step ?_ (fun N => by rw [order_compare])
    exact Ev.bind (class_ev 7 (by decide) (by decide) (by decide)) (Ev.bind (class_ev 7 (by decide) (by decide) (by decide)) (Ev.bind (cmpI_ev 7 7) (Ev.neg (by decide) (Ev.bind (b0_ev nilTm nilTm (by decide) (by decide) (by decide)) (Ev.neg (by decide) (Ev.neg (by decide) (Ev.neg (by decide) (Ev.bind (cmpI_ev 0 0) (Ev.now _)))))))))
  | [], y :: ys, hx, hy => by
    refine Ev.step ?_ (fun N => by rw [order_compare])
    exact Ev.bind (class_ev 7 (by decide) (by decide) (by decide)) (Ev.bind (class_ev 8 (by decide) (by decide) (by decide)) (Ev.bind (cmpI_ev 7 8) (Ev.pos (by decide) (Ev.now _))))
  | x :: xs, [], hx, hy => by
    refine Ev.step ?_ (fun N => by rw [order_compare])
    exact Ev.bind (class_ev 8 (by decide) (by decide) (by decide)) (Ev.bind (class_ev 7 (by decide) (by decide) (by decide)) (Ev.bind (cmpI_ev 8 7) (Ev.pos (by decide) (Ev.now _))))
  | x :: xs, y :: ys, hx, hy => by
    have hh := compI_ev (hx x (by simp)).1 (hy y (by simp)).1 (hx x (by simp)).2 (hy y (by simp)).2
    have ih := comp_lists xs ys (fun z hz => hx z (by simp [hz])) (fun z hz => hy z (by simp [hz]))
    have hF : Ev (fun N => slices_CompareFunc_api_Term_api_Term_api_Term_api_Term N [termI x, listI xs] [termI y, listI ys]) (cmpL (x :: xs) (y :: ys)) := by
      rw [cmpL]
      refine Ev.step ?_ (fun N => by rw [slices_CompareFunc_api_Term_api_Term_api_Term_api_Term])
      by_cases h0 : sgn (x - y) ≠ 0
      · rw [if_pos h0]
        refine Ev.bind (a := (Sum.inr (sgn (x - y)) : Unit ⊕ Int)) ?_ (Ev.now _)
        refine Ev.step ?_ (fun N => by rw [slices_CompareFunc_api_Term_api_Term_api_Term_api_Term_L0])
        exact Ev.pos (by simp) (Ev.bindc (a := termI x) rfl (Ev.neg (by simp) (Ev.bindc (a := termI y) rfl (Ev.bind hh (Ev.pos h0 (Ev.now _))))))
      · rw [if_neg h0]
        by_cases h1 : cmpL xs ys ≠ 0
        · refine Ev.bind (a := (Sum.inr (cmpL xs ys) : Unit ⊕ Int)) ?_ (Ev.now _)
          refine Ev.step ?_ (fun N => by rw [slices_CompareFunc_api_Term_api_Term_api_Term_api_Term_L0])
          refine Ev.pos (by simp) (Ev.bindc (a := termI x) rfl (Ev.neg (by simp) (Ev.bindc (a := termI y) rfl (Ev.bind hh (Ev.neg h0 ?_)))))
          rw [show IntKind.i64.wrap ((0 : Int) + 1) = 1 from by decide]
          refine Ev.step ?_ (fun N => by rw [slices_CompareFunc_api_Term_api_Term_api_Term_api_Term_L0])
          exact Ev.pos (by simp) (Ev.bindc (a := listI xs) rfl (Ev.neg (by simp) (Ev.bindc (a := listI ys) rfl (Ev.bind ih (Ev.pos h1 (Ev.now _))))))
        · have h1' : cmpL xs ys = 0 := by omega
          rw [h1'] at ih ⊢
          refine Ev.bind (a := (Sum.inl () : Unit ⊕ Int)) ?_ (Ev.neg (by simp) (Ev.now _))
          refine Ev.step ?_ (fun N => by rw [slices_CompareFunc_api_Term_api_Term_api_Term_api_Term_L0])
          refine Ev.pos (by simp) (Ev.bindc (a := termI x) rfl (Ev.neg (by simp) (Ev.bindc (a := termI y) rfl (Ev.bind hh (Ev.neg h0 ?_)))))
          rw [show IntKind.i64.wrap ((0 : Int) + 1) = 1 from by decide]
          refine Ev.step ?_ (fun N => by rw [slices_CompareFunc_api_Term_api_Term_api_Term_api_Term_L0])
          refine Ev.pos (by simp) (Ev.bindc (a := listI xs) rfl (Ev.neg (by simp) (Ev.bindc (a := listI ys) rfl (Ev.bind ih (Ev.neg (by simp) ?_)))))
          rw [show IntKind.i64.wrap ((1 : Int) + 1) = 2 from by decide]
          refine Ev.step ?_ (fun N => by rw [slices_CompareFunc_api_Term_api_Term_api_Term_api_Term_L0])
          exact Ev.neg (by simp) (Ev.now _)
    refine Ev.step ?_ (fun N => by rw [order_compare])
    have hb := b0_ev (listI (x :: xs)) (listI (y :: ys)) (by show (8 : Int) ≠ 1; decide) (by show (8 : Int) ≠ 2; decide) (by show (8 : Int) ≠ 3; decide)
    refine Ev.bind (class_ev 8 (by decide) (by decide) (by decide)) (Ev.bind (class_ev 8 (by decide) (by decide) (by decide)) (Ev.bind (cmpI_ev 8 8) (Ev.neg (by decide) (Ev.bind hb ?_))))
    exact Ev.neg (by show ¬ (8 : Int) = 6; decide) (Ev.pos rfl (Ev.bind hF (Ev.now _)))
theorem sgn_turn (x y : Int) : sgn (y - x) = -sgn (x - y) := by
  unfold sgn
  rcases Int.lt_trichotomy x y with h | h | h
  · rw [if_neg (by omega), if_neg (by omega), if_pos (by omega)]; rfl
  · rw [if_neg (by omega), if_pos (by omega), if_neg (by omega), if_pos (by omega)]; rfl
  · rw [if_pos (by omega), if_neg (by omega), if_neg (by omega)]
theorem cmpL_turn : ∀ xs ys : List Int, cmpL ys xs = -cmpL xs ys
  | [], [] => rfl
  | [], _ :: _ => rfl
  | _ :: _, [] => rfl
  | x :: xs, y :: ys => by
    have h : sgn (y - x) = -sgn (x - y) := sgn_turn x y
    rw [cmpL, cmpL, h, cmpL_turn xs ys]
    by_cases h0 : sgn (x - y) = 0
    · rw [if_neg (by omega), if_neg (by omega)]
    · rw [if_pos (by omega), if_pos h0]
theorem sgn_bnd (x : Int) : -1 ≤ sgn x ∧ sgn x ≤ 1 := by unfold sgn; split <;> (try split) <;> omega
theorem cmpL_bnd : ∀ xs ys : List Int, -1 ≤ cmpL xs ys ∧ cmpL xs ys ≤ 1
  | [], [] => by rw [cmpL]; omega
  | [], _ :: _ => by rw [cmpL]; omega
  | _ :: _, [] => by rw [cmpL]; omega
  | x :: xs, y :: ys => by
    rw [cmpL]
    split
    · exact sgn_bnd _
    · exact cmpL_bnd xs ys
/-! ### The law's own loops -/
section
variable (p0 p1 : List Int) (r14 r19 : Int × Int × Bool × List Int × Int × ByteArray × List Tapi_Term)
end
theorem may_of_list {l : List Int} (h : mayT (listI l) = true) : ∀ x ∈ l, mayT (termI x) = true := by
  unfold listI at h
  rw [may_list] at h
  by_cases ha : (l.map termI).all mayT = true
  · intro x hx
    exact List.all_eq_true.1 ha _ (List.mem_map_of_mem hx)
  · rw [if_neg ha] at h; cases h
theorem listI_small {l : List Int} (h : ∀ x ∈ l, I64 x) : Small (listI l) := small_list fun y hy => by
  obtain ⟨x, hx, rfl⟩ := List.mem_map.1 hy
  exact small_I (h x hx)
theorem listI_w {l : List Int} (h : ∀ x ∈ l, I64 x) : wTapi_Term (listI l) := w_list fun y hy => by
  obtain ⟨x, hx, rfl⟩ := List.mem_map.1 hy
  exact w_I (h x hx)
namespace Pure
end Pure
end Go.Proofs.Ytllcnlonkloabaa.Sh
