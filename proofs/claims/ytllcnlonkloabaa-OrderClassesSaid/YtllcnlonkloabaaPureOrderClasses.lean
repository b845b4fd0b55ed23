import Derived.Test.YtllcnlonkloabaaPureOrderLists
import Derived.Test.YtllcnlonkloabaaLift3
set_option linter.unusedVariables false
set_option linter.unusedSimpArgs false
namespace Go.Proofs.Ytllcnlonkloabaa.Sh
open Go Lift Go.Proofs
open ListHand (listTm consTm nilTm)
theorem low5 (x n : Int) (h0 : 0 < n) (h1 : n < 9223372036854775808) : ∃ r, Ev (fun N => beehivelaw0_Low N x n) r ∧ 0 ≤ r ∧ r < n := by
  have hu := wrapU_eq x
  have e1 : IntKind.u64.wrap n = n := wrapU n (by omega) (by omega)
  have hp : 0 ≤ IntKind.u64.wrap x := by omega
  have e2 : (IntKind.u64.wrap x).tmod n = IntKind.u64.wrap x % n := Int.tmod_eq_emod_of_nonneg hp
  have b0 := Int.emod_nonneg (IntKind.u64.wrap x) (show n ≠ 0 by omega)
  have b1 := Int.emod_lt_of_pos (IntKind.u64.wrap x) h0
  refine ⟨IntKind.u64.wrap x % n, ?_, b0, b1⟩
  refine Ev.bindc (a := IntKind.u64.wrap x % n) (by rw [e1, rem_eq (by omega), e2]) ?_
  have e3 : IntKind.i64.wrap (IntKind.u64.wrap x % n) = IntKind.u64.wrap x % n := wrapI _ (by omega) (by omega)
  show Ev (fun _ => some (IntKind.i64.wrap (IntKind.u64.wrap x % n))) _
  rw [e3]
  exact Ev.now _
theorem smN_range {n : Int} (h : I64 n) (h2 : (smN n).2 = true) : -1152921504606846976 ≤ n ∧ n ≤ 1152921504606846975 := by
  have hv : val2 (numN n).fMag = (n.natAbs : Int) := by rw [val2_val h.len, num_val]
  have hn : (numN n).fNeg = decide (n < 0) := rfl
  unfold smN smallN at h2
  split at h2
  · split at h2
    · rename_i hneg
      rw [hn] at hneg
      simp only [decide_eq_true_eq] at hneg
      split at h2
      · rename_i hb; rw [hv] at hb; omega
      · cases h2
    · rename_i hneg
      rw [hn] at hneg
      simp only [decide_eq_true_eq] at hneg
      split at h2
      · rename_i hb; rw [hv] at hb; omega
      · cases h2
  · cases h2
theorem wt_I {n : Int} (h : I64 n) : wt (termI n) ≤ 3 := by
  have := h.len
  unfold termI
  split
  · rw [wt]; simp
  · rw [wt]; simp; omega
theorem may_I {n : Int} (h : I64 n) : mayT (termI n) = true := by
  have hw := wt_I h
  have hmay : mayN (numN n) = true := Ev.det (nmay_ev (numN n)) (may_ev n h.top)
  rw [mayT_iff, decide_eq_true (by omega), Bool.true_and, rightT_eq]
  by_cases hs : (smN n).2 = true
  · have e : termI n = ⟨1, n, ⟨false, []⟩, 0, ByteArray.mk #[], []⟩ := by unfold termI; rw [if_pos hs, smN_is h hs]
    have hr := smN_range h hs
    rw [e]
    have h1 : okT (⟨1, n, ⟨false, []⟩, 0, ByteArray.mk #[], []⟩ : Tapi_Term) = true := by unfold okT; rw [if_pos rfl]; exact decide_eq_true hr
    have h2 : bareT (⟨1, n, ⟨false, []⟩, 0, ByteArray.mk #[], []⟩ : Tapi_Term) = true := by unfold bareT; simp [zNum, zB, zS, zA]
    rw [h1, h2]
    rfl
  · have e : termI n = ⟨2, 0, ⟨(numN n).fNeg, (numN n).fMag⟩, 0, ByteArray.mk #[], []⟩ := by unfold termI; rw [if_neg hs]
    rw [e]
    have h1 : okT (⟨2, 0, ⟨(numN n).fNeg, (numN n).fMag⟩, 0, ByteArray.mk #[], []⟩ : Tapi_Term) = true := by
      unfold okT
      rw [if_neg (by show ¬ (2 : Int) = 1; decide), if_pos rfl]
      show (mayN (numN n) && !(smallN (numN n)).2) = true
      rw [hmay, Bool.true_and, Bool.not_eq_true']
      cases hq : (smallN (numN n)).2 with
      | false => rfl
      | true => exact absurd hq hs
    have h2 : bareT (⟨2, 0, ⟨(numN n).fNeg, (numN n).fMag⟩, 0, ByteArray.mk #[], []⟩ : Tapi_Term) = true := by unfold bareT; simp [zN, zB, zS, zA]
    rw [h1, h2]
    rfl
/-- A term of a class. -/
structure OfC (c : Int) (t : Tapi_Term) : Prop where
  s : Small t
  w : wTapi_Term t
  m : mayT t = true
  k : Ev (fun N => order_class N t.fKind) c
theorem plainT (k n : Int) (hk : k = 4 ∨ k = 5 ∨ k = 7) (hn : 0 ≤ n ∧ n ≤ 255 ∧ (k = 5 → n ≤ 63) ∧ (k = 7 → n = 0)) : OfC k (⟨k, n, ⟨false, []⟩, 0, ByteArray.mk #[], []⟩ : Tapi_Term) := by
  refine ⟨Small.mk (by simp) (by show 0 ≤ 1000; omega) (by simp) (fun x h => by cases h), ?_, ?_, class_ev k (by omega) (by omega) (by omega)⟩
  · exact wTapi_Term.mk (show InR .i64 k from inI_mk (by omega) (by omega)) (show InR .i64 n from inI_mk (by omega) (by omega)) (wTapi_Num.mk trivial ⟨by simp, fun x h => by cases h⟩) (by show (Lit.int .u64 0).wf = true; decide) (by show 0 ≤ maxLen; omega) (by show 0 ≤ maxLen; omega) (fun y h => by cases h)
  · rw [mayT_iff, wt_eq, if_neg (by show ¬ k = 2; omega), if_neg (by show ¬ k = 9; omega), if_neg (by show ¬ (k = 6 ∨ k = 8); omega), rightT_eq]
    have h1 : okT (⟨k, n, ⟨false, []⟩, 0, ByteArray.mk #[], []⟩ : Tapi_Term) = true := by
      unfold okT
      simp only
      rcases hk with h | h | h <;> subst h
      · rw [if_neg (by decide), if_neg (by decide), if_neg (by decide), if_pos rfl]; exact decide_eq_true (by omega)
      · rw [if_neg (by decide), if_neg (by decide), if_neg (by decide), if_neg (by decide), if_pos rfl]; exact decide_eq_true (by have := hn.2.2.1 rfl; omega)
      · rw [if_neg (by decide), if_neg (by decide), if_neg (by decide), if_neg (by decide), if_neg (by decide), if_neg (by decide), if_neg (by decide), if_pos rfl]
    have h2 : bareT (⟨k, n, ⟨false, []⟩, 0, ByteArray.mk #[], []⟩ : Tapi_Term) = true := by
      unfold bareT
      rcases hk with h | h | h
      · subst h; simp [zNum, zB, zS, zA]
      · subst h; simp [zNum, zB, zS, zA]
      · have := hn.2.2.2 h; subst h; subst this; simp [zN, zNum, zB, zS, zA]
    rw [h1, h2]
    rfl
theorem tup_loop (n : Int) (r : Int) (hr : Ev (fun N => beehivelaw0_Low N n (9 : Int)) r) (h0 : 0 ≤ r) (h9 : r < 9) : ∀ (d i : Nat) (out : List Tapi_Term), (i : Int) + d = r → out = (List.range i).map (fun j => termI (j : Nat)) → Ev (fun N => beehivelaw5_of_L0 N n out (i : Nat)) ((List.range r.toNat).map fun j => termI (j : Nat))
  | 0, i, out, hd, ho => by
    refine Ev.step ?_ (fun N => by rw [beehivelaw5_of_L0])
    have e : r.toNat = i := by omega
    rw [e, ← ho]
    exact Ev.bind hr (Ev.neg (by omega) (Ev.now _))
  | d + 1, i, out, hd, ho => by
    have ih := tup_loop n r hr h0 h9 d (i + 1) (out ++ [termI (i : Nat)]) (by omega) (by rw [ho, List.range_succ, List.map_append]; rfl)
    have hI : I64 (i : Int) := ⟨by omega, by omega⟩
    refine Ev.step ?_ (fun N => by rw [beehivelaw5_of_L0, wrap_succ (by omega)])
    refine Ev.bind hr (Ev.pos (by omega) (Ev.bind (termI_ev hI) (Ev.bindc (app_eq ?_) ih)))
    rw [ho, List.length_map, List.length_range, lim_eq]
    show i + 1 ≤ _
    omega
theorem wts_map (f : Nat → Tapi_Term) : ∀ (l : List Nat), (∀ j ∈ l, wt (f j) ≤ 3) → wts (l.map f) ≤ 3 * (l.length : Int)
  | [], _ => by simp [wts]
  | x :: xs, h => by
    have h1 := h x (by simp)
    have h2 := wts_map f xs fun j hj => h j (by simp [hj])
    rw [List.map_cons, wts, List.length_cons]
    omega
theorem bstr_size (ns : List Int) : (bstr ns).size = ns.length := by
  have : ∀ (ns : List Int) (r : ByteArray), (ns.foldl (fun r n => r.push (UInt8.ofNat n.toNat)) r).size = r.size + ns.length := by
    intro ns
    induction ns with
    | nil => intro r; rfl
    | cons n ns ih => intro r; rw [List.foldl_cons, ih, ByteArray.size_push, List.length_cons]; omega
  unfold bstr
  rw [this]
  show 0 + ns.length = _
  omega
def cl (i : Int) : Int := if i = 0 then 0 else i + 3
theorem of_ev (i n : Int) (h0 : 0 ≤ i) (h7 : i < 7) (hn : I64 n) : ∃ t, Ev (fun N => beehivelaw5_of N i n) t ∧ OfC (cl i) t := by
  have hi : i = 0 ∨ i = 1 ∨ i = 2 ∨ i = 3 ∨ i = 4 ∨ i = 5 ∨ i = 6 := by omega
  rcases hi with rfl | rfl | rfl | rfl | rfl | rfl | rfl
  · exact ⟨termI n, Ev.pos rfl (Ev.bind (termI_ev hn) (Ev.now _)), small_I hn, w_I hn, may_I hn, classI_ev n⟩
  · obtain ⟨r, hr, r0, r1⟩ := low5 n 256 (by decide) (by decide)
    exact ⟨_, Ev.neg (by decide) (Ev.pos rfl (Ev.bind hr (Ev.bind (Ev.now _) (Ev.now _)))), plainT 4 r (.inl rfl) ⟨r0, by omega, fun h => by omega, fun h => by omega⟩⟩
  · obtain ⟨r, hr, r0, r1⟩ := low5 n 64 (by decide) (by decide)
    exact ⟨_, Ev.neg (by decide) (Ev.neg (by decide) (Ev.pos rfl (Ev.bind hr (Ev.now _)))), plainT 5 r (.inr (.inl rfl)) ⟨r0, by omega, fun h => by omega, fun h => by omega⟩⟩
  · obtain ⟨r, hr, r0, r1⟩ := low5 n 9 (by decide) (by decide)
    have hl := tup_loop n r hr r0 r1 r.toNat 0 [] (by omega) rfl
    refine ⟨⟨6, 0, ⟨false, []⟩, 0, ByteArray.mk #[], (List.range r.toNat).map fun j => termI (j : Nat)⟩, Ev.neg (by decide) (Ev.neg (by decide) (Ev.neg (by decide) (Ev.pos rfl (Ev.bind hl (Ev.now _))))), ?_⟩
    have hj : ∀ y ∈ (List.range r.toNat).map (fun j => termI ((j : Nat) : Int)), ∃ j : Nat, j < 9 ∧ y = termI (j : Nat) := fun y hy => by
      obtain ⟨j, hj, rfl⟩ := List.mem_map.1 hy
      exact ⟨j, by have := List.mem_range.1 hj; omega, rfl⟩
    have hlen : ((List.range r.toNat).map fun j => termI ((j : Nat) : Int)).length ≤ 8 := by rw [List.length_map, List.length_range]; omega
    have hI : ∀ j : Nat, j < 9 → I64 (j : Int) := fun j h => ⟨by omega, by omega⟩
    have hwts : wts ((List.range r.toNat).map fun j => termI ((j : Nat) : Int)) ≤ 24 := by
      have := wts_map (fun j => termI ((j : Nat) : Int)) (List.range r.toNat) fun j hj => wt_I (hI j (by have := List.mem_range.1 hj; omega))
      rw [List.length_range] at this
      omega
    generalize (List.range r.toNat).map (fun j => termI ((j : Nat) : Int)) = L at *
    refine ⟨Small.mk (by simp) (by show 0 ≤ 1000; omega) (by show L.length ≤ maxLen; rw [maxLen_eq]; omega) (fun y hy => ?_), ?_, ?_, class_ev 6 (by decide) (by decide) (by decide)⟩
    · obtain ⟨j, h9, rfl⟩ := hj y hy; exact small_I (hI j h9)
    · refine wTapi_Term.mk (show InR .i64 6 from inI_mk (by decide) (by decide)) (show InR .i64 0 from inI_mk (by decide) (by decide)) (wTapi_Num.mk trivial ⟨by simp, fun x h => by cases h⟩) (by show (Lit.int .u64 0).wf = true; decide) (by show 0 ≤ maxLen; omega) (by show L.length ≤ maxLen; rw [maxLen_eq]; omega) (fun y hy => ?_)
      obtain ⟨j, h9, rfl⟩ := hj y hy; exact w_I (hI j h9)
    · rw [mayT_iff, wt_eq, if_neg (by show ¬ (6 : Int) = 2; decide), if_neg (by show ¬ (6 : Int) = 9; decide), if_pos (by show (6 : Int) = 6 ∨ (6 : Int) = 8; decide), rightT_eq]
      have h1 : okT (⟨6, 0, ⟨false, []⟩, 0, ByteArray.mk #[], L⟩ : Tapi_Term) = true := by unfold okT; simp; exact hlen
      have h2 : bareT (⟨6, 0, ⟨false, []⟩, 0, ByteArray.mk #[], L⟩ : Tapi_Term) = true := by unfold bareT; simp [zN, zNum, zB, zS]
      rw [h1, h2, decide_eq_true (by show 1 + wts L ≤ 300; omega), Bool.true_and, Bool.true_and, Bool.true_and]
      show rightsT L = true
      rw [rights_all]
      refine List.all_eq_true.2 fun y hy => ?_
      obtain ⟨j, h9, rfl⟩ := hj y hy
      have := may_I (hI j h9)
      rw [mayT_iff, Bool.and_eq_true] at this
      exact this.2
  · exact ⟨_, Ev.neg (by decide) (Ev.neg (by decide) (Ev.neg (by decide) (Ev.neg (by decide) (Ev.pos rfl (Ev.now _))))), plainT 7 0 (.inr (.inr rfl)) ⟨by omega, by omega, fun h => by omega, fun _ => rfl⟩⟩
  · have hw := wt_I hn
    refine ⟨listTm [termI n], Ev.neg (by decide) (Ev.neg (by decide) (Ev.neg (by decide) (Ev.neg (by decide) (Ev.neg (by decide) (Ev.pos rfl (Ev.bind (termI_ev hn) (Ev.bind (Ev.pos (by simp) (Ev.now _)) (Ev.now _)))))))), small_list (fun x hx => ?_), w_list (fun x hx => ?_), ?_, class_ev 8 (by decide) (by decide) (by decide)⟩
    · simp only [List.mem_cons, List.not_mem_nil, or_false] at hx; subst hx; exact small_I hn
    · simp only [List.mem_cons, List.not_mem_nil, or_false] at hx; subst hx; exact w_I hn
    · have hm := may_I hn
      rw [may_list, if_pos (by simp [hm])]
      refine decide_eq_true ?_
      rw [sumL, sumL]
      have : lo (wt (termI n)) = wt (termI n) := by unfold lo; rw [if_neg (by omega)]
      omega
  · obtain ⟨r, hr, r0, r1⟩ := low5 n 401 (by decide) (by decide)
    have hm : mk (0 : Int) r = some (List.replicate r.toNat 0) := by
      have := mk_eq (z := (0 : Int)) (n := r.toNat) (by omega)
      rw [show ((r.toNat : Nat) : Int) = r by omega] at this
      exact this
    have hs : (bstr (List.replicate r.toNat 0)).size ≤ 400 := by rw [bstr_size, List.length_replicate]; omega
    refine ⟨⟨9, 0, ⟨false, []⟩, 0, bstr (List.replicate r.toNat 0), []⟩, Ev.neg (by decide) (Ev.neg (by decide) (Ev.neg (by decide) (Ev.neg (by decide) (Ev.neg (by decide) (Ev.neg (by decide) (Ev.bind hr (Ev.bindc hm (Ev.now _)))))))), ?_⟩
    generalize bstr (List.replicate r.toNat 0) = B at *
    refine ⟨Small.mk (by simp) (by show B.size ≤ 1000; omega) (by simp) (fun x h => by cases h), ?_, ?_, class_ev 9 (by decide) (by decide) (by decide)⟩
    · exact wTapi_Term.mk (show InR .i64 9 from inI_mk (by decide) (by decide)) (show InR .i64 0 from inI_mk (by decide) (by decide)) (wTapi_Num.mk trivial ⟨by simp, fun x h => by cases h⟩) (by show (Lit.int .u64 0).wf = true; decide) (by show B.size ≤ maxLen; rw [maxLen_eq]; omega) (by show 0 ≤ maxLen; omega) (fun y h => by cases h)
    · rw [mayT_iff, wt_eq, if_neg (by show ¬ (9 : Int) = 2; decide), if_pos (by show (9 : Int) = 9; rfl), rightT_eq]
      have h1 : okT (⟨9, 0, ⟨false, []⟩, 0, B, []⟩ : Tapi_Term) = true := by unfold okT; simp; exact hs
      have h2 : bareT (⟨9, 0, ⟨false, []⟩, 0, B, []⟩ : Tapi_Term) = true := by unfold bareT; simp [zN, zNum, zB, zA]
      rw [h1, h2, decide_eq_true (by show 1 + (B.size : Int) / 8 ≤ 300; omega)]
      rfl
theorem cmpC_ev {c d : Int} {a b : Tapi_Term} (ha : OfC c a) (hb : OfC d b) (h : c ≠ d) : Ev (fun N => order_Cmp N a b) (sgn (c - d)) := by
  have h1 := mayT_ev a ha.s ha.w
  have h2 := mayT_ev b hb.s hb.w
  rw [ha.m] at h1
  rw [hb.m] at h2
  have hc : Ev (fun N => order_compare N a b) (sgn (c - d)) := by
    refine Ev.step ?_ (fun N => by rw [order_compare])
    exact Ev.bind ha.k (Ev.bind hb.k (Ev.bind (cmpI_ev _ _) (Ev.pos (fun h0 => h (by have := sgn_zero.1 h0; omega)) (Ev.now _))))
  exact Ev.bind h1 (Ev.neg (by simp) (Ev.bind h2 (Ev.neg (by simp) (Ev.bind hc (Ev.now _)))))
theorem cl_sgn {i k : Int} (hi : 0 ≤ i) (hk : 0 ≤ k) : sgn (cl i - cl k) = sgn (i - k) := by
  unfold sgn cl
  repeat' split
  all_goals omega
namespace Pure
theorem OrderClasses (x0 : Int) (x1 : Int) (x2 : Int) (x3 : Int) (w0 : (InR .i64) x0) (w1 : (InR .i64) x1) (w2 : (InR .i64) x2) (w3 : (InR .i64) x3) : ∃ N, beehivelaw5_OrderClasses N x0 x1 x2 x3 = some true := by
  refine Ev.ex (f := fun N => beehivelaw5_OrderClasses N x0 x1 x2 x3) ?_
  obtain ⟨i, hi, i0, i7⟩ := low5 x0 7 (by decide) (by decide)
  obtain ⟨k, hk, k0, k7⟩ := low5 x1 7 (by decide) (by decide)
  obtain ⟨a, ea, ha⟩ := of_ev i x2 i0 i7 ⟨(inI w2).1, (inI w2).2⟩
  obtain ⟨b, eb, hb⟩ := of_ev k x3 k0 k7 ⟨(inI w3).1, (inI w3).2⟩
  have hB0 : Ev (fun N => beehivelaw5_OrderClasses_B0 N i k a b) (if i < k then -1 else 0) := by
    refine Ev.step ?_ (fun N => by rw [beehivelaw5_OrderClasses_B0])
    exact Ev.iff (fun _ => Ev.now _) (fun _ => Ev.now _)
  have hB1 : Ev (fun N => beehivelaw5_OrderClasses_B1 N i k a b (if i < k then -1 else 0)) (sgn (i - k)) := by
    refine Ev.step ?_ (fun N => by rw [beehivelaw5_OrderClasses_B1])
    rw [show sgn (i - k) = if i > k then 1 else if i < k then -1 else 0 from by unfold sgn; repeat' split <;> omega]
    exact Ev.iff (fun _ => Ev.now _) (fun _ => Ev.now _)
  have m1 := mayT_ev a ha.s ha.w
  have m2 := mayT_ev b hb.s hb.w
  rw [ha.m] at m1
  rw [hb.m] at m2
  have tail : Ev (fun N => (term_May N a).bind fun r19 => if r19 = true then (term_May N b).bind fun r21 => if r21 = true then (beehivelaw5_awake N).bind fun r23 => some r23 else some false else some false) true :=
    Ev.bind m1 (Ev.pos rfl (Ev.bind m2 (Ev.pos rfl (Ev.bind awake_ev (Ev.now _)))))
  have hB2 : Ev (fun N => beehivelaw5_OrderClasses_B2 N i k a b (sgn (i - k))) true := by
    refine Ev.step ?_ (fun N => by rw [beehivelaw5_OrderClasses_B2])
    by_cases h : i = k
    · exact Ev.pos h tail
    · have hne : cl i ≠ cl k := by unfold cl; repeat' split <;> omega
      have c1 := cmpC_ev ha hb hne
      have c2 := cmpC_ev hb ha (Ne.symm hne)
      rw [cl_sgn i0 k0] at c1
      rw [cl_sgn k0 i0] at c2
      refine Ev.neg h (Ev.bind c1 (Ev.pos rfl (Ev.bind c2 (Ev.pos ?_ tail))))
      have hb := sgn_bnd (i - k)
      rw [sgn_turn, wrapI _ (by omega) (by omega)]
      omega
  exact Ev.bind hi (Ev.bind hk (Ev.bind ea (Ev.bind eb (Ev.bind hB0 (Ev.bind hB1 (Ev.bind hB2 (Ev.now _)))))))
end Pure
end Go.Proofs.Ytllcnlonkloabaa.Sh
