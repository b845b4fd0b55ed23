import Derived.Test.YtncpghadgddofaaPureStoreA
set_option linter.unusedVariables false
set_option linter.unusedSimpArgs false
namespace Go.Proofs.Ytncpghadgddofaa.Sh
open Go Lift Go.Proofs
theorem bsum_set : ∀ (l : List Tapi_Slot) (k : Nat) (x y : Tapi_Slot), l[k]? = some x → bsum (l.set k y) + x.fBytes.size = bsum l + y.fBytes.size
  | [], k, x, y, h => by simp at h
  | z :: l, 0, x, y, h => by
    simp only [List.getElem?_cons_zero, Option.some.injEq] at h
    subst h
    rw [List.set_cons_zero, bsum, bsum]; omega
  | z :: l, k + 1, x, y, h => by
    have := bsum_set l k x y (by simpa using h)
    rw [List.set_cons_succ, bsum, bsum]; omega
theorem bsum_rep (s : Tapi_Slot) : ∀ n : Nat, bsum (List.replicate n s) = n * s.fBytes.size
  | 0 => by simp [bsum]
  | n + 1 => by rw [List.replicate_succ, bsum, bsum_rep s n, Nat.succ_mul, Nat.add_comm]
theorem bsum_app : ∀ (a b : List Tapi_Slot), bsum (a ++ b) = bsum a + bsum b
  | [], b => by simp [bsum]
  | x :: a, b => by rw [List.cons_append, bsum, bsum, bsum_app a b, Nat.add_assoc]
theorem cnz_all : ∀ l : List Tapi_Slot, (∀ x ∈ l, x.fCount ≠ 0) → cnz l = l.length
  | [], _ => rfl
  | x :: xs, h => by rw [cnz, if_neg (h x (by simp)), cnz_all xs (fun y hy => h y (by simp [hy])), List.length_cons]; omega
theorem least_loop (b : ByteArray) (hb : b.size ≤ 400) (m : Nat) (hm : m < 300) (r4 : Int) : ∀ (d i : Nat), i + d = m + 1 →
    Ev (fun N => beehivelaw10_StoreLeast_L0 N b (m : Nat) r4 (List.replicate i ⟨1, 1, b⟩) (i : Nat)) (.inl (List.replicate (m + 1) ⟨1, 1, b⟩))
  | 0, i, hd => by
    obtain rfl : i = m + 1 := by omega
    refine Ev.step ?_ (fun N => by rw [beehivelaw10_StoreLeast_L0, wrapI (1 + (m : Int)) (by omega) (by omega)])
    exact Ev.neg (by omega) (Ev.now _)
  | d + 1, i, hd => by
    refine Ev.step ?_ (fun N => by rw [beehivelaw10_StoreLeast_L0, wrapI (1 + (m : Int)) (by omega) (by omega), wrap_succ (by omega)])
    have hp := put_new (List.replicate i ⟨1, 1, b⟩) b hb (by simp; omega) (by
      rw [freeAt_none _ 0 (fun x hx => by rw [List.eq_of_mem_replicate hx]; show (1 : Int) ≠ 0; decide), Nat.zero_add])
    rw [← List.replicate_succ', List.length_replicate] at hp
    exact Ev.pos (by omega) (Ev.bind hp (Ev.neg (by simp) (Ev.neg (by simp) (Ev.neg (by simp) (least_loop b hb m hm r4 d (i + 1) (by omega))))))
abbrev xB : ByteArray := ByteArray.mk #[120]
namespace Pure
theorem StoreLeast (x0 : Int) (x1 : Int) (x2 : ByteArray) (w0 : (InR .i64) x0) (w1 : (InR .i64) x1) (w2 : StR x2) : ∃ N, beehivelaw10_StoreLeast N x0 x1 x2 = some true := by
  refine Ev.ex (f := fun N => beehivelaw10_StoreLeast N x0 x1 x2) ?_
  by_cases hb : ((x2.size : Nat) : Int) > 400
  · exact Ev.pos hb (Ev.bind awake_ev (Ev.now _))
  · obtain ⟨r, hr, r0, r1⟩ := lowE x0 300 w0 (by decide) (by decide)
    obtain ⟨m, rfl⟩ := Int.eq_ofNat_of_zero_le r0
    have hm : IntKind.i64.wrap (1 + (m : Int)) = ((m + 1 : Nat) : Int) := by rw [wrapI _ (by omega) (by omega)]; omega
    obtain ⟨q, hq, q0, q1⟩ := lowE x1 ((m + 1 : Nat) : Int) w1 (by omega) (by omega)
    rw [← hm] at hq
    obtain ⟨k, rfl⟩ := Int.eq_ofNat_of_zero_le q0
    have hk : k < m + 1 := by omega
    refine Ev.neg hb (Ev.bind hr (Ev.bind hq (Ev.bind new_ev ?_)))
    have hlp := least_loop x2 (by omega) m (by omega) (k : Nat) (m + 1) 0 (by omega)
    refine Ev.bind (f := fun N => beehivelaw10_StoreLeast_L0 N x2 (m : Nat) (k : Nat) [] 0) hlp ?_
    generalize hl0 : List.replicate (m + 1) (⟨1, 1, x2⟩ : Tapi_Slot) = l0
    have len0 : l0.length = m + 1 := by rw [← hl0, List.length_replicate]
    have all0 : ∀ x ∈ l0, x = ⟨1, 1, x2⟩ := fun x hx => List.eq_of_mem_replicate (hl0 ▸ hx)
    have at0 : ∀ j, j < m + 1 → l0[j]? = some ⟨1, 1, x2⟩ := fun j hj => by
      rw [List.getElem?_eq_getElem (by omega), all0 _ (List.getElem_mem _)]
    have h1 : Here l0 (k : Nat) 1 k ⟨1, 1, x2⟩ := ⟨rfl, at0 k hk, by show (1 : Int) ≠ 0; decide, rfl⟩
    have d1 := dec_here h1 (by show (0 : Int) ≤ 1; decide) (by show (1 : Int) ≤ 1000; decide)
    have e1 : decL l0 k ⟨1, 1, x2⟩ = l0.set k ⟨1, 0, noB⟩ := if_pos rfl
    rw [e1] at d1
    have len1 : (l0.set k (⟨1, 0, noB⟩ : Tapi_Slot)).length = m + 1 := by rw [List.length_set, len0]
    have f1 : freeAt (l0.set k ⟨1, 0, noB⟩) 0 = k := by
      rw [freeAt_is _ 0 k (by omega) (fun j x hj hx => ?_) (fun x hx => ?_), Nat.zero_add]
      · rw [List.getElem?_set_ne (by omega), at0 j (by omega)] at hx
        injection hx with hx; subst hx; show (1 : Int) ≠ 0; decide
      · rw [List.getElem?_set_self (by omega)] at hx
        injection hx with hx; subst hx; rfl
    have p1 := put_old (l0.set k ⟨1, 0, noB⟩) xB (by decide) (by omega) k (by omega) f1
    have e2 : (l0.set k (⟨1, 0, noB⟩ : Tapi_Slot))[k]'(by omega) = ⟨1, 0, noB⟩ := by simp
    rw [e2, List.set_set, show IntKind.i64.wrap ((⟨1, 0, noB⟩ : Tapi_Slot).fStamp + 1) = 2 from by decide] at p1
    generalize hl2 : l0.set k (⟨2, 1, xB⟩ : Tapi_Slot) = l2 at p1
    have len2 : l2.length = m + 1 := by rw [← hl2, List.length_set, len0]
    have at2 : l2[k]? = some ⟨2, 1, xB⟩ := by rw [← hl2, List.getElem?_set_self (by omega)]
    have get2 : l2[k]'(by omega) = ⟨2, 1, xB⟩ := (List.getElem?_eq_some_iff.1 at2).2
    have n2 : NotHere l2 (k : Nat) 1 6 := .stale k (by omega) rfl (by rw [get2]; show (1 : Int) ≠ 0; decide) (by rw [get2]; show (2 : Int) ≠ 1; decide)
    have h2 : Here l2 (k : Nat) 2 k ⟨2, 1, xB⟩ := ⟨rfl, at2, by show (1 : Int) ≠ 0; decide, rfl⟩
    have all2 : ∀ x ∈ l2, x.fCount ≠ 0 := by
      intro x hx
      rw [← hl2] at hx
      rcases List.mem_or_eq_of_mem_set hx with hx | rfl
      · rw [all0 x hx]; show (1 : Int) ≠ 0; decide
      · show (1 : Int) ≠ 0; decide
    have p2 := put_new l2 noB (by decide) (by omega) (by rw [freeAt_none l2 0 all2, Nat.zero_add])
    have all3 : ∀ x ∈ l2 ++ [(⟨1, 1, noB⟩ : Tapi_Slot)], x.fCount ≠ 0 := by
      intro x hx
      rcases List.mem_append.1 hx with hx | hx
      · exact all2 x hx
      · simp only [List.mem_singleton] at hx; subst hx; show (1 : Int) ≠ 0; decide
    have pos3 : ∀ x ∈ l2 ++ [(⟨1, 1, noB⟩ : Tapi_Slot)], 0 ≤ x.fCount := by
      intro x hx
      rcases List.mem_append.1 hx with hx | hx
      · rw [← hl2] at hx
        rcases List.mem_or_eq_of_mem_set hx with hx | rfl
        · rw [all0 x hx]; show (0 : Int) ≤ 1; decide
        · show (0 : Int) ≤ 1; decide
      · simp only [List.mem_singleton] at hx; subst hx; show (0 : Int) ≤ 1; decide
    have len3 : (l2 ++ [(⟨1, 1, noB⟩ : Tapi_Slot)]).length = m + 2 := by rw [List.length_append, len2]; rfl
    have hP : m * x2.size ≤ 299 * 400 := Nat.mul_le_mul (by omega) (by omega)
    have sum3 : bsum (l2 ++ [(⟨1, 1, noB⟩ : Tapi_Slot)]) = m * x2.size + 1 := by
      have hs := bsum_set l0 k ⟨1, 1, x2⟩ ⟨2, 1, xB⟩ (at0 k hk)
      rw [hl2, ← hl0, bsum_rep] at hs
      have e4 : (m + 1) * (⟨1, 1, x2⟩ : Tapi_Slot).fBytes.size = m * x2.size + x2.size := Nat.succ_mul ..
      have e5 : (⟨1, 1, x2⟩ : Tapi_Slot).fBytes.size = x2.size := rfl
      have e6 : (⟨2, 1, xB⟩ : Tapi_Slot).fBytes.size = 1 := rfl
      rw [bsum_app]
      have e7 : bsum [(⟨1, 1, noB⟩ : Tapi_Slot)] = 0 := rfl
      omega
    have hy := bytes_ev (l2 ++ [⟨1, 1, noB⟩]) (by omega)
    have hz := len_ev (l2 ++ [⟨1, 1, noB⟩]) (by omega) pos3
    rw [cnz_all _ all3, len3] at hz
    have hbv := bytesV_sum (l2 ++ [⟨1, 1, noB⟩]) 0 (by omega)
    rw [sum3, Nat.zero_add] at hbv
    have hbv' : bytesV (l2 ++ [⟨1, 1, noB⟩]) 0 = ((m * x2.size + 1 : Nat) : Int) := hbv
    rw [hbv'] at hy
    refine Ev.bind d1 (Ev.bind p1 (Ev.bind (inc_not n2) (Ev.bind (get_here h2) (Ev.bind p2 (Ev.bind (a := true) ?_ (Ev.now _))))))
    refine Ev.step ?_ (fun N => by rw [beehivelaw10_StoreLeast_B1, hm])
    have c1 : IntKind.i64.wrap (((m + 1 : Nat) : Int) - 1) = (m : Int) := by rw [wrapI _ (by omega) (by omega)]; omega
    have c2 : IntKind.i64.wrap ((m : Int) * ((x2.size : Nat) : Int)) = ((m * x2.size : Nat) : Int) := by
      rw [← Int.natCast_mul, wrapI _ (by omega) (by omega)]
    have c3 : IntKind.i64.wrap (((m * x2.size : Nat) : Int) + 1) = ((m * x2.size + 1 : Nat) : Int) := by rw [wrapI _ (by omega) (by omega)]; rfl
    have c4 : IntKind.i64.wrap (((m + 1 : Nat) : Int) + 1) = ((m + 2 : Nat) : Int) := by rw [wrapI _ (by omega) (by omega)]; rfl
    rw [c1, c2, c3, c4]
    exact Ev.pos rfl (Ev.pos rfl (Ev.pos rfl (Ev.pos rfl (Ev.pos rfl (Ev.pos rfl (Ev.pos rfl (Ev.pos (by show ((l2.length : Nat) : Int) = _; rw [len2]) (Ev.pos rfl (Ev.bind hy (Ev.pos rfl (Ev.bind hz (Ev.pos rfl (Ev.bind awake_ev (Ev.now _))))))))))))))
end Pure
end Go.Proofs.Ytncpghadgddofaa.Sh
