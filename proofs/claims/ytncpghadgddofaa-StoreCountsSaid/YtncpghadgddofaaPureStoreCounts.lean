import Derived.Test.YtncpghadgddofaaPureStoreA
set_option linter.unusedVariables false
set_option linter.unusedSimpArgs false
namespace Go.Proofs.Ytncpghadgddofaa.Sh
open Go Lift Go.Proofs
theorem one_here (c : Int) (b : ByteArray) (hc : c ≠ 0) : Here [⟨1, c, b⟩] 0 1 0 ⟨1, c, b⟩ := ⟨rfl, rfl, hc, rfl⟩
theorem one_not (b : ByteArray) : NotHere [⟨1, 0, b⟩] 0 1 4 := .free 0 (by simp) rfl rfl
theorem one_inc (c : Int) (b : ByteArray) : incL [⟨1, c, b⟩] 0 ⟨1, c, b⟩ = [⟨1, c + 1, b⟩] := rfl
theorem one_dec (c : Int) (b : ByteArray) : decL [⟨1, c, b⟩] 0 ⟨1, c, b⟩ = [⟨1, c - 1, if c = 1 then noB else b⟩] := by
  unfold decL
  by_cases h : c = 1
  · subst h; rfl
  · rw [if_neg h, if_neg h]; rfl
theorem counts_up (b : ByteArray) (m : Nat) (hm : m ≤ 100) (r6 : Int × Int × Int × Tstore_Store) (h1 : r6.1 = 0) (h2 : r6.2.1 = 1) : ∀ (d i : Nat), i + d = m →
    Ev (fun N => beehivelaw10_StoreCounts_L0 N b (m : Nat) r6 [⟨1, (i + 1 : Nat), b⟩] (i : Nat)) (.inl [⟨1, (m + 1 : Nat), b⟩])
  | 0, i, hd => by
    obtain rfl : i = m := by omega
    refine Ev.step ?_ (fun N => by rw [beehivelaw10_StoreCounts_L0])
    exact Ev.neg (by omega) (Ev.now _)
  | d + 1, i, hd => by
    refine Ev.step ?_ (fun N => by rw [beehivelaw10_StoreCounts_L0, h1, h2, wrap_succ (by omega)])
    have hi := inc_here (one_here ((i + 1 : Nat) : Int) b (by omega)) (by show (0 : Int) ≤ ((i + 1 : Nat) : Int); omega) (by show ((i + 1 : Nat) : Int) ≤ 1000; omega)
    rw [one_inc, show ((i + 1 : Nat) : Int) + 1 = ((i + 1 + 1 : Nat) : Int) from rfl] at hi
    exact Ev.pos (by omega) (Ev.bind hi (Ev.neg (by simp) (counts_up b m hm r6 h1 h2 d (i + 1) (by omega))))
theorem counts_down (b : ByteArray) (m : Nat) (hm : m ≤ 100) (r6 : Int × Int × Int × Tstore_Store) (h1 : r6.1 = 0) (h2 : r6.2.1 = 1) : ∀ (d i : Nat), i + d = m →
    Ev (fun N => beehivelaw10_StoreCounts_L1 N b (m : Nat) r6 [⟨1, (d + 1 : Nat), b⟩] (i : Nat)) (.inl [⟨1, 0, noB⟩]) := by
  intro d i hd
  have hx := one_here ((d + 1 : Nat) : Int) b (by omega)
  have hl : Ev (fun N => store_Store_Len' N ⟨[⟨1, ((d + 1 : Nat) : Int), b⟩]⟩) (1, ⟨[⟨1, ((d + 1 : Nat) : Int), b⟩]⟩) := by
    have h := len_ev [⟨1, ((d + 1 : Nat) : Int), b⟩] (by simp) (fun x hx => by simp only [List.mem_singleton] at hx; subst hx; show (0 : Int) ≤ ((d + 1 : Nat) : Int); omega)
    have e : cnz [⟨1, ((d + 1 : Nat) : Int), b⟩] = 1 := by
      rw [cnz, cnz, if_neg (by show ¬ ((d + 1 : Nat) : Int) = 0; omega)]
    rw [e] at h
    exact h
  have hdec := dec_here hx (by show (0 : Int) ≤ ((d + 1 : Nat) : Int); omega) (by show ((d + 1 : Nat) : Int) ≤ 1000; omega)
  rw [one_dec] at hdec
  have hB : Ev (fun N => beehivelaw10_StoreCounts_B2 N b (m : Nat) r6 (i : Nat) (b, 0, ⟨[⟨1, ((d + 1 : Nat) : Int), b⟩]⟩)) ([⟨1, ((d + 1 : Nat) : Int) - 1, if ((d + 1 : Nat) : Int) = 1 then noB else b⟩], false) := by
    refine Ev.step ?_ (fun N => by rw [beehivelaw10_StoreCounts_B2, h1, h2])
    exact Ev.neg (by simp) (Ev.neg (by simp) (Ev.bind hl (Ev.neg (by simp) (Ev.bind hdec (Ev.now _)))))
  induction d generalizing i with
  | zero =>
    refine Ev.step ?_ (fun N => by rw [beehivelaw10_StoreCounts_L1, h1, h2, wrap_succ (by omega)])
    refine Ev.pos (by omega) (Ev.bind (get_here hx) (Ev.bind hB (Ev.neg (by simp) ?_)))
    refine Ev.step ?_ (fun N => by rw [beehivelaw10_StoreCounts_L1])
    exact Ev.neg (by omega) (Ev.now _)
  | succ d ih =>
    refine Ev.step ?_ (fun N => by rw [beehivelaw10_StoreCounts_L1, h1, h2, wrap_succ (by omega)])
    refine Ev.pos (by omega) (Ev.bind (get_here hx) (Ev.bind hB (Ev.neg (by simp) ?_)))
    have e1 : ((d + 1 + 1 : Nat) : Int) - 1 = ((d + 1 : Nat) : Int) := by omega
    have e2 : ¬ ((d + 1 + 1 : Nat) : Int) = 1 := by omega
    rw [e1, if_neg e2]
    have hx' := one_here ((d + 1 : Nat) : Int) b (by omega)
    have hl' : Ev (fun N => store_Store_Len' N ⟨[⟨1, ((d + 1 : Nat) : Int), b⟩]⟩) (1, ⟨[⟨1, ((d + 1 : Nat) : Int), b⟩]⟩) := by
      have h := len_ev [⟨1, ((d + 1 : Nat) : Int), b⟩] (by simp) (fun x hx => by simp only [List.mem_singleton] at hx; subst hx; show (0 : Int) ≤ ((d + 1 : Nat) : Int); omega)
      have e : cnz [⟨1, ((d + 1 : Nat) : Int), b⟩] = 1 := by
        rw [cnz, cnz, if_neg (by show ¬ ((d + 1 : Nat) : Int) = 0; omega)]
      rw [e] at h
      exact h
    have hdec' := dec_here hx' (by show (0 : Int) ≤ ((d + 1 : Nat) : Int); omega) (by show ((d + 1 : Nat) : Int) ≤ 1000; omega)
    rw [one_dec] at hdec'
    refine ih (i + 1) (by omega) hx' hl' hdec' ?_
    refine Ev.step ?_ (fun N => by rw [beehivelaw10_StoreCounts_B2, h1, h2])
    exact Ev.neg (by simp) (Ev.neg (by simp) (Ev.bind hl' (Ev.neg (by simp) (Ev.bind hdec' (Ev.now _)))))
namespace Pure
theorem StoreCounts (x0 : Int) (x1 : ByteArray) (w0 : (InR .i64) x0) (w1 : StR x1) : ∃ N, beehivelaw10_StoreCounts N x0 x1 = some true := by
  refine Ev.ex (f := fun N => beehivelaw10_StoreCounts N x0 x1) ?_
  by_cases hb : ((x1.size : Nat) : Int) > 400
  · exact Ev.pos hb (Ev.bind awake_ev (Ev.now _))
  · obtain ⟨r, hr, r0, r1⟩ := lowE x0 100 w0 (by decide) (by decide)
    obtain ⟨m, rfl⟩ := Int.eq_ofNat_of_zero_le r0
    refine Ev.neg hb (Ev.bind hr (Ev.bind new_ev ?_))
    have hp := put_new [] x1 (by omega) (by simp) rfl
    refine Ev.bind hp ?_
    have hu := counts_up x1 m (by omega) (((([] : List Tapi_Slot).length : Nat) : Int), 1, 0, ⟨[] ++ [⟨1, 1, x1⟩]⟩) rfl rfl m 0 (by omega)
    refine Ev.bind hu ?_
    have hd := counts_down x1 m (by omega) (((([] : List Tapi_Slot).length : Nat) : Int), 1, 0, ⟨[] ++ [⟨1, 1, x1⟩]⟩) rfl rfl m 0 (by omega)
    refine Ev.bind hd (Ev.bind (get_not (one_not noB)) (Ev.bind (a := true) ?_ (Ev.now _)))
    have hl := len_ev [⟨1, 0, noB⟩] (by simp) (fun x hx => by simp only [List.mem_singleton] at hx; subst hx; exact Int.le_refl 0)
    have hy := bytes_ev [⟨1, 0, noB⟩] (by simp)
    refine Ev.step ?_ (fun N => by rw [beehivelaw10_StoreCounts_B3])
    exact Ev.pos rfl (Ev.pos rfl (Ev.bind hl (Ev.pos rfl (Ev.bind hy (Ev.pos (by show bytesV [⟨1, 0, noB⟩] 0 = 0; decide) (Ev.bind (dec_not (one_not noB)) (Ev.pos rfl (Ev.bind awake_ev (Ev.now _)))))))))
end Pure
end Go.Proofs.Ytncpghadgddofaa.Sh
