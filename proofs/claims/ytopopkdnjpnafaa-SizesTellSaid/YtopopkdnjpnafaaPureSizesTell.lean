/- Sizes, what fits, and what is wanted, as the program tells them, are the document's own, of any numbers. No conditions. -/
import Derived.Test.YtopopkdnjpnafaaPSizesTellx2
namespace Go.Proofs.Ytopopkdnjpnafaa.Pure
open Go.RowKit Go.Proofs.Ytopopkdnjpnafaa.PSizesTell Go.Proofs.YtopopkdnjpnafaaW.PrintWords Go.Proofs.YtopopkdnjpnafaaW.PrintLast

theorem l0_eq : ∀ (k : Nat) (x y n i : Int), sizes_Size.l0 k x y n i = beehiveref9_Size.l0 k n x y i := by
  intro k
  induction k with
  | zero => intro x y n i; rfl
  | succ k ih => intro x y n i; simp only [sizes_Size.l0, beehiveref9_Size.l0]; rw [ih]

theorem size_eq (k : Nat) (a : Int) : sizes_Size.f k a = beehiveref9_Size.f k a := by
  have hj : ∀ b, sizes_Size.j0 k a b = beehiveref9_Size.j0 k a b := by
    intro b
    cases k with
    | zero => rfl
    | succ k => simp only [sizes_Size.j0, beehiveref9_Size.j0]; rw [l0_eq]
  unfold sizes_Size.f beehiveref9_Size.f
  rw [hj, hj]

theorem fit_l0_eq : ∀ (k : Nat) (n i : Int), sizes_Fit.l0 k n i = beehiveref9_Fit.l0 k n i := by
  intro k
  induction k with
  | zero => intro n i; rfl
  | succ k ih =>
    intro n i
    simp only [sizes_Fit.l0, beehiveref9_Fit.l0]
    by_cases h : i < 27
    · rw [if_pos h, if_pos (show i ≤ 26 by omega), size_eq]
      congr 1
      funext r
      rw [ih]
    · rw [if_neg h, if_neg (show ¬ i ≤ 26 by omega)]

theorem fit_eq (k : Nat) (n : Int) : sizes_Fit.f k n = beehiveref9_Fit.f k n := by
  unfold sizes_Fit.f beehiveref9_Fit.f
  exact fit_l0_eq k n 0

theorem want_eq (k : Nat) (a b : Int) : sizes_Want.f k a b = beehiveref9_Want.f k a b := by
  unfold sizes_Want.f beehiveref9_Want.f
  rw [fit_eq]
  by_cases h1 : a < 0
  · rw [if_pos h1, if_pos h1]
  · rw [if_neg h1, if_neg h1]
    by_cases h2 : b < 0
    · rw [if_pos h2, if_pos h2]
      split <;> rfl
    · rw [if_neg h2, if_neg h2]

/-- Size tells something, of any number. -/
theorem size_tab : ∀ n : Fin 27, (sizes_Size.f 30 ((n.1 : Nat) : Int)).isSome = true := by decide +kernel

theorem size_some (k : Nat) (hk : 30 ≤ k) (a : Int) : ∃ r, sizes_Size.f k a = some r := by
  by_cases h : a < 0
  · obtain ⟨m, rfl⟩ : ∃ m, k = m + 1 := ⟨k - 1, by omega⟩
    exact ⟨(0, false), by unfold sizes_Size.f; rw [if_pos h]; simp only [sizes_Size.j0, if_true]⟩
  · by_cases h2 : a > 26
    · obtain ⟨m, rfl⟩ : ∃ m, k = m + 1 := ⟨k - 1, by omega⟩
      exact ⟨(0, false), by unfold sizes_Size.f; rw [if_neg h, decide_eq_true h2]; simp only [sizes_Size.j0, if_true]⟩
    · have ht := size_tab ⟨a.toNat, by omega⟩
      simp only [show ((a.toNat : Nat) : Int) = a by omega] at ht
      obtain ⟨r, hr⟩ := Option.isSome_iff_exists.1 ht
      exact ⟨r, at_rounds (fun j => sizes_Size.mono a j) hk hr⟩

theorem fit_l0_some (n : Int) : ∀ (d k : Nat) (i : Int), 0 ≤ i → 27 - i = (d : Int) → d + 30 < k → ∃ r, sizes_Fit.l0 k n i = some r := by
  intro d
  induction d with
  | zero =>
    intro k i h0 hd hk
    obtain ⟨m, rfl⟩ : ∃ m, k = m + 1 := ⟨k - 1, by omega⟩
    exact ⟨(0, false), by simp only [sizes_Fit.l0]; rw [if_neg (by omega)]⟩
  | succ d ih =>
    intro k i h0 hd hk
    obtain ⟨m, rfl⟩ : ∃ m, k = m + 1 := ⟨k - 1, by omega⟩
    obtain ⟨s, hs⟩ := size_some m (by omega) i
    have hw : wrap64 (i + 1) = i + 1 := by unfold wrap64; omega
    by_cases hge : s.1 ≥ n
    · exact ⟨(s.1, true), by simp only [sizes_Fit.l0]; rw [if_pos (by omega), hs]; simp only [Option.bind_some]; rw [if_pos hge]⟩
    · obtain ⟨r, hr⟩ := ih m (i + 1) (by omega) (by omega) (by omega)
      exact ⟨r, by simp only [sizes_Fit.l0]; rw [if_pos (by omega), hs]; simp only [Option.bind_some]; rw [if_neg hge, hw, hr]⟩

theorem fit_some (k : Nat) (hk : 60 ≤ k) (n : Int) : ∃ r, sizes_Fit.f k n = some r :=
  fit_l0_some n 27 k 0 (by omega) (by omega) (by omega)

theorem want_some (k : Nat) (hk : 60 ≤ k) (a b : Int) : ∃ r, sizes_Want.f k a b = some r := by
  unfold sizes_Want.f
  obtain ⟨r, hr⟩ := fit_some k hk (wrap64 (wrap64 (4 * a) + b))
  rw [hr]
  simp only [Option.bind_some]
  by_cases h1 : a < 0
  · exact ⟨_, by rw [if_pos h1]⟩
  · rw [if_neg h1]
    by_cases h2 : a > 1073741824
    · exact ⟨_, by rw [if_pos h2]⟩
    · rw [if_neg h2]
      by_cases h3 : b < 0
      · exact ⟨_, by rw [if_pos h3]⟩
      · rw [if_neg h3]
        by_cases h4 : b > 1073741824
        · exact ⟨_, by rw [if_pos h4]⟩
        · rw [if_neg h4]; exact ⟨_, rfl⟩

theorem awake_true : beehivelaw9_awake.f 60 = some true := by decide +kernel

theorem SizesTell : beehivelaw9_SizesTell.Pure := by
  intro a0 a1 a2 a3 _ _ _ _
  refine ⟨60, ?_⟩
  unfold beehivelaw9_SizesTell.f
  obtain ⟨r1, h1⟩ := size_some 60 (by omega) a0
  obtain ⟨r2, h2⟩ := fit_some 60 (by omega) a1
  obtain ⟨r3, h3⟩ := want_some 60 (by omega) a2 a3
  rw [← size_eq, ← fit_eq, ← want_eq, h1, h2, h3, awake_true]
  simp only [Option.bind_some, beq_self_eq_true, if_true]

end Go.Proofs.Ytopopkdnjpnafaa.Pure
