/- Each size but the first two is the two ahead of it together; behind the last one there is none; a heap of more live words, or a greater need, is never lesser. No conditions. -/
import Derived.Test.YtopopkdnjpnafaaPSizesSumsx1
namespace Go.Proofs.Ytopopkdnjpnafaa.Pure
open Go.RowKit Go.Proofs.Ytopopkdnjpnafaa.PSizesSums Go.Proofs.YtopopkdnjpnafaaW.PrintWords Go.Proofs.YtopopkdnjpnafaaW.PrintLast

theorem wrapU (x : Int) : IntKind.u64.wrap x = x % 18446744073709551616 := by
  simp [IntKind.wrap, IntKind.bits, IntKind.signed]

theorem low_eq (x n : Int) (h0 : 0 < n) (h1 : n ≤ 4611686018427387904) : ∃ r, beehivelaw0_Low.f x n = some r ∧ 0 ≤ r ∧ r < n := by
  have hn : IntKind.u64.wrap n = n := by rw [wrapU]; omega
  have hx : 0 ≤ IntKind.u64.wrap x := by rw [wrapU]; omega
  unfold beehivelaw0_Low.f
  rw [hn, if_neg (by omega), Int.tmod_eq_emod_of_nonneg hx]
  have a := Int.emod_nonneg (IntKind.u64.wrap x) (show n ≠ 0 by omega)
  have b := Int.emod_lt_of_pos (IntKind.u64.wrap x) h0
  refine ⟨_, rfl, ?_⟩
  unfold wrap64
  omega

/-- The table: each but the first two is the two ahead of it together. -/
def T : Nat → Int
  | 0 => 12
  | 1 => 20
  | n + 2 => T n + T (n + 1)

theorem size_tab : ∀ n : Fin 27, sizes_Size.f 30 ((n.1 : Nat) : Int) = some (T n.1, true) := by decide +kernel

theorem size_in (k : Nat) (hk : 30 ≤ k) (n : Nat) (hn : n < 27) : sizes_Size.f k (n : Int) = some (T n, true) :=
  at_rounds (fun j => sizes_Size.mono _ j) hk (size_tab ⟨n, hn⟩)

theorem size_out (k : Nat) (hk : 30 ≤ k) (a : Int) (h : a > 26) : sizes_Size.f k a = some (0, false) := by
  obtain ⟨m, rfl⟩ : ∃ m, k = m + 1 := ⟨k - 1, by omega⟩
  unfold sizes_Size.f
  rw [if_neg (by omega), decide_eq_true h]
  simp only [sizes_Size.j0, if_true]

theorem T_step : ∀ n : Fin 26, T n.1 < T (n.1 + 1) ∧ T (n.1 + 1) < 2 * T n.1 := by decide +kernel

theorem T_bound : ∀ n : Fin 28, 12 ≤ T n.1 ∧ T n.1 ≤ 10000000 := by decide +kernel

theorem T_lt (d : Nat) : ∀ i, i + d + 1 ≤ 26 → T i < T (i + d + 1) := by
  induction d with
  | zero => intro i h; exact (T_step ⟨i, by omega⟩).1
  | succ d ih =>
    intro i h
    have a := ih i (by omega)
    have b := (T_step ⟨i + d + 1, by omega⟩).1
    exact Int.lt_trans a b

theorem fit_l0 (n : Int) (j : Nat) (hj : j < 27) (hn : n ≤ T j) (hlt : ∀ i, i < j → T i < n) : ∀ (d k i : Nat), i + d = j → d + 31 < k → sizes_Fit.l0 k n (i : Int) = some (T j, true) := by
  intro d
  induction d with
  | zero =>
    intro k i hd hk
    obtain ⟨m, rfl⟩ : ∃ m, k = m + 1 := ⟨k - 1, by omega⟩
    obtain rfl : i = j := by omega
    simp only [sizes_Fit.l0]
    rw [if_pos (by omega), size_in m (by omega) i hj]
    simp only [Option.bind_some]
    rw [if_pos hn]
  | succ d ih =>
    intro k i hd hk
    obtain ⟨m, rfl⟩ : ∃ m, k = m + 1 := ⟨k - 1, by omega⟩
    have hw : wrap64 ((i : Int) + 1) = ((i + 1 : Nat) : Int) := by unfold wrap64; omega
    have hi := hlt i (by omega)
    simp only [sizes_Fit.l0]
    rw [if_pos (by omega), size_in m (by omega) i (by omega)]
    simp only [Option.bind_some]
    rw [if_neg (by omega), hw]
    exact ih m (i + 1) (by omega) (by omega)

theorem fit_at (k : Nat) (hk : 70 ≤ k) (n : Int) (j : Nat) (hj : j < 27) (hn : n ≤ T j) (hlt : ∀ i, i < j → T i < n) : sizes_Fit.f k n = some (T j, true) :=
  fit_l0 n j hj hn hlt j k 0 (by omega) (by omega)

theorem awake_true : beehivelaw9_awake.f 70 = some true := by decide +kernel

theorem fit_least (n : Int) (h : n ≤ 3000000) : ∃ j, j < 27 ∧ n ≤ T j ∧ ∀ i, i < j → T i < n := by
  have key : ∀ d : Nat, d < 27 → (∃ j, j ≤ d ∧ n ≤ T j ∧ ∀ i, i < j → T i < n) ∨ ∀ i, i ≤ d → T i < n := by
    intro d
    induction d with
    | zero =>
      intro _
      by_cases c : n ≤ T 0
      · exact .inl ⟨0, by omega, c, fun i hi => by omega⟩
      · exact .inr fun i hi => by obtain rfl : i = 0 := by omega
                                  omega
    | succ d ih =>
      intro hd
      rcases ih (by omega) with ⟨j, a, b, c⟩ | g
      · exact .inl ⟨j, by omega, b, c⟩
      · by_cases c : n ≤ T (d + 1)
        · exact .inl ⟨d + 1, by omega, c, fun i hi => g i (by omega)⟩
        · exact .inr fun i hi => by
            by_cases e : i = d + 1
            · subst e; omega
            · exact g i (by omega)
  rcases key 26 (by omega) with ⟨j, a, b, c⟩ | g
  · exact ⟨j, by omega, b, c⟩
  · have := g 26 (by omega)
    have e : T 26 = 3328160 := by decide +kernel
    omega

theorem want_at (k : Nat) (hk : 70 ≤ k) (a b : Int) (a0 : 0 ≤ a) (a1 : a ≤ 200000) (b0 : 0 ≤ b) (b1 : b ≤ 200000) : ∃ j, j < 27 ∧ sizes_Want.f k a b = some (T j, true) ∧ 4 * a + b ≤ T j ∧ ∀ i, i < j → T i < 4 * a + b := by
  have w : wrap64 (wrap64 (4 * a) + b) = 4 * a + b := by unfold wrap64; omega
  obtain ⟨j, hj, h1, h2⟩ := fit_least (4 * a + b) (by omega)
  refine ⟨j, hj, ?_, h1, h2⟩
  unfold sizes_Want.f
  rw [if_neg (by omega), if_neg (by omega), if_neg (by omega), if_neg (by omega), w, fit_at k hk _ j hj h1 h2]
  rfl

/-- The least size of a greater number is never lesser. -/
theorem T_le {n m : Int} {i j : Nat} (hnm : n ≤ m) (hj : j < 27) (hm : m ≤ T j) (hi : ∀ l, l < i → T l < n) : T j ≥ T i := by
  by_cases e : j < i
  · have := hi j e
    omega
  · by_cases e2 : i = j
    · subst e2; omega
    · obtain ⟨d, rfl⟩ : ∃ d, j = i + d + 1 := ⟨j - i - 1, by omega⟩
      have := T_lt d i (by omega)
      omega

theorem T_sum (i : Nat) : T (i + 2) = T i + T (i + 1) := rfl

theorem SizesSums : beehivelaw9_SizesSums.Pure := by
  intro a0 a1 a2 a3 _ _ _ _
  refine ⟨70, ?_⟩
  obtain ⟨r, hr, r0, r1⟩ := low_eq a0 25 (by omega) (by omega)
  obtain ⟨l, hl, l0, l1⟩ := low_eq a1 100000 (by omega) (by omega)
  obtain ⟨n, hn, n0, n1⟩ := low_eq a2 100000 (by omega) (by omega)
  obtain ⟨m, hm, m0, m1⟩ := low_eq a3 1000 (by omega) (by omega)
  obtain ⟨i, rfl⟩ := Int.eq_ofNat_of_zero_le r0
  have w1 : wrap64 ((i : Int) + 1) = ((i + 1 : Nat) : Int) := by unfold wrap64; omega
  have w2 : wrap64 ((i : Int) + 2) = ((i + 2 : Nat) : Int) := by unfold wrap64; omega
  have w3 : wrap64 (27 + m) = 27 + m := by unfold wrap64; omega
  have w4 : wrap64 (l + m) = l + m := by unfold wrap64; omega
  have w5 : wrap64 (n + m) = n + m := by unfold wrap64; omega
  have w6 : wrap64 (wrap64 (4 * l) + n) = 4 * l + n := by unfold wrap64; omega
  obtain ⟨x, hx, x1, x2, x3⟩ := want_at 70 (by omega) l n l0 (by omega) n0 (by omega)
  obtain ⟨y, hy, y1, y2, y3⟩ := want_at 70 (by omega) (l + m) n (by omega) (by omega) n0 (by omega)
  obtain ⟨z, hz, z1, z2, z3⟩ := want_at 70 (by omega) l (n + m) l0 (by omega) (by omega) (by omega)
  have b1 := T_bound ⟨i, by omega⟩
  have b2 := T_bound ⟨i + 1, by omega⟩
  simp only at b1 b2
  have ws : wrap64 (T i + T (i + 1)) = T i + T (i + 1) := by unfold wrap64; omega
  have tx := T_le (show 4 * l + n ≤ 4 * (l + m) + n by omega) hy y2 x3
  have tz := T_le (show 4 * l + n ≤ 4 * l + (n + m) by omega) hz z2 x3
  unfold beehivelaw9_SizesSums.f
  rw [hr, hl, hn, hm]
  simp only [Option.bind_some]
  rw [w1, w2, w3, w4, w5, w6, size_in 70 (by omega) i (by omega), size_in 70 (by omega) (i + 1) (by omega), size_in 70 (by omega) (i + 2) (by omega), size_out 70 (by omega) (27 + m) (by omega), x1, y1, z1]
  simp only [Option.bind_some, if_true]
  rw [ws, if_pos (T_sum i).symm, if_neg (by decide), if_pos x2, if_pos tx, if_pos tz, awake_true]
  rfl

end Go.Proofs.Ytopopkdnjpnafaa.Pure
