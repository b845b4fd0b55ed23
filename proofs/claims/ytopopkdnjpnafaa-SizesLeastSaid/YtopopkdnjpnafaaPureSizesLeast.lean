/- What fits is a size of the table, and the least that is so; the next size is less than twice as great. No conditions. -/
import Derived.Test.YtopopkdnjpnafaaPSizesLeastx1
namespace Go.Proofs.Ytopopkdnjpnafaa.Pure
open Go.RowKit Go.Proofs.Ytopopkdnjpnafaa.PSizesLeast Go.Proofs.YtopopkdnjpnafaaW.PrintWords Go.Proofs.YtopopkdnjpnafaaW.PrintLast

theorem wrapU (x : Int) : IntKind.u64.wrap x = x % 18446744073709551616 := by
  simp [IntKind.wrap, IntKind.bits, IntKind.signed]

theorem low_eq (x n : Int) (h0 : 0 < n) (h1 : n ≤ 4611686018427387904) : ∃ r, beehivelaw0_Low.f x n = some r ∧ 0 ≤ r ∧ r < n := by
  have hn : IntKind.u64.wrap n = n := by rw [wrapU]; omega
  have hx : 0 ≤ IntKind.u64.wrap x := by rw [wrapU]; omega
  unfold beehivelaw0_Low.f
  rw [hn, if_neg (by omega), Int.tmod_eq_emod_of_nonneg hx]
  have a := Int.emod_nonneg (IntKind.u64.wrap x) (show n ≠ 0 by omega)
  have b := Int.emod_lt_of_pos (IntKind.u64.wrap x) h0
  refine ⟨_, rfl, ?_⟩
  unfold wrap64
  omega

/-- The table: each but the first two is the two ahead of it together. -/
def T : Nat → Int
  | 0 => 12
  | 1 => 20
  | n + 2 => T n + T (n + 1)

theorem size_tab : ∀ n : Fin 27, sizes_Size.f 30 ((n.1 : Nat) : Int) = some (T n.1, true) := by decide +kernel

theorem size_in (k : Nat) (hk : 30 ≤ k) (n : Nat) (hn : n < 27) : sizes_Size.f k (n : Int) = some (T n, true) :=
  at_rounds (fun j => sizes_Size.mono _ j) hk (size_tab ⟨n, hn⟩)

theorem size_out (k : Nat) (hk : 30 ≤ k) (a : Int) (h : a > 26) : sizes_Size.f k a = some (0, false) := by
  obtain ⟨m, rfl⟩ : ∃ m, k = m + 1 := ⟨k - 1, by omega⟩
  unfold sizes_Size.f
  rw [if_neg (by omega), decide_eq_true h]
  simp only [sizes_Size.j0, if_true]

theorem T_step : ∀ n : Fin 26, T n.1 < T (n.1 + 1) ∧ T (n.1 + 1) < 2 * T n.1 := by decide +kernel

theorem T_bound : ∀ n : Fin 28, 12 ≤ T n.1 ∧ T n.1 ≤ 10000000 := by decide +kernel

theorem T_lt (d : Nat) : ∀ i, i + d + 1 ≤ 26 → T i < T (i + d + 1) := by
  induction d with
  | zero => intro i h; exact (T_step ⟨i, by omega⟩).1
  | succ d ih =>
    intro i h
    have a := ih i (by omega)
    have b := (T_step ⟨i + d + 1, by omega⟩).1
    exact Int.lt_trans a b

theorem fit_l0 (n : Int) (j : Nat) (hj : j < 27) (hn : n ≤ T j) (hlt : ∀ i, i < j → T i < n) : ∀ (d k i : Nat), i + d = j → d + 31 < k → sizes_Fit.l0 k n (i : Int) = some (T j, true) := by
  intro d
  induction d with
  | zero =>
    intro k i hd hk
    obtain ⟨m, rfl⟩ : ∃ m, k = m + 1 := ⟨k - 1, by omega⟩
    obtain rfl : i = j := by omega
    simp only [sizes_Fit.l0]
    rw [if_pos (by omega), size_in m (by omega) i hj]
    simp only [Option.bind_some]
    rw [if_pos hn]
  | succ d ih =>
    intro k i hd hk
    obtain ⟨m, rfl⟩ : ∃ m, k = m + 1 := ⟨k - 1, by omega⟩
    have hw : wrap64 ((i : Int) + 1) = ((i + 1 : Nat) : Int) := by unfold wrap64; omega
    have hi := hlt i (by omega)
    simp only [sizes_Fit.l0]
    rw [if_pos (by omega), size_in m (by omega) i (by omega)]
    simp only [Option.bind_some]
    rw [if_neg (by omega), hw]
    exact ih m (i + 1) (by omega) (by omega)

theorem fit_at (k : Nat) (hk : 70 ≤ k) (n : Int) (j : Nat) (hj : j < 27) (hn : n ≤ T j) (hlt : ∀ i, i < j → T i < n) : sizes_Fit.f k n = some (T j, true) :=
  fit_l0 n j hj hn hlt j k 0 (by omega) (by omega)

theorem awake_true : beehivelaw9_awake.f 70 = some true := by decide +kernel

theorem SizesLeast : beehivelaw9_SizesLeast.Pure := by
  intro a0 a1 _ _
  refine ⟨71, ?_⟩
  obtain ⟨r, hr, r0, r1⟩ := low_eq a0 26 (by omega) (by omega)
  obtain ⟨i, rfl⟩ := Int.eq_ofNat_of_zero_le r0
  have hw : wrap64 ((i : Int) + 1) = ((i + 1 : Nat) : Int) := by unfold wrap64; omega
  obtain ⟨s1, s2⟩ := T_step ⟨i, by omega⟩
  have b1 := T_bound ⟨i, by omega⟩
  have b2 := T_bound ⟨i + 1, by omega⟩
  simp only at s1 s2 b1 b2
  have w2 : wrap64 (2 * T i) = 2 * T i := by unfold wrap64; omega
  unfold beehivelaw9_SizesLeast.f
  rw [hr]
  simp only [Option.bind_some]
  rw [hw, size_in 71 (by omega) i (by omega), size_in 71 (by omega) (i + 1) (by omega)]
  simp only [Option.bind_some, if_true]
  rw [if_neg (by omega), w2, decide_eq_false (by omega)]
  have wd : wrap64 (T (i + 1) - T i) = T (i + 1) - T i := by unfold wrap64; omega
  obtain ⟨q, hq, q0, q1⟩ := low_eq a1 (T (i + 1) - T i) (by omega) (by omega)
  have wn : wrap64 (wrap64 (T i + 1) + q) = T i + 1 + q := by unfold wrap64; omega
  simp only [beehivelaw9_SizesLeast.j0]
  rw [if_neg (by decide), wd, hq]
  simp only [Option.bind_some]
  have below : ∀ j m : Nat, m < j → j ≤ 26 → T m < T j := by
    intro j m h1 h2
    obtain ⟨d, rfl⟩ : ∃ d, j = m + d + 1 := ⟨j - m - 1, by omega⟩
    exact T_lt d m h2
  rw [wn, fit_at 70 (by omega) (T i + 1 + q) (i + 1) (by omega) (by omega) (fun m hm => by
      by_cases e : m = i
      · subst e; omega
      · have := below i m (by omega) (by omega); omega),
    fit_at 70 (by omega) (T i) i (by omega) (by omega) (fun m hm => below i m hm (by omega))]
  simp only [Option.bind_some, if_true]
  rw [awake_true]
  rfl

end Go.Proofs.Ytopopkdnjpnafaa.Pure
