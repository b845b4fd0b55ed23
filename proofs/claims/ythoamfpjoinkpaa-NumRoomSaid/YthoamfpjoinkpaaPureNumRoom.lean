import Derived.Test.YthoamfpjoinkpaaPureNumRing
set_option linter.unusedVariables false
namespace Go.Proofs.Ythoamfpjoinkpaa.Sh
open Go Lift Go.Proofs
theorem lowE (x n : Int) (hx : InR .i64 x) (h0 : 0 < n) (h1 : n < 9223372036854775808) : ∃ r, Ev (fun N => beehivelaw0_Low N x n) r ∧ 0 ≤ r ∧ r < n ∧ r = IntKind.u64.wrap x % n := by
  have hu := wrapU_eq x
  have e1 : IntKind.u64.wrap n = n := wrapU n (by omega) (by omega)
  have hp : 0 ≤ IntKind.u64.wrap x := by omega
  have e2 : (IntKind.u64.wrap x).tmod n = IntKind.u64.wrap x % n := Int.tmod_eq_emod_of_nonneg hp
  have b0 := Int.emod_nonneg (IntKind.u64.wrap x) (show n ≠ 0 by omega)
  have b1 := Int.emod_lt_of_pos (IntKind.u64.wrap x) h0
  refine ⟨IntKind.u64.wrap x % n, ?_, b0, b1, rfl⟩
  refine Ev.bindc (a := IntKind.u64.wrap x % n) (by rw [e1, rem_eq (by omega), e2]) ?_
  have e3 : IntKind.i64.wrap (IntKind.u64.wrap x % n) = IntKind.u64.wrap x % n := wrapI _ (by omega) (by omega)
  show Ev (fun _ => some (IntKind.i64.wrap (IntKind.u64.wrap x % n))) _
  rw [e3]
  exact Ev.now _
theorem room_l0 (r1 r2 : Int) : ∀ (n : Nat), n ≤ 100000 → ∀ v : Nat, v ≤ 100000 → ∃ L : Nat, Ev (fun N => beehivelaw1_NumRoom_L0 N r1 r2 v n) ((v + L : Nat) : Int) ∧ n < 2 ^ L ∧ (0 < n → 0 < L ∧ 2 ^ (L - 1) ≤ n) ∧ L ≤ n := by
  intro n
  induction n using Nat.strongRecOn with
  | _ n ih =>
  intro hn v hv
  by_cases h : n = 0
  · subst h
    refine ⟨0, ?_, by decide, fun h => by omega, by omega⟩
    refine Ev.step ?_ (fun N => by rw [beehivelaw1_NumRoom_L0])
    exact Ev.neg (by omega) (Ev.now _)
  · have hd : IntKind.i64.wrap (Int.tdiv (n : Int) 2) = ((n / 2 : Nat) : Int) := by
      rw [Int.tdiv_eq_ediv_of_nonneg (by omega), wrapI _ (by omega) (by omega)]; omega
    by_cases hv2 : v = 100000
    · -- one step more is still in range
      obtain ⟨L, e, h1, h2, h3⟩ : ∃ L : Nat, Ev (fun N => beehivelaw1_NumRoom_L0 N r1 r2 ((v + 1 : Nat) : Int) ((n / 2 : Nat) : Int)) ((v + 1 + L : Nat) : Int) ∧ n / 2 < 2 ^ L ∧ (0 < n / 2 → 0 < L ∧ 2 ^ (L - 1) ≤ n / 2) ∧ L ≤ n / 2 := by
        clear hd
        have key : ∀ (m : Nat), m ≤ 100000 → ∀ w : Nat, w ≤ 100000 + 100000 - m → ∃ L : Nat, Ev (fun N => beehivelaw1_NumRoom_L0 N r1 r2 w m) ((w + L : Nat) : Int) ∧ m < 2 ^ L ∧ (0 < m → 0 < L ∧ 2 ^ (L - 1) ≤ m) ∧ L ≤ m := by
          intro m
          induction m using Nat.strongRecOn with
          | _ m ihm =>
          intro hm w hw
          by_cases h : m = 0
          · subst h
            refine ⟨0, ?_, by decide, fun h => by omega, by omega⟩
            refine Ev.step ?_ (fun N => by rw [beehivelaw1_NumRoom_L0])
            exact Ev.neg (by omega) (Ev.now _)
          · have hd : IntKind.i64.wrap (Int.tdiv (m : Int) 2) = ((m / 2 : Nat) : Int) := by
              rw [Int.tdiv_eq_ediv_of_nonneg (by omega), wrapI _ (by omega) (by omega)]; omega
            obtain ⟨L, e, h1, h2, h3⟩ := ihm (m / 2) (by omega) (by omega) (w + 1) (by omega)
            refine ⟨L + 1, ?_, by rw [Nat.pow_succ]; omega, fun _ => ⟨by omega, ?_⟩, by omega⟩
            · refine Ev.step ?_ (fun N => by rw [beehivelaw1_NumRoom_L0, wrap_succ (by omega), hd])
              refine Ev.pos (by omega) ?_
              rw [show w + (L + 1) = w + 1 + L by omega]
              exact e
            · rw [Nat.add_sub_cancel]
              by_cases hm2 : 0 < m / 2
              · obtain ⟨l1, l2⟩ := h2 hm2
                obtain ⟨k, rfl⟩ : ∃ k, L = k + 1 := ⟨L - 1, by omega⟩
                rw [Nat.add_sub_cancel] at l2
                rw [Nat.pow_succ]; omega
              · have : m = 1 := by omega
                have : L = 0 := by omega
                subst this; simp; omega
        exact key (n / 2) (by omega) (v + 1) (by omega)
      refine ⟨L + 1, ?_, by rw [Nat.pow_succ]; omega, fun _ => ⟨by omega, ?_⟩, by omega⟩
      · refine Ev.step ?_ (fun N => by rw [beehivelaw1_NumRoom_L0, wrap_succ (by omega), hd])
        refine Ev.pos (by omega) ?_
        rw [show v + (L + 1) = v + 1 + L by omega]
        exact e
      · rw [Nat.add_sub_cancel]
        by_cases hm2 : 0 < n / 2
        · obtain ⟨l1, l2⟩ := h2 hm2
          obtain ⟨k, rfl⟩ : ∃ k, L = k + 1 := ⟨L - 1, by omega⟩
          rw [Nat.add_sub_cancel] at l2
          rw [Nat.pow_succ]; omega
        · have : L = 0 := by omega
          subst this; simp; omega
    · obtain ⟨L, e, h1, h2, h3⟩ := ih (n / 2) (by omega) (by omega) (v + 1) (by omega)
      refine ⟨L + 1, ?_, by rw [Nat.pow_succ]; omega, fun _ => ⟨by omega, ?_⟩, by omega⟩
      · refine Ev.step ?_ (fun N => by rw [beehivelaw1_NumRoom_L0, wrap_succ (by omega), hd])
        refine Ev.pos (by omega) ?_
        rw [show v + (L + 1) = v + 1 + L by omega]
        exact e
      · rw [Nat.add_sub_cancel]
        by_cases hm2 : 0 < n / 2
        · obtain ⟨l1, l2⟩ := h2 hm2
          obtain ⟨k, rfl⟩ : ∃ k, L = k + 1 := ⟨L - 1, by omega⟩
          rw [Nat.add_sub_cancel] at l2
          rw [Nat.pow_succ]; omega
        · have : L = 0 := by omega
          subst this; simp; omega
def dbl (n : Int) (i : Nat) : Int := n * 2 ^ i
theorem dbl_succ (n : Int) (i : Nat) : dbl n (i + 1) = dbl n i + dbl n i := by unfold dbl; rw [Int.pow_succ]; grind
theorem dbl_mono (n : Int) (h : 0 ≤ n) {i j : Nat} (hij : i ≤ j) : dbl n i ≤ dbl n j := by
  obtain ⟨d, rfl⟩ : ∃ d, j = i + d := ⟨j - i, by omega⟩
  clear hij
  induction d with
  | zero => exact Int.le_refl _
  | succ d ih =>
    have p : 0 ≤ dbl n (i + d) := Int.mul_nonneg h (Int.pow_nonneg (by decide))
    rw [← Nat.add_assoc, dbl_succ]
    omega
theorem room_l1 (r4 n : Int) (hn : 0 < n) (many : Nat) (hm : many < 1000) : ∀ (d i : Nat), many - i = d → i ≤ many → dbl n i < TOP →
    ∃ o : Bool × List Int × Bool, Ev (fun N => beehivelaw1_NumRoom_L1 N many r4 (numN (dbl n i)).fNeg (numN (dbl n i)).fMag true i) (.inl o) ∧ o = if dbl n many < TOP then ((numN (dbl n many)).fNeg, (numN (dbl n many)).fMag, true) else (false, [], false) := by
  intro d
  induction d with
  | zero =>
    intro i hd hi ht
    obtain rfl : i = many := by omega
    refine ⟨((numN (dbl n i)).fNeg, (numN (dbl n i)).fMag, true), ?_, by rw [if_pos ht]⟩
    refine Ev.step ?_ (fun N => by rw [beehivelaw1_NumRoom_L1])
    exact Ev.neg (by omega) (Ev.now _)
  | succ d ih =>
    intro i hd hi ht
    have hp : 0 < dbl n i := Int.mul_pos hn (Int.pow_pos (by decide))
    have hw : IntKind.i64.wrap ((i : Int) + 1) = ((i + 1 : Nat) : Int) := wrap_succ (by omega)
    have ab : ((dbl n i).natAbs : Int) < TOP := by omega
    have m2 := mul_ev (dbl n i) 2 ab (by decide)
    have a2 := add_ev (dbl n i) (dbl n i) ab ab
    rw [show dbl n i * 2 = dbl n i + dbl n i by omega, ← dbl_succ] at m2
    rw [← dbl_succ] at a2
    by_cases hb : dbl n (i + 1) < TOP
    · obtain ⟨o, e, ho⟩ := ih (i + 1) (by omega) (by omega) hb
      have hp2 : 0 < dbl n (i + 1) := Int.mul_pos hn (Int.pow_pos (by decide))
      rw [res_ok (by omega)] at m2 a2
      refine ⟨o, ?_, ho⟩
      refine Ev.step ?_ (fun N => by rw [beehivelaw1_NumRoom_L1, hw])
      refine Ev.pos (by omega) (Ev.pos rfl (Ev.bind (Of_ev 2 (by omega) (by omega)) (Ev.bind m2 (Ev.bind a2 (Ev.neg (by simp) (Ev.bind (same_self rfl (num_maxLen _ (by omega))) (Ev.neg (by simp) e)))))))
    · have hr : res (dbl n (i + 1)) = (⟨false, []⟩, false) := by unfold res; rw [if_neg (by omega)]
      have hmany : ¬ dbl n many < TOP := by have := dbl_mono n (by omega) (show i + 1 ≤ many by omega); omega
      rw [hr] at m2 a2
      refine ⟨(false, [], false), ?_, by rw [if_neg hmany]⟩
      refine Ev.step ?_ (fun N => by rw [beehivelaw1_NumRoom_L1, hw])
      refine Ev.pos (by omega) (Ev.pos rfl (Ev.bind (Of_ev 2 (by omega) (by omega)) (Ev.bind m2 (Ev.bind a2 (Ev.neg (by simp) (Ev.bind (same_self rfl (by simp)) (Ev.neg (by simp) ?_)))))))
      refine Ev.step ?_ (fun N => by rw [beehivelaw1_NumRoom_L1])
      by_cases c : ((i + 1 : Nat) : Int) < (many : Int)
      · exact Ev.pos c (Ev.neg (by simp) (Ev.now _))
      · exact Ev.neg c (Ev.now _)
theorem pow2_32 (k : Nat) : (4294967296 : Int) ^ k = 2 ^ (32 * k) := by
  rw [Int.pow_mul]; rfl
theorem pow2_le {m n : Nat} (h : m ≤ n) : (2 : Int) ^ m ≤ 2 ^ n := by
  obtain ⟨d, rfl⟩ : ∃ d, n = m + d := ⟨n - m, by omega⟩
  rw [Int.pow_add]
  have a : (0 : Int) < 2 ^ m := Int.pow_pos (by decide)
  have b : (0 : Int) < 2 ^ d := Int.pow_pos (by decide)
  have c : (2 : Int) ^ m * 1 ≤ 2 ^ m * 2 ^ d := Int.mul_le_mul_of_nonneg_left (by omega) (by omega)
  omega
namespace Pure
theorem NumRoom (x0 : Int) (x1 : Int) (w0 : (InR .i64) x0) (w1 : (InR .i64) x1) : ∃ N, beehivelaw1_NumRoom N x0 x1 = some true := by
  refine Ev.ex (f := fun N => beehivelaw1_NumRoom N x0 x1) ?_
  have haw : Ev (fun N => (beehivelaw1_awake N).bind fun r3 => some r3) true := Ev.bind awake_ev (Ev.now _)
  obtain ⟨r1, hr1, b0, b1, _⟩ := lowE x0 1000 w0 (by omega) (by omega)
  obtain ⟨r2, hr2, b2, b3, _⟩ := lowE x1 300 w1 (by omega) (by omega)
  obtain ⟨many, rfl⟩ : ∃ k : Nat, r2 = (k : Int) := ⟨r2.toNat, by omega⟩
  obtain ⟨n, rfl⟩ : ∃ m : Nat, r1 = (m : Int) - 1 := ⟨(r1 + 1).toNat, by omega⟩
  have e1 : IntKind.i64.wrap ((1 : Int) + ((n : Int) - 1)) = n := by rw [wrapI _ (by omega) (by omega)]; omega
  obtain ⟨L, h1, h2, h3, h4⟩ := room_l0 ((n : Int) - 1) many n (by omega) many (by omega)
  obtain ⟨h5, h6⟩ := h3 (by omega)
  have t := big_top
  have d0 : dbl (n : Int) 0 = n := by unfold dbl; simp
  obtain ⟨o, h7, h8⟩ := room_l1 ((many + L : Nat) : Int) n (by omega) many (by omega) many 0 rfl (by omega) (by rw [d0]; omega)
  rw [d0] at h7
  refine Ev.bind hr1 (Ev.bind hr2 ?_)
  show Ev (fun N => (beehivelaw1_NumRoom_L0 N ((n : Int) - 1) (many : Int) (many : Int) (IntKind.wrap .i64 ((1 : Int) + ((n : Int) - 1)))).bind fun r4 => (num_Of N (IntKind.wrap .i64 ((1 : Int) + ((n : Int) - 1)))).bind fun r5 => (beehivelaw1_NumRoom_L1 N (many : Int) r4 r5.fNeg r5.fMag true (0 : Int)).bind fun r16 => _) true
  rw [e1]
  refine Ev.bind h1 (Ev.bind (Of_ev n (by omega) (by omega)) (Ev.bind h7 ?_))
  have lo : (2 : Int) ^ (many + L - 1) ≤ dbl n many := by
    unfold dbl
    rw [show many + L - 1 = (L - 1) + many by omega, Int.pow_add]
    have : (2 : Int) ^ (L - 1) ≤ (n : Int) := by exact_mod_cast h6
    exact Int.mul_le_mul_of_nonneg_right this (Int.pow_nonneg (by decide))
  have hi : dbl n many < (2 : Int) ^ (many + L) := by
    unfold dbl
    rw [Nat.add_comm many L, Int.pow_add]
    have : (n : Int) < (2 : Int) ^ L := by exact_mod_cast h2
    exact Int.mul_lt_mul_of_pos_right this (Int.pow_pos (by decide))
  have top : TOP = (2 : Int) ^ 256 := by decide +kernel
  have dp : 0 < dbl n many := Int.mul_pos (by omega) (Int.pow_pos (by decide))
  have hL : L ≤ 1000 := by omega
  by_cases hbig : ((many + L : Nat) : Int) > 256
  · have : ¬ dbl n many < TOP := by
      rw [top]
      have := pow2_le (show 256 ≤ many + L - 1 by omega)
      omega
    rw [if_neg this] at h8
    subst h8
    exact Ev.pos hbig (Ev.pos (by simp) (Ev.pos rfl haw))
  · have ht : dbl n many < TOP := by
      rw [top]
      have := pow2_le (show many + L ≤ 256 by omega)
      omega
    rw [if_pos ht] at h8
    subst h8
    refine Ev.neg hbig (Ev.pos rfl (Ev.pos ?_ haw))
    have hv := num_val (dbl n many)
    have hnn := num_norm (dbl n many)
    have len : (numN (dbl n many)).fMag.length = (many + L + 31) / 32 := by
      have up := (norm_len hnn ((many + L + 31) / 32)).2 (by
        rw [hv, pow2_32]
        have := pow2_le (show many + L ≤ 32 * ((many + L + 31) / 32) by omega)
        omega)
      have dn : ¬ (numN (dbl n many)).fMag.length ≤ (many + L + 31) / 32 - 1 := fun h => by
        have := (norm_len hnn _).1 h
        rw [hv, pow2_32] at this
        have q := pow2_le (show 32 * ((many + L + 31) / 32 - 1) ≤ many + L - 1 by omega)
        omega
      omega
    have e2 : IntKind.i64.wrap (((many + L : Nat) : Int) + 31) = ((many + L + 31 : Nat) : Int) := by rw [wrapI _ (by omega) (by omega)]; omega
    show (((numN (dbl n many)).fMag.length : Nat) : Int) = IntKind.i64.wrap (Int.tdiv (IntKind.i64.wrap (((many + L : Nat) : Int) + 31)) 32)
    rw [e2, Int.tdiv_eq_ediv_of_nonneg (by omega), wrapI _ (by omega) (by omega), len]
    omega
end Pure
end Go.Proofs.Ythoamfpjoinkpaa.Sh
