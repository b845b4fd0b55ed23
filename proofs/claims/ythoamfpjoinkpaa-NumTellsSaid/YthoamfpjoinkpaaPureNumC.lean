import Derived.Test.YthoamfpjoinkpaaPureNumB
set_option linter.unusedVariables false
namespace Go.Proofs.Ythoamfpjoinkpaa.Sh
open Go Lift Go.Proofs

theorem mul_l1 (p0 p1 : Tapi_Num) (a28 : List Int) (x : Int) (i A : Nat) (hi : i < A) (h8 : A ≤ 8) (hb8 : p1.fMag.length ≤ 8) (hx0 : 0 ≤ x) (hx1 : x < 4294967296) (hb : limbs p1.fMag) : ∀ (d j : Nat) (out : List Int) (c : Int),
    j + d = p1.fMag.length → limbs out → out.length = A + p1.fMag.length → 0 ≤ c → c < 4294967296 →
    ∃ out' c', Ev (fun N => num_Mul_L1 N p0 p1 a28 i x out j c) (out', c') ∧
      limbs out' ∧ out'.length = A + p1.fMag.length ∧ 0 ≤ c' ∧ c' < 4294967296 ∧ val out' + 4294967296 ^ (i + p1.fMag.length) * c' = val out + 4294967296 ^ (i + j) * (c + x * val (p1.fMag.drop j)) ∧ ∀ m, i + p1.fMag.length ≤ m → dg out' m = dg out m := by
  intro d
  induction d with
  | zero =>
    intro j out c hd hl hlen h0 h1
    refine ⟨out, c, ?_, hl, hlen, h0, h1, ?_, fun m _ => rfl⟩
    · refine Ev.step ?_ (fun N => by rw [num_Mul_L1])
      exact Ev.neg (by omega) (Ev.now _)
    · rw [List.drop_eq_nil_of_le (by omega), show j = p1.fMag.length by omega]
      simp [val]
  | succ d ih =>
    intro j out c hd hl hlen h0 h1
    have hj : IntKind.i64.wrap ((i : Int) + (j : Int)) = ((i + j : Nat) : Int) := by rw [wrapI _ (by omega) (by omega)]; omega
    have hw2 : IntKind.i64.wrap ((j : Int) + 1) = ((j + 1 : Nat) : Int) := wrap_succ (by omega)
    have rb := dg_range hb j
    have ro := dg_range hl (i + j)
    have p0' : 0 ≤ x * dg p1.fMag j := Int.mul_nonneg hx0 rb.1
    have p1' : x * dg p1.fMag j ≤ 4294967295 * 4294967295 := Int.mul_le_mul (by omega) (by omega) rb.1 (by omega)
    have hs : IntKind.u64.wrap (c + IntKind.u64.wrap (IntKind.u64.wrap (dg out (i + j)) + IntKind.u64.wrap (IntKind.u64.wrap x * IntKind.u64.wrap (dg p1.fMag j)))) = c + (dg out (i + j) + x * dg p1.fMag j) := by
      rw [wrapU x hx0 (by omega), wrapU (dg p1.fMag j) rb.1 (by omega), wrapU (x * dg p1.fMag j) p0' (by omega), wrapU (dg out (i + j)) ro.1 (by omega), wrapU (dg out (i + j) + x * dg p1.fMag j) (by omega) (by omega), wrapU _ (by omega) (by omega)]
    have e := Int.emod_add_mul_ediv (c + (dg out (i + j) + x * dg p1.fMag j)) 4294967296
    obtain ⟨out', c', he, g1, g2, g3, g4, g5, g6⟩ := ih (j + 1) (out.set (i + j) ((c + (dg out (i + j) + x * dg p1.fMag j)) % 4294967296)) ((c + (dg out (i + j) + x * dg p1.fMag j)) / 4294967296) (by omega)
      (limbs_set hl _ (by omega) (by omega)) (by rw [List.length_set]; exact hlen) (by omega) (by omega)
    refine ⟨out', c', ?_, g1, g2, g3, g4, ?_, fun m hm => ?_⟩
    · refine Ev.step ?_ (fun N => by rw [num_Mul_L1, hj, hw2, p32u])
      refine Ev.pos (by omega) (Ev.bindc (idx_dg (by omega)) (Ev.bindc (idx_dg (by omega)) (Ev.bindc (idx_dg (by omega)) ?_)))
      rw [hs, w32, fdiv32, Int.toNat_natCast]
      exact he
    · rw [g5, val_set _ _ _ (by omega), val_drop p1.fMag j, show i + (j + 1) = (i + j) + 1 by omega, Int.pow_succ]
      generalize (c + (dg out (i + j) + x * dg p1.fMag j)) % 4294967296 = u at *
      generalize (c + (dg out (i + j) + x * dg p1.fMag j)) / 4294967296 = q at *
      grind
    · rw [g6 m hm, dg_set _ _ _ _ (by omega), if_neg (by omega)]
theorem mul_l0 (p0 p1 : Tapi_Num) (h8 : p0.fMag.length ≤ 8) (hb8 : p1.fMag.length ≤ 8) (ha : limbs p0.fMag) (hb : limbs p1.fMag) : ∀ (d i : Nat) (out : List Int),
    i + d = p0.fMag.length → limbs out → out.length = p0.fMag.length + p1.fMag.length → val out = val (p0.fMag.take i) * val p1.fMag → (∀ m, i + p1.fMag.length ≤ m → dg out m = 0) →
    ∃ r, Ev (fun N => num_Mul_L0 N p0 p1 out i) r ∧ limbs r ∧ r.length = p0.fMag.length + p1.fMag.length ∧ val r = val p0.fMag * val p1.fMag := by
  intro d
  induction d with
  | zero =>
    intro i out hd hl hlen hv hz
    refine ⟨out, ?_, hl, hlen, ?_⟩
    · refine Ev.step ?_ (fun N => by rw [num_Mul_L0])
      exact Ev.neg (by omega) (Ev.now _)
    · rw [hv, List.take_of_length_le (by omega)]
  | succ d ih =>
    intro i out hd hl hlen hv hz
    have ra := dg_range ha i
    have hw : IntKind.i64.wrap ((i : Int) + ((p1.fMag.length : Nat) : Int)) = ((i + p1.fMag.length : Nat) : Int) := by rw [wrapI _ (by omega) (by omega)]; omega
    have hw2 : IntKind.i64.wrap ((i : Int) + 1) = ((i + 1 : Nat) : Int) := wrap_succ (by omega)
    obtain ⟨out', c', he, g1, g2, g3, g4, g5, g6⟩ := mul_l1 p0 p1 out (dg p0.fMag i) i p0.fMag.length (by omega) h8 hb8 ra.1 ra.2 hb p1.fMag.length 0 out 0 (by omega) hl hlen (by omega) (by omega)
    have z : dg out' (i + p1.fMag.length) = 0 := by rw [g6 _ (Nat.le_refl _)]; exact hz _ (Nat.le_refl _)
    obtain ⟨r, e, k1, k2, k3⟩ := ih (i + 1) (out'.set (i + p1.fMag.length) c') (by omega) (limbs_set g1 _ g3 g4) (by rw [List.length_set]; exact g2) (by
      rw [val_set _ _ _ (by omega), z, Int.sub_zero, g5, hv, val_take p0.fMag i (by omega)]
      simp only [Nat.add_zero, Int.zero_add, List.drop_zero]
      grind) (by
      intro m hm
      rw [dg_set _ _ _ _ (by omega), if_neg (by omega), g6 m (by omega)]
      exact hz m (by omega))
    refine ⟨r, ?_, k1, k2, k3⟩
    refine Ev.step ?_ (fun N => by rw [num_Mul_L0, hw, hw2])
    refine Ev.pos (by omega) (Ev.bindc (idx_dg (by omega)) (Ev.bind he ?_))
    have ec : IntKind.u32.wrap c' = c' := by rw [w32]; omega
    refine Ev.bindc (idx_dg (l := out') (by omega)) ?_
    show Ev (fun N => num_Mul_L0 N p0 p1 (out'.set (Int.toNat ((i + p1.fMag.length : Nat) : Int)) (IntKind.u32.wrap c')) ((i + 1 : Nat) : Int)) r
    rw [ec, Int.toNat_natCast]
    exact e
theorem Ev.eta {α β : Type} (v : α × β) : Ev (fun _ => some (v.1, v.2)) v := Ev.now v
theorem mul_ev (x y : Int) (hx : (x.natAbs : Int) < TOP) (hy : (y.natAbs : Int) < TOP) : Ev (fun N => num_Mul N (numN x) (numN y)) (res (x * y)) := by
  have lx := num_len x hx
  have ly := num_len y hy
  have vx := num_val x
  have vy := num_val y
  have hw : IntKind.i64.wrap ((((numN x).fMag.length : Nat) : Int) + (((numN y).fMag.length : Nat) : Int)) = (((numN x).fMag.length + (numN y).fMag.length : Nat) : Int) := by rw [wrapI _ (by omega) (by omega)]; omega
  obtain ⟨r, e, k1, k2, k3⟩ := mul_l0 (numN x) (numN y) lx ly (num_limbs x) (num_limbs y) (numN x).fMag.length 0 (List.replicate ((numN x).fMag.length + (numN y).fMag.length) 0) (by omega)
    (limbs_zeros _) (by simp) (by rw [val_zeros]; simp [val]) (fun m _ => dg_zeros _ _)
  refine Ev.bind (may_ev x hx) (Ev.neg (by simp) (Ev.bind (may_ev y hy) (Ev.neg (by simp) ?_)))
  show Ev (fun N => (mk (0 : Int) (IntKind.wrap .i64 ((((numN x).fMag.length : Nat) : Int) + (((numN y).fMag.length : Nat) : Int)))).bind fun x5 => (num_Mul_L0 N (numN x) (numN y) x5 (0 : Int)).bind fun r14 => (num_made N ((numN x).fNeg != (numN y).fNeg) r14).bind fun r15 => some (r15.1, r15.2)) _
  rw [hw]
  refine Ev.bindc (mk_eq (by omega)) (Ev.bind e (Ev.bind (made_ev _ r k1 (by omega)) ?_))
  rw [k3, vx, vy]
  have em : madeV ((numN x).fNeg != (numN y).fNeg) ((x.natAbs : Int) * (y.natAbs : Int)) = res (x * y) := by
    refine madeV_res _ _ (Int.mul_nonneg (by omega) (by omega)) _ ?_
    have ex : x = if x < 0 then -(x.natAbs : Int) else (x.natAbs : Int) := by split <;> omega
    have ey : y = if y < 0 then -(y.natAbs : Int) else (y.natAbs : Int) := by split <;> omega
    have c : ∀ (p q : Int), x = p → y = q → x * y = p * q := fun p q hp hq => by rw [hp, hq]
    unfold numN
    by_cases sx : x < 0
    · by_cases sy : y < 0
      · rw [if_pos sx] at ex; rw [if_pos sy] at ey
        rw [c _ _ ex ey, decide_eq_true sx, decide_eq_true sy]
        simp [Int.neg_mul, Int.mul_neg]
      · rw [if_pos sx] at ex; rw [if_neg sy] at ey
        rw [c _ _ ex ey, decide_eq_true sx, decide_eq_false sy]
        simp [Int.neg_mul, Int.mul_neg]
    · by_cases sy : y < 0
      · rw [if_neg sx] at ex; rw [if_pos sy] at ey
        rw [c _ _ ex ey, decide_eq_false sx, decide_eq_true sy]
        simp [Int.neg_mul, Int.mul_neg]
      · rw [if_neg sx] at ex; rw [if_neg sy] at ey
        rw [c _ _ ex ey, decide_eq_false sx, decide_eq_false sy]
        simp [Int.neg_mul, Int.mul_neg]
  rw [em]
  exact Ev.eta _
theorem add_ev (x y : Int) (hx : (x.natAbs : Int) < TOP) (hy : (y.natAbs : Int) < TOP) : Ev (fun N => num_Add N (numN x) (numN y)) (res (x + y)) := by
  have lx := num_len x hx
  have ly := num_len y hy
  have vx := num_val x
  have vy := num_val y
  have bx := num_limbs x
  have by_ := num_limbs y
  have nx := num_norm x
  have ny := num_norm y
  have s1 : (numN x).fNeg = decide (x < 0) := rfl
  have s2 : (numN y).fNeg = decide (y < 0) := rfl
  refine Ev.bind (may_ev x hx) (Ev.neg (by simp) (Ev.bind (may_ev y hy) (Ev.neg (by simp) ?_)))
  by_cases hs : (numN x).fNeg = (numN y).fNeg
  · obtain ⟨r, e, hr, hl, hv⟩ := plus_ev (numN x).fMag (numN y).fMag bx by_ (by omega) (by omega)
    refine Ev.pos hs (Ev.bind e (Ev.bind (made_ev _ r hr (by omega)) ?_))
    have em : madeV (numN x).fNeg (val r) = res (x + y) := by
      rw [hv, vx, vy]
      refine madeV_res _ _ (by omega) _ ?_
      rw [s1, s2] at hs
      rw [s1]
      by_cases sx : x < 0
      · by_cases sy : y < 0
        · simp [sx]; omega
        · simp [sx, sy] at hs
      · by_cases sy : y < 0
        · simp [sx, sy] at hs
        · simp [sx]; omega
    rw [em]
    exact Ev.eta _
  · refine Ev.neg hs (Ev.bind (cmpMag_ev _ _ nx ny (by omega) (by omega)) ?_)
    rw [s1, s2] at hs
    rw [vx, vy]
    by_cases hge : (y.natAbs : Int) ≤ (x.natAbs : Int)
    · have c : sgn ((x.natAbs : Int) - (y.natAbs : Int)) ≥ 0 := by unfold sgn; split <;> (try split) <;> omega
      have hlen : (numN y).fMag.length ≤ (numN x).fMag.length := by
        rw [norm_len ny, vy]
        have := val_lt bx
        rw [vx] at this
        omega
      obtain ⟨r, e, hr, hl, hv⟩ := minus_ev (numN x).fMag (numN y).fMag bx by_ (by omega) hlen (by omega)
      refine Ev.pos c (Ev.bind e (Ev.bind (made_ev _ r hr (by omega)) ?_))
      have em : madeV (numN x).fNeg (val r) = res (x + y) := by
        rw [hv, vx, vy]
        refine madeV_res _ _ (by omega) _ ?_
        rw [s1]
        by_cases sx : x < 0
        · by_cases sy : y < 0
          · simp [sx, sy] at hs
          · simp [sx]; omega
        · by_cases sy : y < 0
          · simp [sx]; omega
          · simp [sx, sy] at hs
      rw [em]
      exact Ev.eta _
    · have c : ¬ sgn ((x.natAbs : Int) - (y.natAbs : Int)) ≥ 0 := by rw [sgn_neg (by omega)]; omega
      have hlen : (numN x).fMag.length ≤ (numN y).fMag.length := by
        rw [norm_len nx, vx]
        have := val_lt by_
        rw [vy] at this
        omega
      obtain ⟨r, e, hr, hl, hv⟩ := minus_ev (numN y).fMag (numN x).fMag by_ bx (by omega) hlen (by omega)
      refine Ev.neg c (Ev.bind e (Ev.bind (made_ev _ r hr (by omega)) ?_))
      have em : madeV (numN y).fNeg (val r) = res (x + y) := by
        rw [hv, vx, vy]
        refine madeV_res _ _ (by omega) _ ?_
        rw [s2]
        by_cases sx : x < 0
        · by_cases sy : y < 0
          · simp [sx, sy] at hs
          · simp [sy]; omega
        · by_cases sy : y < 0
          · simp [sy]; omega
          · simp [sx, sy] at hs
      rw [em]
      exact Ev.eta _
theorem same_loop : ∀ (ts : List Int) (a b : List Int) (i : Nat), a.drop i = ts → a.length = b.length → a.length ≤ maxLen → Ev (fun N => beehivelaw0_SameLimbs_L0 N a b i) (if b.drop i = ts then .inl () else .inr ())
  | [], a, b, i, hd, hl, hm => by
    have := drop_end hd
    have hb : b.drop i = [] := List.drop_eq_nil_of_le (by omega)
    rw [if_pos hb]
    refine Ev.step ?_ (fun N => by rw [beehivelaw0_SameLimbs_L0])
    exact Ev.neg (by omega) (Ev.now _)
  | x :: xs, a, b, i, hd, hl, hm => by
    have hlen := drop_len hd
    rw [maxLen_eq] at hm
    have hib : i < b.length := by omega
    have hb : b.drop i = b[i] :: b.drop (i + 1) := List.drop_eq_getElem_cons hib
    refine Ev.step ?_ (fun N => by rw [beehivelaw0_SameLimbs_L0])
    refine Ev.pos (by omega) (Ev.bindc (idx_at hd) (Ev.bindc (idx_at hb) ?_))
    rw [hb]
    by_cases hx : x = b[i]
    · refine Ev.neg (by simpa using hx) ?_
      rw [wrap_succ (by omega)]
      have := same_loop xs a b (i + 1) (drop_next hd) hl (by rw [maxLen_eq]; omega)
      have e : (b[i] :: b.drop (i + 1) = x :: xs) = (b.drop (i + 1) = xs) := by rw [hx, List.cons.injEq]; simp
      simp only [e]
      exact this
    · refine Ev.pos hx ?_
      rw [if_neg (fun h => hx (List.cons.inj h).1.symm)]
      exact Ev.now _
theorem sameLimbs_ev (a b : List Int) (hm : a.length ≤ maxLen) : Ev (fun N => beehivelaw0_SameLimbs N a b) (decide (a = b)) := by
  by_cases hl : a.length = b.length
  · refine Ev.neg (by omega) ?_
    have hq := same_loop a a b 0 rfl hl hm
    rw [List.drop_zero] at hq
    refine Ev.bind hq ?_
    by_cases h : b = a
    · rw [if_pos h, decide_eq_true h.symm]; exact Ev.now _
    · rw [if_neg h, decide_eq_false (fun e => h e.symm)]; exact Ev.now _
  · rw [decide_eq_false (fun e => hl (by rw [e]))]
    exact Ev.pos (by omega) (Ev.now _)
def sameN (a b : Tapi_Num) : Bool := decide (a.fNeg = b.fNeg) && decide (a.fMag = b.fMag)
theorem sameN_iff {a b : Tapi_Num} : sameN a b = true ↔ a = b := by
  obtain ⟨s, a⟩ := a
  obtain ⟨t, b⟩ := b
  simp [sameN]
theorem sameNum_ev (a b : Tapi_Num) (hm : a.fMag.length ≤ maxLen) : Ev (fun N => beehivelaw0_SameNum N a b) (sameN a b) := by
  by_cases h : a.fNeg = b.fNeg
  · refine Ev.pos h (Ev.bind (sameLimbs_ev a.fMag b.fMag hm) ?_)
    unfold sameN
    rw [decide_eq_true h]
    exact Ev.now _
  · unfold sameN
    rw [decide_eq_false h]
    exact Ev.neg h (Ev.now _)
theorem same_self {a b : Tapi_Num} (h : a = b) (hm : a.fMag.length ≤ maxLen) : Ev (fun N => beehivelaw0_SameNum N a b) true := by
  have := sameNum_ev a b hm
  rwa [sameN_iff.2 h] at this
theorem num_maxLen (x : Int) (h : (x.natAbs : Int) < TOP) : (numN x).fMag.length ≤ maxLen := by
  have := num_len x h
  rw [maxLen_eq]; omega
end Go.Proofs.Ythoamfpjoinkpaa.Sh
