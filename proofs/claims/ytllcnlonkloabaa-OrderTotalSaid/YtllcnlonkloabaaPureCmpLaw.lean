import Derived.Test.YtllcnlonkloabaaPureCmp
set_option linter.unusedVariables false
set_option linter.unusedSimpArgs false
namespace Go.Proofs.Ytllcnlonkloabaa.Sh
open Go Lift Go.Proofs
/-! ### One order, that goes along -/
def lex (p q : Int) : Int := if p ≠ 0 then p else q
def B3 (p : Int) : Prop := p = 0 ∨ p = -1 ∨ p = 1
theorem lex_b3 {p q : Int} (h1 : B3 p) (h2 : B3 q) : B3 (lex p q) := by unfold lex; split <;> assumption
theorem lex_neg (p q : Int) : lex (-p) (-q) = -(lex p q) := by unfold lex; split <;> split <;> omega
theorem sgn_tr (x y z : Int) : Tr (sgn (x - y)) (sgn (y - z)) (sgn (x - z)) := by
  unfold sgn
  refine ⟨?_, ?_, ?_, ?_⟩ <;> (repeat' split) <;> omega
theorem lex_tr {p q r p' q' r' : Int} (h1 : Tr p q r) (b1 : B3 p) (b2 : B3 q) (b3 : B3 r) (h2 : p = 0 → q = 0 → Tr p' q' r') : Tr (lex p p') (lex q q') (lex r r') := by
  obtain ⟨z1, z2, lo, hi⟩ := h1
  unfold B3 at b1 b2 b3
  unfold lex
  by_cases hp : p = 0
  · by_cases hq : q = 0
    · have hr : r = 0 := by rw [z1 hp, hq]
      rw [if_neg (by simpa using hp), if_neg (by simpa using hq), if_neg (by simpa using hr)]
      exact h2 hp hq
    · have hr := z1 hp
      rw [if_neg (by simpa using hp), if_pos hq, if_pos (by rw [hr]; exact hq), hr]
      exact ⟨fun _ => rfl, fun h => absurd h hq, fun h1 h2 => h2, fun h1 h2 => h2⟩
  · by_cases hq : q = 0
    · have hr := z2 hq
      rw [if_pos hp, if_neg (by simpa using hq), if_pos (by rw [hr]; exact hp), hr]
      exact ⟨fun h => absurd h hp, fun _ => rfl, fun h _ => h, fun h _ => h⟩
    · rw [if_pos hp, if_pos hq]
      refine ⟨fun h => absurd h hp, fun h => absurd h hq, fun h k => ?_, fun h k => ?_⟩
      · have := lo h k; rw [if_pos (by omega)]; exact this
      · have := hi h k; rw [if_pos (by omega)]; exact this
/-- What is compared where the classes are the same. -/
def restT (a b : Tapi_Term) : Int := if a.fKind = 1 ∨ a.fKind = 2 ∨ a.fKind = 3 then sgn (numKey a - numKey b) else if a.fKind = 6 then lex (sgn ((a.fArgs.length : Int) - (b.fArgs.length : Int))) (cmpA a.fArgs b.fArgs) else if a.fKind = 8 then cmpA a.fArgs b.fArgs else if a.fKind = 9 then lexB a.fBytes.data.toList b.fBytes.data.toList else sgn (a.fN - b.fN)
theorem restT_n {a : Tapi_Term} (b : Tapi_Term) (h : a.fKind = 1 ∨ a.fKind = 2 ∨ a.fKind = 3) : restT a b = sgn (numKey a - numKey b) := by unfold restT; rw [if_pos h]
theorem restT_6 {a : Tapi_Term} (b : Tapi_Term) (h : a.fKind = 6) : restT a b = lex (sgn ((a.fArgs.length : Int) - (b.fArgs.length : Int))) (cmpA a.fArgs b.fArgs) := by unfold restT; rw [if_neg (by omega), if_pos h]
theorem restT_8 {a : Tapi_Term} (b : Tapi_Term) (h : a.fKind = 8) : restT a b = cmpA a.fArgs b.fArgs := by unfold restT; rw [if_neg (by omega), if_neg (by omega), if_pos h]
theorem restT_9 {a : Tapi_Term} (b : Tapi_Term) (h : a.fKind = 9) : restT a b = lexB a.fBytes.data.toList b.fBytes.data.toList := by unfold restT; rw [if_neg (by omega), if_neg (by omega), if_neg (by omega), if_pos h]
theorem restT_o {a : Tapi_Term} (b : Tapi_Term) (h : a.fKind = 4 ∨ a.fKind = 5 ∨ a.fKind = 7) : restT a b = sgn (a.fN - b.fN) := by unfold restT; rw [if_neg (by omega), if_neg (by omega), if_neg (by omega), if_neg (by omega)]
theorem kinds_of {k : Int} (h : 1 ≤ k ∧ k ≤ 9) : (k = 1 ∨ k = 2 ∨ k = 3) ∨ k = 6 ∨ k = 8 ∨ k = 9 ∨ (k = 4 ∨ k = 5 ∨ k = 7) := by omega
theorem cmpT_lex (a b : Tapi_Term) : cmpT a b = lex (sgn (cls a.fKind - cls b.fKind)) (restT a b) := cmpT_eq a b
theorem cmpA_cons (x y : Tapi_Term) (xs ys : List Tapi_Term) : cmpA (x :: xs) (y :: ys) = lex (cmpT x y) (cmpA xs ys) := by rw [cmpA]; rfl
mutual
theorem cmpT_b3 : ∀ (a b : Tapi_Term), B3 (cmpT a b)
  | ⟨k, n, m, f, s, args⟩, b => by
    have ih := cmpA_b3 args b.fArgs
    rw [cmpT_lex]
    refine lex_b3 (sgn_bnd' _) ?_
    unfold restT
    repeat' split
    · exact sgn_bnd' _
    · exact lex_b3 (sgn_bnd' _) ih
    · exact ih
    · exact lexB_bnd _ _
    · exact sgn_bnd' _
theorem cmpA_b3 : ∀ (xs ys : List Tapi_Term), B3 (cmpA xs ys)
  | [], [] => by rw [cmpA]; exact .inl rfl
  | [], _ :: _ => by rw [cmpA]; exact .inr (.inl rfl)
  | _ :: _, [] => by rw [cmpA]; exact .inr (.inr rfl)
  | x :: xs, y :: ys => by rw [cmpA_cons]; exact lex_b3 (cmpT_b3 x y) (cmpA_b3 xs ys)
end
mutual
theorem cmpT_turn : ∀ (a : Tapi_Term), Fine a → ∀ b, Fine b → cmpT b a = -(cmpT a b)
  | ⟨k, n, m, f, s, args⟩, ha, b, hb => by
    have ih := cmpA_turn args ha.arg b.fArgs hb.arg
    have ka := ha.kind
    have kb := hb.kind
    rw [cmpT_lex, cmpT_lex, sgn_turn']
    by_cases hc : sgn (cls k - cls b.fKind) = 0
    · rw [← lex_neg]
      congr 1
      have hcl := cls_num ka kb hc
      generalize hA : (⟨k, n, m, f, s, args⟩ : Tapi_Term) = a at *
      have hargs : a.fArgs = args := by rw [← hA]
      rw [← hargs] at ih
      rcases kinds_of ka with h | h | h | h | h
      · rw [restT_n b h, restT_n a (by omega), sgn_turn']
      · rw [restT_6 b h, restT_6 a (by omega), sgn_turn', ih, lex_neg]
      · rw [restT_8 b h, restT_8 a (by omega), ih]
      · rw [restT_9 b h, restT_9 a (by omega), lexB_turn]
      · rw [restT_o b h, restT_o a (by omega), sgn_turn']
    · have e : ∀ x y, lex (-(sgn (cls k - cls b.fKind))) x = -(lex (sgn (cls k - cls b.fKind)) y) := fun x y => by
        unfold lex; rw [if_pos (by omega), if_pos hc]
      exact e _ _
theorem cmpA_turn : ∀ (xs : List Tapi_Term), (∀ x ∈ xs, Fine x) → ∀ ys, (∀ y ∈ ys, Fine y) → cmpA ys xs = -(cmpA xs ys)
  | [], _, [], _ => by rw [cmpA]; rfl
  | [], _, _ :: _, _ => by rw [cmpA, cmpA]; rfl
  | _ :: _, _, [], _ => by rw [cmpA, cmpA]
  | x :: xs, hx, y :: ys, hy => by
    rw [cmpA_cons, cmpA_cons, cmpT_turn x (hx x (by simp)) y (hy y (by simp)), cmpA_turn xs (fun z hz => hx z (by simp [hz])) ys (fun z hz => hy z (by simp [hz])), lex_neg]
end
theorem tr_zero (p q : Int) : True := trivial
mutual
theorem cmpT_tr : ∀ (a : Tapi_Term), Fine a → ∀ b, Fine b → ∀ c, Fine c → Tr (cmpT a b) (cmpT b c) (cmpT a c)
  | ⟨k, n, m, f, s, args⟩, ha, b, hb, c, hc => by
    have ih := cmpA_tr args ha.arg b.fArgs hb.arg c.fArgs hc.arg
    have ka := ha.kind
    have kb := hb.kind
    have kc := hc.kind
    rw [cmpT_lex, cmpT_lex, cmpT_lex]
    refine lex_tr (sgn_tr _ _ _) (sgn_bnd' _) (sgn_bnd' _) (sgn_bnd' _) fun h1 h2 => ?_
    have c1 := cls_num ka kb h1
    have c2 := cls_num kb kc h2
    generalize hA : (⟨k, n, m, f, s, args⟩ : Tapi_Term) = a at *
    have hargs : a.fArgs = args := by rw [← hA]
    rw [← hargs] at ih
    rcases kinds_of ka with h | h | h | h | h
    · rw [restT_n b h, restT_n c (by omega), restT_n c h]
      exact sgn_tr _ _ _
    · rw [restT_6 b h, restT_6 c (by omega), restT_6 c h]
      exact lex_tr (sgn_tr _ _ _) (sgn_bnd' _) (sgn_bnd' _) (sgn_bnd' _) fun _ _ => ih
    · rw [restT_8 b h, restT_8 c (by omega), restT_8 c h]
      exact ih
    · rw [restT_9 b h, restT_9 c (by omega), restT_9 c h]
      exact lexB_tr _ _ _
    · rw [restT_o b h, restT_o c (by omega), restT_o c h]
      exact sgn_tr _ _ _
theorem cmpA_tr : ∀ (xs : List Tapi_Term), (∀ x ∈ xs, Fine x) → ∀ ys, (∀ y ∈ ys, Fine y) → ∀ zs, (∀ z ∈ zs, Fine z) → Tr (cmpA xs ys) (cmpA ys zs) (cmpA xs zs)
  | [], _, [], _, [], _ => by rw [cmpA]; exact ⟨fun _ => rfl, fun _ => rfl, fun h => (by cases h), fun h => (by cases h)⟩
  | [], _, [], _, _ :: _, _ => by rw [cmpA, cmpA]; exact ⟨fun _ => rfl, fun h => (by cases h), fun h => (by cases h), fun h => (by cases h)⟩
  | [], _, _ :: _, _, [], _ => by rw [cmpA, cmpA, cmpA]; exact ⟨fun h => (by cases h), fun h => (by cases h), fun _ h => (by cases h), fun h => (by cases h)⟩
  | _ :: _, _, [], _, [], _ => by rw [cmpA, cmpA]; exact ⟨fun h => (by cases h), fun _ => rfl, fun h => (by cases h), fun _ h => (by cases h)⟩
  | x :: xs, _, [], _, z :: zs, _ => by
    have := cmpA_b3 (x :: xs) (z :: zs)
    rw [cmpA, cmpA]; exact ⟨fun h => (by cases h), fun h => (by cases h), fun h => (by cases h), fun _ h => (by cases h)⟩
  | [], _, y :: ys, _, z :: zs, _ => by
    rw [cmpA, cmpA]; exact ⟨fun h => (by cases h), fun _ => rfl, fun _ _ => rfl, fun h => (by cases h)⟩
  | x :: xs, _, y :: ys, _, [], _ => by
    rw [cmpA, cmpA]
    · exact ⟨fun _ => rfl, fun h => (by cases h), fun _ h => (by cases h), fun _ _ => rfl⟩
  | x :: xs, hx, y :: ys, hy, z :: zs, hz => by
    rw [cmpA_cons, cmpA_cons, cmpA_cons]
    exact lex_tr (cmpT_tr x (hx x (by simp)) y (hy y (by simp)) z (hz z (by simp))) (cmpT_b3 _ _) (cmpT_b3 _ _) (cmpT_b3 _ _) fun _ _ => cmpA_tr xs (fun w hw => hx w (by simp [hw])) ys (fun w hw => hy w (by simp [hw])) zs (fun w hw => hz w (by simp [hw]))
end
/-! ### The same ones -/
theorem key_float {a : Nat} {b : Nat} (ha : a < 18446744073709551616) (hb : b < 18446744073709551616) (na : nanW a = true → a = 9221120237041090561) (nb : nanW b = true → b = 9221120237041090561) : fkey a = fkey b ↔ a = b := by
  constructor
  · intro h
    have h1 := place_lt (a := a) (b := b)
    have h2 := place_lt (a := b) (b := a)
    have hp : place a = place b := by omega
    have hra : rg a < 9223372036854775808 := Nat.mod_lt _ (by decide)
    have hrb : rg b < 9223372036854775808 := Nat.mod_lt _ (by decide)
    unfold place at hp
    cases ka : nanW a with
    | true =>
      cases kb : nanW b with
      | true => rw [na ka, nb kb]
      | false => rw [ka, kb] at hp; simp only [if_true, Bool.false_eq_true, if_false] at hp; split at hp <;> omega
    | false =>
      cases kb : nanW b with
      | true => rw [ka, kb] at hp; simp only [if_true, Bool.false_eq_true, if_false] at hp; split at hp <;> omega
      | false =>
        rw [ka, kb] at hp
        simp only [Bool.false_eq_true, if_false] at hp
        have sa : sg a = decide (9223372036854775808 ≤ a) := by
          unfold sg
          by_cases h : 9223372036854775808 ≤ a
          · rw [decide_eq_true h, show a / 9223372036854775808 = 1 by omega]; rfl
          · rw [decide_eq_false h, show a / 9223372036854775808 = 0 by omega]; rfl
        have sb : sg b = decide (9223372036854775808 ≤ b) := by
          unfold sg
          by_cases h : 9223372036854775808 ≤ b
          · rw [decide_eq_true h, show b / 9223372036854775808 = 1 by omega]; rfl
          · rw [decide_eq_false h, show b / 9223372036854775808 = 0 by omega]; rfl
        rw [sa, sb] at hp
        unfold rg at hp
        simp only [decide_eq_true_eq] at hp
        split at hp <;> split at hp <;> omega
  · intro h; rw [h]
theorem Fine.nan {t : Tapi_Term} (h : Fine t) (hk : t.fKind = 3) : nanW t.fBits.toNat = true → t.fBits = 9221120237041090561 := by
  intro hn
  have ho := h.right.1
  unfold okT at ho
  rw [if_neg (by omega), if_neg (by omega), if_pos hk] at ho
  unfold realMay at ho
  rw [nan_words _ (inB h).1, hn] at ho
  simpa using ho
theorem fkey_mod (b : Nat) (n : Int) : 3 * n ≠ fkey b ∨ nanW b = true := by
  unfold fkey
  cases nanW b with
  | true => exact .inr rfl
  | false => left; simp only [Bool.false_eq_true, if_false]; split <;> omega
def eqT (a b : Tapi_Term) : Prop := cmpT a b = 0
/-- Numbers at one place are one. -/
theorem key_zero {a b : Tapi_Term} (ha : Fine a) (hb : Fine b) (ka : a.fKind = 1 ∨ a.fKind = 2 ∨ a.fKind = 3) (kb : b.fKind = 1 ∨ b.fKind = 2 ∨ b.fKind = 3) :
    sgn (numKey a - numKey b) = 0 ↔ a.fKind = b.fKind ∧ (a.fKind = 1 → a.fN = b.fN) ∧ (a.fKind = 2 → a.fNum = b.fNum) ∧ (a.fKind = 3 → a.fBits = b.fBits) := by
  have hfl : ∀ (t u : Tapi_Term), Fine t → Fine u → (t.fKind = 1 ∨ t.fKind = 2) → numKey t ≠ fkey u.fBits.toNat := by
    intro t u ht hu hk
    unfold numKey
    rw [if_pos hk]
    rcases fkey_mod u.fBits.toNat (numV t * (UU : Int)) with h | h
    · exact h
    · unfold fkey
      rw [h]
      have := int_topF (ht.numV_top hk)
      simp only [if_true]
      omega
  by_cases h1 : a.fKind = 1 ∨ a.fKind = 2
  · by_cases h2 : b.fKind = 1 ∨ b.fKind = 2
    · have e : sgn (numKey a - numKey b) = sgn (numV a - numV b) := by
        unfold numKey
        rw [if_pos h1, if_pos h2, sgn_scale]
      rw [e, sgn_zero]
      unfold numV
      by_cases ka1 : a.fKind = 1
      · have ia := ha.int ka1
        rw [if_pos ka1]
        by_cases kb1 : b.fKind = 1
        · rw [if_pos kb1]
          constructor
          · intro h; exact ⟨by omega, fun _ => by omega, fun h => by omega, fun h => by omega⟩
          · intro h; have := h.2.1 ka1; omega
        · rw [if_neg kb1]
          obtain ⟨x, hx, ex, hr⟩ := hb.big (by omega)
          rw [ex, bigV_num]
          constructor
          · intro h; omega
          · intro h; omega
      · rw [if_neg ka1]
        obtain ⟨x, hx, ex, hr⟩ := ha.big (by omega)
        rw [ex, bigV_num]
        by_cases kb1 : b.fKind = 1
        · have ib := hb.int kb1
          rw [if_pos kb1]
          constructor
          · intro h; omega
          · intro h; omega
        · rw [if_neg kb1]
          obtain ⟨y, hy, ey, hs⟩ := hb.big (by omega)
          rw [ey, bigV_num]
          constructor
          · intro h
            have : x = y := by omega
            exact ⟨by omega, fun h => absurd h ka1, fun _ => by rw [this], fun h => by omega⟩
          · intro h
            have := numN_inj (h.2.2.1 (by omega))
            omega
    · have hn := hfl a b ha hb h1
      have e : numKey b = fkey b.fBits.toNat := by unfold numKey; rw [if_neg h2]
      rw [e, sgn_zero]
      constructor
      · intro h; omega
      · intro h; omega
  · by_cases h2 : b.fKind = 1 ∨ b.fKind = 2
    · have hn := hfl b a hb ha h2
      have e : numKey a = fkey a.fBits.toNat := by unfold numKey; rw [if_neg h1]
      rw [e, sgn_zero]
      constructor
      · intro h; omega
      · intro h; omega
    · have e1 : numKey a = fkey a.fBits.toNat := by unfold numKey; rw [if_neg h1]
      have e2 : numKey b = fkey b.fBits.toNat := by unfold numKey; rw [if_neg h2]
      have ia := inB ha
      have ib := inB hb
      have k := key_float (a := a.fBits.toNat) (b := b.fBits.toNat) (by omega) (by omega) (fun h => by rw [ha.nan (by omega) h]; rfl) (fun h => by rw [hb.nan (by omega) h]; rfl)
      rw [e1, e2, sgn_zero]
      constructor
      · intro h
        have := k.1 (by omega)
        exact ⟨by omega, fun h => by omega, fun h => by omega, fun _ => by omega⟩
      · intro h
        have := h.2.2.2 (by omega)
        rw [this]; omega
theorem same32_loop : ∀ (xs ys : List Int) (l m : List Int) (i : Nat), l.drop i = xs → m.drop i = ys → xs.length = ys.length → l.length ≤ 100000 → Ev (fun N => slices_Equal_uint32_uint32_L0 N l m (i : Nat)) (if xs = ys then .inl () else .inr ())
  | [], ys, l, m, i, hl, hm, he, hb => by
    have h1 := drop_end hl
    cases ys with
    | nil => rw [if_pos rfl]; refine Ev.step ?_ (fun N => by rw [slices_Equal_uint32_uint32_L0]); exact Ev.neg (by omega) (Ev.now _)
    | cons y ys => simp at he
  | x :: xs, [], l, m, i, hl, hm, he, hb => by simp at he
  | x :: xs, y :: ys, l, m, i, hl, hm, he, hb => by
    have h1 := drop_len hl
    have ih := same32_loop xs ys l m (i + 1) (drop_next hl) (drop_next hm) (by simpa using he) hb
    refine Ev.step ?_ (fun N => by rw [slices_Equal_uint32_uint32_L0, wrap_succ (by omega)])
    refine Ev.pos (by omega) (Ev.bindc (idx_at hl) (Ev.bindc (idx_at hm) ?_))
    by_cases h : x = y
    · rw [show (if x :: xs = y :: ys then (Sum.inl () : Unit ⊕ Unit) else .inr ()) = if xs = ys then .inl () else .inr () from by subst h; exact if_congr (by simp) rfl rfl]
      exact Ev.neg (by simpa using h) ih
    · rw [if_neg (by simp [h])]
      exact Ev.pos h (Ev.now _)
theorem same32_ev (a b : List Int) (ha : a.length ≤ 100000) : Ev (fun N => slices_Equal_uint32_uint32 N a b) (decide (a = b)) := by
  by_cases hl : a.length = b.length
  · refine Ev.neg (by simp [hl]) (Ev.bind (same32_loop a b a b 0 rfl rfl hl ha) ?_)
    by_cases h : a = b
    · rw [if_pos h, decide_eq_true h]; exact Ev.now _
    · rw [if_neg h, decide_eq_false h]; exact Ev.now _
  · rw [decide_eq_false (fun h => hl (by rw [h]))]
    exact Ev.pos (by omega) (Ev.now _)
theorem known_ev {t : Tapi_Term} (h : Fine t) : Ev (fun N => term_known N t.fKind) t.fKind := by
  have := h.kind
  exact Ev.neg (by omega) (Ev.neg (by omega) (Ev.now _))
theorem sameB1_ev (a b : Tapi_Term) : Ev (fun N => term_Same_B1 N a b) (decide (a.fKind = 1 ∨ a.fKind = 4 ∨ a.fKind = 5)) := by
  refine Ev.step ?_ (fun N => by rw [term_Same_B1])
  by_cases h1 : a.fKind = 1
  · rw [decide_eq_true (.inl h1)]
    refine Ev.pos h1 ?_
    rw [h1]; exact Ev.now _
  · refine Ev.neg h1 ?_
    by_cases h4 : a.fKind = 4
    · rw [decide_eq_true (.inr (.inl h4))]
      refine Ev.pos h4 ?_
      rw [h4]; exact Ev.now _
    · refine Ev.neg h4 ?_
      rw [show decide (a.fKind = 1 ∨ a.fKind = 4 ∨ a.fKind = 5) = (a.fKind == (5 : Int)) from by rw [Bool.eq_iff_iff]; simp; omega]
      exact Ev.now _
mutual
theorem same_ev : ∀ (a : Tapi_Term), Fine a → ∀ b, Fine b → Ev (fun N => term_Same N a b) (decide (cmpT a b = 0))
  | ⟨k, n, m, f, s, args⟩, ha, b, hb => by
    have hloop := fun hl => sameA_ev args ha.arg b.fArgs hb.arg args b.fArgs 0 rfl rfl hl ha.w.ArgsLen
    have ka := ha.kind
    have kb := hb.kind
    have hz := fun h1 h2 => key_zero ha hb h1 h2
    have hm32 := ha.s.mag
    rw [cmpT_lex]
    have hka := known_ev ha
    generalize hA : (⟨k, n, m, f, s, args⟩ : Tapi_Term) = a at *
    have hAa : a.fArgs = args := by rw [← hA]
    have hE : Ev (fun N => slices_EqualFunc_api_Term_api_Term_api_Term_api_Term N a.fArgs b.fArgs) (decide (a.fArgs.length = b.fArgs.length ∧ cmpA a.fArgs b.fArgs = 0)) := by
      refine Ev.step ?_ (fun N => by rw [slices_EqualFunc_api_Term_api_Term_api_Term_api_Term])
      by_cases hl : a.fArgs.length = b.fArgs.length
      · have h1 := hloop (by rw [← hAa]; exact hl)
        rw [← hAa] at h1
        refine Ev.neg (by simp [hl]) (Ev.bind h1 ?_)
        by_cases h : cmpA a.fArgs b.fArgs = 0
        · rw [if_pos h, decide_eq_true ⟨hl, h⟩]; exact Ev.now _
        · rw [if_neg h, decide_eq_false (fun q => h q.2)]; exact Ev.now _
      · rw [decide_eq_false (fun q => hl q.1)]
        exact Ev.pos (by omega) (Ev.now _)
    refine Ev.step ?_ (fun N => by rw [term_Same])
    refine Ev.bind hka (Ev.bind (known_ev hb) ?_)
    by_cases hc : sgn (cls a.fKind - cls b.fKind) = 0
    · have hlex : lex (sgn (cls a.fKind - cls b.fKind)) (restT a b) = restT a b := by unfold lex; rw [if_neg (by simpa using hc)]
      rw [hlex]
      have hcl := cls_num ka kb hc
      by_cases hk : a.fKind = b.fKind
      · refine Ev.neg (by simpa using hk) ?_
        have fin : ∀ (r : Unit ⊕ Bool) (v : Bool), (match r with | .inl r18 => true | .inr r19 => r19) = v → Ev (fun N => term_Same_B0 N a b) r → Ev (fun N => (term_Same_B0 N a b).bind fun r17 => (match r17 with | .inl r18 => some true | .inr r19 => some r19)) v := fun r v e h => by
          refine Ev.bind h ?_
          cases r with
          | inl u => subst e; exact Ev.now _
          | inr u => subst e; exact Ev.now _
        by_cases hn : a.fKind = 1 ∨ a.fKind = 2 ∨ a.fKind = 3
        · have hzz := hz hn (by omega)
          have er : restT a b = sgn (numKey a - numKey b) := by unfold restT; rw [if_pos hn]
          rw [er]
          by_cases h1 : a.fKind = 1
          · refine fin (.inr (a.fN == b.fN)) _ ?_ (by refine Ev.step ?_ (fun N => by rw [term_Same_B0]); exact Ev.bind (sameB1_ev a b) (Ev.pos (decide_eq_true (.inl h1)) (Ev.now _)))
            rw [Bool.eq_iff_iff, decide_eq_true_eq, hzz, beq_iff_eq]
            exact ⟨fun h => ⟨hk, fun _ => h, fun h => by omega, fun h => by omega⟩, fun h => h.2.1 h1⟩
          · have hb1 : Ev (fun N => term_Same_B1 N a b) false := by
              rw [← show decide (a.fKind = 1 ∨ a.fKind = 4 ∨ a.fKind = 5) = false from decide_eq_false (by omega)]
              exact sameB1_ev a b
            by_cases h2 : a.fKind = 2
            · have hs := same32_ev a.fNum.fMag b.fNum.fMag (by omega)
              have hval : decide (sgn (numKey a - numKey b) = 0) = (decide (a.fNum.fNeg = b.fNum.fNeg) && decide (a.fNum.fMag = b.fNum.fMag)) := by
                rw [Bool.eq_iff_iff, decide_eq_true_eq, hzz, Bool.and_eq_true, decide_eq_true_eq, decide_eq_true_eq]
                constructor
                · intro h; have e := h.2.2.1 h2; rw [e]; exact ⟨rfl, rfl⟩
                · intro h
                  refine ⟨hk, fun h => by omega, fun _ => ?_, fun h => by omega⟩
                  obtain ⟨e1, e2⟩ := h
                  cases ea : a.fNum; cases eb : b.fNum
                  rw [ea, eb] at e1 e2
                  simp only at e1 e2
                  rw [e1, e2]
              rw [hval]
              by_cases hneg : a.fNum.fNeg = b.fNum.fNeg
              · refine fin (.inr (decide (a.fNum.fMag = b.fNum.fMag))) _ (by rw [decide_eq_true hneg, Bool.true_and]) (by refine Ev.step ?_ (fun N => by rw [term_Same_B0]); exact Ev.bind hb1 (Ev.neg (by simp) (Ev.pos h2 (Ev.pos hneg (Ev.bind hs (Ev.now _))))))
              · refine fin (.inr false) _ (by rw [decide_eq_false hneg, Bool.false_and]) (by refine Ev.step ?_ (fun N => by rw [term_Same_B0]); exact Ev.bind hb1 (Ev.neg (by simp) (Ev.pos h2 (Ev.neg hneg (Ev.now _)))))
            · have h3 : a.fKind = 3 := by omega
              refine fin (.inr (a.fBits == b.fBits)) _ ?_ (by refine Ev.step ?_ (fun N => by rw [term_Same_B0]); exact Ev.bind hb1 (Ev.neg (by simp) (Ev.neg h2 (Ev.pos h3 (Ev.now _)))))
              rw [Bool.eq_iff_iff, decide_eq_true_eq, hzz, beq_iff_eq]
              exact ⟨fun h => ⟨hk, fun h => by omega, fun h => by omega, fun _ => h⟩, fun h => h.2.2.2 h3⟩
        · have er : restT a b = if a.fKind = 6 then lex (sgn ((a.fArgs.length : Int) - (b.fArgs.length : Int))) (cmpA a.fArgs b.fArgs) else if a.fKind = 8 then cmpA a.fArgs b.fArgs else if a.fKind = 9 then lexB a.fBytes.data.toList b.fBytes.data.toList else sgn (a.fN - b.fN) := by unfold restT; rw [if_neg hn]
          rw [er]
          by_cases h45 : a.fKind = 4 ∨ a.fKind = 5
          · rw [if_neg (by omega), if_neg (by omega), if_neg (by omega)]
            refine fin (.inr (a.fN == b.fN)) _ ?_ (by refine Ev.step ?_ (fun N => by rw [term_Same_B0]); exact Ev.bind (sameB1_ev a b) (Ev.pos (decide_eq_true (.inr h45)) (Ev.now _)))
            rw [Bool.eq_iff_iff, decide_eq_true_eq, sgn_zero, beq_iff_eq]
            omega
          · have hb1 : Ev (fun N => term_Same_B1 N a b) false := by
              rw [← show decide (a.fKind = 1 ∨ a.fKind = 4 ∨ a.fKind = 5) = false from decide_eq_false (by omega)]
              exact sameB1_ev a b
            by_cases h6 : a.fKind = 6
            · rw [if_pos h6]
              refine fin (.inr (decide (a.fArgs.length = b.fArgs.length ∧ cmpA a.fArgs b.fArgs = 0))) _ ?_ (by refine Ev.step ?_ (fun N => by rw [term_Same_B0]); exact Ev.bind hb1 (Ev.neg (by simp) (Ev.neg (by omega) (Ev.neg (by omega) (Ev.pos h6 (Ev.bind hE (Ev.now _)))))))
              refine decide_eq_decide.2 ?_
              unfold lex
              have hz := sgn_zero (x := (a.fArgs.length : Int) - (b.fArgs.length : Int))
              split
              · rename_i h; rw [ne_eq, hz] at h; constructor
                · intro q; omega
                · intro q; rw [hz] at q; omega
              · rename_i h
                have : sgn ((a.fArgs.length : Int) - (b.fArgs.length : Int)) = 0 := by simpa using h
                rw [hz] at this
                exact ⟨fun q => q.2, fun q => ⟨by omega, q⟩⟩
            · rw [if_neg h6]
              by_cases h8 : a.fKind = 8
              · rw [if_pos h8]
                refine fin (.inr (decide (a.fArgs.length = b.fArgs.length ∧ cmpA a.fArgs b.fArgs = 0))) _ ?_ (by refine Ev.step ?_ (fun N => by rw [term_Same_B0]); exact Ev.bind hb1 (Ev.neg (by simp) (Ev.neg (by omega) (Ev.neg (by omega) (Ev.neg h6 (Ev.pos h8 (Ev.bind hE (Ev.now _))))))))
                refine decide_eq_decide.2 ?_
                have hla : a.fArgs.length = 2 := by
                  have := ha.right.1
                  unfold okT at this
                  rw [if_neg (by omega), if_neg (by omega), if_neg (by omega), if_neg (by omega), if_neg (by omega), if_neg h6, if_pos h8] at this
                  exact of_decide_eq_true this
                have hlb : b.fArgs.length = 2 := by
                  have := hb.right.1
                  unfold okT at this
                  rw [if_neg (by omega), if_neg (by omega), if_neg (by omega), if_neg (by omega), if_neg (by omega), if_neg (by omega), if_pos (by omega)] at this
                  exact of_decide_eq_true this
                exact ⟨fun q => q.2, fun q => ⟨by omega, q⟩⟩
              · rw [if_neg h8]
                by_cases h9 : a.fKind = 9
                · rw [if_pos h9]
                  refine fin (.inr (a.fBytes.toList == b.fBytes.toList)) _ ?_ (by refine Ev.step ?_ (fun N => by rw [term_Same_B0]); exact Ev.bind hb1 (Ev.neg (by simp) (Ev.neg (by omega) (Ev.neg (by omega) (Ev.neg h6 (Ev.neg h8 (Ev.pos h9 (Ev.now _))))))))
                  rw [Bool.eq_iff_iff, str_iff, decide_eq_true_eq, lexB_zero]
                  constructor
                  · intro h; rw [h]
                  · intro h
                    cases ea : a.fBytes; cases eb : b.fBytes
                    rw [ea, eb] at h
                    simp only at h
                    congr 1
                    exact Array.toList_inj.1 h
                · rw [if_neg h9]
                  refine fin (.inl ()) _ ?_ (by refine Ev.step ?_ (fun N => by rw [term_Same_B0]); exact Ev.bind hb1 (Ev.neg (by simp) (Ev.neg (by omega) (Ev.neg (by omega) (Ev.neg h6 (Ev.neg h8 (Ev.neg h9 (Ev.now _))))))))
                  symm
                  rw [decide_eq_true_eq, sgn_zero]
                  have hN : ∀ t : Tapi_Term, Fine t → t.fKind = 7 → t.fN = 0 := fun t ht h7 => by
                    have := ht.right.2.1
                    unfold bareT at this
                    revert this
                    unfold zN
                    repeat' split
                    all_goals first | omega | (intro this; simp only [Bool.and_eq_true, decide_eq_true_eq] at this; omega) | (simp; omega)
                  have := hN a ha (by omega)
                  have := hN b hb (by omega)
                  omega
      · refine Ev.pos hk ?_
        have hn : a.fKind = 1 ∨ a.fKind = 2 ∨ a.fKind = 3 := by omega
        have hzz := hz hn (by omega)
        have er : restT a b = sgn (numKey a - numKey b) := by unfold restT; rw [if_pos hn]
        rw [er, decide_eq_false (fun h => hk (hzz.1 h).1)]
        exact Ev.now _
    · have hk : a.fKind ≠ b.fKind := fun e => hc (by rw [e, Int.sub_self]; rfl)
      have hlex : lex (sgn (cls a.fKind - cls b.fKind)) (restT a b) = sgn (cls a.fKind - cls b.fKind) := by unfold lex; rw [if_pos hc]
      rw [hlex, decide_eq_false hc]
      exact Ev.pos hk (Ev.now _)
theorem sameA_ev : ∀ (xs : List Tapi_Term), (∀ x ∈ xs, Fine x) → ∀ (ys : List Tapi_Term), (∀ y ∈ ys, Fine y) → ∀ (l m : List Tapi_Term) (i : Nat), l.drop i = xs → m.drop i = ys → xs.length = ys.length → l.length ≤ maxLen →
    Ev (fun N => slices_EqualFunc_api_Term_api_Term_api_Term_api_Term_L0 N l m (i : Nat)) (if cmpA xs ys = 0 then .inl () else .inr ())
  | [], hx, [], hy, l, m, i, hl, hm, he, hb => by
    have h1 := drop_end hl
    rw [cmpA, if_pos rfl]
    refine Ev.step ?_ (fun N => by rw [slices_EqualFunc_api_Term_api_Term_api_Term_api_Term_L0]); exact Ev.neg (by omega) (Ev.now _)
  | [], hx, y :: ys, hy, l, m, i, hl, hm, he, hb => by simp at he
  | x :: xs, hx, [], hy, l, m, i, hl, hm, he, hb => by simp at he
  | x :: xs, hx, y :: ys, hy, l, m, i, hl, hm, he, hb => by
    have h1 := drop_len hl
    rw [maxLen_eq] at hb
    have hs := same_ev x (hx x (by simp)) y (hy y (by simp))
    have ih := sameA_ev xs (fun z hz => hx z (by simp [hz])) ys (fun z hz => hy z (by simp [hz])) l m (i + 1) (drop_next hl) (drop_next hm) (by simpa using he) (by rw [maxLen_eq]; exact hb)
    refine Ev.step ?_ (fun N => by rw [slices_EqualFunc_api_Term_api_Term_api_Term_api_Term_L0, wrap_succ (by omega)])
    refine Ev.pos (by omega) (Ev.bindc (idx_at hl) (Ev.bindc (idx_at hm) (Ev.bind hs ?_)))
    rw [cmpA_cons]
    by_cases h : cmpT x y = 0
    · rw [show lex (cmpT x y) (cmpA xs ys) = cmpA xs ys from by unfold lex; rw [if_neg (by simpa using h)]]
      exact Ev.neg (by simp [h]) ih
    · rw [show lex (cmpT x y) (cmpA xs ys) = cmpT x y from by unfold lex; rw [if_pos h], if_neg h]
      exact Ev.pos (by simp [h]) (Ev.now _)
end
end Go.Proofs.Ytllcnlonkloabaa.Sh
