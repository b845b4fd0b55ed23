import Derived.Test.YtocgnoohfkpbhaaPureTermMay
import Derived.Test.YtocgnoohfkpbhaaPureGreat
import Derived.Test.YtocgnoohfkpbhaaPureSame
set_option linter.unusedVariables false
set_option linter.unusedSimpArgs false
namespace Go.Proofs.Ytocgnoohfkpbhaa.Sh
open Go Lift Go.Proofs
theorem awake_ev : Ev (fun N => beehivelaw4_awake N) true := Ev.from 40 (fun N => by kernel_rfl)
theorem lowE (x n : Int) (hx : InR .i64 x) (h0 : 0 < n) (h1 : n < 9223372036854775808) : ∃ r, Ev (fun N => beehivelaw0_Low N x n) r ∧ 0 ≤ r ∧ r < n := by
  have hu := wrapU_eq x
  have e1 : IntKind.u64.wrap n = n := wrapU n (by omega) (by omega)
  have hp : 0 ≤ IntKind.u64.wrap x := by omega
  have e2 : (IntKind.u64.wrap x).tmod n = IntKind.u64.wrap x % n := Int.tmod_eq_emod_of_nonneg hp
  have b0 := Int.emod_nonneg (IntKind.u64.wrap x) (show n ≠ 0 by omega)
  have b1 := Int.emod_lt_of_pos (IntKind.u64.wrap x) h0
  refine ⟨IntKind.u64.wrap x % n, ?_, b0, b1⟩
  refine Ev.bindc (a := IntKind.u64.wrap x % n) (by rw [e1, rem_eq (by omega), e2]) ?_
  have e3 : IntKind.i64.wrap (IntKind.u64.wrap x % n) = IntKind.u64.wrap x % n := wrapI _ (by omega) (by omega)
  show Ev (fun _ => some (IntKind.i64.wrap (IntKind.u64.wrap x % n))) _
  rw [e3]
  exact Ev.now _
theorem app_snoc {α : Type} {out : List α} {x : α} (h : out.length < 1000000) : app out [x] = some (out ++ [x]) := app_eq (by rw [lim_eq]; show out.length + 1 ≤ _; omega)
/-! ### A copy is the same -/
mutual
theorem copy_ev : ∀ (t : Tapi_Term), Small t → cnt t ≤ 100000 → Ev (fun N => beehivelaw0_CopyTerm N t) t
  | ⟨k, n, m, b, s, args⟩, hs, hc => by
    have hm : m.fMag.length ≤ 40 := hs.mag
    rw [cnt] at hc
    have hl := cnts_len args
    have h := copyL_ev args hs.args (by omega) args [] 0 rfl rfl (by omega)
    rw [List.nil_append] at h
    have h2 : Ev (fun N => beehivelaw0_CopyTerms N args) args := by
      refine Ev.step ?_ (fun N => by rw [beehivelaw0_CopyTerms])
      exact Ev.bind h (Ev.now _)
    refine Ev.step ?_ (fun N => by rw [beehivelaw0_CopyTerm])
    exact Ev.bindc (app0_eq (by rw [lim_eq]; show m.fMag.length ≤ _; omega)) (Ev.bind h2 (Ev.now _))
theorem copyL_ev : ∀ (ts : List Tapi_Term), (∀ x ∈ ts, Small x) → cnts ts ≤ 100000 → ∀ (l out : List Tapi_Term) (i : Nat), l.drop i = ts → out.length = i → l.length ≤ 100000 → Ev (fun N => beehivelaw0_CopyTerms_L0 N l out (i : Nat)) (out ++ ts)
  | [], hs, hc, l, out, i, hd, ho, hl => by
    have := drop_end hd
    refine Ev.step ?_ (fun N => by rw [beehivelaw0_CopyTerms_L0])
    rw [List.append_nil]
    exact Ev.neg (by omega) (Ev.now _)
  | x :: xs, hs, hc, l, out, i, hd, ho, hl => by
    have hlen := drop_len hd
    rw [cnts] at hc
    have h := copyL_ev xs (fun y hy => hs y (by simp [hy])) (by omega) l (out ++ [x]) (i + 1) (drop_next hd) (by simp [ho]) hl
    rw [List.append_assoc, List.singleton_append] at h
    have hx := copy_ev x (hs x (by simp)) (by omega)
    refine Ev.step ?_ (fun N => by rw [beehivelaw0_CopyTerms_L0, wrap_succ (by omega)])
    exact Ev.pos (by omega) (Ev.bindc (idx_at hd) (Ev.bind hx (Ev.bindc (app_snoc (by omega)) h)))
end
/-! ### A term is the same as itself -/
theorem eq32_loop : ∀ (ts l : List Int) (i : Nat), l.drop i = ts → l.length ≤ 100000 → Ev (fun N => slices_Equal_uint32_uint32_L0 N l l (i : Nat)) (.inl ())
  | [], l, i, hd, hl => by
    have := drop_end hd
    refine Ev.step ?_ (fun N => by rw [slices_Equal_uint32_uint32_L0])
    exact Ev.neg (by omega) (Ev.now _)
  | x :: xs, l, i, hd, hl => by
    have hlen := drop_len hd
    refine Ev.step ?_ (fun N => by rw [slices_Equal_uint32_uint32_L0, wrap_succ (by omega)])
    exact Ev.pos (by omega) (Ev.bindc (idx_at hd) (Ev.bindc (idx_at hd) (Ev.neg (by simp) (eq32_loop xs l (i + 1) (drop_next hd) hl))))
theorem eq32_self (l : List Int) (hl : l.length ≤ 100000) : Ev (fun N => slices_Equal_uint32_uint32 N l l) true :=
  Ev.neg (by simp) (Ev.bind (eq32_loop l l 0 rfl hl) (Ev.now _))
mutual
theorem same_ev : ∀ (t : Tapi_Term), Small t → cnt t ≤ 100000 → Ev (fun N => term_Same N t t) true
  | ⟨k, n, m, b, s, args⟩, hs, hc => by
    have hm : m.fMag.length ≤ 40 := hs.mag
    rw [cnt] at hc
    have hl := cnts_len args
    have h := sameA_ev args hs.args (by omega) args 0 rfl (by omega)
    have hA : Ev (fun N => slices_EqualFunc_api_Term_api_Term_api_Term_api_Term N args args) true := by
      refine Ev.step ?_ (fun N => by rw [slices_EqualFunc_api_Term_api_Term_api_Term_api_Term])
      exact Ev.neg (by simp) (Ev.bind h (Ev.now _))
    obtain ⟨q, hq⟩ : ∃ q, Ev (fun N => term_known N k) q := by
      by_cases h1 : k < 1
      · exact ⟨0, Ev.pos h1 (Ev.now _)⟩
      · by_cases h2 : k > 9
        · exact ⟨0, Ev.neg h1 (Ev.pos h2 (Ev.now _))⟩
        · exact ⟨k, Ev.neg h1 (Ev.neg h2 (Ev.now _))⟩
    have hB1 : Ev (fun N => term_Same_B1 N ⟨k, n, m, b, s, args⟩ ⟨k, n, m, b, s, args⟩) (decide (k = 1 ∨ k = 4 ∨ k = 5)) := by
      refine Ev.step ?_ (fun N => by rw [term_Same_B1])
      by_cases h1 : k = 1
      · subst h1; exact Ev.pos rfl (Ev.now _)
      · by_cases h4 : k = 4
        · subst h4; exact Ev.neg h1 (Ev.pos rfl (Ev.now _))
        · refine Ev.neg h1 (Ev.neg h4 ?_)
          show Ev (fun _ => some (k == 5)) _
          rw [show decide (k = 1 ∨ k = 4 ∨ k = 5) = (k == 5) by simp [h1, h4]; rfl]
          exact Ev.now _
    have hB : ∃ r, Ev (fun N => term_Same_B0 N ⟨k, n, m, b, s, args⟩ ⟨k, n, m, b, s, args⟩) r ∧ (r = .inl () ∨ r = .inr true) := by
      by_cases h0 : k = 1 ∨ k = 4 ∨ k = 5
      · refine ⟨.inr true, ?_, .inr rfl⟩
        rw [decide_eq_true h0] at hB1
        refine Ev.step ?_ (fun N => by rw [term_Same_B0])
        refine Ev.bind hB1 (Ev.pos rfl ?_)
        show Ev (fun _ => some (Sum.inr (n == n))) _
        rw [beq_self_eq_true]
        exact Ev.now _
      · rw [decide_eq_false h0] at hB1
        have hn : ¬ (false = true) := by simp
        by_cases h2 : k = 2
        · refine ⟨.inr true, ?_, .inr rfl⟩
          refine Ev.step ?_ (fun N => by rw [term_Same_B0])
          exact Ev.bind hB1 (Ev.neg hn (Ev.pos h2 (Ev.pos rfl (Ev.bind (eq32_self m.fMag (by omega)) (Ev.now _)))))
        · by_cases h3 : k = 3
          · refine ⟨.inr true, ?_, .inr rfl⟩
            refine Ev.step ?_ (fun N => by rw [term_Same_B0])
            refine Ev.bind hB1 (Ev.neg hn (Ev.neg h2 (Ev.pos h3 ?_)))
            show Ev (fun _ => some (Sum.inr (b == b))) _
            rw [beq_self_eq_true]
            exact Ev.now _
          · by_cases h6 : k = 6
            · refine ⟨.inr true, ?_, .inr rfl⟩
              refine Ev.step ?_ (fun N => by rw [term_Same_B0])
              exact Ev.bind hB1 (Ev.neg hn (Ev.neg h2 (Ev.neg h3 (Ev.pos h6 (Ev.bind hA (Ev.now _))))))
            · by_cases h8 : k = 8
              · refine ⟨.inr true, ?_, .inr rfl⟩
                refine Ev.step ?_ (fun N => by rw [term_Same_B0])
                exact Ev.bind hB1 (Ev.neg hn (Ev.neg h2 (Ev.neg h3 (Ev.neg h6 (Ev.pos h8 (Ev.bind hA (Ev.now _)))))))
              · by_cases h9 : k = 9
                · refine ⟨.inr true, ?_, .inr rfl⟩
                  refine Ev.step ?_ (fun N => by rw [term_Same_B0])
                  refine Ev.bind hB1 (Ev.neg hn (Ev.neg h2 (Ev.neg h3 (Ev.neg h6 (Ev.neg h8 (Ev.pos h9 ?_))))))
                  show Ev (fun _ => some (Sum.inr (s.toList == s.toList))) _
                  rw [beq_self_eq_true]
                  exact Ev.now _
                · refine ⟨.inl (), ?_, .inl rfl⟩
                  refine Ev.step ?_ (fun N => by rw [term_Same_B0])
                  exact Ev.bind hB1 (Ev.neg hn (Ev.neg h2 (Ev.neg h3 (Ev.neg h6 (Ev.neg h8 (Ev.neg h9 (Ev.now _)))))))
    obtain ⟨r, hr, hrr⟩ := hB
    refine Ev.step ?_ (fun N => by rw [term_Same])
    refine Ev.bind hq (Ev.bind hq (Ev.neg (by simp) (Ev.bind hr ?_)))
    rcases hrr with rfl | rfl
    · exact Ev.now _
    · exact Ev.now _
theorem sameA_ev : ∀ (ts : List Tapi_Term), (∀ x ∈ ts, Small x) → cnts ts ≤ 100000 → ∀ (l : List Tapi_Term) (i : Nat), l.drop i = ts → l.length ≤ 100000 → Ev (fun N => slices_EqualFunc_api_Term_api_Term_api_Term_api_Term_L0 N l l (i : Nat)) (.inl ())
  | [], hs, hc, l, i, hd, hl => by
    have := drop_end hd
    refine Ev.step ?_ (fun N => by rw [slices_EqualFunc_api_Term_api_Term_api_Term_api_Term_L0])
    exact Ev.neg (by omega) (Ev.now _)
  | x :: xs, hs, hc, l, i, hd, hl => by
    have hlen := drop_len hd
    rw [cnts] at hc
    have h := sameA_ev xs (fun y hy => hs y (by simp [hy])) (by omega) l (i + 1) (drop_next hd) hl
    have hx := same_ev x (hs x (by simp)) (by omega)
    refine Ev.step ?_ (fun N => by rw [slices_EqualFunc_api_Term_api_Term_api_Term_api_Term_L0, wrap_succ (by omega)])
    exact Ev.pos (by omega) (Ev.bindc (idx_at hd) (Ev.bindc (idx_at hd) (Ev.bind hx (Ev.neg (by simp) h))))
end
theorem may_bare {u : Tapi_Term} (h : bareT u = false) : mayT u = false := by
  unfold mayT
  rw [rightT_eq, h, Bool.and_false, Bool.false_and, Bool.and_false]
theorem may_args {u : Tapi_Term} (h : rightsT u.fArgs = false) : mayT u = false := by
  unfold mayT
  rw [rightT_eq, h, Bool.and_false, Bool.and_false]
abbrev zT : Tapi_Term := ⟨0, 0, ⟨false, []⟩, 0, ByteArray.mk #[], []⟩
theorem zT_right : rightT zT = false := by rw [rightT]; decide
theorem rights_snoc : ∀ ts : List Tapi_Term, rightsT (ts ++ [zT]) = false
  | [] => by show rightsT [zT] = false; rw [rightsT, zT_right, Bool.false_and]
  | x :: xs => by rw [List.cons_append, rightsT, rights_snoc xs, Bool.and_false]
theorem zT_w : wTapi_Term zT := by
  refine wTapi_Term.mk ?_ ?_ ?_ ?_ ?_ ?_ ?_
  · exact inI_mk (by decide) (by decide)
  · exact inI_mk (by decide) (by decide)
  · exact wTapi_Num.mk trivial ⟨by simp, fun x h => by cases h⟩
  · show (Lit.int .u64 0).wf = true; decide
  · show 0 ≤ maxLen; omega
  · show 0 ≤ maxLen; omega
  · intro y h; cases h
theorem zT_small : Small zT := Small.mk (by simp) (by show 0 ≤ 1000; omega) (by simp) (fun x h => by cases h)
/-- One that is changed: how it is told, and that it may not be. -/
structure Odd (t : Tapi_Term) (f : Int × Bool × List Int × Int × ByteArray × List Tapi_Term) : Prop where
  may : mayT ⟨t.fKind, f.1, ⟨f.2.1, f.2.2.1⟩, f.2.2.2.1, f.2.2.2.2.1, f.2.2.2.2.2⟩ = false
  small : Small ⟨t.fKind, f.1, ⟨f.2.1, f.2.2.1⟩, f.2.2.2.1, f.2.2.2.2.1, f.2.2.2.2.2⟩
  w : wTapi_Term ⟨t.fKind, f.1, ⟨f.2.1, f.2.2.1⟩, f.2.2.2.1, f.2.2.2.2.1, f.2.2.2.2.2⟩
theorem odd_ev (t : Tapi_Term) (x1 : Int) (hs : Small t) (hw : wTapi_Term t) (hc : t.fArgs.length ≤ 1000) (h1 : InR .i64 x1) : ∃ r, Ev (fun N => beehivelaw4_TermOdd_B1 N t x1 t) r ∧ (r = .inr true ∨ ∃ f, r = .inl f ∧ Odd t f) := by
  obtain ⟨r11, hr, r0, r5⟩ := lowE x1 5 h1 (by decide) (by decide)
  by_cases c0 : r11 = 0
  · by_cases k1 : t.fKind = 1 ∨ t.fKind = 4 ∨ t.fKind = 5
    · refine ⟨.inr true, ?_, .inl rfl⟩
      refine Ev.step ?_ (fun N => by rw [beehivelaw4_TermOdd_B1])
      refine Ev.bind hr (Ev.pos c0 ?_)
      by_cases a1 : t.fKind = 1
      · exact Ev.pos a1 (Ev.bind awake_ev (Ev.now _))
      · by_cases a4 : t.fKind = 4
        · exact Ev.neg a1 (Ev.pos a4 (Ev.bind awake_ev (Ev.now _)))
        · exact Ev.neg a1 (Ev.neg a4 (Ev.pos (by omega) (Ev.bind awake_ev (Ev.now _))))
    · refine ⟨.inl (1, t.fNum.fNeg, t.fNum.fMag, t.fBits, t.fBytes, t.fArgs), ?_, .inr ⟨_, rfl, ?_, ?_, ?_⟩⟩
      · refine Ev.step ?_ (fun N => by rw [beehivelaw4_TermOdd_B1])
        exact Ev.bind hr (Ev.pos c0 (Ev.neg (by omega) (Ev.neg (by omega) (Ev.neg (by omega) (Ev.now _)))))
      · refine may_bare ?_
        unfold bareT
        rw [if_neg k1]
        simp [zN]
      · exact Small.mk hs.mag hs.bytes hs.len hs.args
      · exact wTapi_Term.mk hw.Kind (show InR .i64 1 from inI_mk (by decide) (by decide)) hw.Num hw.Bits hw.Bytes hw.ArgsLen hw.Args
  · by_cases c1 : r11 = 1
    · by_cases k2 : t.fKind = 2
      · refine ⟨.inr true, ?_, .inl rfl⟩
        refine Ev.step ?_ (fun N => by rw [beehivelaw4_TermOdd_B1])
        exact Ev.bind hr (Ev.neg c0 (Ev.pos c1 (Ev.pos k2 (Ev.bind awake_ev (Ev.now _)))))
      · refine ⟨.inl (t.fN, false, [1], t.fBits, t.fBytes, t.fArgs), ?_, .inr ⟨_, rfl, ?_, ?_, ?_⟩⟩
        · refine Ev.step ?_ (fun N => by rw [beehivelaw4_TermOdd_B1])
          exact Ev.bind hr (Ev.neg c0 (Ev.pos c1 (Ev.neg k2 (Ev.now _))))
        · refine may_bare ?_
          unfold bareT
          simp only [if_neg k2]
          simp [zNum]
        · exact Small.mk (by simp) hs.bytes hs.len hs.args
        · refine wTapi_Term.mk hw.Kind hw.N (wTapi_Num.mk trivial ⟨by show 1 ≤ maxLen; rw [maxLen_eq]; omega, fun x h => ?_⟩) hw.Bits hw.Bytes hw.ArgsLen hw.Args
          simp only [List.mem_singleton] at h
          subst h
          show (Lit.int .u32 1).wf = true
          decide
    · by_cases c2 : r11 = 2
      · by_cases k3 : t.fKind = 3
        · refine ⟨.inr true, ?_, .inl rfl⟩
          refine Ev.step ?_ (fun N => by rw [beehivelaw4_TermOdd_B1])
          exact Ev.bind hr (Ev.neg c0 (Ev.neg c1 (Ev.pos c2 (Ev.pos k3 (Ev.bind awake_ev (Ev.now _))))))
        · refine ⟨.inl (t.fN, t.fNum.fNeg, t.fNum.fMag, 1, t.fBytes, t.fArgs), ?_, .inr ⟨_, rfl, ?_, ?_, ?_⟩⟩
          · refine Ev.step ?_ (fun N => by rw [beehivelaw4_TermOdd_B1])
            exact Ev.bind hr (Ev.neg c0 (Ev.neg c1 (Ev.pos c2 (Ev.neg k3 (Ev.now _)))))
          · refine may_bare ?_
            unfold bareT
            simp only [if_neg k3]
            simp [zB]
          · exact Small.mk hs.mag hs.bytes hs.len hs.args
          · exact wTapi_Term.mk hw.Kind hw.N hw.Num (by show (Lit.int .u64 1).wf = true; decide) hw.Bytes hw.ArgsLen hw.Args
      · by_cases c3 : r11 = 3
        · by_cases k9 : t.fKind = 9
          · refine ⟨.inr true, ?_, .inl rfl⟩
            refine Ev.step ?_ (fun N => by rw [beehivelaw4_TermOdd_B1])
            exact Ev.bind hr (Ev.neg c0 (Ev.neg c1 (Ev.neg c2 (Ev.pos c3 (Ev.pos k9 (Ev.bind awake_ev (Ev.now _)))))))
          · refine ⟨.inl (t.fN, t.fNum.fNeg, t.fNum.fMag, t.fBits, ByteArray.mk #[120], t.fArgs), ?_, .inr ⟨_, rfl, ?_, ?_, ?_⟩⟩
            · refine Ev.step ?_ (fun N => by rw [beehivelaw4_TermOdd_B1])
              exact Ev.bind hr (Ev.neg c0 (Ev.neg c1 (Ev.neg c2 (Ev.pos c3 (Ev.neg k9 (Ev.now _))))))
            · refine may_bare ?_
              have hz : ¬ (ByteArray.mk #[120] = ByteArray.mk #[]) := by decide
              unfold bareT
              simp only [if_neg k9]
              simp [zS, hz]
            · exact Small.mk hs.mag (by show 1 ≤ 1000; omega) hs.len hs.args
            · exact wTapi_Term.mk hw.Kind hw.N hw.Num hw.Bits (by show 1 ≤ maxLen; rw [maxLen_eq]; omega) hw.ArgsLen hw.Args
        · refine ⟨.inl (t.fN, t.fNum.fNeg, t.fNum.fMag, t.fBits, t.fBytes, t.fArgs ++ [zT]), ?_, .inr ⟨_, rfl, may_args (rights_snoc _), ?_, ?_⟩⟩
          · refine Ev.step ?_ (fun N => by rw [beehivelaw4_TermOdd_B1])
            exact Ev.bind hr (Ev.neg c0 (Ev.neg c1 (Ev.neg c2 (Ev.neg c3 (Ev.bindc (app0_eq (by rw [lim_eq]; omega)) (Ev.bindc (app_snoc (by omega)) (Ev.now _)))))))
          · refine Small.mk hs.mag hs.bytes (by show (t.fArgs ++ [zT]).length ≤ maxLen; rw [List.length_append, maxLen_eq]; show t.fArgs.length + 1 ≤ _; omega) fun y hy => ?_
            rcases List.mem_append.1 hy with hy | hy
            · exact hs.args y hy
            · simp only [List.mem_singleton] at hy; subst hy; exact zT_small
          · refine wTapi_Term.mk hw.Kind hw.N hw.Num hw.Bits hw.Bytes (by show (t.fArgs ++ [zT]).length ≤ maxLen; rw [List.length_append, maxLen_eq]; show t.fArgs.length + 1 ≤ _; omega) fun y hy => ?_
            rcases List.mem_append.1 hy with hy | hy
            · exact hw.Args y hy
            · simp only [List.mem_singleton] at hy; subst hy; exact zT_w
namespace Pure
theorem TermOdd (x0 : Tapi_Term) (x1 : Int) (w0 : wTapi_Term x0) (w1 : (InR .i64) x1) : ∃ N, beehivelaw4_TermOdd N x0 x1 = some true := by
  refine Ev.ex (f := fun N => beehivelaw4_TermOdd N x0 x1) ?_
  obtain ⟨b, hb, hf⟩ := great_ev x0 w0 400 (by decide) (by decide)
  cases b with
  | true =>
    have hB : Ev (fun N => beehivelaw4_TermOdd_B0 N x0 x1) (.inr true) := by
      refine Ev.step ?_ (fun N => by rw [beehivelaw4_TermOdd_B0])
      exact Ev.bind hb (Ev.pos rfl (Ev.bind awake_ev (Ev.now _)))
    exact Ev.bind hB (Ev.now _)
  | false =>
    obtain ⟨hs, hc⟩ := hf rfl
    have hm := mayT_ev x0 hs w0
    cases h : mayT x0 with
    | false =>
      rw [h] at hm
      have hB : Ev (fun N => beehivelaw4_TermOdd_B0 N x0 x1) (.inr true) := by
        refine Ev.step ?_ (fun N => by rw [beehivelaw4_TermOdd_B0])
        exact Ev.bind hb (Ev.neg (by simp) (Ev.bind hm (Ev.pos (by simp) (Ev.bind awake_ev (Ev.now _)))))
      exact Ev.bind hB (Ev.now _)
    | true =>
      rw [h] at hm
      have hB : Ev (fun N => beehivelaw4_TermOdd_B0 N x0 x1) (.inl ()) := by
        refine Ev.step ?_ (fun N => by rw [beehivelaw4_TermOdd_B0])
        exact Ev.bind hb (Ev.neg (by simp) (Ev.bind hm (Ev.neg (by simp) (Ev.now _))))
      have hl := cnts_len x0.fArgs
      have hce := cnt_eq x0
      obtain ⟨r, hr, hrr⟩ := odd_ev x0 x1 hs w0 (by omega) w1
      refine Ev.bind hB (Ev.bind (copy_ev x0 hs (by omega)) (Ev.bind hr ?_))
      rcases hrr with rfl | ⟨f, rfl, ho⟩
      · exact Ev.now _
      · have hu := mayT_ev _ ho.small ho.w
        rw [ho.may] at hu
        exact Ev.bind hu (Ev.pos (by simp) (Ev.bind (same_ev x0 hs (by omega)) (Ev.pos rfl (Ev.bind awake_ev (Ev.now _)))))
end Pure
end Go.Proofs.Ytocgnoohfkpbhaa.Sh
