import Derived.Test.YtncpghadgddofaaInv
import Derived.Test.YtncpghadgddofaaLift3
set_option linter.unusedVariables false
namespace Go.Proofs.Ytncpghadgddofaa.Sh
open Go Lift Go.Proofs

theorem lowE (x n : Int) (hx : InR .i64 x) (h0 : 0 < n) (h1 : n < 9223372036854775808) : ∃ r, Ev (fun N => beehivelaw0_Low N x n) r ∧ 0 ≤ r ∧ r < n ∧ r = IntKind.u64.wrap x % n := by
  have hu := wrapU_eq x
  have e1 : IntKind.u64.wrap n = n := wrapU n (by omega) (by omega)
  have hp : 0 ≤ IntKind.u64.wrap x := by omega
  have e2 : (IntKind.u64.wrap x).tmod n = IntKind.u64.wrap x % n := Int.tmod_eq_emod_of_nonneg hp
  have b0 := Int.emod_nonneg (IntKind.u64.wrap x) (show n ≠ 0 by omega)
  have b1 := Int.emod_lt_of_pos (IntKind.u64.wrap x) h0
  refine ⟨IntKind.u64.wrap x % n, ?_, b0, b1, rfl⟩
  refine Ev.bindc (a := IntKind.u64.wrap x % n) (by rw [e1, rem_eq (by omega), e2]) ?_
  have e3 : IntKind.i64.wrap (IntKind.u64.wrap x % n) = IntKind.u64.wrap x % n := wrapI _ (by omega) (by omega)
  show Ev (fun _ => some (IntKind.i64.wrap (IntKind.u64.wrap x % n))) _
  rw [e3]
  exact Ev.now _

/-! ### The lists of integers -/
theorem sameInts_loop : ∀ (ts : List Int) (a b : List Int) (i : Nat), a.drop i = ts → a.length = b.length → a.length ≤ maxLen → Ev (fun N => beehivelaw0_SameInts_L0 N a b i) (if b.drop i = ts then .inl () else .inr ())
  | [], a, b, i, hd, hl, hm => by
    have := drop_end hd
    have hb : b.drop i = [] := List.drop_eq_nil_of_le (by omega)
    rw [if_pos hb]
    refine Ev.step ?_ (fun N => by rw [beehivelaw0_SameInts_L0])
    exact Ev.neg (by omega) (Ev.now _)
  | x :: xs, a, b, i, hd, hl, hm => by
    have hlen := drop_len hd
    rw [maxLen_eq] at hm
    have hib : i < b.length := by omega
    have hb : b.drop i = b[i] :: b.drop (i + 1) := List.drop_eq_getElem_cons hib
    refine Ev.step ?_ (fun N => by rw [beehivelaw0_SameInts_L0])
    refine Ev.pos (by omega) (Ev.bindc (idx_at hd) (Ev.bindc (idx_at hb) ?_))
    rw [hb]
    by_cases hx : x = b[i]
    · refine Ev.neg (by simpa using hx) ?_
      rw [wrap_succ (by omega)]
      have := sameInts_loop xs a b (i + 1) (drop_next hd) hl (by rw [maxLen_eq]; omega)
      have e : (b[i] :: b.drop (i + 1) = x :: xs) = (b.drop (i + 1) = xs) := by rw [hx, List.cons.injEq]; simp
      simp only [e]
      exact this
    · refine Ev.pos hx ?_
      rw [if_neg (fun h => hx (List.cons.inj h).1.symm)]
      exact Ev.now _
theorem sameInts_ev (a b : List Int) (hm : a.length ≤ maxLen) : Ev (fun N => beehivelaw0_SameInts N a b) (decide (a = b)) := by
  by_cases hl : a.length = b.length
  · refine Ev.neg (by omega) ?_
    have hq := sameInts_loop a a b 0 rfl hl hm
    rw [List.drop_zero] at hq
    refine Ev.bind hq ?_
    by_cases h : b = a
    · rw [if_pos h, decide_eq_true h.symm]; exact Ev.now _
    · rw [if_neg h, decide_eq_false (fun e => h e.symm)]; exact Ev.now _
  · rw [decide_eq_false (fun e => hl (by rw [e]))]
    exact Ev.pos (by omega) (Ev.now _)
theorem overInts_loop : ∀ (n : Nat) (a : List Int) (i : Nat), a.length - i = n → a.length ≤ maxLen → ∃ b, Ev (fun N => beehivelaw0_OverInts_L0 N a i) b ∧ b.length = a.length
  | 0, a, i, hn, hm => by
    refine ⟨a, ?_, rfl⟩
    refine Ev.step ?_ (fun N => by rw [beehivelaw0_OverInts_L0])
    exact Ev.neg (by omega) (Ev.now _)
  | n + 1, a, i, hn, hm => by
    rw [maxLen_eq] at hm
    obtain ⟨b, hb, hl⟩ := overInts_loop n (a.set i (-999)) (i + 1) (by simp; omega) (by rw [maxLen_eq]; simp; omega)
    refine ⟨b, ?_, by simpa using hl⟩
    refine Ev.step ?_ (fun N => by rw [beehivelaw0_OverInts_L0])
    refine Ev.pos (by omega) (Ev.bindc (idx_eq (by omega)) ?_)
    rw [wrap_succ (by omega)]
    exact hb
theorem overInts_ev (a : List Int) (hl : a.length + 1 ≤ lim) : Ev (fun N => beehivelaw0_OverInts N a) () := by
  rw [lim_eq] at hl
  obtain ⟨b, hb, hbl⟩ := overInts_loop _ a 0 rfl (by rw [maxLen_eq]; omega)
  exact Ev.bind hb (Ev.bindc (app_eq (by rw [lim_eq]; simp; omega)) (Ev.now _))
theorem cloneInts_ev (a : List Int) (hl : a.length ≤ lim) : Ev (fun N => slices_Clone_int_int_all N a) a := by
  cases a with
  | nil => exact Ev.now _
  | cons x xs => exact Ev.bindc (app_eq (by simpa using hl)) (Ev.now _)
theorem concatInts_ev (a b : List Int) (hl : a.length + b.length ≤ 100000) : Ev (fun N => slices_Concat_int_int N [a, b]) (a ++ b) := by
  have e1 : IntKind.i64.wrap ((0 : Int) + 1) = 1 := by decide
  have e2 : IntKind.i64.wrap ((1 : Int) + 1) = 2 := by decide
  have w1 : IntKind.i64.wrap ((0 : Int) + (a.length : Int)) = (a.length : Int) := by rw [wrapI _ (by omega) (by omega)]; omega
  have w2 : IntKind.i64.wrap ((a.length : Int) + (b.length : Int)) = ((a.length + b.length : Nat) : Int) := by rw [wrapI _ (by omega) (by omega)]; omega
  have l0 : Ev (fun N => slices_Concat_int_int_L0 N [a, b] 0 0) ((a.length + b.length : Nat) : Int) := by
    refine Ev.step ?_ (fun N => by rw [slices_Concat_int_int_L0])
    refine Ev.pos (by simp) (Ev.bindc (a := a) rfl (Ev.neg (by rw [w1]; omega) ?_))
    rw [w1, e1]
    refine Ev.step ?_ (fun N => by rw [slices_Concat_int_int_L0])
    refine Ev.pos (by simp) (Ev.bindc (a := b) rfl (Ev.neg (by rw [w2]; omega) ?_))
    rw [w2, e2]
    refine Ev.step ?_ (fun N => by rw [slices_Concat_int_int_L0])
    exact Ev.neg (by simp) (Ev.now _)
  have w3 : IntKind.i64.wrap (((a.length + b.length : Nat) : Int) - IntKind.i64.wrap ((0 : Int) - 0)) = ((a.length + b.length : Nat) : Int) := by
    rw [show IntKind.i64.wrap ((0 : Int) - 0) = 0 from by decide, wrapI _ (by omega) (by omega)]; omega
  have g : Ev (fun N => slices_Grow_int_int N ((a.length + b.length : Nat) : Int)) ([] : List Int) := by
    refine Ev.neg (by omega) ?_
    show Ev (fun N => if IntKind.i64.wrap (((a.length + b.length : Nat) : Int) - IntKind.i64.wrap ((0 : Int) - 0)) > 0 then (if 0 < IntKind.i64.wrap (((a.length + b.length : Nat) : Int) - IntKind.i64.wrap ((0 : Int) - 0)) ∧ IntKind.i64.wrap (((a.length + b.length : Nat) : Int) - IntKind.i64.wrap ((0 : Int) - 0)) ≤ 1000000000000 then some ([] : List Int) else none) else some ([] : List Int)) _
    rw [w3]
    by_cases h : ((a.length + b.length : Nat) : Int) > 0
    · exact Ev.pos h (Ev.pos ⟨h, by omega⟩ (Ev.now _))
    · exact Ev.neg h (Ev.now _)
  have l1 : Ev (fun N => slices_Concat_int_int_L1 N [a, b] [] 0) (a ++ b) := by
    refine Ev.step ?_ (fun N => by rw [slices_Concat_int_int_L1])
    refine Ev.pos (by simp) (Ev.bindc (a := a) rfl (Ev.bindc (a := a) (by rw [app_eq (by rw [lim_eq]; simp; omega)]; rfl) ?_))
    rw [e1]
    refine Ev.step ?_ (fun N => by rw [slices_Concat_int_int_L1])
    refine Ev.pos (by simp) (Ev.bindc (a := b) rfl (Ev.bindc (app_eq (by rw [lim_eq]; omega)) ?_))
    rw [e2]
    refine Ev.step ?_ (fun N => by rw [slices_Concat_int_int_L1])
    exact Ev.neg (by simp) (Ev.now _)
  exact Ev.bind l0 (Ev.bind g (Ev.bind l1 (Ev.now _)))
end Go.Proofs.Ytncpghadgddofaa.Sh
