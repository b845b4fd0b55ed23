import Derived.Test.YtcknifhhgeccfaaPureCodeB
set_option linter.unusedVariables false
set_option linter.unusedSimpArgs false
namespace Go.Proofs.Ytcknifhhgeccfaa.Sh
open Go Lift Go.Proofs
theorem sizes_loop (p : Tapi_Program) (r4 : List Int × Int) (hl : p.fConsts.length ≤ 100) (hs : ∀ x ∈ p.fConsts, Small x) (hw : ∀ x ∈ p.fConsts, wTapi_Term x) : ∀ (ts : List Tapi_Term) (i : Nat), p.fConsts.drop i = ts → ts.all mayT = true → ∀ n : Nat, n + 3000 * ts.length ≤ 800000 → Ev (fun N => beehivelaw17_CodeSizes_L0 N p r4 (n : Int) (i : Int)) (.inl ((n + (layTs ts).length : Nat) : Int))
  | [], i, hd, hm, n, ha => by
    have := drop_end hd
    refine Ev.step ?_ (fun N => by rw [beehivelaw17_CodeSizes_L0])
    rw [layTs]
    exact Ev.neg (by omega) (Ev.now _)
  | x :: xs, i, hd, hm, n, ha => by
    have hlen := drop_len hd
    have mx : x ∈ p.fConsts := List.mem_of_mem_drop (i := i) (by rw [hd]; exact List.mem_cons_self)
    have hL := Lay_ev x (hs x mx) (hw x mx)
    rw [List.length_cons] at ha
    rw [List.all_cons, Bool.and_eq_true] at hm
    rw [laid_yes hm.1] at hL
    have h3 := may_len hm.1
    have ih := sizes_loop p r4 hl hs hw xs (i + 1) (drop_next hd) hm.2 (n + (layT x).length) (by omega)
    have e : IntKind.i64.wrap ((n : Int) + (((layT x).length : Nat) : Int)) = ((n + (layT x).length : Nat) : Int) := by rw [wrapI _ (by omega) (by omega)]; omega
    refine Ev.step ?_ (fun N => by rw [beehivelaw17_CodeSizes_L0, wrap_succ (by omega)])
    refine Ev.pos (by omega) (Ev.bindc (idx_at hd) (Ev.bind hL (Ev.neg (fun h => h rfl) ?_)))
    show Ev (fun N => beehivelaw17_CodeSizes_L0 N p r4 (IntKind.i64.wrap ((n : Int) + (((layT x).length : Nat) : Int))) ((i + 1 : Nat) : Int)) _
    rw [e, layTs, List.length_append, ← Nat.add_assoc]
    exact ih
namespace Pure
theorem CodeSizes (x0 : Tapi_Program) (w0 : wTapi_Program x0) : ∃ N, beehivelaw17_CodeSizes N x0 = some true := by
  refine Ev.ex ?_
  obtain ⟨g0, e0, k0⟩ := greatP_ev x0 w0
  cases g0 with
  | true => exact Ev.bind e0 (Ev.pos rfl (Ev.bind awake17_ev (Ev.now _)))
  | false =>
  obtain ⟨o0, c0, s0, n0⟩ := k0 rfl
  have hL := pLay_ev x0 s0 w0.Consts.all
  refine Ev.bind e0 (Ev.neg Bool.false_ne_true (Ev.bind hL ?_))
  by_cases h1 : x0.fOps.length > 120 ∨ x0.fConsts.length > 16
  · have e : laidP x0 = ([], 3) := by unfold laidP; rw [if_pos h1]
    rw [e]
    exact Ev.pos (show (3 : Int) ≠ 0 by decide) (Ev.pos rfl (Ev.bind awake17_ev (Ev.now _)))
  by_cases h2 : x0.fOps.all mayO = true ∧ x0.fConsts.all mayT = true
  · have e : laidP x0 = (bodyP x0, 0) := by unfold laidP; rw [if_neg h1, if_pos h2]
    rw [e]
    have hbl := bodyP_len x0
    have hll := lays_len x0.fConsts h2.2
    have hsz := sizes_loop x0 (bodyP x0, 0) (by omega) s0 w0.Consts.all x0.fConsts 0 rfl h2.2 (3 + 4 * x0.fOps.length) (by omega)
    have ez : IntKind.wrap .i64 ((3 : Int) + (IntKind.wrap .i64 ((4 : Int) * ((x0.fOps.length : Nat) : Int)))) = ((3 + 4 * x0.fOps.length : Nat) : Int) := by
      rw [wrapI ((4 : Int) * _) (by omega) (by omega), wrapI _ (by omega) (by omega)]; omega
    refine Ev.neg (fun h => h rfl) ?_
    rw [ez]
    refine Ev.bind hsz (Ev.neg (by show ¬ (((bodyP x0).length : Nat) : Int) ≠ _; rw [hbl]; exact fun h => h rfl) ?_)
    by_cases hz : ((x0.fOps.length : Nat) : Int) = 0
    · exact Ev.pos hz (Ev.bind awake17_ev (Ev.now _))
    · refine Ev.neg hz ?_
      have el : IntKind.i64.wrap (((x0.fOps.length : Nat) : Int) - 1) = ((x0.fOps.length - 1 : Nat) : Int) := by rw [wrapI _ (by omega) (by omega)]; omega
      rw [el]
      refine Ev.bindc (cut_front (by omega)) ?_
      have hm : (x0.fOps.take (x0.fOps.length - 1)).all mayO = true := List.all_eq_true.2 fun x hx => List.all_eq_true.1 h2.1 x (List.mem_of_mem_take hx)
      have hq := pLay_ev ⟨x0.fOps.take (x0.fOps.length - 1), x0.fConsts⟩ s0 w0.Consts.all
      have hlt : (x0.fOps.take (x0.fOps.length - 1)).length = x0.fOps.length - 1 := by rw [List.length_take]; omega
      have eq : laidP ⟨x0.fOps.take (x0.fOps.length - 1), x0.fConsts⟩ = (bodyP ⟨x0.fOps.take (x0.fOps.length - 1), x0.fConsts⟩, 0) := by
        unfold laidP
        rw [if_neg (by show ¬ ((x0.fOps.take (x0.fOps.length - 1)).length > 120 ∨ x0.fConsts.length > 16); omega), if_pos ⟨hm, h2.2⟩]
      rw [eq] at hq
      have hbq := bodyP_len ⟨x0.fOps.take (x0.fOps.length - 1), x0.fConsts⟩
      have hbq : (bodyP ⟨x0.fOps.take (x0.fOps.length - 1), x0.fConsts⟩).length = 3 + 4 * (x0.fOps.take (x0.fOps.length - 1)).length + (layTs x0.fConsts).length := hbq
      have hsm := pSame_ev x0 ⟨x0.fOps.take (x0.fOps.length - 1), x0.fConsts⟩ w0.Ops.len w0.Consts.len s0
      have hne : sameQ x0 ⟨x0.fOps.take (x0.fOps.length - 1), x0.fConsts⟩ = false := by
        unfold sameQ
        rw [allP_len (show x0.fOps.length ≠ (x0.fOps.take (x0.fOps.length - 1)).length by omega), Bool.false_and]
      rw [hne] at hsm
      refine Ev.bind hq (Ev.pos rfl (Ev.pos ?_ (Ev.bind hsm (Ev.pos Bool.false_ne_true (Ev.bind awake17_ev (Ev.now _))))))
      show (((bodyP ⟨x0.fOps.take (x0.fOps.length - 1), x0.fConsts⟩).length : Nat) : Int) = IntKind.i64.wrap ((((3 + 4 * x0.fOps.length + (layTs x0.fConsts).length : Nat)) : Int) - 4)
      rw [hbq, wrapI _ (by omega) (by omega), hlt]
      omega
  · have e : laidP x0 = ([], 2) := by unfold laidP; rw [if_neg h1, if_neg h2]
    rw [e]
    exact Ev.pos (show (2 : Int) ≠ 0 by decide) (Ev.pos rfl (Ev.bind awake17_ev (Ev.now _)))
end Pure
end Go.Proofs.Ytcknifhhgeccfaa.Sh
