import Derived.Test.YtncpghadgddofaaPureBoxA
set_option linter.unusedVariables false
namespace Go.Proofs.Ytncpghadgddofaa.Sh
open Go Lift Go.Proofs
theorem take_snoc (l : List Int) (i : Nat) (h : i < l.length) : l.take i ++ [l[i]] = l.take (i + 1) := by simp
theorem bput_take (l : List Int) (i : Nat) (k : Int) (h : i < l.length) (hl : l.length ≤ 24) : Ev (fun N => box_Box_int_Put N ⟨l.take i, 24, k⟩ l[i]) (true, ⟨l.take (i + 1), 24, k⟩) := by
  have hp := bput_ev ⟨l.take i, 24, k⟩ l[i] (by simp; omega)
  unfold bput at hp
  have hc : ¬ (((⟨l.take i, 24, k⟩ : Tbox_Box_int).fl.length : Nat) : Int) ≥ 24 := by simp; omega
  rw [if_neg hc] at hp
  rw [← take_snoc l i h]
  exact hp
theorem grows_l1 (l : List Int) (p : Nat) (hp : p ≤ l.length) (hl : l.length ≤ 24) : ∀ (n i : Nat), p - i = n → i ≤ p → Ev (fun N => beehivelaw15_BoxGrows_L1 N l p (l.take i) 24 i i) (.inl (l.take p, 24, (p : Int))) := by
  intro n
  induction n with
  | zero =>
    intro i hn hi
    obtain rfl : i = p := by omega
    refine Ev.step ?_ (fun N => by rw [beehivelaw15_BoxGrows_L1])
    exact Ev.neg (by omega) (Ev.now _)
  | succ n ih =>
    intro i hn hi
    have hil : i < l.length := by omega
    have ht : (l.take (i + 1)).length = i + 1 := by simp; omega
    refine Ev.step ?_ (fun N => by rw [beehivelaw15_BoxGrows_L1])
    refine Ev.pos (by omega) (Ev.bindc (idx_eq hil) (Ev.bind (bput_take l i i hil hl) (Ev.neg (by simp) (Ev.bind (bnext_some _ _ i (by omega) (by omega)) (Ev.neg (by simp) ?_)))))
    rw [wrap_succ (by omega)]
    exact ih (i + 1) (by omega) (by omega)
theorem grows_l2 (l : List Int) (p : Nat) (hp : p ≤ l.length) (hl : l.length ≤ 24) (r : Int × Bool × Tbox_Box_int) : ∀ (n i : Nat), l.length - i = n → i ≤ l.length → p ≤ i → Ev (fun N => beehivelaw15_BoxGrows_L2 N l p r (l.take i) 24 p i) (.inl (l, 24, (p : Int))) := by
  intro n
  induction n with
  | zero =>
    intro i hn hi hpi
    obtain rfl : i = l.length := by omega
    refine Ev.step ?_ (fun N => by rw [beehivelaw15_BoxGrows_L2])
    refine Ev.neg (by omega) ?_
    rw [List.take_length]
    exact Ev.now _
  | succ n ih =>
    intro i hn hi hpi
    have hil : i < l.length := by omega
    have ht : (l.take (i + 1)).length = i + 1 := by simp; omega
    have hpl : p < l.length := by omega
    have hg : (l.take (i + 1))[p]'(by omega) = l[p] := by simp
    have hat := bat_some (l.take (i + 1)) 24 p (by omega)
    rw [hg] at hat
    refine Ev.step ?_ (fun N => by rw [beehivelaw15_BoxGrows_L2])
    refine Ev.pos (by omega) (Ev.bindc (idx_eq hil) (Ev.bind (bput_take l i p hil hl) (Ev.neg (by simp) (Ev.bind hat (Ev.neg (by simp) (Ev.bindc (idx_eq hpl) (Ev.neg (by simp) ?_)))))))
    refine Ev.bind (bmark_ev _) (Ev.neg (by simp) ?_)
    rw [wrap_succ (by omega)]
    exact ih (i + 1) (by omega) (by omega) (by omega)
namespace Pure
theorem BoxGrows (x0 : (List Int)) (x1 : Int) (w0 : (ListR (InR .i64)) x0) (w1 : (InR .i64) x1) : ∃ N, beehivelaw15_BoxGrows N x0 x1 = some true := by
  refine Ev.ex (f := fun N => beehivelaw15_BoxGrows N x0 x1) ?_
  by_cases h1 : ((x0.length : Nat) : Int) > 24
  · refine Ev.bind (a := .inr true) ?_ ?_
    · refine Ev.step ?_ (fun N => by rw [beehivelaw15_BoxGrows_B0])
      exact Ev.pos h1 (Ev.bind awake_ev (Ev.now _))
    · exact Ev.now _
  by_cases h2 : ((x0.length : Nat) : Int) = 0
  · refine Ev.bind (a := .inr true) ?_ ?_
    · refine Ev.step ?_ (fun N => by rw [beehivelaw15_BoxGrows_B0])
      exact Ev.neg h1 (Ev.pos h2 (Ev.bind awake_ev (Ev.now _)))
    · exact Ev.now _
  refine Ev.bind (a := .inl ()) ?_ ?_
  · refine Ev.step ?_ (fun N => by rw [beehivelaw15_BoxGrows_B0])
    exact Ev.neg h1 (Ev.neg h2 (Ev.now _))
  have haw : Ev (fun N => (beehivelaw15_awake N).bind fun r3 => some r3) true := Ev.bind awake_ev (Ev.now _)
  have ew : IntKind.i64.wrap (((x0.length : Nat) : Int) + 1) = (x0.length : Int) + 1 := wrapI _ (by omega) (by omega)
  obtain ⟨r, hr, b0, b1, _⟩ := lowE x1 ((x0.length : Int) + 1) w1 (by omega) (by omega)
  obtain ⟨p, rfl⟩ : ∃ p : Nat, r = (p : Int) := ⟨r.toNat, by omega⟩
  refine Ev.bindc (a := some ⟨[], 24, 0⟩) rfl ?_
  show Ev (fun N => (beehivelaw0_Low N x1 (IntKind.wrap .i64 (((x0.length : Nat) : Int) + (1 : Int)))).bind fun r10 => _) _
  rw [ew]
  refine Ev.bind hr ?_
  have hl1 := grows_l1 x0 p (by omega) (by omega) _ 0 rfl (by omega)
  rw [List.take_zero] at hl1
  have ht : (x0.take p).length = p := by simp; omega
  refine Ev.bind hl1 (Ev.bind (bat_none (x0.take p) 24 p (by omega)) ?_)
  refine Ev.bind (grows_l2 x0 p (by omega) (by omega) _ _ p rfl (by omega) (by omega)) (Ev.pos (by simp) ?_)
  refine Ev.bind (ball_ev ⟨x0, 24, p⟩ (by show x0.length < _; omega)) (Ev.bind (sameInts_ev x0 x0 w0.len) (Ev.pos (by simp) ?_))
  refine Ev.bind (bput_ev ⟨x0, 24, p⟩ 1 (by show x0.length < _; omega)) (Ev.pos ?_ haw)
  unfold bput
  by_cases h3 : (x0.length : Int) ≥ 24
  · rw [if_pos (show (((⟨x0, 24, p⟩ : Tbox_Box_int).fl.length : Nat) : Int) ≥ 24 from h3)]
    exact (decide_eq_false (by omega)).symm
  · rw [if_neg (show ¬ (((⟨x0, 24, p⟩ : Tbox_Box_int).fl.length : Nat) : Int) ≥ 24 from h3)]
    exact (decide_eq_true (by omega)).symm
end Pure
end Go.Proofs.Ytncpghadgddofaa.Sh
