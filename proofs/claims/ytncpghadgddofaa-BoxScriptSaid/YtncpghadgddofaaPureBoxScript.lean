import Derived.Test.YtncpghadgddofaaPureBoxA
set_option linter.unusedVariables false
namespace Go.Proofs.Ytncpghadgddofaa.Sh
open Go Lift Go.Proofs
theorem rput_ev (l : List Int) (m k x : Int) (hl : l.length < 1000) : Ev (fun N => beehiveref15_Box_Put N ⟨l, m, k⟩ x) (if (l.length : Int) ≥ m then (false, ⟨l, m, k⟩) else (true, ⟨l ++ [x], m, k⟩)) := by
  refine Ev.iff (fun _ => Ev.now _) fun h => Ev.bindc (app0_eq (by rw [lim_eq]; show l.length ≤ _; omega)) (Ev.bindc (app_eq (by rw [lim_eq]; show l.length + 1 ≤ _; omega)) (Ev.now _))
theorem rsome_ev (l : List Int) (m : Int) (k : Nat) : Ev (fun N => beehiveref15_Box_Some N ⟨l, m, k⟩) (decide (k < l.length), ⟨l, m, k⟩) := by
  show Ev (fun _ => some (decide ((k : Int) < ((l.length : Nat) : Int)), (⟨l, m, k⟩ : Tref15_Box))) _
  rw [show decide ((k : Int) < ((l.length : Nat) : Int)) = decide (k < l.length) from decide_eq_decide.2 (by omega)]
  exact Ev.now _
theorem rtake_some (l : List Int) (m : Int) (k : Nat) (hk : k < l.length) (hl : l.length < 1000) : Ev (fun N => beehiveref15_Box_Take N ⟨l, m, k⟩) (l[k], k, true, ⟨l.eraseIdx k, m, 0⟩) := by
  refine Ev.bind (rsome_ev l m k) (Ev.neg (by simp [hk]) (Ev.bindc (idx_eq hk) (Ev.bindc (cut_front (xs := l) (by omega)) ?_)))
  show Ev (fun N => (Lift.cut l (IntKind.i64.wrap ((k : Int) + 1)) ((l.length : Nat) : Int)).bind fun x5 => (app0 (l.take k)).bind fun x6 => (app x6 x5).bind fun x7 => some (l[k], (k : Int), true, Tref15_Box.mk x7 m 0)) _
  rw [wrap_succ (by omega)]
  refine Ev.bindc (cut_back (by omega)) (Ev.bindc (app0_eq (by rw [lim_eq]; simp; omega)) (Ev.bindc (app_eq (by rw [lim_eq]; simp; omega)) ?_))
  rw [eraseIdx_two']
  exact Ev.now _
theorem rtake_none (l : List Int) (m : Int) (k : Nat) (hk : l.length ≤ k) : Ev (fun N => beehiveref15_Box_Take N ⟨l, m, k⟩) (0, 0, false, ⟨l, m, k⟩) :=
  Ev.bind (rsome_ev l m k) (Ev.pos (by simp; omega) (Ev.now _))

theorem step_ev (acts : List Tlaw15_Act) (a : Tlaw15_Act) (i : Nat) (hi : idx acts (i : Int) = some a) (l : List Int) (m : Int) (k : Nat) (hl : l.length ≤ i) (hi2 : i < 100) (hk : k ≤ l.length) :
    ∃ l' : List Int, ∃ k' : Nat, Ev (fun N => beehivelaw15_BoxScript_B2 N acts l l m k m k i) (l', l', m, k', m, k', true) ∧ l'.length ≤ i + 1 ∧ k' ≤ l'.length := by
  by_cases h0 : a.fDo = 0
  · have hp := bput_ev ⟨l, m, k⟩ a.fN (by show l.length < _; omega)
    have hq := rput_ev l m k a.fN (by omega)
    unfold bput at hp
    by_cases hm : (l.length : Int) ≥ m
    · rw [if_pos hm] at hq
      rw [if_pos (show (((⟨l, m, k⟩ : Tbox_Box_int).fl.length : Nat) : Int) ≥ m from hm)] at hp
      refine ⟨l, k, ?_, by omega, hk⟩
      refine Ev.step ?_ (fun N => by rw [beehivelaw15_BoxScript_B2])
      exact Ev.bindc hi (Ev.pos h0 (Ev.bind hp (Ev.bind hq (Ev.now _))))
    · rw [if_neg hm] at hq
      rw [if_neg (show ¬ (((⟨l, m, k⟩ : Tbox_Box_int).fl.length : Nat) : Int) ≥ m from hm)] at hp
      refine ⟨l ++ [a.fN], k, ?_, by simp; omega, by simp; omega⟩
      refine Ev.step ?_ (fun N => by rw [beehivelaw15_BoxScript_B2])
      exact Ev.bindc hi (Ev.pos h0 (Ev.bind hp (Ev.bind hq (Ev.now _))))
  by_cases h1 : a.fDo = 1
  · by_cases hkl : k < l.length
    · refine ⟨l, k + 1, ?_, by omega, by omega⟩
      refine Ev.step ?_ (fun N => by rw [beehivelaw15_BoxScript_B2])
      refine Ev.bindc hi (Ev.neg h0 (Ev.pos h1 (Ev.bind (rsome_ev l m k) (Ev.bind (bnext_some l m k hkl (by omega)) (Ev.pos (by simp [hkl]) ?_)))))
      show Ev (fun _ => some (l, l, m, ((k + 1 : Nat) : Int), m, IntKind.i64.wrap ((k : Int) + 1), (true == decide (k < l.length)))) _
      rw [wrap_succ (by omega), decide_eq_true hkl]
      exact Ev.now _
    · refine ⟨l, k, ?_, by omega, by omega⟩
      refine Ev.step ?_ (fun N => by rw [beehivelaw15_BoxScript_B2])
      refine Ev.bindc hi (Ev.neg h0 (Ev.pos h1 (Ev.bind (rsome_ev l m k) (Ev.bind (bnext_none l m k (by omega)) (Ev.neg (by simp [hkl]) ?_)))))
      show Ev (fun _ => some (l, l, m, (k : Int), m, (k : Int), (false == decide (k < l.length)))) _
      rw [decide_eq_false hkl]
      exact Ev.now _
  by_cases h2 : a.fDo = 2
  · by_cases hkl : k < l.length
    · refine ⟨l.eraseIdx k, 0, ?_, by rw [List.length_eraseIdx]; split <;> omega, by omega⟩
      refine Ev.step ?_ (fun N => by rw [beehivelaw15_BoxScript_B2])
      exact Ev.bindc hi (Ev.neg h0 (Ev.neg h1 (Ev.pos h2 (Ev.bind (btake_some l m k hkl (by omega)) (Ev.bind (rtake_some l m k hkl (by omega)) (Ev.pos rfl (Ev.pos rfl (Ev.now _))))))))
    · refine ⟨l, k, ?_, by omega, by omega⟩
      refine Ev.step ?_ (fun N => by rw [beehivelaw15_BoxScript_B2])
      exact Ev.bindc hi (Ev.neg h0 (Ev.neg h1 (Ev.pos h2 (Ev.bind (btake_none l m k (by omega)) (Ev.bind (rtake_none l m k (by omega)) (Ev.pos rfl (Ev.pos rfl (Ev.now _))))))))
  · refine ⟨l, k, ?_, by omega, hk⟩
    refine Ev.step ?_ (fun N => by rw [beehivelaw15_BoxScript_B2])
    exact Ev.bindc hi (Ev.neg h0 (Ev.neg h1 (Ev.neg h2 (Ev.now _))))
theorem see_ev (acts : List Tlaw15_Act) (i : Nat) (l0 : List Int) (u v : Int) (l : List Int) (m : Int) (k : Nat) (hl : l.length < 1000) (hk : k ≤ l.length) (r27 : (List Int) × (List Int) × Int × Int × Int × Int × Bool) (h27 : r27 = (l, l, m, (k : Int), m, (k : Int), true)) :
    ∃ x : Int, ∃ b : Bool, Ev (fun N => box_Box_int_At N ⟨l, m, k⟩) (x, b, ⟨l, m, k⟩) ∧ Ev (fun N => beehivelaw15_BoxScript_B3 N acts l0 u v i r27 (x, b, ⟨l, m, k⟩)) (l, m, (k : Int), x) ∧ b = decide (k < l.length) := by
  subst h27
  by_cases hkl : k < l.length
  · refine ⟨l[k], true, bat_some l m k hkl, ?_, (decide_eq_true hkl).symm⟩
    refine Ev.step ?_ (fun N => by rw [beehivelaw15_BoxScript_B3])
    exact Ev.bind (rsome_ev l m k) (Ev.pos (by simp [hkl]) (Ev.bindc (idx_eq hkl) (Ev.now _)))
  · refine ⟨0, false, bat_none l m k (by omega), ?_, (decide_eq_false hkl).symm⟩
    refine Ev.step ?_ (fun N => by rw [beehivelaw15_BoxScript_B3])
    exact Ev.bind (rsome_ev l m k) (Ev.neg (by simp [hkl]) (Ev.now _))
theorem script_loop : ∀ (ts : List Tlaw15_Act) (acts : List Tlaw15_Act) (i : Nat) (l : List Int) (m : Int) (k : Nat), acts.drop i = ts → i ≤ acts.length → acts.length ≤ 100 → l.length ≤ i → k ≤ l.length →
    ∃ l' : List Int, ∃ k' : Nat, Ev (fun N => beehivelaw15_BoxScript_L0 N acts l l m k m k i) (.inl (l', l', m, k', m, k')) ∧ l'.length ≤ 100
  | [], acts, i, l, m, k, hd, hi, hl, hll, hk => by
    have := drop_end hd
    refine ⟨l, k, ?_, by omega⟩
    refine Ev.step ?_ (fun N => by rw [beehivelaw15_BoxScript_L0])
    exact Ev.neg (by omega) (Ev.now _)
  | a :: xs, acts, i, l, m, k, hd, hi, hl, hll, hk => by
    have hlen := drop_len hd
    obtain ⟨l1, k1, h1, g1, g2⟩ := step_ev acts a i (idx_at hd) l m k hll (by omega) hk
    obtain ⟨l2, k2, h2, g3⟩ := script_loop xs acts (i + 1) l1 m k1 (drop_next hd) (by omega) hl g1 g2
    obtain ⟨x, b, s1, s2, s3⟩ := see_ev acts i l m k l1 m k1 (by omega) g2 _ rfl
    refine ⟨l2, k2, ?_, g3⟩
    refine Ev.step ?_ (fun N => by rw [beehivelaw15_BoxScript_L0])
    refine Ev.pos (by omega) (Ev.bind (a := .inl (l1, l1, m, k1, m, k1)) ?_ ?_)
    · refine Ev.step ?_ (fun N => by rw [beehivelaw15_BoxScript_B1])
      refine Ev.bind h1 (Ev.bind s1 (Ev.bind s2 (Ev.bind (ball_ev ⟨l1, m, k1⟩ (by show l1.length < _; omega)) ?_)))
      refine Ev.bind (a := (l1, l1, m, (k1 : Int), m, (k1 : Int), false)) ?_ (Ev.neg (by simp) (Ev.bind (overInts_ev l1 (by rw [lim_eq]; omega)) (Ev.now _)))
      refine Ev.step ?_ (fun N => by rw [beehivelaw15_BoxScript_B4])
      refine Ev.neg (by simp) (Ev.bind (rsome_ev l1 m k1) (Ev.neg (by simp [s3]) (Ev.neg (by simp) (Ev.bind (bmark_ev _) (Ev.neg (by simp) (Ev.bind (sameInts_ev l1 l1 (by rw [maxLen_eq]; omega)) ?_))))))
      rw [decide_eq_true rfl]
      exact Ev.now _
    · show Ev (fun N => beehivelaw15_BoxScript_L0 N acts l1 l1 m k1 m k1 (IntKind.i64.wrap ((i : Int) + 1))) _
      rw [wrap_succ (by omega)]
      exact h2
namespace Pure
theorem BoxScript (x0 : Int) (x1 : (List Tlaw15_Act)) (w0 : (InR .i64) x0) (w1 : (ListR wTlaw15_Act) x1) : ∃ N, beehivelaw15_BoxScript N x0 x1 = some true := by
  refine Ev.ex (f := fun N => beehivelaw15_BoxScript N x0 x1) ?_
  have haw : Ev (fun N => (beehivelaw15_awake N).bind fun r3 => some r3) true := Ev.bind awake_ev (Ev.now _)
  by_cases h : ((x1.length : Nat) : Int) > 100
  · exact Ev.pos h haw
  · refine Ev.neg h ?_
    by_cases h1 : x0 < 1
    · refine Ev.bind (a := none) (Ev.pos h1 (Ev.now _)) (Ev.bind (a := false) (Ev.neg (by omega) (Ev.now _)) (Ev.pos (by simp) haw))
    by_cases h2 : x0 > 24
    · refine Ev.bind (a := none) (Ev.neg h1 (Ev.pos h2 (Ev.now _))) (Ev.bind (a := false) (Ev.pos (by omega) ?_) (Ev.pos (by simp) haw))
      rw [show decide (x0 ≤ 24) = false from decide_eq_false (by omega)]
      exact Ev.now _
    · refine Ev.bind (a := some ⟨[], x0, 0⟩) (Ev.neg h1 (Ev.neg h2 (Ev.now _))) (Ev.bind (a := true) (Ev.pos (by omega) ?_) (Ev.neg (by simp) ?_))
      · rw [show decide (x0 ≤ 24) = true from decide_eq_true (by omega)]
        exact Ev.now _
      · obtain ⟨l, k, h3, g⟩ := script_loop x1 x1 0 [] x0 0 rfl (by omega) (by omega) (by simp) (by simp)
        exact Ev.bind h3 (Ev.bind (ball_ev ⟨l, x0, k⟩ (by show l.length < _; omega)) (Ev.bind (sameInts_ev l l (by rw [maxLen_eq]; omega)) (Ev.pos (by simp) haw)))
end Pure
end Go.Proofs.Ytncpghadgddofaa.Sh
