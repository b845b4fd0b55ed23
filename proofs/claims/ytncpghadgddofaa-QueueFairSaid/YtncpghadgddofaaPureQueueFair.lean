import Derived.Test.YtncpghadgddofaaPureQueueB
set_option linter.unusedVariables false
namespace Go.Proofs.Ytncpghadgddofaa.Sh
open Go Lift Go.Proofs
def fst1 (i : Nat) : List Int := (List.range i).map fun j => ((j : Nat) : Int)
theorem fst1_put : ∀ i < 12, putQ (fst1 i) ((i : Nat) : Int) = (true, fst1 (i + 1)) := by decide +kernel
theorem fst1_len (i : Nat) : (fst1 i).length = i := by simp [fst1]
theorem fst1_nodup : ∀ i < 13, (fst1 i).Nodup := by decide +kernel
theorem fst1_at : ∀ m < 13, ∀ i < m, ∀ k < m - 1, ((fst1 m).eraseIdx i)[k]? = some ((if k ≥ i then k + 1 else k : Nat) : Int) := by decide +kernel
theorem fst1_get : ∀ m < 13, ∀ i < m, (fst1 m)[i]? = some ((i : Nat) : Int) := by decide +kernel
theorem fst1_back : ∀ m < 13, ∀ i < m, (putQ ((fst1 m).eraseIdx i) (i : Int)).1 = true ∧ (putQ (putQ ((fst1 m).eraseIdx i) (i : Int)).2 (i : Int)).1 = false ∧ ((fst1 m).eraseIdx i).length = m - 1 ∧ (putQ ((fst1 m).eraseIdx i) (i : Int)).2.length = m := by decide +kernel
theorem fair_l0 (p : Int) (m : Nat) (h1 : 0 < m) (h2 : m < 13) : ∀ (n i : Nat), m - i = n → i ≤ m → Ev (fun N => beehivelaw16_QueueFair_L0 N p ((m : Int) - 1) (fst1 i) i) (.inl (fst1 m)) := by
  have e1 : IntKind.i64.wrap ((1 : Int) + ((m : Int) - 1)) = m := by rw [wrapI _ (by omega) (by omega)]; omega
  intro n
  induction n with
  | zero =>
    intro i hn hi
    obtain rfl : i = m := by omega
    refine Ev.step ?_ (fun N => by rw [beehivelaw16_QueueFair_L0, e1])
    exact Ev.neg (by omega) (Ev.now _)
  | succ n ih =>
    intro i hn hi
    have hl : (fst1 i).length = i := fst1_len i
    have hp := put_ev (fst1 i) ((i : Nat) : Int) (by omega)
    rw [fst1_put i (by omega)] at hp
    refine Ev.step ?_ (fun N => by rw [beehivelaw16_QueueFair_L0, e1])
    refine Ev.pos (by omega) (Ev.bind hp (Ev.neg (by simp) ?_))
    rw [wrap_succ (by omega)]
    exact ih (i + 1) (by omega) (by omega)
theorem fair_l2 (m : Nat) (h2 : m < 13) (j : Nat) (hj : j < m) (r10 : Int × Bool × Tqueue_Queue) (r11 : List Int × Tqueue_Queue) (e0 : r10.1 = (j : Int)) (e1 : r11.1 = (fst1 m).eraseIdx j) : ∀ (n i : Nat), m - 1 - i = n → i ≤ m - 1 → Ev (fun N => beehivelaw16_QueueFair_L2 N r10 r11 i) (.inl ()) := by
  have hl : r11.1.length = m - 1 := by rw [e1]; exact (fst1_back m h2 j hj).2.2.1
  intro n
  induction n with
  | zero =>
    intro i hn hi
    refine Ev.step ?_ (fun N => by rw [beehivelaw16_QueueFair_L2])
    exact Ev.neg (by omega) (Ev.now _)
  | succ n ih =>
    intro i hn hi
    have hg := fst1_at m h2 j hj i (by omega)
    rw [← e1] at hg
    have hx : idx r11.1 (i : Int) = some ((if i ≥ j then i + 1 else i : Nat) : Int) := by
      unfold idx
      rw [if_pos (by omega), Int.toNat_natCast, hg]
    have hs : IntKind.i64.wrap ((i : Int) + 1) = ((i + 1 : Nat) : Int) := wrap_succ (by omega)
    refine Ev.step ?_ (fun N => by rw [beehivelaw16_QueueFair_L2, hs])
    refine Ev.pos (by omega) ?_
    by_cases h : i ≥ j
    · rw [if_pos h] at hx
      exact Ev.pos (by omega) (Ev.bindc hx (Ev.neg (by simp) (ih (i + 1) (by omega) (by omega))))
    · rw [if_neg h] at hx
      exact Ev.neg (by omega) (Ev.bindc hx (Ev.neg (by simp) (ih (i + 1) (by omega) (by omega))))
namespace Pure
theorem QueueFair (x0 : Int) (x1 : Int) (w0 : (InR .i64) x0) (w1 : (InR .i64) x1) : ∃ N, beehivelaw16_QueueFair N x0 x1 = some true := by
  refine Ev.ex (f := fun N => beehivelaw16_QueueFair N x0 x1) ?_
  have haw : Ev (fun N => (beehivelaw16_awake N).bind fun r3 => some r3) true := Ev.bind awake_ev (Ev.now _)
  obtain ⟨r1, hr1, b0, b1, _⟩ := lowE x0 12 w0 (by omega) (by omega)
  obtain ⟨m, rfl⟩ : ∃ m : Nat, r1 = (m : Int) - 1 := ⟨(r1 + 1).toNat, by omega⟩
  have e1 : IntKind.i64.wrap ((1 : Int) + ((m : Int) - 1)) = m := by rw [wrapI _ (by omega) (by omega)]; omega
  have e2 : IntKind.i64.wrap ((m : Int) - 1) = (m : Int) - 1 := wrapI _ (by omega) (by omega)
  have hm : (fst1 m).length = m := fst1_len m
  obtain ⟨r2, hr2, b2, b3, hr⟩ := lowE x1 m w1 (by omega) (by omega)
  have hj : pickAt (fst1 m) x1 < m := by have := pickAt_lt (l := fst1 m) (x := x1) (by omega); omega
  have hjr : ((pickAt (fst1 m) x1 : Nat) : Int) = r2 := by
    unfold pickAt
    rw [hm, ← hr]
    omega
  generalize hje : pickAt (fst1 m) x1 = j at *
  have hpick : pickQ (fst1 m) x1 = ((j : Int), true, (fst1 m).eraseIdx j) := by
    unfold pickQ
    rw [hje, fst1_get m (by omega) j hj]
  have hp := pick_ev (fst1 m) x1 (by omega) (fst1_nodup m (by omega))
  rw [hpick] at hp
  obtain ⟨k1, k2, k3, k4⟩ := fst1_back m (by omega) j hj
  refine Ev.bind hr1 (Ev.bindc (a := some ⟨[]⟩) rfl (Ev.bind (fair_l0 x1 m (by omega) (by omega) _ 0 rfl (by omega)) ?_))
  refine Ev.bind hp (Ev.bind (all_ev ((fst1 m).eraseIdx j) (by omega)) (Ev.bind (a := .inl ()) ?_ ?_))
  · refine Ev.step ?_ (fun N => by rw [beehivelaw16_QueueFair_B1, e1])
    refine Ev.neg (by simp) (Ev.bind hr2 ?_)
    rw [← hjr, e2]
    exact Ev.neg (by simp) (Ev.neg (by rw [k3]; omega) (Ev.now _))
  · refine Ev.bind (fair_l2 m (by omega) j hj _ _ rfl rfl _ 0 rfl (by omega)) ?_
    refine Ev.bind (put_ev ((fst1 m).eraseIdx j) j (by omega)) ?_
    refine Ev.pos k1 (Ev.bind (put_ev (putQ ((fst1 m).eraseIdx j) (j : Int)).2 j (by omega)) (Ev.pos ?_ haw))
    exact by rw [k2]; decide
end Pure
end Go.Proofs.Ytncpghadgddofaa.Sh
