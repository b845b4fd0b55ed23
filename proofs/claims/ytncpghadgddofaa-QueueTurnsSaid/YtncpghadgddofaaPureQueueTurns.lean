import Derived.Test.YtncpghadgddofaaPureQueueB
set_option linter.unusedVariables false
namespace Go.Proofs.Ytncpghadgddofaa.Sh
open Go Lift Go.Proofs
def rot (m i : Nat) : List Int := (List.range m).map fun j => ((3 * ((i + j) % m) : Nat) : Int)
def fst3 (i : Nat) : List Int := (List.range i).map fun j => ((3 * j : Nat) : Int)
theorem fst3_put : ∀ i < 12, putQ (fst3 i) ((3 * i : Nat) : Int) = (true, fst3 (i + 1)) := by decide +kernel
theorem fst3_rot : ∀ m < 13, fst3 m = rot m 0 := by decide +kernel
theorem rot_turn' : ∀ m < 12, ∀ i < 60, (pickQ (rot (m + 1) i) 0).1 = ((3 * (i % (m + 1)) : Nat) : Int) ∧ (pickQ (rot (m + 1) i) 0).2.1 = true ∧ putQ (pickQ (rot (m + 1) i) 0).2.2 ((3 * (i % (m + 1)) : Nat) : Int) = (true, rot (m + 1) (i + 1)) ∧ (rot (m + 1) i).length = m + 1 ∧ (pickQ (rot (m + 1) i) 0).2.2.length < 100 ∧ (rot (m + 1) i).Nodup := by decide +kernel
theorem rot_turn (m : Nat) (h : m < 13) (h0 : 0 < m) (i : Nat) (hi : i < 60) : (pickQ (rot m i) 0).1 = ((3 * (i % m) : Nat) : Int) ∧ (pickQ (rot m i) 0).2.1 = true ∧ putQ (pickQ (rot m i) 0).2.2 ((3 * (i % m) : Nat) : Int) = (true, rot m (i + 1)) ∧ (rot m i).length = m ∧ (pickQ (rot m i) 0).2.2.length < 100 ∧ (rot m i).Nodup := by
  obtain ⟨k, rfl⟩ : ∃ k, m = k + 1 := ⟨m - 1, by omega⟩
  exact rot_turn' k (by omega) i hi
theorem turns_l0 (m : Nat) (h1 : 0 < m) (h2 : m < 13) (r2 : Int) : ∀ (n i : Nat), m - i = n → i ≤ m → Ev (fun N => beehivelaw16_QueueTurns_L0 N ((m : Int) - 1) r2 (fst3 i) i) (.inl (fst3 m)) := by
  have e1 : IntKind.i64.wrap ((1 : Int) + ((m : Int) - 1)) = m := by rw [wrapI _ (by omega) (by omega)]; omega
  intro n
  induction n with
  | zero =>
    intro i hn hi
    obtain rfl : i = m := by omega
    refine Ev.step ?_ (fun N => by rw [beehivelaw16_QueueTurns_L0, e1])
    exact Ev.neg (by omega) (Ev.now _)
  | succ n ih =>
    intro i hn hi
    have e2 : IntKind.i64.wrap ((3 : Int) * (i : Int)) = ((3 * i : Nat) : Int) := by rw [wrapI _ (by omega) (by omega)]; omega
    have hl : (fst3 i).length = i := by simp [fst3]
    have hp := put_ev (fst3 i) ((3 * i : Nat) : Int) (by omega)
    rw [fst3_put i (by omega)] at hp
    refine Ev.step ?_ (fun N => by rw [beehivelaw16_QueueTurns_L0, e1, e2])
    refine Ev.pos (by omega) (Ev.bind hp (Ev.neg (by simp) ?_))
    rw [wrap_succ (by omega)]
    exact ih (i + 1) (by omega) (by omega)
theorem turns_l1 (m : Nat) (h1 : 0 < m) (h2 : m < 13) (k : Nat) (hk : k ≤ 60) : ∀ (n i : Nat), k - i = n → i ≤ k → Ev (fun N => beehivelaw16_QueueTurns_L1 N ((m : Int) - 1) k (rot m i) i) (.inl (rot m k)) := by
  have e1 : IntKind.i64.wrap ((1 : Int) + ((m : Int) - 1)) = m := by rw [wrapI _ (by omega) (by omega)]; omega
  intro n
  induction n with
  | zero =>
    intro i hn hi
    obtain rfl : i = k := by omega
    refine Ev.step ?_ (fun N => by rw [beehivelaw16_QueueTurns_L1, e1])
    exact Ev.neg (by omega) (Ev.now _)
  | succ n ih =>
    intro i hn hi
    obtain ⟨t1, t2, t3, t4, t5, t6⟩ := rot_turn m h2 h1 i (by omega)
    have hp := pick_ev (rot m i) 0 (by omega) t6
    have hq := put_ev (pickQ (rot m i) 0).2.2 ((3 * (i % m) : Nat) : Int) (by omega)
    rw [t3] at hq
    refine Ev.step ?_ (fun N => by rw [beehivelaw16_QueueTurns_L1, e1])
    refine Ev.pos (by omega) (Ev.bind hp (Ev.neg (by rw [t2]; simp) ?_))
    have e3 : rem (i : Int) (m : Int) = some ((i % m : Nat) : Int) := by
      rw [rem_eq (by omega), Int.tmod_eq_emod_of_nonneg (by omega)]; rfl
    have hb : i % m < m := Nat.mod_lt _ h1
    have e4 : IntKind.i64.wrap ((3 : Int) * ((i % m : Nat) : Int)) = ((3 * (i % m) : Nat) : Int) := by rw [wrapI _ (by omega) (by omega)]; omega
    refine Ev.bindc e3 ?_
    rw [e4]
    refine Ev.neg (by simp only [t1]; simp) ?_
    refine Ev.bind (a := (true, ⟨rot m (i + 1)⟩)) (by simp only [t1]; exact hq) (Ev.neg (by simp) ?_)
    rw [wrap_succ (by omega)]
    exact ih (i + 1) (by omega) (by omega)
theorem rot_len (m i : Nat) : (rot m i).length = m := by simp [rot]
namespace Pure
theorem QueueTurns (x0 : Int) (x1 : Int) (w0 : (InR .i64) x0) (w1 : (InR .i64) x1) : ∃ N, beehivelaw16_QueueTurns N x0 x1 = some true := by
  refine Ev.ex (f := fun N => beehivelaw16_QueueTurns N x0 x1) ?_
  have haw : Ev (fun N => (beehivelaw16_awake N).bind fun r3 => some r3) true := Ev.bind awake_ev (Ev.now _)
  obtain ⟨r1, hr1, b0, b1, _⟩ := lowE x0 12 w0 (by omega) (by omega)
  obtain ⟨r2, hr2, b2, b3, _⟩ := lowE x1 60 w1 (by omega) (by omega)
  obtain ⟨k, rfl⟩ : ∃ k : Nat, r2 = (k : Int) := ⟨r2.toNat, by omega⟩
  obtain ⟨m, rfl⟩ : ∃ m : Nat, r1 = (m : Int) - 1 := ⟨(r1 + 1).toNat, by omega⟩
  refine Ev.bind hr1 (Ev.bind hr2 (Ev.bindc (a := some ⟨[]⟩) rfl ?_))
  have h0 := turns_l0 m (by omega) (by omega) (k : Int) _ 0 rfl (by omega)
  rw [fst3_rot m (by omega)] at h0
  refine Ev.bind h0 (Ev.bind (turns_l1 m (by omega) (by omega) k (by omega) _ 0 rfl (by omega)) ?_)
  refine Ev.bindc (a := ((0 : Int), false)) rfl (Ev.bind (a := true) ?_ (Ev.now _))
  have e1 : IntKind.i64.wrap ((1 : Int) + ((m : Int) - 1)) = m := by rw [wrapI _ (by omega) (by omega)]; omega
  refine Ev.step ?_ (fun N => by rw [beehivelaw16_QueueTurns_B2, e1])
  refine Ev.bind (all_ev _ (by rw [rot_len]; omega)) (Ev.pos (by rw [rot_len]) (Ev.pos rfl (Ev.pos (by simp) ?_)))
  exact Ev.bindc (a := false) rfl (Ev.pos (by simp) (Ev.bindc (a := false) rfl (Ev.pos (by simp) (Ev.bindc (a := []) rfl (Ev.pos rfl haw)))))
end Pure
end Go.Proofs.Ytncpghadgddofaa.Sh
