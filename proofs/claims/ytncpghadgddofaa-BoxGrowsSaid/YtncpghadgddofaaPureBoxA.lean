import Derived.Test.YtncpghadgddofaaPureQueueA
set_option linter.unusedVariables false
namespace Go.Proofs.Ytncpghadgddofaa.Sh
open Go Lift Go.Proofs
theorem concatStrs_ev (a b : List ByteArray) (hl : a.length + b.length ≤ 100000) : Ev (fun N => slices_Concat_string_string N [a, b]) (a ++ b) := by
  have e1 : IntKind.i64.wrap ((0 : Int) + 1) = 1 := by decide
  have e2 : IntKind.i64.wrap ((1 : Int) + 1) = 2 := by decide
  have w1 : IntKind.i64.wrap ((0 : Int) + (a.length : Int)) = (a.length : Int) := by rw [wrapI _ (by omega) (by omega)]; omega
  have w2 : IntKind.i64.wrap ((a.length : Int) + (b.length : Int)) = ((a.length + b.length : Nat) : Int) := by rw [wrapI _ (by omega) (by omega)]; omega
  have l0 : Ev (fun N => slices_Concat_string_string_L0 N [a, b] 0 0) ((a.length + b.length : Nat) : Int) := by
    refine Ev.step ?_ (fun N => by rw [slices_Concat_string_string_L0])
    refine Ev.pos (by simp) (Ev.bindc (a := a) rfl (Ev.neg (by rw [w1]; omega) ?_))
    rw [w1, e1]
    refine Ev.step ?_ (fun N => by rw [slices_Concat_string_string_L0])
    refine Ev.pos (by simp) (Ev.bindc (a := b) rfl (Ev.neg (by rw [w2]; omega) ?_))
    rw [w2, e2]
    refine Ev.step ?_ (fun N => by rw [slices_Concat_string_string_L0])
    exact Ev.neg (by simp) (Ev.now _)
  have w3 : IntKind.i64.wrap (((a.length + b.length : Nat) : Int) - IntKind.i64.wrap ((0 : Int) - 0)) = ((a.length + b.length : Nat) : Int) := by
    rw [show IntKind.i64.wrap ((0 : Int) - 0) = 0 from by decide, wrapI _ (by omega) (by omega)]; omega
  have g : Ev (fun N => slices_Grow_string_string N ((a.length + b.length : Nat) : Int)) ([] : List ByteArray) := by
    refine Ev.neg (by omega) ?_
    show Ev (fun N => if IntKind.i64.wrap (((a.length + b.length : Nat) : Int) - IntKind.i64.wrap ((0 : Int) - 0)) > 0 then (if 0 < IntKind.i64.wrap (((a.length + b.length : Nat) : Int) - IntKind.i64.wrap ((0 : Int) - 0)) ∧ IntKind.i64.wrap (((a.length + b.length : Nat) : Int) - IntKind.i64.wrap ((0 : Int) - 0)) ≤ 1000000000000 then some ([] : List ByteArray) else none) else some ([] : List ByteArray)) _
    rw [w3]
    by_cases h : ((a.length + b.length : Nat) : Int) > 0
    · exact Ev.pos h (Ev.pos ⟨h, by omega⟩ (Ev.now _))
    · exact Ev.neg h (Ev.now _)
  have l1 : Ev (fun N => slices_Concat_string_string_L1 N [a, b] [] 0) (a ++ b) := by
    refine Ev.step ?_ (fun N => by rw [slices_Concat_string_string_L1])
    refine Ev.pos (by simp) (Ev.bindc (a := a) rfl (Ev.bindc (a := a) (by rw [app_eq (by rw [lim_eq]; simp; omega)]; rfl) ?_))
    rw [e1]
    refine Ev.step ?_ (fun N => by rw [slices_Concat_string_string_L1])
    refine Ev.pos (by simp) (Ev.bindc (a := b) rfl (Ev.bindc (app_eq (by rw [lim_eq]; omega)) ?_))
    rw [e2]
    refine Ev.step ?_ (fun N => by rw [slices_Concat_string_string_L1])
    exact Ev.neg (by simp) (Ev.now _)
  exact Ev.bind l0 (Ev.bind g (Ev.bind l1 (Ev.now _)))

theorem eraseIdx_two' {α : Type} (l : List α) (i : Nat) : l.take i ++ l.drop (i + 1) = l.eraseIdx i := (List.eraseIdx_eq_take_drop_succ l i).symm
/-! ### A box of integers -/
def bput (b : Tbox_Box_int) (x : Int) : Bool × Tbox_Box_int := if (b.fl.length : Int) ≥ b.fmost then (false, b) else (true, ⟨b.fl ++ [x], b.fmost, b.fmark⟩)
theorem bput_ev (b : Tbox_Box_int) (x : Int) (hl : b.fl.length < 1000) : Ev (fun N => box_Box_int_Put N b x) (bput b x) := by
  unfold bput
  refine Ev.iff (fun _ => Ev.now _) fun h => Ev.bindc (app_eq (by rw [lim_eq]; show b.fl.length + 1 ≤ _; omega)) (Ev.now _)
theorem bat_some (l : List Int) (m : Int) (k : Nat) (hk : k < l.length) : Ev (fun N => box_Box_int_At N ⟨l, m, k⟩) (l[k], true, ⟨l, m, k⟩) :=
  Ev.neg (by show ¬ ((k : Int) ≥ ((l.length : Nat) : Int)); omega) (Ev.bindc (idx_eq hk) (Ev.now _))
theorem bat_none (l : List Int) (m : Int) (k : Nat) (hk : l.length ≤ k) : Ev (fun N => box_Box_int_At N ⟨l, m, k⟩) (0, false, ⟨l, m, k⟩) :=
  Ev.pos (by show ((k : Int) ≥ ((l.length : Nat) : Int)); omega) (Ev.now _)
theorem bnext_some (l : List Int) (m : Int) (k : Nat) (hk : k < l.length) (hl : l.length < 1000) : Ev (fun N => box_Box_int_Next N ⟨l, m, k⟩) (true, ⟨l, m, (k + 1 : Nat)⟩) := by
  refine Ev.bind (bat_some l m k hk) (Ev.pos rfl ?_)
  have e : IntKind.i64.wrap ((k : Int) + 1) = ((k + 1 : Nat) : Int) := wrap_succ (by omega)
  show Ev (fun _ => some (true, Tbox_Box_int.mk l m (IntKind.i64.wrap ((k : Int) + 1)))) _
  rw [e]
  exact Ev.now _
theorem bnext_none (l : List Int) (m : Int) (k : Nat) (hk : l.length ≤ k) : Ev (fun N => box_Box_int_Next N ⟨l, m, k⟩) (false, ⟨l, m, k⟩) :=
  Ev.bind (bat_none l m k hk) (Ev.neg (by simp) (Ev.now _))
theorem btake_some (l : List Int) (m : Int) (k : Nat) (hk : k < l.length) (hl : l.length < 1000) : Ev (fun N => box_Box_int_Take N ⟨l, m, k⟩) (l[k], k, true, ⟨l.eraseIdx k, m, 0⟩) := by
  refine Ev.bind (bat_some l m k hk) (Ev.neg (by simp) ?_)
  refine Ev.bindc (cut_front (xs := l) (by omega)) ?_
  show Ev (fun N => (Lift.cut l (IntKind.i64.wrap ((k : Int) + 1)) ((l.length : Nat) : Int)).bind fun x4 => (slices_Concat_int_int N ([l.take k, x4] : List (List Int))).bind fun r5 => some (l[k], (k : Int), true, Tbox_Box_int.mk r5 m 0)) _
  rw [wrap_succ (by omega)]
  refine Ev.bindc (cut_back (by omega)) (Ev.bind (concatInts_ev _ _ (by simp; omega)) ?_)
  rw [eraseIdx_two']
  exact Ev.now _
theorem btake_none (l : List Int) (m : Int) (k : Nat) (hk : l.length ≤ k) : Ev (fun N => box_Box_int_Take N ⟨l, m, k⟩) (0, 0, false, ⟨l, m, k⟩) :=
  Ev.bind (bat_none l m k hk) (Ev.pos (by simp) (Ev.now _))
theorem ball_ev (b : Tbox_Box_int) (hl : b.fl.length < 1000) : Ev (fun N => box_Box_int_All N b) (b.fl, b) := Ev.bind (cloneInts_ev b.fl (by rw [lim_eq]; omega)) (Ev.now _)
theorem bmark_ev (b : Tbox_Box_int) : Ev (fun N => box_Box_int_Mark N b) (b.fmark, b) := Ev.now _

/-! ### A box of strings: only what stays awake needs -/
theorem awake_ev : Ev (fun N => beehivelaw15_awake N) true := by
  let a : ByteArray := ByteArray.mk #[97]
  let b : ByteArray := ByteArray.mk #[98]
  refine Ev.bindc (a := some ⟨[], 5, 0⟩) rfl ?_
  refine Ev.bind (a := (true, ⟨[a], 5, 0⟩)) (Ev.neg (by simp) (Ev.bindc (a := [a]) (by rw [app_eq (by rw [lim_eq]; simp)]; rfl) (Ev.now _))) ?_
  refine Ev.bind (a := (true, ⟨[a, b], 5, 0⟩)) (Ev.neg (by simp) (Ev.bindc (a := [a, b]) (by rw [app_eq (by rw [lim_eq]; simp)]; rfl) (Ev.now _))) ?_
  have at0 : Ev (fun N => box_Box_string_At N ⟨[a, b], 5, 0⟩) (a, true, ⟨[a, b], 5, 0⟩) := Ev.neg (by simp) (Ev.bindc (a := a) rfl (Ev.now _))
  have at1 : Ev (fun N => box_Box_string_At N ⟨[a, b], 5, 1⟩) (b, true, ⟨[a, b], 5, 1⟩) := Ev.neg (by simp) (Ev.bindc (a := b) rfl (Ev.now _))
  refine Ev.bind (a := (true, ⟨[a, b], 5, 1⟩)) (Ev.bind at0 (Ev.pos rfl ?_)) ?_
  · show Ev (fun _ => some (true, Tbox_Box_string.mk [a, b] 5 (IntKind.i64.wrap ((0 : Int) + 1)))) _
    rw [show IntKind.i64.wrap ((0 : Int) + 1) = 1 from by decide]
    exact Ev.now _
  refine Ev.bind (a := (b, 1, true, ⟨[a], 5, 0⟩)) (Ev.bind at1 (Ev.neg (by simp) (Ev.bindc (a := [a]) rfl (Ev.bindc (a := []) ?_ (Ev.bind (concatStrs_ev [a] [] (by simp)) (Ev.now _)))))) ?_
  · show Lift.cut [a, b] (IntKind.i64.wrap ((1 : Int) + 1)) 2 = _
    rw [show IntKind.i64.wrap ((1 : Int) + 1) = 2 from by decide]
    rfl
  refine Ev.bind (a := (a, true, ⟨[a], 5, 0⟩)) (Ev.neg (by simp) (Ev.bindc (a := a) rfl (Ev.now _))) (Ev.bind (a := true) ?_ (Ev.now _))
  refine Ev.step ?_ (fun N => by rw [beehivelaw15_awake_B0])
  refine Ev.pos rfl (Ev.pos rfl (Ev.pos rfl (Ev.pos rfl (Ev.pos rfl (Ev.pos rfl (Ev.pos rfl (Ev.pos rfl ?_)))))))
  exact Ev.bindc (a := ((0 : Int), ⟨[a], 5, 0⟩)) rfl (Ev.pos rfl (Ev.bindc (a := none) rfl (Ev.now _)))
end Go.Proofs.Ytncpghadgddofaa.Sh
