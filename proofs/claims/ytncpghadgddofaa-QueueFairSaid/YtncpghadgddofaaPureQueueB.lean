import Derived.Test.YtncpghadgddofaaPureQueueA
set_option linter.unusedVariables false
namespace Go.Proofs.Ytncpghadgddofaa.Sh
open Go Lift Go.Proofs

/-- Where it is first, or none. -/
def at1 (l : List Int) (x : Int) : Int := if x ∈ l then (l.idxOf x : Int) else -1
theorem index_loop : ∀ (ts : List Int) (l : List Int) (x : Int) (i : Nat), l.drop i = ts → l.length ≤ maxLen → Ev (fun N => slices_Index_int_int_L0 N l x i) (if x ∈ ts then .inr ((i + ts.idxOf x : Nat) : Int) else .inl ())
  | [], l, x, i, hd, hm => by
    have := drop_end hd
    rw [if_neg (by simp)]
    refine Ev.step ?_ (fun N => by rw [slices_Index_int_int_L0])
    exact Ev.neg (by omega) (Ev.now _)
  | y :: ys, l, x, i, hd, hm => by
    have hlen := drop_len hd
    rw [maxLen_eq] at hm
    refine Ev.step ?_ (fun N => by rw [slices_Index_int_int_L0])
    refine Ev.pos (by omega) (Ev.bindc (idx_at hd) ?_)
    by_cases hx : x = y
    · subst hx
      rw [if_pos (by simp)]
      refine Ev.pos rfl ?_
      rw [List.idxOf_cons_self]
      exact Ev.now _
    · refine Ev.neg hx ?_
      rw [wrap_succ (by omega)]
      have := index_loop ys l x (i + 1) (drop_next hd) (by rw [maxLen_eq]; omega)
      have e1 : (x ∈ y :: ys) = (x ∈ ys) := by simp [hx]
      have e2 : (y :: ys).idxOf x = ys.idxOf x + 1 := by rw [List.idxOf_cons, beq_false_of_ne (Ne.symm hx)]; rfl
      simp only [e1, e2]
      rw [show i + (ys.idxOf x + 1) = i + 1 + ys.idxOf x from by omega]
      exact this
theorem index_ev (l : List Int) (x : Int) (hm : l.length ≤ maxLen) : Ev (fun N => slices_Index_int_int N l x) (at1 l x) := by
  have h := index_loop l l x 0 rfl hm
  refine Ev.bind h ?_
  unfold at1
  by_cases hx : x ∈ l
  · rw [if_pos hx, if_pos hx, Nat.zero_add]; exact Ev.now _
  · rw [if_neg hx, if_neg hx]; exact Ev.now _
theorem has_loop : ∀ (ts : List Int) (q : Tref16_Queue) (x : Int) (i : Nat), q.fL.drop i = ts → q.fL.length ≤ maxLen → Ev (fun N => beehiveref16_Queue_has_L0 N q x i) (if x ∈ ts then .inr ((i + ts.idxOf x : Nat) : Int) else .inl ())
  | [], l, x, i, hd, hm => by
    have := drop_end hd
    rw [if_neg (by simp)]
    refine Ev.step ?_ (fun N => by rw [beehiveref16_Queue_has_L0])
    exact Ev.neg (by omega) (Ev.now _)
  | y :: ys, l, x, i, hd, hm => by
    have hlen := drop_len hd
    rw [maxLen_eq] at hm
    refine Ev.step ?_ (fun N => by rw [beehiveref16_Queue_has_L0])
    refine Ev.pos (by omega) (Ev.bindc (idx_at hd) ?_)
    by_cases hx : y = x
    · subst hx
      rw [if_pos (by simp)]
      refine Ev.pos rfl ?_
      rw [List.idxOf_cons_self]
      exact Ev.now _
    · refine Ev.neg hx ?_
      rw [wrap_succ (by omega)]
      have := has_loop ys l x (i + 1) (drop_next hd) (by rw [maxLen_eq]; omega)
      have e1 : (x ∈ y :: ys) = (x ∈ ys) := by simp [Ne.symm hx]
      have e2 : (y :: ys).idxOf x = ys.idxOf x + 1 := by rw [List.idxOf_cons, beq_false_of_ne hx]; rfl
      simp only [e1, e2]
      rw [show i + (ys.idxOf x + 1) = i + 1 + ys.idxOf x from by omega]
      exact this
theorem has_ev (q : Tref16_Queue) (x : Int) (hm : q.fL.length ≤ maxLen) : Ev (fun N => beehiveref16_Queue_has N q x) (at1 q.fL x, q) := by
  have h := has_loop q.fL q x 0 rfl hm
  refine Ev.bind h ?_
  unfold at1
  by_cases hx : x ∈ q.fL
  · rw [if_pos hx, if_pos hx, Nat.zero_add]; exact Ev.now _
  · rw [if_neg hx, if_neg hx]; exact Ev.now _
theorem at1_nonneg {l : List Int} {x : Int} : at1 l x ≥ 0 ↔ x ∈ l := by
  unfold at1
  split <;> rename_i h
  · exact ⟨fun _ => h, fun _ => by omega⟩
  · exact ⟨fun h => by omega, fun h' => absurd h' h⟩
theorem at1_neg {l : List Int} {x : Int} : at1 l x < 0 ↔ ¬ x ∈ l := by rw [← at1_nonneg (l := l)]; omega
theorem at1_mem {l : List Int} {x : Int} (h : x ∈ l) : at1 l x = (l.idxOf x : Int) := if_pos h

/-! ### What each act does -/
def putQ (l : List Int) (p : Int) : Bool × List Int := if p < 0 ∨ p ∈ l then (false, l) else (true, l ++ [p])
def dropQ (l : List Int) (p : Int) : Bool × List Int := if p ∈ l then (true, l.erase p) else (false, l)
def pickAt (l : List Int) (x : Int) : Nat := (IntKind.u64.wrap x % (l.length : Int)).toNat
def pickQ (l : List Int) (x : Int) : Int × Bool × List Int := match l[pickAt l x]? with
  | some y => (y, true, l.eraseIdx (pickAt l x))
  | none => (0, false, l)
theorem put_ev (l : List Int) (p : Int) (hl : l.length < 100000) : Ev (fun N => queue_Queue_Put N ⟨l⟩ p) ((putQ l p).1, ⟨(putQ l p).2⟩) := by
  unfold putQ
  by_cases h0 : p < 0
  · rw [if_pos (Or.inl h0)]
    exact Ev.pos h0 (Ev.now _)
  · refine Ev.neg h0 (Ev.bind (a := decide (p ∈ l)) (Ev.bind (index_ev l p (by rw [maxLen_eq]; omega)) ?_) ?_)
    · have : decide (at1 l p ≥ 0) = decide (p ∈ l) := decide_eq_decide.2 at1_nonneg
      show Ev (fun _ => some (decide (at1 l p ≥ 0))) _
      rw [this]
      exact Ev.now _
    · by_cases hp : p ∈ l
      · rw [if_pos (Or.inr hp)]
        exact Ev.pos (by simpa using hp) (Ev.now _)
      · have hh : ¬ (p < 0 ∨ p ∈ l) := fun h => h.elim h0 hp
        rw [if_neg hh]
        exact Ev.neg (by simpa using hp) (Ev.bindc (app_eq (xs := l) (ys := [p]) (by rw [lim_eq]; show l.length + 1 ≤ _; omega)) (Ev.now _))
theorem rput_ev (l : List Int) (p : Int) (hl : l.length < 100000) : Ev (fun N => beehiveref16_Queue_Put N ⟨l⟩ p) ((putQ l p).1, ⟨(putQ l p).2⟩) := by
  unfold putQ
  by_cases h0 : p < 0
  · rw [if_pos (Or.inl h0)]
    exact Ev.pos h0 (Ev.now _)
  · refine Ev.neg h0 (Ev.bind (has_ev ⟨l⟩ p (by rw [maxLen_eq]; show l.length ≤ _; omega)) ?_)
    by_cases hp : p ∈ l
    · rw [if_pos (Or.inr hp)]
      exact Ev.pos (at1_nonneg.2 hp) (Ev.now _)
    · have hh : ¬ (p < 0 ∨ p ∈ l) := fun h => h.elim h0 hp
      rw [if_neg hh]
      refine Ev.neg (fun h => hp (at1_nonneg.1 h)) ?_
      show Ev (fun N => (app0 l).bind fun x4 => (app x4 [p]).bind fun x5 => some (true, Tref16_Queue.mk x5)) _
      exact Ev.bindc (app0_eq (by rw [lim_eq]; omega)) (Ev.bindc (app_eq (xs := l) (ys := [p]) (by rw [lim_eq]; show l.length + 1 ≤ _; omega)) (Ev.now _))
theorem idxOf_lt {l : List Int} {x : Int} (h : x ∈ l) : l.idxOf x < l.length := List.idxOf_lt_length_iff.2 h
theorem eraseIdx_two (l : List Int) (i : Nat) : l.take i ++ l.drop (i + 1) = l.eraseIdx i := (List.eraseIdx_eq_take_drop_succ l i).symm
theorem drop_ev (l : List Int) (p : Int) (hl : l.length < 100000) : Ev (fun N => queue_Queue_Drop N ⟨l⟩ p) ((dropQ l p).1, ⟨(dropQ l p).2⟩) := by
  unfold dropQ
  refine Ev.bind (index_ev l p (by rw [maxLen_eq]; omega)) ?_
  by_cases hp : p ∈ l
  · have hi := idxOf_lt hp
    rw [if_pos hp]
    refine Ev.neg (fun h => at1_neg.1 h hp) ?_
    rw [at1_mem hp]
    refine Ev.bindc (cut_front (by show _ ≤ l.length; omega)) ?_
    rw [wrap_succ (by omega)]
    refine Ev.bindc (cut_back (by show _ ≤ l.length; omega)) (Ev.bind (concatInts_ev _ _ (by simp; omega)) ?_)
    rw [eraseIdx_two, ← List.erase_eq_eraseIdx_of_idxOf rfl]
    exact Ev.now _
  · rw [if_neg hp]
    exact Ev.pos (at1_neg.2 hp) (Ev.now _)
theorem cut_ev (l : List Int) (i : Nat) (hi : i < l.length) (hl : l.length < 100000) : Ev (fun N => beehiveref16_Queue_cut N ⟨l⟩ (i : Int)) ⟨l.eraseIdx i⟩ := by
  refine Ev.bindc (cut_front (by show i ≤ l.length; omega)) ?_
  rw [wrap_succ (by omega)]
  refine Ev.bindc (cut_back (by show i + 1 ≤ l.length; omega)) ?_
  refine Ev.bindc (app0_eq (by rw [lim_eq]; simp; omega)) ?_
  refine Ev.bindc (app_eq (by rw [lim_eq]; simp; omega)) ?_
  rw [eraseIdx_two]
  exact Ev.now _
theorem rdrop_ev (l : List Int) (p : Int) (hl : l.length < 100000) (hn : ∀ x ∈ l, 0 ≤ x) : Ev (fun N => beehiveref16_Queue_Drop N ⟨l⟩ p) ((dropQ l p).1, ⟨(dropQ l p).2⟩) := by
  unfold dropQ
  refine Ev.bind (has_ev ⟨l⟩ p (by rw [maxLen_eq]; show l.length ≤ _; omega)) ?_
  by_cases hp : p ∈ l
  · have hi := idxOf_lt hp
    have := hn p hp
    rw [if_pos hp]
    refine Ev.neg (by omega) (Ev.neg (fun h => at1_neg.1 h hp) ?_)
    rw [at1_mem hp]
    refine Ev.bind (cut_ev l _ hi hl) ?_
    rw [← List.erase_eq_eraseIdx_of_idxOf rfl]
    exact Ev.now _
  · rw [if_neg hp]
    by_cases h0 : p < 0
    · exact Ev.pos h0 (Ev.now _)
    · exact Ev.neg h0 (Ev.pos (at1_neg.2 hp) (Ev.now _))
theorem pickAt_lt {l : List Int} {x : Int} (h : l.length ≠ 0) : pickAt l x < l.length := by
  unfold pickAt
  have := Int.emod_lt_of_pos (IntKind.u64.wrap x) (show (0 : Int) < (l.length : Int) by omega)
  omega
theorem pickAt_eq {l : List Int} {x : Int} (h : l.length ≠ 0) (hl : l.length < 100000) : rem (IntKind.u64.wrap x) (IntKind.u64.wrap ((l.length : Nat) : Int)) = some ((pickAt l x : Nat) : Int) := by
  have e1 : IntKind.u64.wrap ((l.length : Nat) : Int) = (l.length : Int) := wrapU _ (by omega) (by omega)
  have hu := wrapU_eq x
  rw [e1, rem_eq (by omega), Int.tmod_eq_emod_of_nonneg (by omega)]
  unfold pickAt
  have := Int.emod_nonneg (IntKind.u64.wrap x) (show (l.length : Int) ≠ 0 by omega)
  congr 1
  omega
theorem pick_ev (l : List Int) (x : Int) (hl : l.length < 100000) (hn : l.Nodup) : Ev (fun N => queue_Queue_Pick N ⟨l⟩ x) ((pickQ l x).1, (pickQ l x).2.1, ⟨(pickQ l x).2.2⟩) := by
  by_cases h : l.length = 0
  · have e : l = [] := List.eq_nil_of_length_eq_zero h
    subst e
    exact Ev.pos rfl (Ev.now _)
  · have hi := pickAt_lt (x := x) h
    refine Ev.neg (by show ¬ ((l.length : Nat) : Int) = 0; omega) (Ev.bindc (pickAt_eq h hl) (Ev.bindc (idx_eq hi) (Ev.bind (drop_ev l _ hl) ?_)))
    unfold pickQ dropQ
    rw [List.getElem?_eq_getElem hi, if_pos (List.getElem_mem hi), List.erase_eq_eraseIdx_of_idxOf (hn.idxOf_getElem _ hi)]
    exact Ev.now _
theorem rpick_ev (l : List Int) (x : Int) (hl : l.length < 100000) : Ev (fun N => beehiveref16_Queue_Pick N ⟨l⟩ x) ((pickQ l x).1, (pickQ l x).2.1, ⟨(pickQ l x).2.2⟩) := by
  by_cases h : l.length = 0
  · have e : l = [] := List.eq_nil_of_length_eq_zero h
    subst e
    exact Ev.pos rfl (Ev.now _)
  · have hi := pickAt_lt (x := x) h
    refine Ev.neg (by show ¬ ((l.length : Nat) : Int) = 0; omega) (Ev.bindc (pickAt_eq h hl) ?_)
    have e : IntKind.i64.wrap ((pickAt l x : Nat) : Int) = ((pickAt l x : Nat) : Int) := wrapI _ (by omega) (by omega)
    rw [e]
    refine Ev.bindc (idx_eq hi) (Ev.bind (cut_ev l _ hi hl) ?_)
    unfold pickQ
    rw [List.getElem?_eq_getElem hi]
    exact Ev.now _
theorem all_ev (l : List Int) (hl : l.length < 100000) : Ev (fun N => queue_Queue_All N ⟨l⟩) (l, ⟨l⟩) := Ev.bind (cloneInts_ev l (by rw [lim_eq]; omega)) (Ev.now _)
theorem awakeB0_ev (r3 r4 r5 : Bool × Tqueue_Queue) (r6 : Int × Bool × Tqueue_Queue) (h3 : r3.1 = true) (h4 : r4.1 = true) (h5 : r5.1 = false) (h6 : r6.1 = 7) (h7 : r6.2.1 = true) (h8 : r6.2.2 = ⟨[4]⟩) : Ev (fun N => beehivelaw16_awake_B0 N r3 r4 r5 r6) true := by
  refine Ev.step ?_ (fun N => by rw [beehivelaw16_awake_B0])
  refine Ev.pos h3 (Ev.pos h4 (Ev.pos (by rw [h5]; decide) (Ev.pos h6 (Ev.pos h7 ?_))))
  rw [h8]
  exact Ev.bind (all_ev [4] (by decide)) (Ev.bind (sameInts_ev [4] [4] (by rw [maxLen_eq]; decide)) (Ev.now _))
theorem awake_ev : Ev (fun N => beehivelaw16_awake N) true := by
  refine Ev.bindc (a := some ⟨[]⟩) rfl ?_
  refine Ev.bind (put_ev [] 4 (by decide)) (Ev.bind (put_ev [4] 7 (by decide)) (Ev.bind (put_ev [4, 7] 4 (by decide)) (Ev.bind (pick_ev [4, 7] 3 (by decide) (by decide)) ?_)))
  exact Ev.bind (awakeB0_ev _ _ _ _ (by decide) (by decide) (by decide) (by decide +kernel) (by decide +kernel) (by show (⟨(pickQ [4, 7] 3).2.2⟩ : Tqueue_Queue) = _; rw [show (pickQ [4, 7] 3).2.2 = [4] from by decide +kernel])) (Ev.now _)
end Go.Proofs.Ytncpghadgddofaa.Sh
