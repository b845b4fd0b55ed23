import Derived.Test.YtopopkdnjpnafaaPureWeight
set_option linter.unusedVariables false
namespace Go.Proofs.Ytopopkdnjpnafaa.Sh
open Go Lift Go.Proofs
def tOf (k : Int) (args : List Tapi_Term) : Tapi_Term := ⟨k, 0, ⟨false, []⟩, 0, ByteArray.mk #[], args⟩
theorem small_of (k : Int) (args : List Tapi_Term) (hl : args.length ≤ maxLen) (h : ∀ x ∈ args, Small x) : Small (tOf k args) := Small.mk (by simp [tOf]) (by show 0 ≤ 1000; omega) hl h
theorem small_nil (k : Int) : Small (tOf k []) := small_of k [] (by simp) (fun x h => by cases h)
theorem small_two (k : Int) {a b : Tapi_Term} (ha : Small a) (hb : Small b) : Small (tOf k [a, b]) := small_of k [a, b] (by simp [maxLen_eq]) (fun x h => by
  simp at h
  rcases h with rfl | rfl
  · exact ha
  · exact hb)
def two : Tapi_Term := tOf 8 [tOf 1 [], tOf 8 [tOf 1 [], tOf 7 []]]
theorem small_t2 : Small two := small_two 8 (small_nil 1) (small_two 8 (small_nil 1) (small_nil 7))
theorem wt_two : wt two = 5 := by simp [two, tOf, wt, wts]
def bin8 : Tapi_Term := ⟨9, 0, ⟨false, []⟩, 0, ByteArray.mk #[49, 50, 51, 52, 53, 54, 55, 56], []⟩
theorem small_bin8 : Small bin8 := Small.mk (by simp [bin8]) (by show 8 ≤ 1000; omega) (by simp [bin8]) (fun x h => by cases h)
theorem wt_bin8 : wt bin8 = 2 := by rw [bin8, wt]; rfl
theorem lo_5 : lo 5 = 5 := rfl
theorem one_small {t : Tapi_Term} (h : Small t) : ∀ x ∈ [t], Small x := fun x hx => by simp at hx; subst hx; exact h
theorem above_two : above 0 [two] = 5 := by rw [above, above, wt_two]; decide
theorem awake_ev : Ev (fun N => beehivelaw3_awake N) true := by
  show Ev (fun N => (weigh_Weight N two).bind fun r1 => if r1 = (5 : Int) then (weigh_Weight N bin8).bind fun r3 => if r3 = (2 : Int) then (weigh_Above N (4 : Int) [two]).bind fun r5 => if r5 = true then (weigh_Above N (5 : Int) [two]).bind fun r7 => some (!r7) else some false else some false else some false) true
  refine Ev.bind (weight_ev two small_t2) ?_
  refine Ev.pos (by rw [wt_two]; rfl) ?_
  refine Ev.bind (weight_ev bin8 small_bin8) ?_
  refine Ev.pos (by rw [wt_bin8]; rfl) ?_
  refine Ev.bind (above_ev 4 [two] (one_small small_t2) (by simp [maxLen_eq])) ?_
  refine Ev.pos (by rw [above_two]; decide) ?_
  refine Ev.bind (above_ev 5 [two] (one_small small_t2) (by simp [maxLen_eq])) ?_
  rw [above_two]
  exact Ev.now _
end Go.Proofs.Ytopopkdnjpnafaa.Sh
