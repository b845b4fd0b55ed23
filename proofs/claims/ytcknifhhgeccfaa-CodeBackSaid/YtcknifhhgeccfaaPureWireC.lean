import Derived.Test.YtcknifhhgeccfaaPureWireB
set_option linter.unusedVariables false
set_option linter.unusedSimpArgs false
namespace Go.Proofs.Ytcknifhhgeccfaa.Sh
open Go Lift Go.Proofs
theorem len0 {α : Type} {l : List α} (h:l.length = 0) : l = [] := List.length_eq_zero_iff.1 h
theorem right_parts {t : Tapi_Term} (h:rightT t = true) : okT t = true ∧ bareT t = true ∧ rightsT t.fArgs = true := by
  rw [rightT_eq,Bool.and_eq_true,Bool.and_eq_true] at h
  exact ⟨h.1.1,h.1.2,h.2⟩
theorem rights_cons {x : Tapi_Term} {xs : List Tapi_Term} (h:rightsT (x :: xs) = true) : rightT x = true ∧ rightsT xs = true := by rw [rightsT,Bool.and_eq_true] at h; exact h
theorem may_wt {t : Tapi_Term} (h:mayT t = true) : wt t ≤ 300 ∧ rightT t = true := by
  unfold mayT at h
  rw [Bool.and_eq_true] at h
  have h1 := of_decide_eq_true h.1
  unfold lo at h1
  refine ⟨?_,h.2⟩
  split at h1 <;> omega
/-- What is laid. -/
def laid (t:Tapi_Term) : List Int × Int := if mayT t = true then (layT t,0) else ([],2)
theorem Lay_ev (t:Tapi_Term) (s:Small t) (w:wTapi_Term t) : Ev (fun N => wire_Lay N t) (laid t) := by
  unfold laid
  have hm := mayT_ev t s w
  by_cases h : mayT t = true
  · rw [if_pos h]
    have hw := (may_wt h).1
    have hl := lay_ev t w (by omega) [] (by show 0 + _ ≤ _; omega)
    rw [List.nil_append] at hl
    exact Ev.bind hm (Ev.neg (fun k => k h) (Ev.bind hl (Ev.now _)))
  · rw [if_neg h]
    exact Ev.bind hm (Ev.pos h (Ev.now _))
theorem laid_len (t:Tapi_Term) : (laid t).1.length ≤ 3000 := by
  unfold laid
  split
  · rename_i h
    have := layT_len t
    have := (may_wt h).1
    show (layT t).length ≤ 3000
    omega
  · exact Nat.zero_le _
/-! ### Two rows of bytes,and one that is written over -/
theorem sameB_loop : ∀ (ts l:List Int) (i:Nat),l.drop i = ts → l.length ≤ 100000 → Ev (fun N => beehivelaw0_SameBytes_L0 N l l i) (.inl ())
  | [],l,i,hd,hl => by
    have := drop_end hd
    refine Ev.step ?_ (fun N => by rw [beehivelaw0_SameBytes_L0])
    exact Ev.neg (by omega) (Ev.now _)
  | x :: xs,l,i,hd,hl => by
    have := drop_len hd
    refine Ev.step ?_ (fun N => by rw [beehivelaw0_SameBytes_L0,wrap_succ (by omega)])
    exact Ev.pos (by omega) (Ev.bindc (idx_at hd) (Ev.bindc (idx_at hd) (Ev.neg (fun h => h rfl) (sameB_loop xs l (i + 1) (drop_next hd) hl))))
theorem sameB_self (l:List Int) (hl:l.length ≤ 100000) : Ev (fun N => beehivelaw0_SameBytes N l l) true :=
  Ev.neg (fun h => h rfl) (Ev.bind (sameB_loop l l 0 rfl hl) (Ev.now _))
end Go.Proofs.Ytcknifhhgeccfaa.Sh
