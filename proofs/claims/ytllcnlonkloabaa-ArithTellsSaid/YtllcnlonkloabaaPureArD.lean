import Derived.Test.YtllcnlonkloabaaPureArC
set_option linter.unusedVariables false
set_option linter.unusedSimpArgs false
namespace Go.Proofs.Ytllcnlonkloabaa.Sh
open Go Lift Go.Proofs

theorem num_zero:numN 0=⟨false,[]⟩:=by unfold numN; rw [show (0:Int).natAbs=0 from rfl,Z5t]; rfl
theorem num_pos (x:Int):0 < (numN x).fMag.length ↔ x ≠ 0:=by
  have b:=Zh8 (x.natAbs:Int) (by omega)
  rw [Int.toNat_natCast] at b
  show 0 < (toL x.natAbs).length ↔ _
  rw [b]; omega
theorem nneg_ev (x:Int) (h:(x.natAbs:Int) < TOP):Ev (fun N=>num_Neg N (numN x)) (numN (-x)):=by
  have h8:=Z7y x h
  have hp:=num_pos x
  refine Ev.bind (may_ev x h) (Ev.neg (by simp) ?_)
  have em:(numN (-x)).fMag=(numN x).fMag:=by unfold numN; rw [Int.natAbs_neg]
  have ee:numN (-x)=⟨decide (-x < 0),(numN x).fMag⟩:=by rw [← em]; rfl
  rw [ee]
  by_cases s:x < 0
  · refine Ev.neg (by show ¬ ¬ (decide (x < 0)=true); simp [s]) (Ev.bind (Zdl _ (by rw [lim_eq]; omega)) ?_)
    rw [decide_eq_false (by omega)]
    exact Ev.now _
  · refine Ev.pos (by show ¬ (decide (x < 0)=true); simp [s]) (Ev.bind (Zdl _ (by rw [lim_eq]; omega)) ?_)
    have e:decide ((((numN x).fMag.length:Nat):Int) > 0)=decide (-x < 0):=decide_eq_decide.2 (by omega)
    rw [e]
    exact Ev.now _
theorem nsub_ev (x y:Int) (hx:(x.natAbs:Int) < TOP) (hy:(y.natAbs:Int) < TOP):Ev (fun N=>num_Sub N (numN x) (numN y)) (res (x - y)):=by
  refine Ev.bind (may_ev y hy) (Ev.neg (by simp) (Ev.bind (nneg_ev y hy) ?_))
  have:=nadd_ev x (-y) hx (by rw [Int.natAbs_neg]; exact hy)
  rw [← Int.sub_eq_add_neg] at this
  exact Ev.bind this (Ev.eta _)
end Go.Proofs.Ytllcnlonkloabaa.Sh
