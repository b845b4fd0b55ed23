import Derived.Test.YtllcnlonkloabaaPureNumE
import Derived.Test.YtllcnlonkloabaaPureTermMay
set_option linter.unusedVariables false
set_option linter.unusedSimpArgs false
namespace Go.Proofs.Ytllcnlonkloabaa.Sh
open Go Lift Go.Proofs
theorem mayT_iff (t:Z02):mayT t=(decide (wt t≤300) && rightT t):=by
  unfold mayT
  congr 1
  unfold lo
  split
  · rw [decide_eq_false (by omega),decide_eq_false (by omega)]
  · rfl
structure Fine (t:Z02):Prop where
  s:Small t
  w:Z0m t
  m:mayT t=true
theorem Fine.right {t:Z02} (h:Fine t):okT t=true∧bareT t=true∧rightsT t.fArgs=true:=by
  have:=h.m
  rw [mayT_iff,Bool.and_eq_true,rightT_eq,Bool.and_eq_true,Bool.and_eq_true] at this
  exact ⟨this.2.1.1,this.2.1.2,this.2.2⟩
theorem Fine.kind {t:Z02} (h:Fine t):1≤t.fKind∧t.fKind≤9:=by
  have:=h.right.1
  unfold okT at this
  repeat' split at this
  all_goals first | omega | cases this
def bigV (n:Z06):Int:=if n.fNeg=true then -(val n.fMag) else val n.fMag
theorem bigV_num (x:Int):bigV (numN x)=x:=by
  unfold bigV
  rw [Zbf]
  by_cases h:x < 0
  · rw [if_pos (by exact decide_eq_true h)]; omega
  · rw [if_neg (by show ¬ decide (x < 0)=true; simpa using h)]; omega
theorem Fine.big {t:Z02} (h:Fine t) (hk:t.fKind=2):∃ x:Int,(x.natAbs:Int) < TOP∧t.fNum=numN x∧(x < -1152921504606846976∨1152921504606846975 < x):=by
  have ho:=h.right.1
  unfold okT at ho
  rw [if_neg (by omega),if_pos hk,Bool.and_eq_true,Bool.not_eq_true'] at ho
  rcases may_or t.fNum (limbs_of h.w.Num.Mag) with ⟨x,hx,e⟩ | hf
  · refine ⟨x,hx,e, ?_⟩
    apply Classical.byContradiction
    intro hn
    have hlen:(numN x).fMag.length≤2:=by
      have a:=Zgr (x.natAbs:Int) 2 (by omega)
      rw [Int.toNat_natCast] at a
      exact a.2 (by show (x.natAbs:Int) < 4294967296 ^ 2; omega)
    have hv:val2 (numN x).fMag=(x.natAbs:Int):=by
      have:∀ {l:List Int},l.length≤2→val2 l=val l:=fun {l} h=>by
        match l,h with
        | [],_=>rfl
        | [a],_=>rw [val2,val,val]; omega
        | [a,b],_=>rw [val2,val,val,val]; omega
      rw [this hlen,Zbf]
    have h2:=ho.2
    rw [e] at h2
    have hm:mayN (numN x)=true:=by rw [← e]; exact ho.1
    unfold smallN at h2
    rw [if_pos ⟨hm,hlen⟩,hv] at h2
    split at h2
    · rename_i hneg
      have:x < 0:=of_decide_eq_true hneg
      rw [if_pos (by omega)] at h2
      cases h2
    · rename_i hneg
      have:¬ x < 0:=fun h=>hneg (decide_eq_true h)
      rw [if_pos (by omega)] at h2
      cases h2
  · have:=Ev.det (nmay_ev t.fNum) hf
    rw [ho.1] at this
    cases this
theorem Fine.int {t:Z02} (h:Fine t) (hk:t.fKind=1):-1152921504606846976≤t.fN∧t.fN≤1152921504606846975:=by
  have ho:=h.right.1
  unfold okT at ho
  rw [if_pos hk] at ho
  exact of_decide_eq_true ho
theorem int_top {x:Int} (h:-1152921504606846976≤x∧x≤1152921504606846975):(x.natAbs:Int) < TOP:=by unfold TOP; omega
def numV (t:Z02):Int:=if t.fKind=1 then t.fN else bigV t.fNum
theorem Fine.numV_top {t:Z02} (h:Fine t) (hk:t.fKind=1∨t.fKind=2):((numV t).natAbs:Int) < TOP:=by
  unfold numV
  split
  · rename_i h1; exact int_top (h.int h1)
  · rename_i h1
    obtain ⟨x,hx,e,_⟩:=h.big (by omega)
    rw [e,bigV_num]; exact hx
theorem Zdg {t:Z02} (h:Fine t) (hk:t.fKind=1∨t.fKind=2):Ev (fun N=>Zbo N t) (numN (numV t),true):=by
  have hm:=mayT_ev t h.s h.w
  rw [h.m] at hm
  refine Ev.bind hm (Ev.neg (by simp) ?_)
  unfold numV
  by_cases h1:t.fKind=1
  · rw [if_pos h1]
    have:=h.int h1
    exact Ev.pos h1 (Ev.bind (Of_ev t.fN (by omega) (by omega)) (Ev.now _))
  · rw [if_neg h1]
    obtain ⟨x,hx,e,_⟩:=h.big (by omega)
    have hl:=Z7y x hx
    refine Ev.neg h1 (Ev.pos (by omega) ?_)
    rw [e,bigV_num]
    exact Ev.bind (Zdl _ (by rw [lim_eq]; omega)) (Ev.now _)
theorem Zcc {t:Z02} (h:Fine t) (hk:t.fKind=3):Ev (fun N=>Zbo N t) ((⟨false,[]⟩:Z06),false):=by
  have hm:=mayT_ev t h.s h.w
  rw [h.m] at hm
  exact Ev.bind hm (Ev.neg (by simp) (Ev.neg (by omega) (Ev.neg (by omega) (Ev.now _))))
end Go.Proofs.Ytllcnlonkloabaa.Sh
