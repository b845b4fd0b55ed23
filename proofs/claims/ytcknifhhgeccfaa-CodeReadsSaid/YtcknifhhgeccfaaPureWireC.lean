import Derived.Test.YtcknifhhgeccfaaPureWireB
set_option linter.unusedVariables false
set_option linter.unusedSimpArgs false
namespace Go.Proofs.Ytcknifhhgeccfaa.Sh
open Go Lift Go.Proofs
theorem len0 {α:Type} {l:List α} (h:l.length=0):l=[]:=List.length_eq_zero_iff.1 h
theorem Zeb {t:Z02} (h:rightT t=true):okT t=true∧bareT t=true∧rightsT t.fArgs=true:=by
  rw [rightT_eq,Bool.and_eq_true,Bool.and_eq_true] at h
  exact ⟨h.1.1,h.1.2,h.2⟩
theorem Za0 {x:Z02} {xs:List Z02} (h:rightsT (x::xs)=true):rightT x=true∧rightsT xs=true:=by rw [rightsT,Bool.and_eq_true] at h; exact h
theorem may_wt {t:Z02} (h:mayT t=true):wt t≤300∧rightT t=true:=by
  unfold mayT at h
  rw [Bool.and_eq_true] at h
  have h1:=of_decide_eq_true h.1
  unfold lo at h1
  refine ⟨?_,h.2⟩
  split at h1 <;> omega
def laid (t:Z02):List Int × Int:=if mayT t=true then (layT t,0) else ([],2)
theorem Lay_ev (t:Z02) (s:Small t) (w:Z0t t):Ev (fun N=>wire_Lay N t) (laid t):=by
  unfold laid
  have hm:=mayT_ev t s w
  by_cases h:mayT t=true
  · rw [if_pos h]
    have hw:=(may_wt h).1
    have hl:=lay_ev t w (by omega) [] (by show 0+_≤_; omega)
    rw [List.nil_append] at hl
    exact Ev.bind hm (Ev.neg (fun k=>k h) (Ev.bind hl (Ev.now _)))
  · rw [if_neg h]
    exact Ev.bind hm (Ev.pos h (Ev.now _))
theorem laid_len (t:Z02):(laid t).1.length≤3000:=by
  unfold laid
  split
  · rename_i h
    have:=layT_len t
    have:=(may_wt h).1
    show (layT t).length≤3000
    omega
  · exact Nat.zero_le _
theorem overB_loop:∀ (d:Nat) (l:List Int) (i:Nat),i+d=l.length→l.length≤100000→∃ r,Ev (fun N=>Z3b N l i) r∧r.length=l.length
  | 0,l,i,hd,hl=>by
    refine ⟨l, ?_,rfl⟩
    refine Ev.step ?_ (fun N=>by rw [Z3b])
    exact Ev.neg (by omega) (Ev.now _)
  | d+1,l,i,hd,hl=>by
    obtain ⟨r,hr,hrl⟩:=overB_loop d (l.set i 238) (i+1) (by rw [List.length_set]; omega) (by rw [List.length_set]; exact hl)
    refine ⟨r, ?_,by rw [hrl,List.length_set]⟩
    refine Ev.step ?_ (fun N=>by rw [Z3b,Z36 (by omega)])
    refine Ev.pos (by omega) (Ev.bindc (idx_eq (show i < l.length by omega)) ?_)
    rw [Int.toNat_natCast]
    exact hr
theorem overB_ev (l:List Int) (hl:l.length≤100000):Ev (fun N=>Z6x N l) ():=by
  obtain ⟨r,hr,hrl⟩:=overB_loop l.length l 0 (by omega) hl
  exact Ev.bind hr (Ev.bindc (app9 (by show r.length+1≤_; omega)) (Ev.now _))
end Go.Proofs.Ytcknifhhgeccfaa.Sh
