import Derived.Test.YtocgnoohfkpbhaaPureWireB
set_option linter.unusedVariables false
set_option linter.unusedSimpArgs false
namespace Go.Proofs.Ytocgnoohfkpbhaa.Sh
open Go Lift Go.Proofs
theorem len0 {α:Type} {l:List α} (h:l.length=0):l=[]:=List.length_eq_zero_iff.1 h
theorem Zbn {t:Z02} (h:rightT t=true):okT t=true∧bareT t=true∧rightsT t.fArgs=true:=by
  rw [rightT_eq,Bool.and_eq_true,Bool.and_eq_true] at h
  exact ⟨h.1.1,h.1.2,h.2⟩
theorem Z7u {x:Z02} {xs:List Z02} (h:rightsT (x::xs)=true):rightT x=true∧rightsT xs=true:=by rw [rightsT,Bool.and_eq_true] at h; exact h
theorem may_wt {t:Z02} (h:mayT t=true):wt t≤300∧rightT t=true:=by
  unfold mayT at h
  rw [Bool.and_eq_true] at h
  have h1:=of_decide_eq_true h.1
  unfold lo at h1
  refine ⟨?_,h.2⟩
  split at h1 <;> omega
def laid (t:Z02):List Int × Int:=if mayT t=true then (layT t,0) else ([],2)
theorem sameB_loop:∀ (ts l:List Int) (i:Nat),l.drop i=ts→l.length≤100000→Ev (fun N=>Z2h N l l i) (.inl ())
  | [],l,i,hd,hl=>by
    have:=Z8x hd
    refine Ev.step ?_ (fun N=>by rw [Z2h])
    exact Ev.neg (by omega) (Ev.now _)
  | x::xs,l,i,hd,hl=>by
    have:=Z93 hd
    refine Ev.step ?_ (fun N=>by rw [Z2h,Z4e (by omega)])
    exact Ev.pos (by omega) (Ev.bindc (idx_at hd) (Ev.bindc (idx_at hd) (Ev.neg (fun h=>h rfl) (sameB_loop xs l (i+1) (Z83 hd) hl))))
theorem sameB_self (l:List Int) (hl:l.length≤100000):Ev (fun N=>Z3o N l l) true :=
  Ev.neg (fun h=>h rfl) (Ev.bind (sameB_loop l l 0 rfl hl) (Ev.now _))
theorem overB_loop:∀ (d:Nat) (l:List Int) (i:Nat),i+d=l.length→l.length≤100000→∃ r,Ev (fun N=>Z2g N l i) r∧r.length=l.length
  | 0,l,i,hd,hl=>by
    refine ⟨l, ?_,rfl⟩
    refine Ev.step ?_ (fun N=>by rw [Z2g])
    exact Ev.neg (by omega) (Ev.now _)
  | d+1,l,i,hd,hl=>by
    obtain ⟨r,hr,hrl⟩:=overB_loop d (l.set i 238) (i+1) (by rw [List.length_set]; omega) (by rw [List.length_set]; exact hl)
    refine ⟨r, ?_,by rw [hrl,List.length_set]⟩
    refine Ev.step ?_ (fun N=>by rw [Z2g,Z4e (by omega)])
    refine Ev.pos (by omega) (Ev.bindc (idx_eq (show i < l.length by omega)) ?_)
    rw [Int.toNat_natCast]
    exact hr
theorem overB_ev (l:List Int) (hl:l.length≤100000):Ev (fun N=>Z5e N l) ():=by
  obtain ⟨r,hr,hrl⟩:=overB_loop l.length l 0 (by omega) hl
  exact Ev.bind hr (Ev.bindc (app9 (by show r.length+1≤_; omega)) (Ev.now _))
theorem awake7_ev:Ev (fun N=>Z5p N) true:=Ev.from 60 (fun N=>by kernel_rfl)
end Go.Proofs.Ytocgnoohfkpbhaa.Sh
