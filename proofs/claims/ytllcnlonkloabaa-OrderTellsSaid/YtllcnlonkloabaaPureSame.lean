import Derived.Test.YtllcnlonkloabaaPureParts
import Derived.Test.YtllcnlonkloabaaLift4
set_option linter.unusedVariables false
set_option linter.unusedSimpArgs false
namespace Go.Proofs.Ytllcnlonkloabaa.Sh
open Go Lift Go.Proofs
theorem cnt_pos (t:Z00):1≤cnt t:=by rw [cnt_eq]; omega
theorem Zdl:∀ ts:List Z00,ts.length≤cnts ts
 |[]=>by simp [cnts]
 |x::xs=>by have:=Zdl xs; have:=cnt_pos x; simp [cnts]; omega
theorem set_self {α:Type} (l:List α) (i:Nat) (h:i < l.length):l.set i l[i]=l:=by simp
theorem Zh0:∀ (ts l:List Int) (i:Nat),l.drop i=ts→l.length≤100000→Ev (fun N=>Z2b N l l i) (.inl ())
 |[],l,i,hd,hl=>by
  have:=Z6l hd
  refine Ev.step ?_ (fun N=>by rw [Z2b])
  exact Ev.neg (by omega) (Ev.now _)
 |x::xs,l,i,hd,hl=>by
  have hlen:=Z5o hd
  refine Ev.step ?_ (fun N=>by rw [Z2b,Z3a (by omega)])
  exact Ev.pos (by omega) (Ev.bindc (Zjg hd) (Ev.bindc (Zjg hd) (Ev.neg (by simp) (Zh0 xs l (i+1) (Z50 hd) hl))))
theorem sameNum_self (n:Z08) (hl:n.fMag.length≤100000):Ev (fun N=>Z6r N n n) true :=
 Ev.pos rfl (Ev.bind (Ev.neg (by simp) (Ev.bind (Zh0 n.fMag n.fMag 0 rfl hl) (Ev.now _))) (Ev.now _))
mutual
theorem sameTerm_self:∀ (t:Z00),Small t→cnt t≤100000→Ev (fun N=>beehivelaw0_SameTerm N t t) true
 |⟨k,n,m,b,s,args⟩,hs,hc=>by
  have hm:m.fMag.length≤300:=hs.mag
  rw [cnt] at hc
  have hl:=Zdl args
  have h:=Zcz args hs.args (by omega) args 0 rfl (by omega)
  have h2:Ev (fun N=>beehivelaw0_SameTerms N args args) true:=by
   refine Ev.step ?_ (fun N=>by rw [beehivelaw0_SameTerms])
   exact Ev.neg (by simp) (Ev.bind h (Ev.now _))
  refine Ev.step ?_ (fun N=>by rw [beehivelaw0_SameTerm])
  refine Ev.bind (a:=true) ?_ (Ev.now _)
  refine Ev.step ?_ (fun N=>by rw [beehivelaw0_SameTerm_B0])
  exact Ev.pos rfl (Ev.pos rfl (Ev.bind (sameNum_self m (by omega)) (Ev.pos rfl (Ev.pos rfl (Ev.pos rfl (Ev.bind h2 (Ev.now _)))))))
theorem Zcz:∀ (ts:List Z00),(∀ x ∈ ts,Small x)→cnts ts≤100000→∀ (l:List Z00) (i:Nat),l.drop i=ts→l.length≤100000→Ev (fun N=>beehivelaw0_SameTerms_L0 N l l i) (.inl ())
 |[],hs,hc,l,i,hd,hl=>by
  have:=Z6l hd
  refine Ev.step ?_ (fun N=>by rw [beehivelaw0_SameTerms_L0])
  exact Ev.neg (by omega) (Ev.now _)
 |x::xs,hs,hc,l,i,hd,hl=>by
  have hlen:=Z5o hd
  rw [cnts] at hc
  refine Ev.step ?_ (fun N=>by rw [beehivelaw0_SameTerms_L0,Z3a (by omega)])
  exact Ev.pos (by omega) (Ev.bindc (Zjg hd) (Ev.bindc (Zjg hd) (Ev.bind (sameTerm_self x (hs x (by simp)) (by omega)) (Ev.neg (by simp) (Zcz xs (fun y hy=>hs y (by simp [hy])) (by omega) l (i+1) (Z50 hd) hl)))))
end
end Go.Proofs.Ytllcnlonkloabaa.Sh
