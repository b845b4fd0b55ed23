import Derived.Test.YtllcnlonkloabaaPureParts
import Derived.Test.YtllcnlonkloabaaLift3
set_option linter.unusedVariables false
set_option linter.unusedSimpArgs false
namespace Go.Proofs.Ytllcnlonkloabaa.Sh
open Go Lift Go.Proofs
theorem cnt_pos (t:Z02):1≤cnt t:=by rw [cnt_eq]; omega
theorem cnts_len:∀ ts:List Z02,ts.length≤cnts ts
  | []=>by simp [cnts]
  | x::xs=>by have:=cnts_len xs; have:=cnt_pos x; simp [cnts]; omega
theorem Zga:∀ (ts l:List Int) (i:Nat),l.drop i=ts→l.length≤100000→Ev (fun N=>Z2j N l l i) (.inl ())
  | [],l,i,hd,hl=>by
    have:=Zcn hd
    refine Ev.step ?_ (fun N=>by rw [Z2j])
    exact Ev.neg (by omega) (Ev.now _)
  | x::xs,l,i,hd,hl=>by
    have hlen:=Zck hd
    refine Ev.step ?_ (fun N=>by rw [Z2j,Z5z (by omega)])
    exact Ev.pos (by omega) (Ev.bindc (idx_at hd) (Ev.bindc (idx_at hd) (Ev.neg (by simp) (Zga xs l (i+1) (Zbc hd) hl))))
theorem sameNum_self (n:Z06) (hl:n.fMag.length≤100000):Ev (fun N=>Z7a N n n) true :=
  Ev.pos rfl (Ev.bind (Ev.neg (by simp) (Ev.bind (Zga n.fMag n.fMag 0 rfl hl) (Ev.now _))) (Ev.now _))
mutual
theorem Zh1:∀ (t:Z02),Small t→cnt t≤100000→Ev (fun N=>beehivelaw0_SameTerm N t t) true
  | ⟨k,n,m,b,s,args⟩,hs,hc=>by
    have hm:m.fMag.length≤300:=hs.mag
    rw [cnt] at hc
    have hl:=cnts_len args
    have h:=Zgd args hs.args (by omega) args 0 rfl (by omega)
    have h2:Ev (fun N=>beehivelaw0_SameTerms N args args) true:=by
      refine Ev.step ?_ (fun N=>by rw [beehivelaw0_SameTerms])
      exact Ev.neg (by simp) (Ev.bind h (Ev.now _))
    refine Ev.step ?_ (fun N=>by rw [beehivelaw0_SameTerm])
    refine Ev.bind (a:=true) ?_ (Ev.now _)
    refine Ev.step ?_ (fun N=>by rw [beehivelaw0_SameTerm_B0])
    exact Ev.pos rfl (Ev.pos rfl (Ev.bind (sameNum_self m (by omega)) (Ev.pos rfl (Ev.pos rfl (Ev.pos rfl (Ev.bind h2 (Ev.now _)))))))
theorem Zgd:∀ (ts:List Z02),(∀ x ∈ ts,Small x)→cnts ts≤100000→∀ (l:List Z02) (i:Nat),l.drop i=ts→l.length≤100000→Ev (fun N=>beehivelaw0_SameTerms_L0 N l l i) (.inl ())
  | [],hs,hc,l,i,hd,hl=>by
    have:=Zcn hd
    refine Ev.step ?_ (fun N=>by rw [beehivelaw0_SameTerms_L0])
    exact Ev.neg (by omega) (Ev.now _)
  | x::xs,hs,hc,l,i,hd,hl=>by
    have hlen:=Zck hd
    rw [cnts] at hc
    refine Ev.step ?_ (fun N=>by rw [beehivelaw0_SameTerms_L0,Z5z (by omega)])
    exact Ev.pos (by omega) (Ev.bindc (idx_at hd) (Ev.bindc (idx_at hd) (Ev.bind (Zh1 x (hs x (by simp)) (by omega)) (Ev.neg (by simp) (Zgd xs (fun y hy=>hs y (by simp [hy])) (by omega) l (i+1) (Zbc hd) hl)))))
end
end Go.Proofs.Ytllcnlonkloabaa.Sh
