import Derived.Test.YtcknifhhgeccfaaPureParts
import Derived.Test.YtcknifhhgeccfaaLift3
set_option linter.unusedVariables false
set_option linter.unusedSimpArgs false
namespace Go.Proofs.Ytcknifhhgeccfaa.Sh
open Go Lift Go.Proofs
theorem cnt_pos (t:Z02):1≤cnt t:=by rw [cnt_eq]; omega
theorem cnts_len:∀ ts:List Z02,ts.length≤cnts ts
  | []=>by simp [cnts]
  | x::xs=>by have:=cnts_len xs; have:=cnt_pos x; simp [cnts]; omega
theorem Ze2:∀ (ts l:List Int) (i:Nat),l.drop i=ts→l.length≤100000→Ev (fun N=>Z3a N l l i) (.inl ())
  | [],l,i,hd,hl=>by
    have:=Z84 hd
    refine Ev.step ?_ (fun N=>by rw [Z3a])
    exact Ev.neg (by omega) (Ev.now _)
  | x::xs,l,i,hd,hl=>by
    have hlen:=Z8i hd
    refine Ev.step ?_ (fun N=>by rw [Z3a,Z36 (by omega)])
    exact Ev.pos (by omega) (Ev.bindc (Zfr hd) (Ev.bindc (Zfr hd) (Ev.neg (by simp) (Ze2 xs l (i+1) (Z55 hd) hl))))
theorem sameNum_self (n:Z0m) (hl:n.fMag.length≤100000):Ev (fun N=>Z7v N n n) true :=
  Ev.pos rfl (Ev.bind (Ev.neg (by simp) (Ev.bind (Ze2 n.fMag n.fMag 0 rfl hl) (Ev.now _))) (Ev.now _))
mutual
theorem sameTerm_self:∀ (t:Z02),Small t→cnt t≤100000→Ev (fun N=>beehivelaw0_SameTerm N t t) true
  | ⟨k,n,m,b,s,args⟩,hs,hc=>by
    have hm:m.fMag.length≤300:=hs.mag
    rw [cnt] at hc
    have hl:=cnts_len args
    have h:=Zc1 args hs.args (by omega) args 0 rfl (by omega)
    have h2:Ev (fun N=>beehivelaw0_SameTerms N args args) true:=by
      refine Ev.step ?_ (fun N=>by rw [beehivelaw0_SameTerms])
      exact Ev.neg (by simp) (Ev.bind h (Ev.now _))
    refine Ev.step ?_ (fun N=>by rw [beehivelaw0_SameTerm])
    refine Ev.bind (a:=true) ?_ (Ev.now _)
    refine Ev.step ?_ (fun N=>by rw [beehivelaw0_SameTerm_B0])
    exact Ev.pos rfl (Ev.pos rfl (Ev.bind (sameNum_self m (by omega)) (Ev.pos rfl (Ev.pos rfl (Ev.pos rfl (Ev.bind h2 (Ev.now _)))))))
theorem Zc1:∀ (ts:List Z02),(∀ x ∈ ts,Small x)→cnts ts≤100000→∀ (l:List Z02) (i:Nat),l.drop i=ts→l.length≤100000→Ev (fun N=>beehivelaw0_SameTerms_L0 N l l i) (.inl ())
  | [],hs,hc,l,i,hd,hl=>by
    have:=Z84 hd
    refine Ev.step ?_ (fun N=>by rw [beehivelaw0_SameTerms_L0])
    exact Ev.neg (by omega) (Ev.now _)
  | x::xs,hs,hc,l,i,hd,hl=>by
    have hlen:=Z8i hd
    rw [cnts] at hc
    refine Ev.step ?_ (fun N=>by rw [beehivelaw0_SameTerms_L0,Z36 (by omega)])
    exact Ev.pos (by omega) (Ev.bindc (Zfr hd) (Ev.bindc (Zfr hd) (Ev.bind (sameTerm_self x (hs x (by simp)) (by omega)) (Ev.neg (by simp) (Zc1 xs (fun y hy=>hs y (by simp [hy])) (by omega) l (i+1) (Z55 hd) hl)))))
end
end Go.Proofs.Ytcknifhhgeccfaa.Sh
