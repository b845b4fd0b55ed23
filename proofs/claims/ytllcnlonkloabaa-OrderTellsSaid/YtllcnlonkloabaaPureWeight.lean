import Derived.Test.YtllcnlonkloabaaPureParts
set_option linter.unusedVariables false
namespace Go.Proofs.Ytllcnlonkloabaa.Sh
open Go Lift Go.Proofs
mutual
def wt:Z00→Int
 |⟨k,_,m,_,s,args⟩=>if k=2 then 1+(m.fMag.length:Int) else if k=9 then 1+(s.size:Int) / 8 else if k=6∨k=8 then 1+wts args else 1
def wts:List Z00→Int
 |[]=>0
 |x::xs=>wt x+wts xs
end
theorem wt_eq (x:Z00):wt x=if x.fKind=2 then 1+(x.fNum.fMag.length:Int) else if x.fKind=9 then 1+(x.fBytes.size:Int) / 8 else if x.fKind=6∨x.fKind=8 then 1+wts x.fArgs else 1:=by cases x; rw [wt]
mutual
theorem wt_pos:∀ x:Z00,1≤wt x
 |⟨k,_,m,_,s,args⟩=>by
  have:=Zbm args
  rw [wt]
  split
  ·omega
  ·split
   ·omega
   ·split <;> omega
theorem Zbm:∀ xs:List Z00,0≤wts xs
 |[]=>by rw [wts]; omega
 |x::xs=>by
  have:=wt_pos x
  have:=Zbm xs
  rw [wts]; omega
end
def Near (m r:Int):Prop:=(m≤300→r=m)∧(300 < m→300 < r)∧r≤1000∧0≤r
def lo (m:Int):Int:=if 301 < m then 301 else m
theorem tdiv8 (n:Nat):Int.tdiv (n:Int) 8=(n:Int) / 8:=Int.tdiv_eq_ediv_of_nonneg (vk n)
mutual
theorem add_ev:∀ (x:Z00),Small x→∀ n:Int,0≤n→n≤300→∃ r,Ev (fun N=>weigh_scale_add N (Z17.mk n) x) (Z17.mk r)∧Near (n+wt x) r
 |⟨k,a,m,b,s,args⟩,hs,n,h1,h2=>by
  have hm:m.fMag.length≤300:=hs.mag
  have hb:s.size≤5000:=hs.bytes
  have e1:IntKind.i64.wrap (n+1)=n+1:=Zk1 _ (by omega) (by omega)
  have hw:=Zbm args
  rw [wt]
  by_cases k2:k=2
  ·refine ⟨n+1+m.fMag.length, ?_,by rw [if_pos k2]; unfold Near; omega⟩
   refine Ev.step ?_ (fun N=>by rw [weigh_scale_add])
   refine Ev.pos k2 ?_
   show Ev (fun _=>some (Z17.mk (IntKind.i64.wrap (IntKind.i64.wrap (n+1)+(m.fMag.length:Int))))) _
   rw [e1,Zk1 _ (by omega) (by omega)]
   exact Ev.now _
  rw [if_neg k2]
  by_cases k9:k=9
  ·refine ⟨n+1+(s.size:Int) / 8, ?_,by rw [if_pos k9]; unfold Near; omega⟩
   refine Ev.step ?_ (fun N=>by rw [weigh_scale_add])
   refine Ev.neg k2 (Ev.pos k9 ?_)
   show Ev (fun _=>some (Z17.mk (IntKind.i64.wrap (IntKind.i64.wrap (n+1)+IntKind.i64.wrap (Int.tdiv (s.size:Int) 8))))) _
   rw [e1,tdiv8,Zk1 ((s.size:Int) / 8) (by omega) (by omega),Zk1 _ (by omega) (by omega)]
   exact Ev.now _
  rw [if_neg k9]
  obtain ⟨r,hr,hn⟩:=adds_ev args hs.args ⟨k,a,m,b,s,args⟩ 0 rfl hs.len (n+1) (by omega) (by omega)
  have hr':∃ q,Ev (fun N=>(weigh_scale_add_L0 N ⟨k,a,m,b,s,args⟩ (IntKind.i64.wrap (n+1)) 0).bind fun r8=>(match r8 with | .inl r9=>some (Z17.mk r9) | .inr r10=>some (Z17.mk r10))) (Z17.mk q)∧Near (n+1+wts args) q:=by
   rw [e1]
   cases r with
   |inl r=>exact ⟨r,Ev.bind hr (Ev.now _),hn⟩
   |inr r=>exact ⟨r,Ev.bind hr (Ev.now _),hn⟩
  obtain ⟨q,hq,hnq⟩:=hr'
  have e:n+(1+wts args)=n+1+wts args:=by omega
  by_cases k6:k=6
  ·refine ⟨q, ?_,by rw [if_pos (Or.inl k6),e]; exact hnq⟩
   refine Ev.step ?_ (fun N=>by rw [weigh_scale_add])
   exact Ev.neg k2 (Ev.neg k9 (Ev.pos k6 hq))
  by_cases k8:k=8
  ·refine ⟨q, ?_,by rw [if_pos (Or.inr k8),e]; exact hnq⟩
   refine Ev.step ?_ (fun N=>by rw [weigh_scale_add])
   exact Ev.neg k2 (Ev.neg k9 (Ev.neg k6 (Ev.pos k8 hq)))
  ·refine ⟨n+1, ?_,by rw [if_neg (by omega)]; unfold Near; omega⟩
   refine Ev.step ?_ (fun N=>by rw [weigh_scale_add])
   refine Ev.neg k2 (Ev.neg k9 (Ev.neg k6 (Ev.neg k8 ?_)))
   show Ev (fun _=>some (Z17.mk (IntKind.i64.wrap (n+1)))) _
   rw [e1]
   exact Ev.now _
theorem adds_ev:∀ (ts:List Z00),(∀ x ∈ ts,Small x)→∀ (t:Z00) (i:Nat),t.fArgs.drop i=ts→t.fArgs.length≤maxLen→∀ n:Int,0≤n→n≤1000 →
  ∃ r,Ev (fun N=>weigh_scale_add_L0 N t n i) r∧(match r with | .inl q=>Near (n+wts ts) q | .inr q=>Near (n+wts ts) q)
 |[],hs,t,i,hd,hl,n,h1,h2=>by
  have:=Z6l hd
  refine ⟨.inl n, ?_,by rw [wts]; unfold Near; omega⟩
  refine Ev.step ?_ (fun N=>by rw [weigh_scale_add_L0])
  exact Ev.neg (by omega) (Ev.now _)
 |x::xs,hs,t,i,hd,hl,n,h1,h2=>by
  have hlen:=Z5o hd
  have hp:=wt_pos x
  have hq:=Zbm xs
  rw [Z4k] at hl
  by_cases h3:n > 300
  ·refine ⟨.inr n, ?_,by rw [wts]; unfold Near; omega⟩
   refine Ev.step ?_ (fun N=>by rw [weigh_scale_add_L0])
   exact Ev.pos (by omega) (Ev.bindc (Zjg hd) (Ev.pos h3 (Ev.now _)))
  ·obtain ⟨q,hq',hn⟩:=add_ev x (hs x (by simp)) n h1 (by omega)
   obtain ⟨n1,n2,n3,n4⟩:=hn
   obtain ⟨r,hr,ho⟩:=adds_ev xs (fun y hy=>hs y (by simp [hy])) t (i+1) (Z50 hd) (by rw [Z4k]; exact hl) q (by omega) (by omega)
   have e3:IntKind.i64.wrap ((i:Int)+1)=((i+1:Nat):Int):=by rw [Zk1 _ (by omega) (by omega)]; rfl
   refine ⟨r, ?_, ?_⟩
   ·refine Ev.step ?_ (fun N=>by rw [weigh_scale_add_L0])
    refine Ev.pos (by omega) (Ev.bindc (Zjg hd) (Ev.neg h3 (Ev.bind hq' ?_)))
    rw [e3]
    exact hr
   ·rw [wts]
    cases r <;> simp only [Near] at ho ⊢ <;> omega
end
theorem weight_ev (x:Z00) (hs:Small x):Ev (fun N=>Zc8 N x) (lo (wt x)):=by
 obtain ⟨r,hr,hn⟩:=add_ev x hs 0 (by omega) (by omega)
 refine Ev.bind hr ?_
 have:(if (301:Int) < r then (301:Int) else r)=lo (wt x):=by
  unfold lo
  unfold Near at hn
  split <;> split <;> omega
 show Ev (fun _=>some (if (301:Int) < r then (301:Int) else r)) _
 rw [this]
 exact Ev.now _
end Go.Proofs.Ytllcnlonkloabaa.Sh
