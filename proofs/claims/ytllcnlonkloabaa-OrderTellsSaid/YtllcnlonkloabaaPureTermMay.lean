import Derived.Test.YtllcnlonkloabaaPureRight
import Derived.Test.YtllcnlonkloabaaPureWeight
set_option linter.unusedVariables false
namespace Go.Proofs.Ytllcnlonkloabaa.Sh
open Go Lift Go.Proofs
open Go.IntKind (wrap)
theorem lo_nonneg {m:Int} (h:0≤m):0≤lo m∧lo m≤301:=by unfold lo; split <;> omega
mutual
theorem ref_ev:∀ (x:Z00),Small x→Ev (fun N=>beehiveref3_Weight N x) (lo (wt x))
 |⟨k,a,m,b,s,args⟩,hs=>by
  have hm:m.fMag.length≤300:=hs.mag
  have hb:s.size≤5000:=hs.bytes
  obtain ⟨q,hq,hn⟩:=refs_ev args hs.args ⟨k,a,m,b,s,args⟩ 0 rfl hs.len 1 (by omega) (by omega)
  have hlo:lo q=lo (1+wts args):=by unfold lo; split <;> split <;> omega
  have fin:∀ v:Int,Ev (fun N=>beehiveref3_Weight_B0 N ⟨k,a,m,b,s,args⟩) v→Ev (fun N=>beehiveref3_Weight N ⟨k,a,m,b,s,args⟩) (lo v):=fun v h=>by
   refine Ev.step ?_ (fun N=>by rw [beehiveref3_Weight])
   exact Ev.bind h (Ev.now _)
  rw [wt]
  by_cases k2:k=2
  ·rw [if_pos k2]
   refine fin _ ?_
   refine Ev.step ?_ (fun N=>by rw [beehiveref3_Weight_B0])
   refine Ev.pos k2 ?_
   have e:(if (300:Int) < ((m.fMag.length:Nat):Int) then (300:Int) else ((m.fMag.length:Nat):Int))=(m.fMag.length:Int):=if_neg (by omega)
   show Ev (fun _=>some (wrap .i64 ((1:Int)+(if (300:Int) < ((m.fMag.length:Nat):Int) then (300:Int) else ((m.fMag.length:Nat):Int))))) _
   rw [e,Zk1 _ (by omega) (by omega)]
   exact Ev.now _
  rw [if_neg k2]
  by_cases k9:k=9
  ·rw [if_pos k9]
   have e0:IntKind.i64.wrap (Int.tdiv (s.size:Int) 8)=(s.size:Int) / 8:=by rw [tdiv8,Zk1 _ (by omega) (by omega)]
   have hv:lo (1+(s.size:Int) / 8)=lo (1+(if (300:Int) < (s.size:Int) / 8 then (300:Int) else (s.size:Int) / 8)):=by
    by_cases c:(300:Int) < (s.size:Int) / 8
    ·rw [if_pos c]; unfold lo; by_cases d:301 < 1+(s.size:Int) / 8
     ·rw [if_pos d]; rfl
     ·rw [if_neg d,if_neg (by decide)]; omega
    ·rw [if_neg c]
   rw [hv]
   refine fin _ ?_
   refine Ev.step ?_ (fun N=>by rw [beehiveref3_Weight_B0])
   refine Ev.neg k2 (Ev.pos k9 ?_)
   show Ev (fun _=>some (wrap .i64 ((1:Int)+(if (300:Int) < (wrap .i64 (Int.tdiv ((s.size:Nat):Int) (8:Int))) then (300:Int) else wrap .i64 (Int.tdiv ((s.size:Nat):Int) (8:Int)))))) _
   rw [e0,Zk1 _ (by split <;> omega) (by split <;> omega)]
   exact Ev.now _
  rw [if_neg k9]
  by_cases k6:k=6
  ·rw [if_pos (Or.inl k6), ← hlo]
   refine fin _ ?_
   refine Ev.step ?_ (fun N=>by rw [beehiveref3_Weight_B0])
   exact Ev.neg k2 (Ev.neg k9 (Ev.pos k6 (Ev.bind hq (Ev.now _))))
  by_cases k8:k=8
  ·rw [if_pos (Or.inr k8), ← hlo]
   refine fin _ ?_
   refine Ev.step ?_ (fun N=>by rw [beehiveref3_Weight_B0])
   exact Ev.neg k2 (Ev.neg k9 (Ev.neg k6 (Ev.pos k8 (Ev.bind hq (Ev.now _)))))
  ·have hc:¬ (k=6∨k=8):=by omega
   rw [if_neg hc]
   refine fin _ ?_
   refine Ev.step ?_ (fun N=>by rw [beehiveref3_Weight_B0])
   exact Ev.neg k2 (Ev.neg k9 (Ev.neg k6 (Ev.neg k8 (Ev.now _))))
theorem refs_ev:∀ (ts:List Z00),(∀ x ∈ ts,Small x)→∀ (t:Z00) (i:Nat),t.fArgs.drop i=ts→t.fArgs.length≤maxLen→∀ n:Int,0≤n→n≤601 →
  ∃ q,Ev (fun N=>beehiveref3_Weight_L1 N t n i) q∧(n+wts ts≤300→q=n+wts ts)∧(300 < n+wts ts→300 < q)∧(n+wts ts=301→q=301)
 |[],hs,t,i,hd,hl,n,h1,h2=>by
  have:=Z6l hd
  refine ⟨n, ?_,by rw [wts]; omega⟩
  refine Ev.step ?_ (fun N=>by rw [beehiveref3_Weight_L1])
  exact Ev.neg (by omega) (Ev.now _)
 |x::xs,hs,t,i,hd,hl,n,h1,h2=>by
  have hlen:=Z5o hd
  have hp:=wt_pos x
  have hq:=Zbm xs
  have hlo:lo (wt x)=if 301 < wt x then 301 else wt x:=rfl
  rw [Z4k] at hl
  by_cases h3:n≤300
  ·have hb:=lo_nonneg (m:=wt x) (by omega)
   obtain ⟨q,hq',n1,n2,n3⟩:=refs_ev xs (fun y hy=>hs y (by simp [hy])) t (i+1) (Z50 hd) (by rw [Z4k]; exact hl) (n+lo (wt x)) (by omega) (by omega)
   have e3:IntKind.i64.wrap ((i:Int)+1)=((i+1:Nat):Int):=by rw [Zk1 _ (by omega) (by omega)]; rfl
   have e4:IntKind.i64.wrap (n+lo (wt x))=n+lo (wt x):=Zk1 _ (by omega) (by omega)
   refine ⟨q, ?_, ?_⟩
   ·refine Ev.step ?_ (fun N=>by rw [beehiveref3_Weight_L1])
    refine Ev.pos (by omega) (Ev.pos h3 (Ev.bindc (Zjg hd) (Ev.bind (ref_ev x (hs x (by simp))) ?_)))
    rw [e3,e4]
    exact hq'
   ·rw [wts]
    split at hlo <;> omega
  ·refine ⟨n, ?_,by rw [wts]; omega⟩
   refine Ev.step ?_ (fun N=>by rw [beehiveref3_Weight_L1])
   exact Ev.pos (by omega) (Ev.neg h3 (Ev.now _))
end
def mayT (t:Z00):Bool:=decide (lo (wt t)≤300) && rightT t
theorem Zhn (t:Z00) (hs:Small t) (w:Z0l t):Ev (fun N=>Zdy N t) (mayT t):=by
 unfold mayT
 refine Ev.bind (weight_ev t hs) ?_
 by_cases h:lo (wt t)≤300
 ·rw [decide_eq_true h,vg]
  exact Ev.pos h (Ev.bind (right_ev t w) (Ev.now _))
 ·rw [decide_eq_false h,qm]
  exact Ev.neg h (Ev.now _)
theorem Zfx (t:Z00) (hs:Small t) (w:Z0l t):Ev (fun N=>Z4x N t) (mayT t):=by
 unfold mayT
 refine Ev.bind (ref_ev t hs) ?_
 by_cases h:lo (wt t)≤300
 ·rw [decide_eq_true h,vg]
  exact Ev.pos h (Ev.bind (form_ev t w) (Ev.now _))
 ·rw [decide_eq_false h,qm]
  exact Ev.neg h (Ev.now _)
end Go.Proofs.Ytllcnlonkloabaa.Sh
