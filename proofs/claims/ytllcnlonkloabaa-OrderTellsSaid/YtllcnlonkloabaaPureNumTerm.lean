import Derived.Test.YtllcnlonkloabaaPureTermMay
import Derived.Test.YtllcnlonkloabaaPureNumE
import Derived.Test.YtllcnlonkloabaaPureGreat
import Derived.Test.YtllcnlonkloabaaPureSame
set_option linter.unusedVariables false
set_option linter.unusedSimpArgs false
namespace Go.Proofs.Ytllcnlonkloabaa.Sh
open Go Lift Go.Proofs
theorem toL_two (x y:Nat) (hx:x < 4294967296) (hy:y < 4294967296):toL (x+y * 4294967296)=if y=0 then (if x=0 then [] else [(x:Int)]) else [(x:Int),(y:Int)]:=by
 by_cases h1:y=0
 ·subst h1
  rw [if_pos rfl]
  by_cases h0:x=0
  ·subst h0; rw [if_pos rfl]; exact Z61
  ·rw [if_neg h0,Zap (by omega),show (x+0 * 4294967296) / 4294967296=0 by omega,Z61,show (x+0 * 4294967296) % 4294967296=x by omega]
 ·rw [if_neg h1,Zap (by omega),show (x+y * 4294967296) / 4294967296=y by omega,show (x+y * 4294967296) % 4294967296=x by omega,Zap h1,show y / 4294967296=0 by omega,Z61,show y % 4294967296=y by omega]
theorem rfit_ev (neg:Bool) (x y:Nat) (hx:x < 4294967296) (hy:y < 4294967296):Ev (fun N=>Z66 N neg [(x:Int),(y:Int)]) (if toL (x+y * 4294967296)=[] then ⟨false,[]⟩ else ⟨neg,toL (x+y * 4294967296)⟩):=by
 have e1:IntKind.i64.wrap ((2:Int) - 1)=1:=by decide
 have e0:IntKind.i64.wrap ((1:Int) - 1)=0:=by decide
 have c2:cut [(x:Int),(y:Int)] 0 2=some [(x:Int),(y:Int)]:=rfl
 have c1:cut [(x:Int),(y:Int)] 0 1=some [(x:Int)]:=rfl
 rw [toL_two x y hx hy]
 by_cases h1:y=0
 ·rw [if_pos h1]
  by_cases h0:x=0
  ·rw [if_pos h0,if_pos rfl]
   have hL:Ev (fun N=>Z1l N neg [(x:Int),(y:Int)] 2) 0:=by
    refine Ev.step ?_ (fun N=>by rw [Z1l,e1])
    refine Ev.pos (by decide) (Ev.bindc (a:=(y:Int)) rfl (Ev.pos (by omega) ?_))
    refine Ev.step ?_ (fun N=>by rw [Z1l,e0])
    refine Ev.pos (by decide) (Ev.bindc (a:=(x:Int)) rfl (Ev.pos (by omega) ?_))
    refine Ev.step ?_ (fun N=>by rw [Z1l])
    exact Ev.neg (by decide) (Ev.now _)
   exact Ev.bind hL (Ev.pos rfl (Ev.now _))
  ·rw [if_neg h0,if_neg (by simp)]
   have hL:Ev (fun N=>Z1l N neg [(x:Int),(y:Int)] 2) 1:=by
    refine Ev.step ?_ (fun N=>by rw [Z1l,e1])
    refine Ev.pos (by decide) (Ev.bindc (a:=(y:Int)) rfl (Ev.pos (by omega) ?_))
    refine Ev.step ?_ (fun N=>by rw [Z1l,e0])
    exact Ev.pos (by decide) (Ev.bindc (a:=(x:Int)) rfl (Ev.neg (by omega) (Ev.now _)))
   exact Ev.bind hL (Ev.neg (by decide) (Ev.bindc c1 (Ev.bindc (app0_eq (by rw [lim_eq]; show 1≤_; omega)) (Ev.now _))))
 ·rw [if_neg h1,if_neg (by simp)]
  have hL:Ev (fun N=>Z1l N neg [(x:Int),(y:Int)] 2) 2:=by
   refine Ev.step ?_ (fun N=>by rw [Z1l,e1])
   exact Ev.pos (by decide) (Ev.bindc (a:=(y:Int)) rfl (Ev.neg (by omega) (Ev.now _)))
  exact Ev.bind hL (Ev.neg (by decide) (Ev.bindc c2 (Ev.bindc (app0_eq (by rw [lim_eq]; show 2≤_; omega)) (Ev.now _))))
theorem rOfN_ev (n:Int) (h0:-9223372036854775808≤n) (h1:n≤9223372036854775807):Ev (fun N=>Z5t N n) (numN n):=by
 have wu:=Ze8 n
 have key:∀ (m:Int) (neg:Bool),0≤m→m < 18446744073709551616→m=(n.natAbs:Int)→(m ≠ 0→neg=decide (n < 0))→Ev (fun N=>Z66 N neg [m % 4294967296,m / 4294967296 % 4294967296]) (numN n):=fun m neg hm0 hm1 hm hneg=>by
  have h:=rfit_ev neg (m.toNat % 4294967296) (m.toNat / 4294967296) (by omega) (by omega)
  rw [show m.toNat % 4294967296+m.toNat / 4294967296 * 4294967296=n.natAbs by omega] at h
  have e1:((m.toNat % 4294967296:Nat):Int)=m % 4294967296:=by omega
  have e2:((m.toNat / 4294967296:Nat):Int)=m / 4294967296 % 4294967296:=by omega
  rw [e1,e2] at h
  unfold numN
  by_cases hz:n.natAbs=0
  ·rw [hz,Z61,if_pos rfl] at h
   rw [hz,Z61,decide_eq_false (by omega)]
   exact h
  ·rw [Zap hz,if_neg (by simp), ← Zap hz] at h
   rw [← hneg (by omega)]
   exact h
 by_cases h:n < 0
 ·refine Ev.pos h ?_
  have e:IntKind.u64.wrap (0 - IntKind.u64.wrap n)=-n:=by rw [Ze8,wu]; omega
  rw [e,p32u,fdiv32,w32,w32]
  exact Ev.bind (key (-n) (decide (n < 0)) (by omega) (by omega) (by omega) (fun _=>rfl)) (Ev.now _)
 ·refine Ev.neg h ?_
  have e:IntKind.u64.wrap n=n:=by rw [wu]; omega
  rw [e,p32u,fdiv32,w32,w32]
  exact Ev.bind (key n (decide (n < 0)) (by omega) (by omega) (by omega) (fun _=>rfl)) (Ev.now _)
def numT (t:Z00):Z08 × Bool:=if mayT t=true then (if t.fKind=1 then (numN t.fN,true) else if t.fKind=2 then (t.fNum,true) else (⟨false,[]⟩,false)) else (⟨false,[]⟩,false)
theorem rtNum_ev (t:Z00) (s:Small t) (w:Z0l t):Ev (fun N=>Z51 N t) (numT t):=by
 have hm:=Zfx t s w
 unfold numT
 by_cases h:mayT t=true
 ·rw [if_pos h]
  refine Ev.bind hm (Ev.neg (fun k=>k h) ?_)
  have hN:=inI w.N
  by_cases h1:t.fKind=1
  ·rw [if_pos h1]
   exact Ev.neg (fun k=>k h1) (Ev.pos h1 (Ev.bind (rOfN_ev t.fN hN.1 hN.2) (Ev.now _)))
  ·rw [if_neg h1]
   by_cases h2:t.fKind=2
   ·rw [if_pos h2]
    have:=s.mag
    exact Ev.pos h1 (Ev.neg (fun k=>k h2) (Ev.neg h1 (Ev.bindc (app0_eq (by rw [lim_eq]; omega)) (Ev.now _))))
   ·rw [if_neg h2]
    exact Ev.pos h1 (Ev.pos h2 (Ev.now _))
 ·rw [if_neg h]
  exact Ev.bind hm (Ev.pos h (Ev.now _))
end Go.Proofs.Ytllcnlonkloabaa.Sh
