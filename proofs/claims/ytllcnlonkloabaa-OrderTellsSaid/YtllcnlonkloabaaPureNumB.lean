import Derived.Test.YtllcnlonkloabaaPureNumA
set_option linter.unusedVariables false
namespace Go.Proofs.Ytllcnlonkloabaa.Sh
open Go Lift Go.Proofs
theorem cmpI_ev (a b:Int):Ev (fun N=>Z56 N a b) (sgn (a - b)):=by
 refine Ev.bindc (a:=(a != a)) rfl (Ev.bindc (a:=(b != b)) rfl (Ev.neg (by simp) (Ev.neg (by simp) ?_)))
 unfold sgn
 by_cases h:a < b
 ·refine Ev.pos h ?_
  rw [if_pos (by omega)]
  exact Ev.now _
 ·refine Ev.neg h ?_
  by_cases h2:a > b
  ·refine Ev.pos h2 ?_
   rw [if_neg (by omega),if_neg (by omega)]
   exact Ev.now _
  ·refine Ev.neg h2 ?_
   rw [if_neg (by omega),if_pos (by omega)]
   exact Ev.now _
theorem cmpU_ev (a b:Int):Ev (fun N=>Z77 N a b) (sgn (a - b)):=cmpI_ev a b
theorem cmpMag_loop (a b:List Int) (ha:limbs a) (hb:limbs b) (hab:a.length=b.length) (hN:a.length < 1000000):∀ (d:Nat) (i:Int),i+1=(d:Int)→i < a.length →
  ∃ r,Ev (fun N=>Z5l N a b i) r∧(match r with | .inl _=>(0:Int) | .inr x=>x)=sgn (val (a.take d) - val (b.take d)):=by
 intro d
 induction d with
 |zero =>
  intro i hi hl
  refine ⟨.inl (), ?_,by simp [val,sgn]⟩
  refine Ev.step ?_ (fun N=>by rw [Z5l])
  exact Ev.neg (by omega) (Ev.now _)
 |succ d ih =>
  intro i hi hl
  obtain rfl:i=(d:Int):=by omega
  have ra:=Zg4 ha d
  have rb:=Zg4 hb d
  have hw:IntKind.i64.wrap ((d:Int) - 1)=(d:Int) - 1:=Zk1 _ (by omega) (by omega)
  have la:=val_lt (Z4v ha d)
  have lb:=val_lt (Z4v hb d)
  have na:=Z4b (Z4v ha d)
  have nb:=Z4b (Z4v hb d)
  rw [qy,jd (by omega)] at la lb
  rw [Zdj a d (by omega),Zdj b d (by omega)]
  by_cases h:dg a d=dg b d
  ·obtain ⟨r,e,hr⟩:=ih ((d:Int) - 1) (by omega) (by omega)
   refine ⟨r, ?_, ?_⟩
   ·refine Ev.step ?_ (fun N=>by rw [Z5l,hw])
    refine Ev.pos (by omega) (Ev.bindc (idx_dg (by omega)) (Ev.bindc (idx_dg (by omega)) (Ev.bind (cmpU_ev _ _) (Ev.neg ?_ e))))
    rw [h]
    exact fun e=>e (Z80.2 (by omega))
   ·rw [hr,h]
    congr 1
    omega
  ·refine ⟨.inr (sgn (dg a d - dg b d)), ?_, ?_⟩
   ·refine Ev.step ?_ (fun N=>by rw [Z5l])
    exact Ev.pos (by omega) (Ev.bindc (idx_dg (by omega)) (Ev.bindc (idx_dg (by omega)) (Ev.bind (cmpU_ev _ _) (Ev.pos (fun e=>h (by have:=Z80.1 e; omega)) (Ev.now _)))))
   ·show sgn (dg a d - dg b d)=_
    generalize (4294967296:Int) ^ d=P at *
    by_cases hlt:dg a d < dg b d
    ·have:P * (dg a d+1)≤P * dg b d:=j6 (by omega) (by omega)
     rw [Z9v (by omega),Z9v (by grind)]
    ·have:P * (dg b d+1)≤P * dg a d:=j6 (by omega) (by omega)
     rw [Zal (by omega),Zal (by grind)]
theorem cmpMag_ev (a b:List Int) (ha:norm a) (hb:norm b) (h1:a.length < 100000) (h2:b.length < 100000):Ev (fun N=>Zdd N a b) (sgn (val a - val b)):=by
 refine Ev.bind (cmpI_ev _ _) ?_
 by_cases h:a.length=b.length
 ·have hw:IntKind.i64.wrap (((a.length:Nat):Int) - 1)=(a.length:Int) - 1:=Zk1 _ (by omega) (by omega)
  obtain ⟨r,e,hr⟩:=cmpMag_loop a b ha.1 hb.1 h (by omega) a.length ((a.length:Int) - 1) (by omega) (by omega)
  rw [uy (by omega),uy (by omega)] at hr
  refine Ev.neg (fun e=>e (Z80.2 (by omega))) ?_
  rw [hw]
  refine Ev.bind e ?_
  rw [← hr]
  cases r <;> exact Ev.now _
 ·refine Ev.pos (fun e=>h (by have:=Z80.1 e; omega)) ?_
  have na:=Z4b ha.1
  have nb:=Z4b hb.1
  have e:sgn (((a.length:Nat):Int) - ((b.length:Nat):Int))=sgn (val a - val b):=by
   by_cases hlt:a.length < b.length
   ·have x:=Zg6 hb (by intro e; rw [e] at hlt; simp at hlt)
    have y:=val_lt ha.1
    have z:(4294967296:Int) ^ a.length≤4294967296 ^ (b.length - 1):=pow_le' (by omega)
    have q:=wm y (Int.le_trans z x)
    rw [Z9v (by omega),Z9v (by omega)]
   ·have x:=Zg6 ha (fun e=>by have:=congrArg List.length e; rw [xx] at this; omega)
    have y:=val_lt hb.1
    have z:(4294967296:Int) ^ b.length≤4294967296 ^ (a.length - 1):=pow_le' (by omega)
    have q:=wm y (Int.le_trans z x)
    rw [Zal (by omega),Zal (by omega)]
  rw [e]
  exact Ev.now _
end Go.Proofs.Ytllcnlonkloabaa.Sh
