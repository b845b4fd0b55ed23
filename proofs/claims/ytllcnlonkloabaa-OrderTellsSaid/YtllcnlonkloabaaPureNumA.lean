import Derived.Test.YtllcnlonkloabaaPureLimbs
set_option linter.unusedVariables false
namespace Go.Proofs.Ytllcnlonkloabaa.Sh
open Go Lift Go.Proofs
def numN (x:Int):Z08:=⟨decide (x < 0),toL x.natAbs⟩
def madeV (neg:Bool) (v:Int):Z08 × Bool:=if v < TOP then (⟨neg && decide (v ≠ 0),toL v.toNat⟩,true) else (⟨false,[]⟩,false)
theorem madeV_num (neg:Bool) (v:Int) (h:0≤v) (x:Int) (hx:x=if neg then -v else v) (hb:v < TOP):madeV neg v=(numN x,true):=by
 unfold madeV numN
 rw [if_pos hb]
 subst hx
 cases neg with
 |true =>
  simp only [vg,if_true]
  congr 1
  congr 1
  ·exact decide_eq_decide.2 (by omega)
  ·congr 1
   omega
 |false =>
  simp only [qm,xh,if_false]
  congr 1
  congr 1
  ·symm; exact decide_eq_false (by omega)
  ·congr 1
   omega
theorem Zhm (x:Int) (h:(x.natAbs:Int) < TOP):(numN x).fMag.length≤8:=by
 have a:=toL_len (x.natAbs:Int) 8 (by omega)
 rw [TOP_eq,xn] at a
 exact a.2 h
theorem num_val (x:Int):val (numN x).fMag=(x.natAbs:Int):=val_toL _
theorem Zas (x:Int):norm (numN x).fMag:=toL_norm _
theorem trim_ev:∀ (d:Nat) (l:List Int),l.length=d→limbs l→d < 1000000→Ev (fun N=>Z93 N l) (toL (val l).toNat):=by
 intro d
 induction d with
 |zero =>
  intro l hl hb _
  have:l=[]:=xy hl
  subst this
  refine Ev.step ?_ (fun N=>by rw [Z93])
  simp only [val,Int.toNat_zero,Z61]
  exact Ev.neg (by simp) (Ev.now _)
 |succ d ih =>
  intro l hl hb hd
  have hw:IntKind.i64.wrap (((l.length:Nat):Int) - 1)=(d:Int):=by rw [Zk1 _ (by omega) (by omega)]; omega
  refine Ev.step ?_ (fun N=>by rw [Z93,hw])
  refine Ev.pos (by omega) (Ev.bindc (idx_dg (by omega)) ?_)
  by_cases h:dg l d=0
  ·refine Ev.pos h (Ev.bindc (cut_front (by omega)) ?_)
   have e:val l=val (l.take d):=by
    have a:=Zdj l d (by omega)
    rw [h,uy (by omega)] at a
    omega
   rw [e]
   exact ih (l.take d) (by rw [qy]; omega) (Z4v hb d) (by omega)
  ·refine Ev.neg h ?_
   have hn:norm l:=⟨hb,fun _=>by rw [hl]; exact h⟩
   rw [← Zil hn]
   exact Ev.now _
theorem made_ev (neg:Bool) (l:List Int) (hb:limbs l) (h1:l.length < 1000000):Ev (fun N=>Zin N neg l) (madeV neg (val l)):=by
 have hv:=Z4b hb
 have a:=toL_len (val l) 8 hv
 rw [TOP_eq] at a
 have b:=Zii (val l) hv
 refine Ev.bind (Ev.bind (trim_ev l.length l rfl hb h1) (Ev.now _)) ?_
 unfold madeV
 by_cases h:val l < TOP
 ·rw [if_pos h]
  refine Ev.neg (by omega) ?_
  cases neg with
  |true =>
   refine Ev.pos rfl ?_
   have e:decide ((((toL (val l).toNat).length:Nat):Int) > 0)=(true && decide (val l ≠ 0)):=by
    rw [vg]
    exact decide_eq_decide.2 (by omega)
   rw [e]
   exact Ev.now _
  |false=>exact Ev.neg (by decide) (Ev.now _)
 ·rw [if_neg h]
  exact Ev.pos (by omega) (Ev.now _)
theorem may_ev (x:Int) (h:(x.natAbs:Int) < TOP):Ev (fun N=>Zbr N (numN x)) true:=by
 have h8:=Zhm x h
 have b:=Zii (x.natAbs:Int) (by omega)
 rw [xn] at b
 have n:=Zas x
 refine Ev.pos (by omega) ?_
 by_cases e:x=0
 ·subst e
  have:numN 0=⟨false,[]⟩:=by unfold numN; rw [show (0:Int).natAbs=0 from rfl,Z61]; rfl
  rw [this]
  exact Ev.neg (by simp) (Ev.pos (by simp) (Ev.now _))
 ·have hl:0 < (numN x).fMag.length:=b.2 (by omega)
  have hw:IntKind.i64.wrap ((((numN x).fMag.length:Nat):Int) - 1)=(((numN x).fMag.length - 1:Nat):Int):=by rw [Zk1 _ (by omega) (by omega)]; omega
  refine Ev.pos (by omega) ?_
  rw [hw]
  exact Ev.bindc (idx_dg (by omega)) (Ev.pos (n.2 (by intro e2; rw [e2] at hl; simp at hl)) (Ev.now _))
theorem may_or (n:Z08) (hb:limbs n.fMag):(∃ x:Int,(x.natAbs:Int) < TOP∧n=numN x)∨Ev (fun N=>Zbr N n) false:=by
 obtain ⟨s,l⟩:=n
 by_cases h8:((l.length:Nat):Int)≤8
 ·by_cases h0:l.length=0
  ·have:l=[]:=xy h0
   subst this
   cases s with
   |true=>exact .inr (Ev.pos h8 (Ev.neg (by simp) (Ev.pos rfl (Ev.now _))))
   |false=>exact .inl ⟨0,by decide,by unfold numN; rw [show (0:Int).natAbs=0 from rfl,Z61]; rfl⟩
  ·have hw:IntKind.i64.wrap (((l.length:Nat):Int) - 1)=((l.length - 1:Nat):Int):=by rw [Zk1 _ (by omega) (by omega)]; omega
   by_cases c:dg l (l.length - 1)=0
   ·refine .inr (Ev.pos h8 (Ev.pos (by show ((l.length:Nat):Int) > 0; omega) ?_))
    show Ev (fun _=>(idx l (IntKind.i64.wrap (((l.length:Nat):Int) - 1))).bind fun x3=>if x3 ≠ 0 then some true else if ((l.length:Nat):Int)=0 then some (!s) else some false) _
    rw [hw]
    exact Ev.bindc (idx_dg (by omega)) (Ev.neg (by simpa using c) (Ev.neg (by omega) (Ev.now _)))
   ·have hn:norm l:=⟨hb,fun _=>c⟩
    have hv:=norm_pos hn (by intro e; rw [e] at h0; exact h0 rfl)
    have hlt:=(norm_len hn 8).1 (by omega)
    rw [TOP_eq] at hlt
    have hl:=Zil hn
    cases s with
    |true=>exact .inl ⟨-(val l),by omega,by
      unfold numN
      rw [show (-(val l)).natAbs=(val l).toNat by omega, ← hl,decide_eq_true (by omega)]⟩
    |false=>exact .inl ⟨val l,by omega,by
      unfold numN
      rw [show (val l).natAbs=(val l).toNat by omega, ← hl,decide_eq_false (by omega)]⟩
 ·exact .inr (Ev.neg h8 (Ev.now _))
theorem Of_ev (n:Int) (h0:-9223372036854775808≤n) (h1:n≤9223372036854775807):Ev (fun N=>num_Of N n) (numN n):=by
 have two:(4294967296:Int) * 4294967296 < TOP * 1:=by decide
 have wu:=Ze8 n
 by_cases h:n < 0
 ·refine Ev.pos h ?_
  have e:IntKind.u64.wrap (0 - IntKind.u64.wrap n)=-n:=by rw [Ze8,wu]; omega
  rw [decide_eq_true h,e,p32u,fdiv32,w32,w32]
  have hv:val [(-n) % 4294967296,(-n) / 4294967296 % 4294967296]=-n:=by simp only [val]; omega
  have hm:=made_ev true [(-n) % 4294967296,(-n) / 4294967296 % 4294967296] (Zea (by omega) (by omega) (Zea (by omega) (by omega) Zfq)) (by simp)
  rw [hv,madeV_num true (-n) (by omega) n (by simp) (by omega)] at hm
  exact Ev.bind hm (Ev.now _)
 ·refine Ev.neg h ?_
  have e:IntKind.u64.wrap n=n:=by rw [wu]; omega
  rw [decide_eq_false h,e,p32u,fdiv32,w32,w32]
  have hv:val [n % 4294967296,n / 4294967296 % 4294967296]=n:=by simp only [val]; omega
  have hm:=made_ev false [n % 4294967296,n / 4294967296 % 4294967296] (Zea (by omega) (by omega) (Zea (by omega) (by omega) Zfq)) (by simp)
  rw [hv,madeV_num false n (by omega) n (by simp) (by omega)] at hm
  exact Ev.bind hm (Ev.now _)
end Go.Proofs.Ytllcnlonkloabaa.Sh
