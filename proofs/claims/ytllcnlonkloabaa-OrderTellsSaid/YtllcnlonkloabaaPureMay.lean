import Derived.Test.YtllcnlonkloabaaPureReal
set_option linter.unusedVariables false
set_option linter.unusedSimpArgs false
namespace Go.Proofs.Ytllcnlonkloabaa.Sh
open Go Lift Go.Proofs
def mayN (n:Z08):Bool:=decide (n.fMag.length≤8) && (if n.fMag.length=0 then !n.fNeg else decide (n.fMag.getD (n.fMag.length - 1) 0 ≠ 0))
theorem idx_last {l:List Int} (h:l.length ≠ 0) (hm:l.length≤100):idx l (IntKind.i64.wrap (((l.length:Nat):Int) - 1))=some (l.getD (l.length - 1) 0):=by
 have hw:IntKind.i64.wrap (((l.length:Nat):Int) - 1)=((l.length - 1:Nat):Int):=by rw [Zk1 _ (by omega) (by omega)]; omega
 rw [hw,idx_eq (by omega),xe,yu (by omega)]
 rfl
theorem nmay_ev (n:Z08):Ev (fun N=>Zbr N n) (mayN n):=by
 obtain ⟨s,l⟩:=n
 unfold mayN
 by_cases h8:l.length≤8
 ·refine Ev.pos (by show ((l.length:Nat):Int)≤8; omega) ?_
  rw [decide_eq_true h8,vg]
  by_cases h0:l.length=0
  ·have hc:(⟨s,l⟩:Z08).fMag.length=0:=h0
   rw [if_pos hc]
   exact Ev.neg (by show ¬ ((l.length:Nat):Int) > 0; omega) (Ev.pos (by show ((l.length:Nat):Int)=0; omega) (Ev.now _))
  ·have hc:¬ (⟨s,l⟩:Z08).fMag.length=0:=h0
   rw [if_neg hc]
   refine Ev.pos (by show ((l.length:Nat):Int) > 0; omega) (Ev.bindc (idx_last (l:=l) h0 (by omega)) ?_)
   by_cases hz:l.getD (l.length - 1) 0=0
   ·have e:decide (l.getD (l.length - 1) 0 ≠ 0)=false:=decide_eq_false (by simpa using hz)
    show Ev _ (decide (l.getD (l.length - 1) 0 ≠ 0))
    rw [e]
    exact Ev.neg (by simpa using hz) (Ev.neg (by omega) (Ev.now _))
   ·have e:decide (l.getD (l.length - 1) 0 ≠ 0)=true:=decide_eq_true hz
    show Ev _ (decide (l.getD (l.length - 1) 0 ≠ 0))
    rw [e]
    exact Ev.pos hz (Ev.now _)
 ·rw [decide_eq_false h8,qm]
  exact Ev.neg (by show ¬ ((l.length:Nat):Int)≤8; omega) (Ev.now _)
theorem rnmay_ev (n:Z08):Ev (fun N=>Z38 N n) (mayN n):=by
 obtain ⟨s,l⟩:=n
 unfold mayN
 by_cases h8:l.length≤8
 ·refine Ev.pos (by show ((l.length:Nat):Int)≤8; omega) ?_
  rw [decide_eq_true h8,vg]
  by_cases h0:l.length=0
  ·have hc:(⟨s,l⟩:Z08).fMag.length=0:=h0
   rw [if_pos hc]
   refine Ev.pos (by show ((l.length:Nat):Int)=0; omega) ?_
   cases s with
   |true=>exact Ev.neg (by simp) (Ev.neg (by show ¬ ((l.length:Nat):Int) > 0; omega) (Ev.now _))
   |false=>exact Ev.pos (by simp) (Ev.now _)
  ·have hc:¬ (⟨s,l⟩:Z08).fMag.length=0:=h0
   rw [if_neg hc]
   refine Ev.neg (by show ¬ ((l.length:Nat):Int)=0; omega) (Ev.pos (by show ((l.length:Nat):Int) > 0; omega) (Ev.bindc (idx_last (l:=l) h0 (by omega)) ?_))
   have e:(l.getD (l.length - 1) 0 != 0)=decide (l.getD (l.length - 1) 0 ≠ 0):=by rw [uh]; simp
   rw [e]
   exact Ev.now _
 ·rw [decide_eq_false h8,qm]
  exact Ev.neg (by show ¬ ((l.length:Nat):Int)≤8; omega) (Ev.now _)
def lim32 (l:List Int):Prop:=∀ x ∈ l,0≤x∧x < 4294967296
theorem lim32_of {l:List Int} (h:ListR (InR .u32) l):lim32 l:=fun x hx=>by
 have:(Lit.int .u32 x).wf=true:=h.all x hx
 simp [Lit.wf,IntKind.min,IntKind.max,IntKind.bits,IntKind.signed] at this
 omega
def val2:List Int→Int
 |[]=>0
 |[a]=>a
 |a::b::_=>a+b * 4294967296
theorem bor_two (a b:Int) (ha0:0≤a) (ha1:a < 4294967296) (hb0:0≤b) (hb1:b < 4294967296):bor .u64 a (b * 4294967296)=a+b * 4294967296∧bor .u64 (b * 4294967296) a=a+b * 4294967296:=by
 obtain ⟨m,rfl⟩:=ul ha0
 obtain ⟨n,rfl⟩:=ul hb0
 have hm:m < 4294967296:=by omega
 have hn:n < 4294967296:=by omega
 have key:m ||| n * 4294967296=m+n * 4294967296:=by
  have:=Nat.shiftLeft_add_eq_or_of_lt (show m < 2 ^ 32 by omega) n
  rw [jk,show 2 ^ 32=4294967296 from rfl] at this
  rw [Nat.or_comm, ← this]
  omega
 have e1:(BitVec.ofInt (IntKind.bits .u64) (m:Int)).toNat=m:=by
  rw [wo]
  show ((m:Int) % ((2 ^ 64:Nat):Int)).toNat=m
  omega
 have e2:(BitVec.ofInt (IntKind.bits .u64) ((n:Int) * 4294967296)).toNat=n * 4294967296:=by
  rw [wo]
  show (((n:Int) * 4294967296) % ((2 ^ 64:Nat):Int)).toNat=n * 4294967296
  omega
 unfold bor
 rw [BitVec.toNat_or,BitVec.toNat_or,e1,e2,Nat.or_comm (n * 4294967296) m,key,wrapU _ (by omega) (by omega)]
 omega
theorem bor_zero (b:Int) (hb0:0≤b) (hb1:b < 4294967296):bor .u64 0 b=b:=by
 obtain ⟨n,rfl⟩:=ul hb0
 unfold bor
 have e1:(BitVec.ofInt (IntKind.bits .u64) (0:Int)).toNat=0:=by decide
 have e2:(BitVec.ofInt (IntKind.bits .u64) (n:Int)).toNat=n:=by
  rw [wo]
  show ((n:Int) % ((2 ^ 64:Nat):Int)).toNat=n
  omega
 rw [BitVec.toNat_or,e1,e2,Nat.zero_or,wrapU _ (by omega) (by omega)]
theorem shl_0 (b:Int) (hb0:0≤b) (hb1:b < 4294967296):shl .u64 (IntKind.u64.wrap b) (IntKind.i64.wrap ((32:Int) * 0))=some b:=by
 rw [show IntKind.i64.wrap ((32:Int) * 0)=0 from by decide,wrapU b hb0 (by omega)]
 unfold shl
 rw [if_neg (by decide),show (2:Int) ^ (min (Int.toNat 0) (IntKind.bits .u64))=1 from by decide,Int.mul_one,wrapU b hb0 (by omega)]
theorem shl_1 (b:Int) (hb0:0≤b) (hb1:b < 4294967296):shl .u64 (IntKind.u64.wrap b) (IntKind.i64.wrap ((32:Int) * 1))=some (b * 4294967296):=by
 rw [show IntKind.i64.wrap ((32:Int) * 1)=32 from by decide,wrapU b hb0 (by omega)]
 unfold shl
 rw [if_neg (by decide),show (2:Int) ^ (min (Int.toNat 32) (IntKind.bits .u64))=4294967296 from by decide,wrapU _ (by omega) (by omega)]
theorem Zg9 (n:Z08) (h:n.fMag.length≤2) (hb:lim32 n.fMag):Ev (fun N=>Z4a N n 0 0) (val2 n.fMag):=by
 obtain ⟨s,l⟩:=n
 have i1:IntKind.i64.wrap ((0:Int)+1)=1:=by decide
 have i2:IntKind.i64.wrap ((1:Int)+1)=2:=by decide
 match l,h,hb with
 |[],_,_ =>
  refine Ev.step ?_ (fun N=>by rw [Z4a])
  exact Ev.neg (by simp) (Ev.now _)
 |[a],_,hb =>
  have ra:=hb a (by simp)
  refine Ev.step ?_ (fun N=>by rw [Z4a,i1])
  refine Ev.pos (by simp) (Ev.bindc (a:=a) rfl (Ev.bindc (shl_0 a ra.1 ra.2) ?_))
  rw [bor_zero a ra.1 ra.2]
  refine Ev.step ?_ (fun N=>by rw [Z4a])
  exact Ev.neg (by simp) (Ev.now _)
 |[a,b],_,hb =>
  have ra:=hb a (by simp)
  have rb:=hb b (by simp)
  refine Ev.step ?_ (fun N=>by rw [Z4a,i1])
  refine Ev.pos (by simp) (Ev.bindc (a:=a) rfl (Ev.bindc (shl_0 a ra.1 ra.2) ?_))
  rw [bor_zero a ra.1 ra.2]
  refine Ev.step ?_ (fun N=>by rw [Z4a,i2])
  refine Ev.pos (by simp) (Ev.bindc (a:=b) rfl (Ev.bindc (shl_1 b rb.1 rb.2) ?_))
  rw [(bor_two a b ra.1 ra.2 rb.1 rb.2).1]
  refine Ev.step ?_ (fun N=>by rw [Z4a])
  exact Ev.neg (by simp) (Ev.now _)
theorem Zdq (n:Z08) (h:n.fMag.length≤2) (hb:lim32 n.fMag):Ev (fun N=>Z12 N n 0 (IntKind.i64.wrap (((n.fMag.length:Nat):Int) - 1))) (val2 n.fMag):=by
 obtain ⟨s,l⟩:=n
 have p32u:yh 32=4294967296:=by decide
 match l,h,hb with
 |[],_,_ =>
  show Ev (fun N=>Z12 N _ 0 (IntKind.i64.wrap ((0:Int) - 1))) _
  rw [show IntKind.i64.wrap ((0:Int) - 1)=-1 from by decide]
  refine Ev.step ?_ (fun N=>by rw [Z12])
  exact Ev.neg (by simp) (Ev.now _)
 |[a],_,hb =>
  have ra:=hb a (by simp)
  show Ev (fun N=>Z12 N _ 0 (IntKind.i64.wrap ((1:Int) - 1))) _
  rw [show IntKind.i64.wrap ((1:Int) - 1)=0 from by decide]
  refine Ev.step ?_ (fun N=>by rw [Z12,p32u])
  refine Ev.pos (by simp) (Ev.bindc (a:=a) rfl ?_)
  rw [show IntKind.u64.wrap ((0:Int) * 4294967296)=0 from by decide,wrapU a ra.1 (by omega),bor_zero a ra.1 ra.2,show IntKind.i64.wrap ((0:Int) - 1)=-1 from by decide]
  refine Ev.step ?_ (fun N=>by rw [Z12])
  exact Ev.neg (by simp) (Ev.now _)
 |[a,b],_,hb =>
  have ra:=hb a (by simp)
  have rb:=hb b (by simp)
  show Ev (fun N=>Z12 N _ 0 (IntKind.i64.wrap ((2:Int) - 1))) _
  rw [show IntKind.i64.wrap ((2:Int) - 1)=1 from by decide]
  refine Ev.step ?_ (fun N=>by rw [Z12,p32u])
  refine Ev.pos (by simp) (Ev.bindc (a:=b) rfl ?_)
  rw [show IntKind.u64.wrap ((0:Int) * 4294967296)=0 from by decide,wrapU b rb.1 (by omega),bor_zero b rb.1 rb.2,show IntKind.i64.wrap ((1:Int) - 1)=0 from by decide]
  refine Ev.step ?_ (fun N=>by rw [Z12,p32u])
  refine Ev.pos (by simp) (Ev.bindc (a:=a) rfl ?_)
  rw [wrapU (b * 4294967296) (by omega) (by omega),wrapU a ra.1 (by omega),(bor_two a b ra.1 ra.2 rb.1 rb.2).2,show IntKind.i64.wrap ((0:Int) - 1)=-1 from by decide]
  refine Ev.step ?_ (fun N=>by rw [Z12])
  exact Ev.neg (by simp) (Ev.now _)
theorem val2_range {l:List Int} (h:lim32 l):0≤val2 l∧val2 l < 18446744073709551616:=by
 match l,h with
 |[],_=>simp [val2]
 |[a],h=>have:=h a (by simp); simp only [val2]; omega
 |a::b::r,h=>have:=h a (by simp); have:=h b (by simp); simp only [val2]; omega
def smallN (n:Z08):Int × Bool:=if mayN n=true∧n.fMag.length≤2 then (if n.fNeg=true then (if val2 n.fMag≤1152921504606846976 then (-(val2 n.fMag),true) else (0,false)) else (if val2 n.fMag≤1152921504606846975 then (val2 n.fMag,true) else (0,false))) else (0,false)
theorem small_ev (n:Z08) (hb:lim32 n.fMag):Ev (fun N=>Zey N n) (smallN n):=by
 by_cases hc:mayN n=true∧n.fMag.length≤2
 ·have hm:=nmay_ev n
  rw [hc.1] at hm
  have hl:=hc.2
  have hr:=val2_range hb
  have b0:Ev (fun N=>Z98 N n) (.inl ()):=by
   refine Ev.step ?_ (fun N=>by rw [Z98])
   exact Ev.bind hm (Ev.neg (by simp) (Ev.neg (by omega) (Ev.now _)))
  cases hs:n.fNeg with
  |true =>
   have b2:Ev (fun N=>Z7c N n (val2 n.fMag)) false:=by
    refine Ev.step ?_ (fun N=>by rw [Z7c])
    exact Ev.neg (by simp [hs]) (Ev.now _)
   by_cases hv:val2 n.fMag≤1152921504606846976
   ·have e:smallN n=(-(val2 n.fMag),true):=by simp [smallN,hc.1,hl,hs,hv]
    rw [e]
    refine Ev.bind b0 (Ev.bind (Zg9 n hl hb) (Ev.bind b2 (Ev.neg (by simp) (Ev.pos hs (Ev.pos hv ?_)))))
    rw [Zk1 (val2 n.fMag) (by omega) (by omega),Zk1 _ (by omega) (by omega),Int.zero_sub]
    exact Ev.now _
   ·have e:smallN n=(0,false):=by simp [smallN,hc.1,hl,hs,hv]
    rw [e]
    exact Ev.bind b0 (Ev.bind (Zg9 n hl hb) (Ev.bind b2 (Ev.neg (by simp) (Ev.pos hs (Ev.neg hv (Ev.now _))))))
  |false =>
   have b2:Ev (fun N=>Z7c N n (val2 n.fMag)) (decide (val2 n.fMag≤1152921504606846975)):=by
    refine Ev.step ?_ (fun N=>by rw [Z7c])
    exact Ev.pos (by simp [hs]) (Ev.now _)
   by_cases hv:val2 n.fMag≤1152921504606846975
   ·have e:smallN n=(val2 n.fMag,true):=by simp [smallN,hc.1,hl,hs,hv]
    rw [e]
    rw [decide_eq_true hv] at b2
    refine Ev.bind b0 (Ev.bind (Zg9 n hl hb) (Ev.bind b2 (Ev.pos rfl ?_)))
    rw [Zk1 (val2 n.fMag) (by omega) (by omega)]
    exact Ev.now _
   ·have e:smallN n=(0,false):=by simp [smallN,hc.1,hl,hs,hv]
    rw [e]
    rw [decide_eq_false hv] at b2
    exact Ev.bind b0 (Ev.bind (Zg9 n hl hb) (Ev.bind b2 (Ev.neg (by simp) (Ev.neg (by simp [hs]) (Ev.now _)))))
 ·have e:smallN n=(0,false):=by unfold smallN; rw [if_neg hc]
  rw [e]
  refine Ev.bind (a:=.inr ()) ?_ ?_
  ·refine Ev.step ?_ (fun N=>by rw [Z98])
   cases hm:mayN n with
   |false =>
    have h:=nmay_ev n
    rw [hm] at h
    exact Ev.bind h (Ev.pos (by simp) (Ev.now _))
   |true =>
    have h:=nmay_ev n
    rw [hm] at h
    have:¬ n.fMag.length≤2:=fun h=>hc ⟨hm,h⟩
    exact Ev.bind h (Ev.neg (by simp) (Ev.pos (by omega) (Ev.now _)))
  ·exact Ev.now _
theorem rsmall_ev (n:Z08) (hb:lim32 n.fMag):Ev (fun N=>Z7z N n) (smallN n):=by
 by_cases hc:mayN n=true∧n.fMag.length≤2
 ·have hm:=rnmay_ev n
  rw [hc.1] at hm
  have hl:=hc.2
  have hr:=val2_range hb
  have b0:Ev (fun N=>Z3m N n) (.inl ()):=by
   refine Ev.step ?_ (fun N=>by rw [Z3m])
   exact Ev.bind hm (Ev.neg (by simp) (Ev.neg (by omega) (Ev.now _)))
  cases hs:n.fNeg with
  |true =>
   by_cases hv:val2 n.fMag≤1152921504606846976
   ·have e:smallN n=(-(val2 n.fMag),true):=by simp [smallN,hc.1,hl,hs,hv]
    rw [e]
    refine Ev.bind b0 (Ev.bind (Zdq n hl hb) (Ev.pos hs (Ev.pos hv ?_)))
    rw [Zk1 (val2 n.fMag) (by omega) (by omega),Zk1 _ (by omega) (by omega),Int.zero_sub]
    exact Ev.now _
   ·have e:smallN n=(0,false):=by simp [smallN,hc.1,hl,hs,hv]
    rw [e]
    exact Ev.bind b0 (Ev.bind (Zdq n hl hb) (Ev.pos hs (Ev.neg hv (Ev.now _))))
  |false =>
   by_cases hv:val2 n.fMag≤1152921504606846975
   ·have e:smallN n=(val2 n.fMag,true):=by simp [smallN,hc.1,hl,hs,hv]
    rw [e]
    refine Ev.bind b0 (Ev.bind (Zdq n hl hb) (Ev.neg (by simp [hs]) (Ev.pos (by omega) ?_)))
    rw [Zk1 (val2 n.fMag) (by omega) (by omega)]
    exact Ev.now _
   ·have e:smallN n=(0,false):=by simp [smallN,hc.1,hl,hs,hv]
    rw [e]
    exact Ev.bind b0 (Ev.bind (Zdq n hl hb) (Ev.neg (by simp [hs]) (Ev.neg (by omega) (Ev.now _))))
 ·have e:smallN n=(0,false):=by unfold smallN; rw [if_neg hc]
  rw [e]
  refine Ev.bind (a:=.inr ()) ?_ ?_
  ·refine Ev.step ?_ (fun N=>by rw [Z3m])
   cases hm:mayN n with
   |false =>
    have h:=rnmay_ev n
    rw [hm] at h
    exact Ev.bind h (Ev.pos (by simp) (Ev.now _))
   |true =>
    have h:=rnmay_ev n
    rw [hm] at h
    have:¬ n.fMag.length≤2:=fun h=>hc ⟨hm,h⟩
    exact Ev.bind h (Ev.neg (by simp) (Ev.pos (by omega) (Ev.now _)))
  ·exact Ev.now _
end Go.Proofs.Ytllcnlonkloabaa.Sh
