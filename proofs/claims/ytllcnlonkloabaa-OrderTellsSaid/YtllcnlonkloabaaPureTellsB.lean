import Derived.Test.YtllcnlonkloabaaPureCmp
import Derived.Test.YtllcnlonkloabaaPureNumTerm
import Derived.Test.YtllcnlonkloabaaPureRealA
set_option linter.unusedVariables false
set_option linter.unusedSimpArgs false
namespace Go.Proofs.Ytllcnlonkloabaa.Sh
open Go Lift Go.Proofs
open Go.IntKind (wrap)
theorem num_zero:numN 0=⟨false,[]⟩:=by unfold numN; rw [show (0:Int).natAbs=0 from rfl,Z61]; rfl
theorem num_pos (x:Int):0 < (numN x).fMag.length ↔ x ≠ 0:=by
 have b:=Zii (x.natAbs:Int) (by omega)
 rw [xn] at b
 show 0 < (toL x.natAbs).length ↔ _
 rw [b]; omega
theorem nsize_loop (a b:List Int) (ha:limbs a) (hb:limbs b) (hab:a.length=b.length) (hN:a.length < 1000000):∀ (d:Nat) (i:Int),i+1=(d:Int)→i < a.length →
  ∃ r,Ev (fun N=>Z2h N a b i) r∧(match r with | .inl _=>(0:Int) | .inr x=>x)=sgn (val (a.take d) - val (b.take d)):=by
 intro d
 induction d with
 |zero =>
  intro i hi hl
  refine ⟨.inl (), ?_,by simp [val,sgn]⟩
  refine Ev.step ?_ (fun N=>by rw [Z2h])
  exact Ev.neg (by omega) (Ev.now _)
 |succ d ih =>
  intro i hi hl
  obtain rfl:i=(d:Int):=by omega
  have ra:=Zg4 ha d
  have rb:=Zg4 hb d
  have hw:IntKind.i64.wrap ((d:Int) - 1)=(d:Int) - 1:=Zk1 _ (by omega) (by omega)
  have la:=val_lt (Z4v ha d)
  have lb:=val_lt (Z4v hb d)
  have na:=Z4b (Z4v ha d)
  have nb:=Z4b (Z4v hb d)
  rw [qy,jd (by omega)] at la lb
  rw [Zdj a d (by omega),Zdj b d (by omega)]
  by_cases h:dg a d=dg b d
  ·obtain ⟨r,e,hr⟩:=ih ((d:Int) - 1) (by omega) (by omega)
   refine ⟨r, ?_, ?_⟩
   ·refine Ev.step ?_ (fun N=>by rw [Z2h,hw])
    exact Ev.pos (by omega) (Ev.bindc (idx_dg (by omega)) (Ev.bindc (idx_dg (by omega)) (Ev.neg (by omega) (Ev.neg (by omega) e))))
   ·rw [hr,h]
    congr 1
    omega
  ·by_cases hlt:dg a d < dg b d
   ·refine ⟨.inr (-1), ?_, ?_⟩
    ·refine Ev.step ?_ (fun N=>by rw [Z2h])
     exact Ev.pos (by omega) (Ev.bindc (idx_dg (by omega)) (Ev.bindc (idx_dg (by omega)) (Ev.pos hlt (Ev.now _))))
    ·show (-1:Int)=_
     generalize (4294967296:Int) ^ d=P at *
     have:P * (dg a d+1)≤P * dg b d:=j6 (by omega) (by omega)
     rw [Z9v (by grind)]
   ·refine ⟨.inr 1, ?_, ?_⟩
    ·refine Ev.step ?_ (fun N=>by rw [Z2h])
     exact Ev.pos (by omega) (Ev.bindc (idx_dg (by omega)) (Ev.bindc (idx_dg (by omega)) (Ev.neg hlt (Ev.pos (by omega) (Ev.now _)))))
    ·show (1:Int)=_
     generalize (4294967296:Int) ^ d=P at *
     have:P * (dg b d+1)≤P * dg a d:=j6 (by omega) (by omega)
     rw [Zal (by grind)]
theorem nsize_ev (a b:List Int) (ha:norm a) (hb:norm b) (h1:a.length < 100000) (h2:b.length < 100000):Ev (fun N=>Z5d N a b) (sgn (val a - val b)):=by
 by_cases h:a.length=b.length
 ·have hw:IntKind.i64.wrap (((a.length:Nat):Int) - 1)=(a.length:Int) - 1:=Zk1 _ (by omega) (by omega)
  obtain ⟨r,e,hr⟩:=nsize_loop a b ha.1 hb.1 h (by omega) a.length ((a.length:Int) - 1) (by omega) (by omega)
  rw [uy (by omega),uy (by omega)] at hr
  refine Ev.neg (by omega) ?_
  rw [hw]
  refine Ev.bind e ?_
  rw [← hr]
  cases r <;> exact Ev.now _
 ·refine Ev.pos (by omega) ?_
  have na:=Z4b ha.1
  have nb:=Z4b hb.1
  by_cases hlt:a.length < b.length
  ·have x:=Zg6 hb (by intro e; rw [e] at hlt; simp at hlt)
   have y:=val_lt ha.1
   have z:(4294967296:Int) ^ a.length≤4294967296 ^ (b.length - 1):=pow_le' (by omega)
   have q:=wm y (Int.le_trans z x)
   rw [Z9v (by omega)]
   exact Ev.pos (by omega) (Ev.now _)
  ·have x:=Zg6 ha (fun e=>by have:=congrArg List.length e; rw [xx] at this; omega)
   have y:=val_lt hb.1
   have z:(4294967296:Int) ^ b.length≤4294967296 ^ (a.length - 1):=pow_le' (by omega)
   have q:=wm y (Int.le_trans z x)
   rw [Zal (by omega)]
   exact Ev.neg (by omega) (Ev.now _)
theorem numMay_ev (x:Int) (h:(x.natAbs:Int) < TOP):Ev (fun N=>Z38 N (numN x)) true:=by
 have a:=Zhm x h
 have b:=num_pos x
 have n:=Zas x
 refine Ev.pos (by omega) ?_
 by_cases hx:x=0
 ·subst hx
  rw [num_zero]
  exact Ev.pos rfl (Ev.pos vv (Ev.now _))
 ·have hl:0 < (numN x).fMag.length:=b.2 hx
  have hw:IntKind.i64.wrap ((((numN x).fMag.length:Nat):Int) - 1)=(((numN x).fMag.length - 1:Nat):Int):=by rw [Zk1 _ (by omega) (by omega)]; omega
  refine Ev.neg (by omega) (Ev.pos (by omega) ?_)
  rw [hw]
  refine Ev.bindc (idx_dg (by omega)) ?_
  have:=n.2 (by intro e2; rw [e2] at hl; simp at hl)
  rw [show (dg (numN x).fMag ((numN x).fMag.length - 1) != 0)=true by simpa using this]
  exact Ev.now _
theorem ncmp_ev (x y:Int) (hx:(x.natAbs:Int) < TOP) (hy:(y.natAbs:Int) < TOP):Ev (fun N=>Z7i N (numN x) (numN y)) (sgn (x - y)):=by
 have lx:=Zhm x hx
 have ly:=Zhm y hy
 have hB1:Ev (fun N=>Z5s N (numN x) (numN y)) false:=by
  refine Ev.step ?_ (fun N=>by rw [Z5s])
  exact Ev.bind (numMay_ev x hx) (Ev.neg (by simp) (Ev.bind (numMay_ev y hy) (Ev.now _)))
 have s1:(numN x).fNeg=decide (x < 0):=rfl
 have s2:(numN y).fNeg=decide (y < 0):=rfl
 have c1:=nsize_ev _ _ (Zas x) (Zas y) (by omega) (by omega)
 have c2:=nsize_ev _ _ (Zas y) (Zas x) (by omega) (by omega)
 rw [num_val,num_val] at c1 c2
 have hB2:Ev (fun N=>Z5k N (numN x) (numN y)) (decide (x < 0) && !decide (y < 0)):=by
  refine Ev.step ?_ (fun N=>by rw [Z5k])
  by_cases sx:x < 0
  ·rw [decide_eq_true sx,vg]
   exact Ev.pos (by rw [s1]; exact decide_eq_true sx) (Ev.now _)
  ·rw [decide_eq_false sx,qm]
   exact Ev.neg (by rw [s1,decide_eq_false sx]; exact vv) (Ev.now _)
 by_cases sx:x < 0
 ·by_cases sy:y < 0
  ·rw [decide_eq_true sx,decide_eq_true sy] at hB2
   have hB0:Ev (fun N=>Z1w N (numN x) (numN y)) (.inr (sgn (x - y))):=by
    refine Ev.step ?_ (fun N=>by rw [Z1w])
    rw [show ((y.natAbs:Int) - (x.natAbs:Int))=x - y by omega] at c2
    exact Ev.bind hB1 (Ev.neg vv (Ev.bind hB2 (Ev.neg vv (Ev.neg (by rw [s1]; simp [sx]) (Ev.pos (by rw [s1]; exact decide_eq_true sx) (Ev.bind c2 (Ev.now _)))))))
   exact Ev.bind hB0 (Ev.now _)
  ·rw [decide_eq_true sx,decide_eq_false sy] at hB2
   have hB0:Ev (fun N=>Z1w N (numN x) (numN y)) (.inr (-1)):=by
    refine Ev.step ?_ (fun N=>by rw [Z1w])
    exact Ev.bind hB1 (Ev.neg vv (Ev.bind hB2 (Ev.pos rfl (Ev.now _))))
   rw [Z9v (by omega)]
   exact Ev.bind hB0 (Ev.now _)
 ·rw [decide_eq_false sx,qm] at hB2
  by_cases sy:y < 0
  ·have hB0:Ev (fun N=>Z1w N (numN x) (numN y)) (.inr 1):=by
    refine Ev.step ?_ (fun N=>by rw [Z1w])
    exact Ev.bind hB1 (Ev.neg vv (Ev.bind hB2 (Ev.neg vv (Ev.pos (by rw [s1]; simp [sx]) (Ev.pos (by rw [s2]; exact decide_eq_true sy) (Ev.now _))))))
   rw [Zal (by omega)]
   exact Ev.bind hB0 (Ev.now _)
  ·have hB0:Ev (fun N=>Z1w N (numN x) (numN y)) (.inl ()):=by
    refine Ev.step ?_ (fun N=>by rw [Z1w])
    exact Ev.bind hB1 (Ev.neg vv (Ev.bind hB2 (Ev.neg vv (Ev.pos (by rw [s1]; simp [sx]) (Ev.neg (by rw [s2]; simp [sy]) (Ev.neg (by rw [s1]; simp [sx]) (Ev.now _)))))))
   rw [show ((x.natAbs:Int) - (y.natAbs:Int))=x - y by omega] at c1
   exact Ev.bind hB0 (Ev.bind c1 (Ev.now _))
theorem wdown_loop (b:Int):∀ (d m:Nat) (q:Bool),m < 18446744073709551616→d≤2000→∃ e',Ev (fun N=>Z1n N b (-(d:Int)) (m:Int) q) (e',((m / 2 ^ d:Nat):Int),q || decide (m % 2 ^ d ≠ 0))∧e'≤0
 |0,m,q,hm,hd=>by
  refine ⟨0,Ev.step ?_ (fun N=>by rw [Z1n]),by omega⟩
  refine Ev.neg (by omega) ?_
  have e:(q || decide (m % 2 ^ 0 ≠ 0))=q:=by rw [zy,Nat.mod_one]; simp
  rw [e,zy,Nat.div_one]
  exact Ev.now _
 |d+1,m,q,hm,hd=>by
  by_cases h0:m=0
  ·subst h0
   refine ⟨-((d+1:Nat):Int),Ev.step ?_ (fun N=>by rw [Z1n]),by omega⟩
   refine Ev.pos (by omega) (Ev.neg (by omega) ?_)
   rw [Nat.zero_div,Nat.zero_mod]
   simp only [ne_eq,not_true_eq_false,decide_false,Bool.or_false]
   exact Ev.now _
  ·have hw:wrap .i64 (-((d+1:Nat):Int)+(1:Int))=-(d:Int):=by rw [Zk1 _ (by omega) (by omega)]; omega
   have hf:Int.fdiv (m:Int) (yh 1)=((m / 2:Nat):Int):=by
    rw [show yh 1=2 by decide,um _ (by decide)]; omega
   have hb:(band .u64 (m:Int) (1:Int) == (1:Int))=decide (m % 2=1):=by
    rw [band_one hm,uh,beq_iff_eq,decide_eq_true_eq]; omega
   obtain ⟨e',h1,h2⟩:=wdown_loop b d (m / 2) (q || decide (m % 2=1)) (by omega) (by omega)
   have ediv:m / 2 / 2 ^ d=m / 2 ^ (d+1):=by rw [Nat.div_div_eq_div_mul,Nat.pow_succ,z8]
   have emod:(m % 2 ^ (d+1) ≠ 0) ↔ (m % 2=1∨m / 2 % 2 ^ d ≠ 0):=by
    have:=Nat.mod_mul (a:=2) (b:=2 ^ d) (x:=m)
    rw [show 2 * 2 ^ d=2 ^ (d+1) by rw [Nat.pow_succ,z8]] at this
    rw [this]; omega
   rw [ediv] at h1
   have eq:(q || decide (m % 2=1) || decide (m / 2 % 2 ^ d ≠ 0))=(q || decide (m % 2 ^ (d+1) ≠ 0)):=by
    rw [Bool.or_assoc]
    congr 1
    rw [uh,zx,decide_eq_true_eq,decide_eq_true_eq,decide_eq_true_eq]
    exact emod.symm
   rw [eq] at h1
   refine ⟨e',Ev.step ?_ (fun N=>by rw [Z1n,hw,hf,hb]),h2⟩
   refine Ev.pos (by omega) (Ev.pos (by omega) ?_)
   cases q with
   |true=>exact Ev.pos rfl (by simpa using h1)
   |false=>exact Ev.neg (by simp) (by simpa using h1)
theorem bor_low {x s c:Nat} (hx:x < 4294967296) (hs:s < 32) (hc:c < 2 ^ s):bor .u64 ((x * 2 ^ s:Nat):Int) (c:Int)=((x * 2 ^ s+c:Nat):Int):=by
 have hp:2 ^ s≤2 ^ 31:=ve (by decide) (by omega)
 have h31:(2:Nat) ^ 31=2147483648:=by decide
 have hm:x * 2 ^ s≤4294967295 * 2147483648:=Nat.mul_le_mul (by omega) (by omega)
 rw [bor_u64 (by omega) (by omega)]
 have:=Nat.shiftLeft_add_eq_or_of_lt hc x
 rw [jk] at this
 rw [this]
theorem wshift_loop (b:Int) (r6:Int × Int × Bool) (s:Nat) (hs:s < 32) (hE:Int.tmod (if (0:Int) > r6.1 then (0:Int) else r6.1) (32:Int)=(s:Int)):∀ (R A:List Int) (c:Nat),limbs R→c < 2 ^ s→A.length+R.length≤1000 →
  ∃ R' c',Ev (fun N=>Z2l N b r6 (A++R) (c:Int) (A.length:Int)) (A++R',((c':Nat):Int))∧R'.length=R.length∧limbs R'∧c' < 2 ^ s∧val R'+4294967296 ^ R.length * (c':Int)=val R * ((2 ^ s:Nat):Int)+(c:Int)
 |[],A,c,hb,hc,hl=>by
  refine ⟨[],c,Ev.step ?_ (fun N=>by rw [Z2l]),rfl,Zfq,hc,by simp [val]⟩
  exact Ev.neg (by simp) (Ev.now _)
 |x::R,A,c,hb,hc,hl=>by
  obtain ⟨⟨x0,x1⟩,hR⟩:=Zbn hb
  obtain ⟨n,rfl⟩:=ul x0
  have hn:n < 4294967296:=by omega
  simp only [xu] at hl
  have hp:2 ^ s≤2 ^ 31:=ve (by decide) (by omega)
  have h31:(2:Nat) ^ 31=2147483648:=by decide
  have hm:n * 2 ^ s≤4294967295 * 2 ^ s:=ql _ (by omega)
  have hy:n * 2 ^ s+c < 4294967296 * 2 ^ s:=by omega
  have ix:idx (A++(n:Int)::R) (A.length:Int)=some (n:Int):=by
   rw [idx_eq (by simp)]; simp
  have hshl:shl .u64 (wrap .u64 (n:Int)) (s:Int)=some ((n * 2 ^ s:Nat):Int):=by
   unfold shl
   rw [if_neg (by omega),Ze8,xn,show min s (IntKind.bits .u64)=s by show min s 64=s; omega,Ze8]
   have e:(n:Int) % 18446744073709551616=(n:Int):=by omega
   have e2:((n:Int) * 2 ^ s)=((n * 2 ^ s:Nat):Int):=by push_cast; rfl
   rw [e,e2]
   congr 1
   omega
  have hbor:=bor_low hn hs hc
  have hfd:Int.fdiv ((n * 2 ^ s+c:Nat):Int) (yh 32)=(((n * 2 ^ s+c) / 4294967296:Nat):Int):=by
   rw [p32u,fdiv32]; omega
  have hw:wrap .i64 ((A.length:Int)+(1:Int))=((A.length+1:Nat):Int):=Z3a (by omega)
  have hset:(A++(n:Int)::R).set ((A.length:Int)).toNat (wrap .u32 ((n * 2 ^ s+c:Nat):Int))=(A++[(((n * 2 ^ s+c) % 4294967296:Nat):Int)])++R:=by
   rw [w32,xn,List.set_append]
   simp
  have hc':(n * 2 ^ s+c) / 4294967296 < 2 ^ s:=Nat.div_lt_of_lt_mul hy
  obtain ⟨R',c',h1,h2,h3,h4,h5⟩:=wshift_loop b r6 s hs hE R (A++[(((n * 2 ^ s+c) % 4294967296:Nat):Int)]) ((n * 2 ^ s+c) / 4294967296) hR hc' (by simp; omega)
  rw [show (A++[(((n * 2 ^ s+c) % 4294967296:Nat):Int)]).length=A.length+1 by simp] at h1
  refine ⟨(((n * 2 ^ s+c) % 4294967296:Nat):Int)::R',c', ?_,by simp [h2],Zea (by omega) (by omega) h3,h4, ?_⟩
  ·refine Ev.step ?_ (fun N=>by rw [Z2l,hE])
   refine Ev.pos (by simp; omega) (Ev.bindc ix (Ev.bindc hshl ?_))
   rw [hbor,hfd,hw]
   refine Ev.bindc ix ?_
   rw [hset,show A++(((n * 2 ^ s+c) % 4294967296:Nat):Int)::R'=(A++[(((n * 2 ^ s+c) % 4294967296:Nat):Int)])++R' by simp]
   exact h1
  ·have e1:(((n * 2 ^ s+c) % 4294967296:Nat):Int)+4294967296 * (((n * 2 ^ s+c) / 4294967296:Nat):Int)=(n:Int) * ((2 ^ s:Nat):Int)+(c:Int):=by
    have:=Nat.mod_add_div (n * 2 ^ s+c) 4294967296
    have h:(((n * 2 ^ s+c) % 4294967296+4294967296 * ((n * 2 ^ s+c) / 4294967296):Nat):Int)=((n * 2 ^ s+c:Nat):Int):=by rw [this]
    rw [Int.natCast_add,kv] at h
    rw [show (4294967296:Int)=((4294967296:Nat):Int) from rfl,h,Int.natCast_add,kv]
   simp only [val,xu]
   generalize ((2 ^ s:Nat):Int)=P at *
   generalize val R'=v' at *
   generalize val R=v at *
   generalize (((n * 2 ^ s+c) % 4294967296:Nat):Int)=lo at *
   generalize (((n * 2 ^ s+c) / 4294967296:Nat):Int)=hi at *
   rw [show (4294967296:Int) ^ (R.length+1) * (c':Int)=4294967296 * ((4294967296:Int) ^ R.length * (c':Int)) by rw [Int.pow_succ,Int.mul_comm ((4294967296:Int) ^ R.length) 4294967296,Int.mul_assoc]]
   generalize (4294967296:Int) ^ R.length * (c':Int)=z at *
   rw [Int.add_mul,Int.mul_assoc]
   generalize v * P=vp at *
   generalize (n:Int) * P=np at *
   omega
theorem shifted (s k m T:Nat) (hs:s=k % 32) (hm:m ≠ 0) (hT:T=m * 2 ^ k) {R':List Int} {c':Nat} (hl:R'.length=(List.replicate (k / 32) (0:Int)++toL m).length) (hb:limbs R') (hc:c' < 2 ^ s) (hv:val R'+4294967296 ^ (List.replicate (k / 32) (0:Int)++toL m).length * (c':Int)=val (List.replicate (k / 32) (0:Int)++toL m) * ((2 ^ s:Nat):Int)+((0:Nat):Int)) :
  (0 < c'→R'++[(c':Int)]=toL T)∧(c'=0→R'=toL T):=by
 have hs32:s < 32:=by omega
 have hval:val (List.replicate (k / 32) (0:Int)++toL m) * ((2 ^ s:Nat):Int)=(T:Int):=by
  rw [Zg5,val_zeros,ja,val_toL,pow32,Int.zero_add, ← kv, ← kv,hT]
  congr 1
  rw [z8 (2 ^ (32 * (k / 32))) m,kg, ← j5,show 32 * (k / 32)+s=k by omega]
 rw [hval] at hv
 have hne:toL m ≠ []:=by rw [Zap hm]; simp
 have hnorm:norm (List.replicate (k / 32) (0:Int)++toL m):=by
  refine ⟨Zfl (Zeb _) (limbs_toL m),fun _=>?_⟩
  have:=(toL_norm m).2 hne
  have hlen:0 < (toL m).length:=List.length_pos_iff.2 hne
  unfold dg at this ⊢
  rw [xe] at this ⊢
  rw [yw,ja,qg (by simp; omega),ja,show k / 32+(toL m).length - 1 - k / 32=(toL m).length - 1 by omega]
  exact this
 have hp32:2 ^ s≤2 ^ 31:=ve (by decide) (by omega)
 have h31:(2:Nat) ^ 31=2147483648:=by decide
 refine ⟨fun h=>?_,fun h=>?_⟩
 ·have n:norm (R'++[(c':Int)]):=by
   refine ⟨Zfl hb (Zea (by omega) (by omega) Zfq),fun _=>?_⟩
   unfold dg
   rw [xe,yw,zf,Nat.add_sub_cancel,qg (xw _),Nat.sub_self]
   simp; omega
  rw [Zil n,Zg5,val_one,hl,hv]
  congr 1
 ·subst h
  have hv':val R'=(T:Int):=by simpa using hv
  have n:norm R':=by
   refine ⟨hb,fun hne'=>?_⟩
   intro h0
   have hlen:0 < R'.length:=List.length_pos_iff.2 hne'
   have hlow:=Zg6 hnorm (by intro e; rw [e] at hl; simp at hl; exact hne' hl)
   rw [← hl] at hlow
   have h1:=Zdj R' (R'.length - 1) (by omega)
   rw [h0,Int.mul_zero,Int.add_zero,show R'.length - 1+1=R'.length by omega,uy (xw _)] at h1
   have h2:=val_lt (Z4v hb (R'.length - 1))
   rw [qy,jd (by omega), ← h1,hv', ← hval] at h2
   have h3:=Z4b hnorm.1
   have h4:val (List.replicate (k / 32) (0:Int)++toL m) * 1≤val (List.replicate (k / 32) (0:Int)++toL m) * ((2 ^ s:Nat):Int):=j6 (by have:=qi s; omega) h3
   omega
  rw [Zil n,hv']
  congr 1
theorem band_mask {t:Nat} (h:t < 18446744073709551616):band .u64 ((t:Nat):Int) (4503599627370495:Int)=((t % 4503599627370496:Nat):Int):=by
 have h1:=Zik (b:=4503599627370495) h (by decide)
 rw [show ((4503599627370495:Nat):Int)=4503599627370495 from rfl,show (4503599627370495:Nat)=2 ^ 52 - 1 by decide,and_mask] at h1
 exact h1
theorem sign_bit {t:Nat} (h:t < 18446744073709551616):(Int.fdiv ((t:Nat):Int) (yh 63) == (1:Int))=sg t:=by
 rw [show yh 63=9223372036854775808 by decide,um _ (by decide)]
 unfold sg
 rw [uh,beq_iff_eq]
 by_cases h9:9223372036854775808≤t
 ·rw [show t / 9223372036854775808=1 by omega]; simp; omega
 ·rw [show t / 9223372036854775808=0 by omega]; simp; omega
theorem rwhole_b0 {t:Nat} (h:t < 18446744073709551616):Ev (fun N=>Z3l N ((t:Nat):Int)) (if rg t < 4503599627370496 then ((-1074:Int),((rg t:Nat):Int)) else (((rg t / 4503599627370496:Nat):Int) - 1075,((4503599627370496+rg t % 4503599627370496:Nat):Int))):=by
 have hr:rg t=t % 9223372036854775808:=rfl
 have hE:t / 4503599627370496 % 2048=rg t / 4503599627370496:=by rw [hr]; omega
 have hF:t % 4503599627370496=rg t % 4503599627370496:=by rw [hr]; omega
 refine Ev.step ?_ (fun N=>by rw [Z3l,expo_eq t h,mant_eq t h,band_mask h,hE,hF])
 by_cases c:rg t < 4503599627370496
 ·rw [if_pos c]
  refine Ev.pos (by omega) ?_
  rw [show rg t / 4503599627370496=0 by omega,show rg t % 4503599627370496=rg t by omega]
  exact Ev.now _
 ·rw [if_neg c]
  exact Ev.neg (by omega) (Ev.now _)
theorem rwhole_ev {t:Nat} (ht:t < 18446744073709551616) (hE:rg t / 4503599627370496 < 1323):Ev (fun N=>Z85 N ((t:Nat):Int)) (numN (if sg t then -((VV (rg t) / UU:Nat):Int) else ((VV (rg t) / UU:Nat):Int)),decide (VV (rg t) % UU ≠ 0)):=by
  -- what the first loop leaves
  obtain ⟨e0,m0,e',k,m,hb0,hl1,hm53,hk,hmax,hT⟩:∃ (e0:Int) (m0:Nat) (e':Int) (k m:Nat),Ev (fun N=>Z3l N ((t:Nat):Int)) (e0,(m0:Int))∧Ev (fun N=>Z1n N ((t:Nat):Int) e0 (m0:Int) false) (e',(m:Int),decide (VV (rg t) % UU ≠ 0))∧m < 9007199254740992∧k≤247∧(if (0:Int) > e' then (0:Int) else e')=(k:Int)∧VV (rg t) / UU=m * 2 ^ k:=by
    have hb:=rwhole_b0 ht
    by_cases c:rg t < 4503599627370496
    · rw [if_pos c] at hb
      obtain ⟨e',h1,h2⟩:=wdown_loop ((t:Nat):Int) UUn (rg t) false (by omega) (by show 1074≤2000; omega)
      have hU:UU=2 ^ UUn:=rfl
      have hn:(-((UUn:Nat):Int))=-1074:=rfl
      have hV:VV (rg t)=rg t:=VV_low c
      rw [← hU,Bool.false_or,hn] at h1
      refine ⟨-1074,rg t,e',0,rg t / UU,hb, ?_, ?_,by omega, ?_,by rw [hV,zy,kz]⟩
      · rw [hV]; exact h1
      · have:=Nat.div_le_self (rg t) UU; omega
      · split
        · rfl
        · show e'=0; omega
    · rw [if_neg c] at hb
      have hV:VV (rg t)=(4503599627370496+rg t % 4503599627370496) * 2 ^ (rg t / 4503599627370496 - 1):=Zc2 c
      generalize hM:4503599627370496+rg t % 4503599627370496=M at *
      have hM53:M < 9007199254740992:=by omega
      by_cases hneg:rg t / 4503599627370496 < 1075
      · obtain ⟨e',h1,h2⟩:=wdown_loop ((t:Nat):Int) (1075 - rg t / 4503599627370496) M false (by omega) (by omega)
        rw [Bool.false_or] at h1
        have hU:=UU_two (1075 - rg t / 4503599627370496) (rg t / 4503599627370496 - 1) (by omega)
        have hp:=qi (rg t / 4503599627370496 - 1)
        have hd:VV (rg t) / UU=M / 2 ^ (1075 - rg t / 4503599627370496):=by
          rw [hV,hU,Nat.mul_div_mul_right _ _ hp]
        have hr:VV (rg t) % UU ≠ 0 ↔ M % 2 ^ (1075 - rg t / 4503599627370496) ≠ 0:=by
          rw [hV,hU,Nat.mul_mod_mul_right]
          constructor
          · intro h q; rw [q,vz] at h; exact h rfl
          · intro h q; exact h ((Nat.mul_eq_zero.1 q).resolve_right (by omega))
        refine ⟨((rg t / 4503599627370496:Nat):Int) - 1075,M,e',0,M / 2 ^ (1075 - rg t / 4503599627370496),hb, ?_, ?_,by omega, ?_,by rw [hd,zy,kz]⟩
        · rw [show ((rg t / 4503599627370496:Nat):Int) - 1075=-((1075 - rg t / 4503599627370496:Nat):Int) by omega,decide_eq_decide.2 hr]
          exact h1
        · have:=Nat.div_le_self M (2 ^ (1075 - rg t / 4503599627370496)); omega
        · split
          · rfl
          · show e'=0; omega
      · have hU:=UU_up (rg t / 4503599627370496 - 1075) (rg t / 4503599627370496 - 1) (by omega)
        rw [hU, ← kg] at hV
        have hd:VV (rg t) / UU=M * 2 ^ (rg t / 4503599627370496 - 1075):=by rw [hV,Nat.mul_div_cancel _ UU_pos]
        have hr:VV (rg t) % UU=0:=by rw [hV,Nat.mul_mod_left]
        refine ⟨((rg t / 4503599627370496:Nat):Int) - 1075,M,((rg t / 4503599627370496:Nat):Int) - 1075,rg t / 4503599627370496 - 1075,M,hb, ?_,hM53,by omega, ?_,hd⟩
        · rw [hr]
          refine Ev.step ?_ (fun N=>by rw [Z1n])
          exact Ev.neg (by omega) (Ev.now _)
        · rw [if_neg (by omega)]; omega
  refine Ev.bind hb0 (Ev.bind hl1 ?_)
  rw [hT,hmax]
  have hwk:wrap .i64 (Int.tdiv ((k:Nat):Int) (32:Int))=((k / 32:Nat):Int):=by
    rw [show Int.tdiv ((k:Nat):Int) (32:Int)=((k / 32:Nat):Int) from rfl,Zk1 _ (by omega) (by omega)]
  have hmod:Int.tmod (if (0:Int) > e' then (0:Int) else e') (32:Int)=((k % 32:Nat):Int):=by rw [hmax]; rfl
  have hwm:wrap .i64 ((m:Nat):Int)=(m:Int):=Zk1 _ (by omega) (by omega)
  by_cases h0:m=0
  · subst h0
    refine Ev.neg (by simp) ?_
    refine Ev.bindc (by rw [hwk]; exact mk_eq (n:=k / 32) (by omega)) (Ev.bindc (app_eq (by rw [lim_eq]; simp; omega)) (Ev.pos rfl ?_))
    rw [vz]
    have e:numN (if sg t=true then -((0:Nat):Int) else ((0:Nat):Int))=⟨false,[]⟩:=by rw [← num_zero]; split <;> rfl
    rw [e]
    exact Ev.now _
  · refine Ev.pos (by show ((m:Nat):Int) > 0; omega) ?_
    have hOf:=rOfN_ev (m:Int) (by omega) (by omega)
    have hmag:(numN (m:Int)).fMag=toL m:=by unfold numN; rw [ze]
    have hmlen:(toL m).length≤2:=(toL_len (m:Int) 2 (by omega)).2 (by rw [show (4294967296:Int) ^ 2=18446744073709551616 by decide]; omega)
    have hzlen:(List.replicate (k / 32) (0:Int)).length=k / 32:=ja
    obtain ⟨R',c',g1,g2,g3,g4,g5⟩:=wshift_loop ((t:Nat):Int) (e',((m:Nat):Int),decide (VV (rg t) % UU ≠ 0)) (k % 32) (by omega) hmod (List.replicate (k / 32) (0:Int)++toL m) [] 0 (Zfl (Zeb _) (limbs_toL m)) (qi _) (by simp; omega)
    obtain ⟨f1,f2⟩:=shifted (k % 32) k m (m * 2 ^ k) rfl h0 rfl g2 g3 g4 g5
    have hTpos:0 < m * 2 ^ k:=Nat.mul_pos (by omega) (qi k)
    have hlen':R'.length≤1000:=by rw [g2,yw,hzlen]; omega
    have hc32:c' < 4294967296:=by
      have hp32:2 ^ (k % 32)≤2 ^ 31:=ve (by decide) (by omega)
      have h31:(2:Nat) ^ 31=2147483648:=by decide
      omega
    have hres:(⟨sg t,toL (m * 2 ^ k)⟩:Z08)=numN (if sg t=true then -((m * 2 ^ k:Nat):Int) else ((m * 2 ^ k:Nat):Int)):=by
      unfold numN
      cases hs:sg t with
      | true=>simp only [if_true]; rw [Int.natAbs_neg,ze,decide_eq_true (by omega)]
      | false=>simp only [xh,if_false]; rw [ze,decide_eq_false (by omega)]
    rw [← hres]
    show Ev (fun N=>(Z5t N (wrap .i64 ((m:Nat):Int))).bind _) _
    rw [hwm]
    refine Ev.bind hOf (Ev.bindc (by rw [hwk]; exact mk_eq (n:=k / 32) (by omega)) (Ev.bindc (by rw [hmag]; exact app_eq (by rw [lim_eq,hzlen]; omega)) (Ev.neg (by show ¬ ((m:Nat):Int)=0; omega) (Ev.bind g1 ?_))))
    rw [sign_bit ht]
    by_cases hc:0 < c'
    · refine Ev.pos (by show ((c':Nat):Int) > 0; omega) ?_
      have hw:wrap .u32 ((c':Nat):Int)=(c':Int):=by rw [w32]; omega
      refine Ev.bindc (by show app ([]++R') [wrap .u32 ((c':Nat):Int)]=_; rw [hw,uo]; exact app_eq (by rw [lim_eq]; simp; omega)) ?_
      rw [f1 hc]
      exact Ev.now _
    · refine Ev.neg (by show ¬ ((c':Nat):Int) > 0; omega) ?_
      rw [← f2 (by omega)]
      exact Ev.now _
end Go.Proofs.Ytllcnlonkloabaa.Sh
