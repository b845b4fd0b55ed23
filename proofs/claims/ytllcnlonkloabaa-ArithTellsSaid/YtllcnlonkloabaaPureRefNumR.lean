import Derived.Test.YtllcnlonkloabaaPureArD
set_option linter.unusedVariables false
set_option linter.unusedSimpArgs false
namespace Go.Proofs.Ytllcnlonkloabaa.Sh
open Go Lift Go.Proofs
namespace R1
theorem dg_take (l:List Int) (d:Nat):dg (l.take (d+1)) d=dg l d:=by
  unfold dg
  rw [List.getD_eq_getElem?_getD,List.getD_eq_getElem?_getD,List.getElem?_take,if_pos (by omega)]
theorem rfit_loop (neg:Bool) (l:List Int) (hb:limbs l) (hl:l.length < 1000000):∀ d:Nat,d≤l.length→Ev (fun N=>Z0v N neg l (d:Int)) (((toL (val (l.take d)).toNat).length:Nat):Int)∧l.take (toL (val (l.take d)).toNat).length=toL (val (l.take d)).toNat:=by
  intro d
  induction d with
  | zero =>
    intro _
    rw [List.take_zero]
    simp only [val,Int.toNat_zero,Z5t]
    refine ⟨?_,rfl⟩
    refine Ev.step ?_ (fun N=>by rw [Z0v])
    exact Ev.neg (by simp) (Ev.now _)
  | succ d ih =>
    intro hd
    have hw:IntKind.i64.wrap (((d+1:Nat):Int) - 1)=(d:Int):=by rw [Zip _ (by omega) (by omega)]; omega
    by_cases h:dg l d=0
    · have e:val (l.take (d+1))=val (l.take d):=by rw [Zay l d (by omega),h]; omega
      rw [e]
      obtain ⟨i1,i2⟩:=ih (by omega)
      refine ⟨?_,i2⟩
      refine Ev.step ?_ (fun N=>by rw [Z0v,hw])
      exact Ev.pos (by omega) (Ev.bindc (idx_dg (by omega)) (Ev.pos h i1))
    · have hln:(l.take (d+1)).length=d+1:=by rw [List.length_take]; omega
      have hn:norm (l.take (d+1)):=⟨Z4n hb _,fun _=>by rw [hln,Nat.add_sub_cancel,dg_take]; exact h⟩
      rw [← norm_toL hn,hln]
      refine ⟨?_,rfl⟩
      refine Ev.step ?_ (fun N=>by rw [Z0v,hw])
      exact Ev.pos (by omega) (Ev.bindc (idx_dg (by omega)) (Ev.neg h (Ev.now _)))
theorem rfitV_ev (neg:Bool) (l:List Int) (hb:limbs l) (hl:l.length < 1000000):Ev (fun N=>Z1z N neg l) (if val l=0 then ⟨false,[]⟩ else ⟨neg,toL (val l).toNat⟩):=by
  obtain ⟨h1,h2⟩:=rfit_loop neg l hb hl l.length (Nat.le_refl _)
  rw [List.take_length] at h1 h2
  have he:=Zh8 (val l) (Z4c hb)
  refine Ev.bind h1 ?_
  by_cases h:val l=0
  · rw [if_pos h]
    exact Ev.pos (by omega) (Ev.now _)
  · rw [if_neg h]
    have hle:(toL (val l).toNat).length≤l.length:=by rw [← h2,List.length_take]; omega
    refine Ev.neg (by omega) (Ev.bindc (cut_front hle) ?_)
    rw [h2]
    exact Ev.bindc (app0_eq (by rw [lim_eq]; omega)) (Ev.now _)
theorem rmade_ev (neg:Bool) (l:List Int) (hb:limbs l) (hl:l.length < 1000000):Ev (fun N=>(Z1z N neg l).bind fun r7=>(Z4y N r7).bind fun r8=>some (r8.1,r8.2)) (madeV neg (val l)):=by
  have hv:=Z4c hb
  have a:=Zgr (val l) 8 hv
  rw [TOP_eq] at a
  refine Ev.bind (rfitV_ev neg l hb hl) ?_
  unfold madeV
  by_cases h:val l=0
  · rw [if_pos h,h,if_pos (by decide)]
    have e:((⟨neg && decide ((0:Int) ≠ 0),toL (0:Int).toNat⟩,true):Z06 × Bool)=(⟨false,[]⟩,true):=by rw [Int.toNat_zero,Z5t]; simp
    rw [e]
    refine Ev.bind (a:=(⟨false,[]⟩,true)) ?_ (Ev.now _)
    exact Ev.neg (by show ¬ (0:Int) > 8; omega) (Ev.now _)
  · rw [if_neg h]
    by_cases c:val l < TOP
    · rw [if_pos c]
      have e:(neg && decide (val l ≠ 0))=neg:=by rw [decide_eq_true h,Bool.and_true]
      rw [e]
      refine Ev.bind (a:=(⟨neg,toL (val l).toNat⟩,true)) ?_ (Ev.now _)
      exact Ev.neg (by show ¬ (((toL (val l).toNat).length:Nat):Int) > 8; omega) (Ev.now _)
    · rw [if_neg c]
      refine Ev.bind (a:=(⟨false,[]⟩,false)) ?_ (Ev.now _)
      exact Ev.pos (by show (((toL (val l).toNat).length:Nat):Int) > 8; omega) (Ev.now _)
theorem rat_ev (l:List Int) (hb:limbs l) (i:Nat):Ev (fun N=>Z5f N l (i:Int)) (dg l i):=by
  have r:=Z34 hb i
  by_cases h:i < l.length
  · refine Ev.pos (by omega) (Ev.bindc (idx_dg h) ?_)
    rw [Ziq _ r.1 (by omega)]
    exact Ev.now _
  · rw [dg_out (by omega)]
    exact Ev.neg (by omega) (Ev.now _)
theorem rplus_loop (a b:List Int) (ha:limbs a) (hb:limbs b) (M:Nat) (hM:(if ((b.length:Nat):Int) > ((a.length:Nat):Int) then ((b.length:Nat):Int) else ((a.length:Nat):Int))=(M:Int) - 1) (hNa:a.length < M) (hNb:b.length < M) (hN:M < 1000000):∀ (d i:Nat) (out:List Int) (c:Int),
    i+d=M→out.length=i→limbs out→0≤c→c≤1→(d=0→c=0) →
    ∃ r,Ev (fun N=>Z3r N a b out c i) r∧limbs r∧r.length=M∧val r=val out+4294967296 ^ i * (c+val (a.drop i)+val (b.drop i)):=by
  intro d
  induction d with
  | zero =>
    intro i out c hd ho hl h0 h1 hz
    refine ⟨out, ?_,hl,by omega, ?_⟩
    · refine Ev.step ?_ (fun N=>by rw [Z3r,hM])
      exact Ev.neg (by omega) (Ev.now _)
    · rw [List.drop_eq_nil_of_le (by omega),List.drop_eq_nil_of_le (by omega),hz rfl]
      simp [val]
  | succ d ih =>
    intro i out c hd ho hl h0 h1 hz
    have ra:=Z34 ha i
    have rb:=Z34 hb i
    obtain ⟨r,e,hr,hlen,hv⟩:=ih (i+1) (out++[(c+dg a i+dg b i) % 4294967296]) ((c+dg a i+dg b i) / 4294967296) (by omega) (by simp [ho])
      (Zc9 hl (Z9v (by omega) (by omega) Z7e)) (by omega) (by omega) (fun hz=>by
        rw [dg_out (l:=a) (by omega),dg_out (l:=b) (by omega)]; omega)
    refine ⟨r, ?_,hr,hlen, ?_⟩
    · refine Ev.step ?_ (fun N=>by rw [Z3r,hM,Z5z (by omega),p32u])
      refine Ev.pos (by omega) (Ev.bind (rat_ev a ha i) (Ev.bind (rat_ev b hb i) ?_))
      have es:IntKind.u64.wrap (IntKind.u64.wrap (dg a i+dg b i)+c)=c+dg a i+dg b i:=by rw [Ziq (dg a i+dg b i) (by omega) (by omega),Ziq _ (by omega) (by omega)]; omega
      rw [es,w32,fdiv32]
      exact Ev.bindc (Zfi (by omega)) e
    · rw [hv,Zbt,val_one,ho,Z8y a i,Z8y b i,Int.pow_succ]
      have e:=Int.emod_add_mul_ediv (c+dg a i+dg b i) 4294967296
      generalize (c+dg a i+dg b i) % 4294967296=u at *
      generalize (c+dg a i+dg b i) / 4294967296=q at *
      grind
theorem rplus_ev (a b:List Int) (ha:limbs a) (hb:limbs b) (h1:a.length < 100000) (h2:b.length < 100000) :
    ∃ r,Ev (fun N=>Z92 N a b) r∧limbs r∧r.length≤a.length+b.length+1∧val r=val a+val b:=by
  have hm:(if ((b.length:Nat):Int) > ((a.length:Nat):Int) then ((b.length:Nat):Int) else ((a.length:Nat):Int))=((max a.length b.length+1:Nat):Int) - 1:=by split <;> omega
  obtain ⟨r,e,hr,hl,hv⟩:=rplus_loop a b ha hb (max a.length b.length+1) hm (by omega) (by omega) (by omega) (max a.length b.length+1) 0 [] 0 (by omega) rfl Z7e (by omega) (by omega) (fun h=>by omega)
  refine ⟨r,Ev.bind e (Ev.now _),hr,by omega, ?_⟩
  rw [hv]; simp [val]
theorem p63u:(2:Int) ^ (min (Int.toNat (63:Int)) (IntKind.bits .u64))=9223372036854775808:=by decide
theorem rminus_loop (a b:List Int) (ha:limbs a) (hb:limbs b) (hab:b.length≤a.length) (hN:a.length < 1000000):∀ (d i:Nat) (out:List Int) (c:Int),
    i+d=a.length→out.length=i→limbs out→0≤c→c≤1 →
    ∃ r q,Ev (fun N=>Z3d N a b out c i) r∧limbs r∧r.length=a.length∧-1≤q∧q≤0∧val r+4294967296 ^ a.length * q=val out+4294967296 ^ i * (-c+val (a.drop i) - val (b.drop i)):=by
  intro d
  induction d with
  | zero =>
    intro i out c hd ho hl h0 h1
    refine ⟨out, -c, ?_,hl,by omega,by omega,by omega, ?_⟩
    · refine Ev.step ?_ (fun N=>by rw [Z3d])
      exact Ev.neg (by omega) (Ev.now _)
    · rw [List.drop_eq_nil_of_le (by omega),List.drop_eq_nil_of_le (by omega),show a.length=i by omega]
      simp [val]
  | succ d ih =>
    intro i out c hd ho hl h0 h1
    have ra:=Z34 ha i
    have rb:=Z34 hb i
    obtain ⟨r,q,e,hr,hlen,hq0,hq1,hv⟩:=ih (i+1) (out++[(-c+dg a i - dg b i) % 4294967296]) (-((-c+dg a i - dg b i) / 4294967296)) (by omega) (by simp [ho])
      (Zc9 hl (Z9v (by omega) (by omega) Z7e)) (by omega) (by omega)
    refine ⟨r,q, ?_,hr,hlen,hq0,hq1, ?_⟩
    · refine Ev.step ?_ (fun N=>by rw [Z3d,Z5z (by omega),p63u])
      refine Ev.pos (by omega) (Ev.bind (rat_ev a ha i) (Ev.bind (rat_ev b hb i) ?_))
      have es:IntKind.u64.wrap (IntKind.u64.wrap (dg a i - dg b i) - c)=(-c+dg a i - dg b i) % 18446744073709551616:=by rw [Zbs,Zbs]; omega
      have ed:Int.fdiv ((-c+dg a i - dg b i) % 18446744073709551616) 9223372036854775808=-((-c+dg a i - dg b i) / 4294967296):=by
        rw [Int.fdiv_eq_ediv_of_nonneg _ (by decide)]; omega
      have em:(-c+dg a i - dg b i) % 18446744073709551616 % 4294967296=(-c+dg a i - dg b i) % 4294967296:=by omega
      rw [es,w32,em,ed]
      exact Ev.bindc (Zfi (by omega)) e
    · rw [hv,Zbt,val_one,ho,Z8y a i,Z8y b i,Int.pow_succ]
      have e:=Int.emod_add_mul_ediv (-c+dg a i - dg b i) 4294967296
      generalize (-c+dg a i - dg b i) % 4294967296=u at *
      generalize (-c+dg a i - dg b i) / 4294967296=q at *
      grind
theorem rminus_ev (a b:List Int) (ha:limbs a) (hb:limbs b) (h1:a.length < 100000) (h2:b.length≤a.length) (hge:val b≤val a) :
    ∃ r,Ev (fun N=>Z6w N a b) r∧limbs r∧r.length=a.length∧val r=val a - val b:=by
  obtain ⟨r,q,e,hr,hl,hq0,hq1,hv⟩:=rminus_loop a b ha hb h2 (by omega) a.length 0 [] 0 (by omega) rfl Z7e (by omega) (by omega)
  refine ⟨r,Ev.bind e (Ev.now _),hr,hl, ?_⟩
  simp [val] at hv
  have hlt:=val_lt hr
  rw [hl] at hlt
  have:q=0:=by
    by_cases hq:q=0
    · exact hq
    · have:q=-1:=by omega
      subst this
      omega
  subst this
  omega
theorem rsize_loop (a b:List Int) (ha:limbs a) (hb:limbs b) (hab:a.length=b.length) (hN:a.length < 1000000):∀ (d:Nat) (i:Int),i+1=(d:Int)→i < a.length →
    ∃ r,Ev (fun N=>Z2n N a b i) r∧(match r with | .inl _=>(0:Int) | .inr x=>x)=sgn (val (a.take d) - val (b.take d)):=by
  intro d
  induction d with
  | zero =>
    intro i hi hl
    refine ⟨.inl (), ?_,by simp [val,sgn]⟩
    refine Ev.step ?_ (fun N=>by rw [Z2n])
    exact Ev.neg (by omega) (Ev.now _)
  | succ d ih =>
    intro i hi hl
    obtain rfl:i=(d:Int):=by omega
    have ra:=Z34 ha d
    have rb:=Z34 hb d
    have hw:IntKind.i64.wrap ((d:Int) - 1)=(d:Int) - 1:=Zip _ (by omega) (by omega)
    have la:=val_lt (Z4n ha d)
    have lb:=val_lt (Z4n hb d)
    have na:=Z4c (Z4n ha d)
    have nb:=Z4c (Z4n hb d)
    rw [List.length_take,Nat.min_eq_left (by omega)] at la lb
    rw [Zay a d (by omega),Zay b d (by omega)]
    by_cases h:dg a d=dg b d
    · obtain ⟨r,e,hr⟩:=ih ((d:Int) - 1) (by omega) (by omega)
      refine ⟨r, ?_, ?_⟩
      · refine Ev.step ?_ (fun N=>by rw [Z2n,hw])
        exact Ev.pos (by omega) (Ev.bindc (idx_dg (by omega)) (Ev.bindc (idx_dg (by omega)) (Ev.neg (by omega) (Ev.neg (by omega) e))))
      · rw [hr,h]
        congr 1
        omega
    · by_cases hlt:dg a d < dg b d
      · refine ⟨.inr (-1), ?_, ?_⟩
        · refine Ev.step ?_ (fun N=>by rw [Z2n])
          exact Ev.pos (by omega) (Ev.bindc (idx_dg (by omega)) (Ev.bindc (idx_dg (by omega)) (Ev.pos hlt (Ev.now _))))
        · show (-1:Int)=_
          generalize (4294967296:Int) ^ d=P at *
          have:P * (dg a d+1)≤P * dg b d:=Int.mul_le_mul_of_nonneg_left (by omega) (by omega)
          rw [Zeu (by grind)]
      · refine ⟨.inr 1, ?_, ?_⟩
        · refine Ev.step ?_ (fun N=>by rw [Z2n])
          exact Ev.pos (by omega) (Ev.bindc (idx_dg (by omega)) (Ev.bindc (idx_dg (by omega)) (Ev.neg hlt (Ev.pos (by omega) (Ev.now _)))))
        · show (1:Int)=_
          generalize (4294967296:Int) ^ d=P at *
          have:P * (dg b d+1)≤P * dg a d:=Int.mul_le_mul_of_nonneg_left (by omega) (by omega)
          rw [sgn_pos (by grind)]
theorem rsize_ev (a b:List Int) (ha:norm a) (hb:norm b) (h1:a.length < 100000) (h2:b.length < 100000):Ev (fun N=>Z93 N a b) (sgn (val a - val b)):=by
  by_cases h:a.length=b.length
  · have hw:IntKind.i64.wrap (((a.length:Nat):Int) - 1)=(a.length:Int) - 1:=Zip _ (by omega) (by omega)
    obtain ⟨r,e,hr⟩:=rsize_loop a b ha.1 hb.1 h (by omega) a.length ((a.length:Int) - 1) (by omega) (by omega)
    rw [List.take_of_length_le (by omega),List.take_of_length_le (by omega)] at hr
    refine Ev.neg (by omega) ?_
    rw [hw]
    refine Ev.bind e ?_
    rw [← hr]
    cases r <;> exact Ev.now _
  · refine Ev.pos (by omega) ?_
    have na:=Z4c ha.1
    have nb:=Z4c hb.1
    by_cases hlt:a.length < b.length
    · have x:=Zgx hb (by intro e; rw [e] at hlt; simp at hlt)
      have y:=val_lt ha.1
      have z:(4294967296:Int) ^ a.length≤4294967296 ^ (b.length - 1):=pow_le' (by omega)
      have q:=Int.lt_of_lt_of_le y (Int.le_trans z x)
      rw [Zeu (by omega)]
      exact Ev.pos (by omega) (Ev.now _)
    · have x:=Zgx ha (fun e=>by have:=congrArg List.length e; rw [List.length_nil] at this; omega)
      have y:=val_lt hb.1
      have z:(4294967296:Int) ^ b.length≤4294967296 ^ (a.length - 1):=pow_le' (by omega)
      have q:=Int.lt_of_lt_of_le y (Int.le_trans z x)
      rw [sgn_pos (by omega)]
      exact Ev.neg (by omega) (Ev.now _)
theorem rmul_l1 (p0 p1:Z06) (a28:List Int) (x:Int) (i A:Nat) (hi:i < A) (hxi:idx p0.fMag (i:Int)=some x) (h8:A≤8) (hb8:p1.fMag.length≤8) (hx0:0≤x) (hx1:x < 4294967296) (hb:limbs p1.fMag):∀ (d j:Nat) (out:List Int) (c:Int),
    j+d=p1.fMag.length+1→limbs out→out.length=A+p1.fMag.length+1→0≤c→c < 4294967296→(d=0→c=0)→(0 < d→dg out (i+p1.fMag.length)=0) →
    ∃ out', Ev (fun N => Z42 N p0 p1 a28 i out c j) out' ∧
      limbs out'∧out'.length=A+p1.fMag.length+1∧val out'=val out+4294967296 ^ (i+j) * (c+x * val (p1.fMag.drop j))∧∀ m,i+p1.fMag.length+1≤m→dg out' m=dg out m:=by
  intro d
  induction d with
  | zero =>
    intro j out c hd hl hlen h0 h1 hc hz
    refine ⟨out, ?_,hl,hlen, ?_,fun m _=>rfl⟩
    · refine Ev.step ?_ (fun N=>by rw [Z42])
      exact Ev.neg (by omega) (Ev.now _)
    · rw [List.drop_eq_nil_of_le (by omega),hc rfl]
      simp [val]
  | succ d ih =>
    intro j out c hd hl hlen h0 h1 hc hz
    have hj:IntKind.i64.wrap ((i:Int)+(j:Int))=((i+j:Nat):Int):=by rw [Zip _ (by omega) (by omega)]; omega
    have hw2:IntKind.i64.wrap ((j:Int)+1)=((j+1:Nat):Int):=Z5z (by omega)
    have rb:=Z34 hb j
    have ro:=Z34 hl (i+j)
    have p0':0≤x * dg p1.fMag j:=Int.mul_nonneg hx0 rb.1
    have p1':x * dg p1.fMag j≤4294967295 * 4294967295:=Int.mul_le_mul (by omega) (by omega) rb.1 (by omega)
    have hs:IntKind.u64.wrap (IntKind.u64.wrap (IntKind.u64.wrap (IntKind.u64.wrap x * dg p1.fMag j)+IntKind.u64.wrap (dg out (i+j)))+c)=c+(dg out (i+j)+x * dg p1.fMag j):=by
      rw [Ziq x hx0 (by omega),Ziq (x * dg p1.fMag j) p0' (by omega),Ziq (dg out (i+j)) ro.1 (by omega),Ziq (x * dg p1.fMag j+dg out (i+j)) (by omega) (by omega),Ziq _ (by omega) (by omega)]; omega
    have e:=Int.emod_add_mul_ediv (c+(dg out (i+j)+x * dg p1.fMag j)) 4294967296
    obtain ⟨out',he,g1,g2,g5,g6⟩:=ih (j+1) (out.set (i+j) ((c+(dg out (i+j)+x * dg p1.fMag j)) % 4294967296)) ((c+(dg out (i+j)+x * dg p1.fMag j)) / 4294967296) (by omega)
      (limbs_set hl _ (by omega) (by omega)) (by rw [List.length_set]; exact hlen) (by omega) (by omega) (fun hd0=>by
        have hjl:j=p1.fMag.length:=by omega
        have z:=hz (by omega)
        rw [dg_out (l:=p1.fMag) (show p1.fMag.length≤j by omega),hjl,z]
        omega) (fun hd0=>by
        rw [dg_set _ _ _ _ (by omega),if_neg (by omega)]
        exact hz (by omega))
    refine ⟨out', ?_,g1,g2, ?_,fun m hm=>?_⟩
    · refine Ev.step ?_ (fun N=>by rw [Z42,hj,hw2,p32u])
      refine Ev.pos (by omega) (Ev.bindc hxi (Ev.bind (rat_ev p1.fMag hb j) (Ev.bindc (idx_dg (by omega)) (Ev.bindc (idx_dg (by omega)) ?_))))
      rw [hs,w32,fdiv32,Int.toNat_natCast]
      exact he
    · rw [g5,val_set _ _ _ (by omega),Z8y p1.fMag j,show i+(j+1)=(i+j)+1 by omega,Int.pow_succ]
      generalize (c+(dg out (i+j)+x * dg p1.fMag j)) % 4294967296=u at *
      generalize (c+(dg out (i+j)+x * dg p1.fMag j)) / 4294967296=q at *
      grind
    · rw [g6 m hm,dg_set _ _ _ _ (by omega),if_neg (by omega)]
theorem rmul_l0 (p0 p1:Z06) (h8:p0.fMag.length≤8) (hb8:p1.fMag.length≤8) (ha:limbs p0.fMag) (hb:limbs p1.fMag):∀ (d i:Nat) (out:List Int),
    i+d=p0.fMag.length→limbs out→out.length=p0.fMag.length+p1.fMag.length+1→val out=val (p0.fMag.take i) * val p1.fMag→(∀ m,i+p1.fMag.length≤m→dg out m=0) →
    ∃ r,Ev (fun N=>Z3e N p0 p1 out i) r∧limbs r∧r.length=p0.fMag.length+p1.fMag.length+1∧val r=val p0.fMag * val p1.fMag:=by
  intro d
  induction d with
  | zero =>
    intro i out hd hl hlen hv hz
    refine ⟨out, ?_,hl,hlen, ?_⟩
    · refine Ev.step ?_ (fun N=>by rw [Z3e])
      exact Ev.neg (by omega) (Ev.now _)
    · rw [hv,List.take_of_length_le (by omega)]
  | succ d ih =>
    intro i out hd hl hlen hv hz
    have ra:=Z34 ha i
    have hw2:IntKind.i64.wrap ((i:Int)+1)=((i+1:Nat):Int):=Z5z (by omega)
    obtain ⟨out',he,g1,g2,g5,g6⟩:=rmul_l1 p0 p1 out (dg p0.fMag i) i p0.fMag.length (by omega) (idx_dg (by omega)) h8 hb8 ra.1 ra.2 hb (p1.fMag.length+1) 0 out 0 (by omega) hl hlen (by omega) (by omega) (fun h=>by omega) (fun _=>hz _ (Nat.le_refl _))
    obtain ⟨r,e,k1,k2,k3⟩:=ih (i+1) out' (by omega) g1 g2 (by
      rw [g5,hv,Zay p0.fMag i (by omega)]
      simp only [Nat.add_zero,Int.zero_add,List.drop_zero]
      grind) (by
      intro m hm
      rw [g6 m (by omega)]
      exact hz m (by omega))
    refine ⟨r, ?_,k1,k2,k3⟩
    refine Ev.step ?_ (fun N=>by rw [Z3e,hw2])
    exact Ev.pos (by omega) (Ev.bind he e)
theorem mul_sign (x y:Int):madeV ((numN x).fNeg != (numN y).fNeg) ((x.natAbs:Int) * (y.natAbs:Int))=res (x * y):=by
  refine Zbb _ _ (Int.mul_nonneg (by omega) (by omega)) _ ?_
  have ex:x=if x < 0 then -(x.natAbs:Int) else (x.natAbs:Int):=by split <;> omega
  have ey:y=if y < 0 then -(y.natAbs:Int) else (y.natAbs:Int):=by split <;> omega
  have c:∀ (p q:Int),x=p→y=q→x * y=p * q:=fun p q hp hq=>by rw [hp,hq]
  unfold numN
  by_cases sx:x < 0
  · by_cases sy:y < 0
    · rw [if_pos sx] at ex; rw [if_pos sy] at ey
      rw [c _ _ ex ey,decide_eq_true sx,decide_eq_true sy]
      simp [Int.neg_mul,Int.mul_neg]
    · rw [if_pos sx] at ex; rw [if_neg sy] at ey
      rw [c _ _ ex ey,decide_eq_true sx,decide_eq_false sy]
      simp [Int.neg_mul,Int.mul_neg]
  · by_cases sy:y < 0
    · rw [if_neg sx] at ex; rw [if_pos sy] at ey
      rw [c _ _ ex ey,decide_eq_false sx,decide_eq_true sy]
      simp [Int.neg_mul,Int.mul_neg]
    · rw [if_neg sx] at ex; rw [if_neg sy] at ey
      rw [c _ _ ex ey,decide_eq_false sx,decide_eq_false sy]
      simp [Int.neg_mul,Int.mul_neg]
theorem rmayN_ev (x:Int) (h:(x.natAbs:Int) < TOP):Ev (fun N=>Z1x N (numN x)) true:=by
  have a:=Z7y x h
  have b:=num_pos x
  have n:=Zfn x
  refine Ev.pos (by omega) ?_
  by_cases hx:x=0
  · subst hx
    rw [num_zero]
    exact Ev.pos rfl (Ev.pos Bool.false_ne_true (Ev.now _))
  · have hl:0 < (numN x).fMag.length:=b.2 hx
    have hw:IntKind.i64.wrap ((((numN x).fMag.length:Nat):Int) - 1)=(((numN x).fMag.length - 1:Nat):Int):=by rw [Zip _ (by omega) (by omega)]; omega
    refine Ev.neg (by omega) (Ev.pos (by omega) ?_)
    rw [hw]
    refine Ev.bindc (idx_dg (by omega)) ?_
    have:=n.2 (by intro e2; rw [e2] at hl; simp at hl)
    rw [show (dg (numN x).fMag ((numN x).fMag.length - 1) != 0)=true by simpa using this]
    exact Ev.now _
theorem rmul_ev (x y:Int) (hx:(x.natAbs:Int) < TOP) (hy:(y.natAbs:Int) < TOP):Ev (fun N=>Z9t N (numN x) (numN y)) (res (x * y)):=by
  have lx:=Z7y x hx
  have ly:=Z7y y hy
  have vx:=Zbf x
  have vy:=Zbf y
  have hw:IntKind.wrap .i64 ((IntKind.wrap .i64 ((((numN x).fMag.length:Nat):Int)+(((numN y).fMag.length:Nat):Int)))+(1:Int))=(((numN x).fMag.length+(numN y).fMag.length+1:Nat):Int):=by rw [Zip ((((numN x).fMag.length:Nat):Int)+(((numN y).fMag.length:Nat):Int)) (by omega) (by omega),Zip _ (by omega) (by omega)]; omega
  obtain ⟨r,e,k1,k2,k3⟩:=rmul_l0 (numN x) (numN y) lx ly (Z8k x) (Z8k y) (numN x).fMag.length 0 (List.replicate ((numN x).fMag.length+(numN y).fMag.length+1) 0) (by omega)
    (limbs_zeros _) (by simp) (by rw [val_zeros]; simp [val]) (fun m _=>dg_zeros _ _)
  refine Ev.bind (rmayN_ev x hx) (Ev.neg (by simp) (Ev.bind (rmayN_ev y hy) (Ev.neg (by simp) ?_)))
  show Ev (fun N=>(mk (0:Int) (IntKind.wrap .i64 ((IntKind.wrap .i64 ((((numN x).fMag.length:Nat):Int)+(((numN y).fMag.length:Nat):Int)))+(1:Int)))).bind fun x5=>(Z3e N (numN x) (numN y) x5 (0:Int)).bind fun r13=>(Z1z N ((numN x).fNeg != (numN y).fNeg) r13).bind fun r14=>(Z4y N r14).bind fun r15=>some (r15.1,r15.2)) _
  rw [hw]
  have hm:=rmade_ev ((numN x).fNeg != (numN y).fNeg) r k1 (by omega)
  rw [k3,vx,vy,mul_sign] at hm
  exact Ev.bindc (mk_eq (by omega)) (Ev.bind e hm)
theorem radd_ev (x y:Int) (hx:(x.natAbs:Int) < TOP) (hy:(y.natAbs:Int) < TOP):Ev (fun N=>Z7w N (numN x) (numN y)) (res (x+y)):=by
  have lx:=Z7y x hx
  have ly:=Z7y y hy
  have vx:=Zbf x
  have vy:=Zbf y
  have bx:=Z8k x
  have by_:=Z8k y
  have nx:=Zfn x
  have ny:=Zfn y
  have s1:(numN x).fNeg=decide (x < 0):=rfl
  have s2:(numN y).fNeg=decide (y < 0):=rfl
  refine Ev.bind (rmayN_ev x hx) (Ev.neg (by simp) (Ev.bind (rmayN_ev y hy) (Ev.neg (by simp) ?_)))
  by_cases hs:(numN x).fNeg=(numN y).fNeg
  · obtain ⟨r,e,hr,hl,hv⟩:=rplus_ev (numN x).fMag (numN y).fMag bx by_ (by omega) (by omega)
    have hm:=rmade_ev (numN x).fNeg r hr (by omega)
    have em:madeV (numN x).fNeg (val r)=res (x+y):=by
      rw [hv,vx,vy]
      refine Zbb _ _ (by omega) _ ?_
      rw [s1,s2] at hs
      rw [s1]
      by_cases sx:x < 0
      · by_cases sy:y < 0
        · simp [sx]; omega
        · simp [sx,sy] at hs
      · by_cases sy:y < 0
        · simp [sx,sy] at hs
        · simp [sx]; omega
    rw [em] at hm
    exact Ev.pos hs (Ev.bind e hm)
  · refine Ev.neg hs (Ev.bind (rsize_ev _ _ nx ny (by omega) (by omega)) ?_)
    rw [s1,s2] at hs
    rw [vx,vy]
    by_cases hge:(y.natAbs:Int)≤(x.natAbs:Int)
    · have c:sgn ((x.natAbs:Int) - (y.natAbs:Int)) ≥ 0:=by unfold sgn; split <;> (try split) <;> omega
      have hlen:(numN y).fMag.length≤(numN x).fMag.length:=by
        rw [Zfm ny,vy]
        have:=val_lt bx
        rw [vx] at this
        omega
      obtain ⟨r,e,hr,hl,hv⟩:=rminus_ev (numN x).fMag (numN y).fMag bx by_ (by omega) hlen (by omega)
      have hm:=rmade_ev (numN x).fNeg r hr (by omega)
      have em:madeV (numN x).fNeg (val r)=res (x+y):=by
        rw [hv,vx,vy]
        refine Zbb _ _ (by omega) _ ?_
        rw [s1]
        by_cases sx:x < 0
        · by_cases sy:y < 0
          · simp [sx,sy] at hs
          · simp [sx]; omega
        · by_cases sy:y < 0
          · simp [sx]; omega
          · simp [sx,sy] at hs
      rw [em] at hm
      exact Ev.pos c (Ev.bind e hm)
    · have c:¬ sgn ((x.natAbs:Int) - (y.natAbs:Int)) ≥ 0:=by rw [Zeu (by omega)]; omega
      have hlen:(numN x).fMag.length≤(numN y).fMag.length:=by
        rw [Zfm nx,vx]
        have:=val_lt by_
        rw [vy] at this
        omega
      obtain ⟨r,e,hr,hl,hv⟩:=rminus_ev (numN y).fMag (numN x).fMag by_ bx (by omega) hlen (by omega)
      have hm:=rmade_ev (numN y).fNeg r hr (by omega)
      have em:madeV (numN y).fNeg (val r)=res (x+y):=by
        rw [hv,vx,vy]
        refine Zbb _ _ (by omega) _ ?_
        rw [s2]
        by_cases sy:y < 0
        · rw [if_pos (decide_eq_true sy)]
          by_cases sx:x < 0
          · simp [sx,sy] at hs
          · omega
        · rw [if_neg (by rw [decide_eq_false sy]; exact Bool.false_ne_true)]
          by_cases sx:x < 0
          · omega
          · simp [sx,sy] at hs
      rw [em] at hm
      exact Ev.neg c (Ev.bind e hm)
theorem rneg_ev (x:Int) (h:(x.natAbs:Int) < TOP):Ev (fun N=>Z9z N (numN x)) (numN (-x)):=by
  have h8:=Z7y x h
  refine Ev.bind (rmayN_ev x h) (Ev.neg (by simp) ?_)
  have hf:=rfitV_ev (!(numN x).fNeg) (numN x).fMag (Z8k x) (by omega)
  rw [Zbf,Int.toNat_natCast] at hf
  have e:(if ((x.natAbs:Nat):Int)=0 then (⟨false,[]⟩:Z06) else ⟨!(numN x).fNeg,toL x.natAbs⟩)=numN (-x):=by
    by_cases z:x=0
    · subst z; rw [if_pos (show ((Int.natAbs 0:Nat):Int)=0 from rfl)]; exact num_zero.symm
    · rw [if_neg (by omega)]
      unfold numN
      rw [Int.natAbs_neg]
      congr 1
      show (!decide (x < 0))=decide (-x < 0)
      by_cases s:x < 0
      · rw [decide_eq_true s,decide_eq_false (by omega)]; rfl
      · rw [decide_eq_false s,decide_eq_true (by omega)]; rfl
  rw [e] at hf
  exact Ev.bind hf (Ev.now _)
theorem rsub_ev (x y:Int) (hx:(x.natAbs:Int) < TOP) (hy:(y.natAbs:Int) < TOP):Ev (fun N=>Z9w N (numN x) (numN y)) (res (x - y)):=by
  refine Ev.bind (rmayN_ev y hy) (Ev.neg (by simp) (Ev.bind (rneg_ev y hy) ?_))
  have:=radd_ev x (-y) hx (by rw [Int.natAbs_neg]; exact hy)
  rw [← Int.sub_eq_add_neg] at this
  exact Ev.bind this (Ev.eta _)
theorem rOf_ev (n:Int) (h0:-9223372036854775808≤n) (h1:n≤9223372036854775807):Ev (fun N=>Z7h N n) (numN n):=by
  have wu:=Zbs n
  have key:∀ (m:Int) (neg:Bool),0≤m→m < 18446744073709551616→m=(n.natAbs:Int)→(m ≠ 0→neg=decide (n < 0))→Ev (fun N=>Z1z N neg [m % 4294967296,m / 4294967296 % 4294967296]) (numN n):=fun m neg hm0 hm1 hm hneg=>by
    have h:=rfitV_ev neg [m % 4294967296,m / 4294967296 % 4294967296] (Z9v (by omega) (by omega) (Z9v (by omega) (by omega) Z7e)) (by simp)
    have hv:val [m % 4294967296,m / 4294967296 % 4294967296]=m:=by simp only [val]; omega
    rw [hv] at h
    refine h.eq ?_
    by_cases z:m=0
    · rw [if_pos z]
      have:n=0:=by omega
      subst this
      exact num_zero.symm
    · rw [if_neg z,hneg z]
      unfold numN
      rw [show m.toNat=n.natAbs by omega]
  by_cases h:n < 0
  · refine Ev.pos h ?_
    have e:IntKind.u64.wrap (0 - IntKind.u64.wrap n)=-n:=by rw [Zbs,wu]; omega
    rw [e,p32u,fdiv32,w32,w32]
    exact Ev.bind (key (-n) (decide (n < 0)) (by omega) (by omega) (by omega) (fun _=>rfl)) (Ev.now _)
  · refine Ev.neg h ?_
    have e:IntKind.u64.wrap n=n:=by rw [wu]; omega
    rw [e,p32u,fdiv32,w32,w32]
    exact Ev.bind (key n (decide (n < 0)) (by omega) (by omega) (by omega) (fun _=>rfl)) (Ev.now _)
end R1
end Go.Proofs.Ytllcnlonkloabaa.Sh
