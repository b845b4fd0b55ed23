import Derived.Test.YtllcnlonkloabaaPureNumA
set_option linter.unusedVariables false
namespace Go.Proofs.Ytllcnlonkloabaa.Sh
open Go Lift Go.Proofs

theorem Zfi {out:List Int} {x:Int} (h:out.length < 1000000):app out [x]=some (out++[x]):=app_eq (by rw [lim_eq]; show out.length+1≤_; omega)
theorem plus_step {α:Type} (a b out:List Int) (c:Int) (i:Nat) (M:Int) (hM:IntKind.wrap .i64 ((if ((b.length:Nat):Int) > ((a.length:Nat):Int) then ((b.length:Nat):Int) else ((a.length:Nat):Int))+(1:Int))=M) (hi:(i:Int) < M) (hM2:M < 1000000) (ha:limbs a) (hb:limbs b) (hc0:0≤c) (hc1:c≤1) (ho:out.length < 1000000) (r:List Int)
    (h:Ev (fun N=>Z55 N a b (out++[(c+dg a i+dg b i) % 4294967296]) ((i+1:Nat):Int) ((c+dg a i+dg b i) / 4294967296)) r):Ev (fun N=>Z55 N a b out i c) r:=by
  have ra:=Z34 ha i
  have rb:=Z34 hb i
  have hw:IntKind.i64.wrap ((i:Int)+1)=((i+1:Nat):Int):=Z5z (by omega)
  refine Ev.step ?_ (fun N=>by rw [Z55,hM,hw,p32u])
  refine Ev.pos hi ?_
  by_cases h1:i < a.length
  · refine Ev.pos (by omega) (Ev.bindc (idx_dg h1) ?_)
    have e1:IntKind.u64.wrap (c+IntKind.u64.wrap (dg a i))=c+dg a i:=by rw [Ziq (dg a i) ra.1 (by omega),Ziq _ (by omega) (by omega)]
    by_cases h2:i < b.length
    · refine Ev.pos (by omega) (Ev.bindc (idx_dg h2) ?_)
      have e2:IntKind.u64.wrap (IntKind.u64.wrap (c+IntKind.u64.wrap (dg a i))+IntKind.u64.wrap (dg b i))=c+dg a i+dg b i:=by rw [e1,Ziq (dg b i) rb.1 (by omega),Ziq _ (by omega) (by omega)]
      rw [e2,w32,fdiv32]
      exact Ev.bindc (Zfi ho) h
    · rw [dg_out (l:=b) (by omega),Int.add_zero] at h
      refine Ev.neg (by omega) ?_
      rw [e1,w32,fdiv32]
      exact Ev.bindc (Zfi ho) h
  · rw [dg_out (l:=a) (by omega),Int.add_zero] at h
    refine Ev.neg (by omega) ?_
    by_cases h2:i < b.length
    · refine Ev.pos (by omega) (Ev.bindc (idx_dg h2) ?_)
      have e1:IntKind.u64.wrap (c+IntKind.u64.wrap (dg b i))=c+dg b i:=by rw [Ziq (dg b i) rb.1 (by omega),Ziq _ (by omega) (by omega)]
      rw [e1,w32,fdiv32]
      exact Ev.bindc (Zfi ho) h
    · rw [dg_out (l:=b) (by omega),Int.add_zero] at h
      refine Ev.neg (by omega) ?_
      rw [w32,fdiv32]
      exact Ev.bindc (Zfi ho) h
theorem plus_loop (a b:List Int) (ha:limbs a) (hb:limbs b) (M:Nat) (hM:IntKind.wrap .i64 ((if ((b.length:Nat):Int) > ((a.length:Nat):Int) then ((b.length:Nat):Int) else ((a.length:Nat):Int))+(1:Int))=(M:Int)) (hNa:a.length < M) (hNb:b.length < M) (hN:M < 1000000):∀ (d i:Nat) (out:List Int) (c:Int),
    i+d=M→out.length=i→limbs out→0≤c→c≤1→(d=0→c=0) →
    ∃ r,Ev (fun N=>Z55 N a b out i c) r∧limbs r∧r.length=M∧val r=val out+4294967296 ^ i * (c+val (a.drop i)+val (b.drop i)):=by
  intro d
  induction d with
  | zero =>
    intro i out c hd ho hl h0 h1 hz
    refine ⟨out, ?_,hl,by omega, ?_⟩
    · refine Ev.step ?_ (fun N=>by rw [Z55,hM])
      exact Ev.neg (by omega) (Ev.now _)
    · rw [List.drop_eq_nil_of_le (by omega),List.drop_eq_nil_of_le (by omega),hz rfl]
      simp [val]
  | succ d ih =>
    intro i out c hd ho hl h0 h1 hz
    have ra:=Z34 ha i
    have rb:=Z34 hb i
    obtain ⟨r,e,hr,hlen,hv⟩:=ih (i+1) (out++[(c+dg a i+dg b i) % 4294967296]) ((c+dg a i+dg b i) / 4294967296) (by omega) (by simp [ho])
      (Zc9 hl (Z9v (by omega) (by omega) Z7e)) (by omega) (by omega) (fun hz=>by
        rw [dg_out (l:=a) (by omega),dg_out (l:=b) (by omega)]; omega)
    refine ⟨r,plus_step (α:=Unit) a b out c i M hM (by omega) (by omega) ha hb h0 h1 (by omega) r e,hr,hlen, ?_⟩
    rw [hv,Zbt,val_one,ho,Z8y a i,Z8y b i,Int.pow_succ]
    have e:=Int.emod_add_mul_ediv (c+dg a i+dg b i) 4294967296
    generalize (c+dg a i+dg b i) % 4294967296=u at *
    generalize (c+dg a i+dg b i) / 4294967296=q at *
    grind
theorem plus_ev (a b:List Int) (ha:limbs a) (hb:limbs b) (h1:a.length < 100000) (h2:b.length < 100000) :
    ∃ r,Ev (fun N=>num_plus N a b) r∧limbs r∧r.length≤a.length+b.length+1∧val r=val a+val b:=by
  have hm:IntKind.wrap .i64 ((if ((b.length:Nat):Int) > ((a.length:Nat):Int) then ((b.length:Nat):Int) else ((a.length:Nat):Int))+(1:Int))=((max a.length b.length+1:Nat):Int):=by
    rw [Zip _ (by split <;> omega) (by split <;> omega)]
    split <;> omega
  obtain ⟨r,e,hr,hl,hv⟩:=plus_loop a b ha hb (max a.length b.length+1) hm (by omega) (by omega) (by omega) (max a.length b.length+1) 0 [] 0 (by omega) rfl Z7e (by omega) (by omega) (fun h=>by omega)
  refine ⟨r,Ev.bind e (Ev.now _),hr,by omega, ?_⟩
  rw [hv]; simp [val]
theorem minus_step (a b out:List Int) (c:Int) (i:Nat) (hi:i < a.length) (ha:limbs a) (hb:limbs b) (hc0:-1≤c) (hc1:c≤0) (ho:out.length < 1000000) (hN:a.length < 1000000) (r:List Int)
    (h:Ev (fun N=>Z5e N a b (out++[(c+dg a i - dg b i) % 4294967296]) ((i+1:Nat):Int) ((c+dg a i - dg b i) / 4294967296)) r):Ev (fun N=>Z5e N a b out i c) r:=by
  have ra:=Z34 ha i
  have rb:=Z34 hb i
  have hw:IntKind.i64.wrap ((i:Int)+1)=((i+1:Nat):Int):=Z5z (by omega)
  refine Ev.step ?_ (fun N=>by rw [Z5e,hw,p32i])
  refine Ev.pos (by omega) (Ev.bindc (idx_dg hi) ?_)
  have e1:IntKind.i64.wrap (c+IntKind.i64.wrap (dg a i))=c+dg a i:=by rw [Zip (dg a i) (by omega) (by omega),Zip _ (by omega) (by omega)]
  by_cases h2:i < b.length
  · refine Ev.pos (by omega) (Ev.bindc (idx_dg h2) ?_)
    have e2:IntKind.i64.wrap (IntKind.i64.wrap (c+IntKind.i64.wrap (dg a i)) - IntKind.i64.wrap (dg b i))=c+dg a i - dg b i:=by rw [e1,Zip (dg b i) (by omega) (by omega),Zip _ (by omega) (by omega)]
    rw [e2,w32,fdiv32]
    exact Ev.bindc (Zfi ho) h
  · rw [dg_out (l:=b) (by omega),Int.sub_zero] at h
    refine Ev.neg (by omega) ?_
    rw [e1,w32,fdiv32]
    exact Ev.bindc (Zfi ho) h
theorem minus_loop (a b:List Int) (ha:limbs a) (hb:limbs b) (hab:b.length≤a.length) (hN:a.length < 1000000):∀ (d i:Nat) (out:List Int) (c:Int),
    i+d=a.length→out.length=i→limbs out→-1≤c→c≤0 →
    ∃ r q,Ev (fun N=>Z5e N a b out i c) r∧limbs r∧r.length=a.length∧-1≤q∧q≤0∧val r+4294967296 ^ a.length * q=val out+4294967296 ^ i * (c+val (a.drop i) - val (b.drop i)):=by
  intro d
  induction d with
  | zero =>
    intro i out c hd ho hl h0 h1
    refine ⟨out,c, ?_,hl,by omega,h0,h1, ?_⟩
    · refine Ev.step ?_ (fun N=>by rw [Z5e])
      exact Ev.neg (by omega) (Ev.now _)
    · rw [List.drop_eq_nil_of_le (by omega),List.drop_eq_nil_of_le (by omega),show a.length=i by omega]
      simp [val]
  | succ d ih =>
    intro i out c hd ho hl h0 h1
    have ra:=Z34 ha i
    have rb:=Z34 hb i
    obtain ⟨r,q,e,hr,hlen,hq0,hq1,hv⟩:=ih (i+1) (out++[(c+dg a i - dg b i) % 4294967296]) ((c+dg a i - dg b i) / 4294967296) (by omega) (by simp [ho])
      (Zc9 hl (Z9v (by omega) (by omega) Z7e)) (by omega) (by omega)
    refine ⟨r,q,minus_step a b out c i (by omega) ha hb h0 h1 (by omega) hN r e,hr,hlen,hq0,hq1, ?_⟩
    rw [hv,Zbt,val_one,ho,Z8y a i,Z8y b i,Int.pow_succ]
    have e:=Int.emod_add_mul_ediv (c+dg a i - dg b i) 4294967296
    generalize (c+dg a i - dg b i) % 4294967296=u at *
    generalize (c+dg a i - dg b i) / 4294967296=q at *
    grind
theorem minus_ev (a b:List Int) (ha:limbs a) (hb:limbs b) (h1:a.length < 100000) (h2:b.length≤a.length) (hge:val b≤val a) :
    ∃ r,Ev (fun N=>Zff N a b) r∧limbs r∧r.length=a.length∧val r=val a - val b:=by
  obtain ⟨r,q,e,hr,hl,hq0,hq1,hv⟩:=minus_loop a b ha hb h2 (by omega) a.length 0 [] 0 (by omega) rfl Z7e (by omega) (by omega)
  refine ⟨r,Ev.bind e (Ev.now _),hr,hl, ?_⟩
  simp [val] at hv
  have hlt:=val_lt hr
  rw [hl] at hlt
  have:q=0:=by
    by_cases hq:q=0
    · exact hq
    · have:q=-1:=by omega
      subst this
      omega
  subst this
  omega
theorem cmpI_ev (a b:Int):Ev (fun N=>Za1 N a b) (sgn (a - b)):=by
  refine Ev.bindc (a:=(a != a)) rfl (Ev.bindc (a:=(b != b)) rfl (Ev.neg (by simp) (Ev.neg (by simp) ?_)))
  unfold sgn
  by_cases h:a < b
  · refine Ev.pos h ?_
    rw [if_pos (by omega)]
    exact Ev.now _
  · refine Ev.neg h ?_
    by_cases h2:a > b
    · refine Ev.pos h2 ?_
      rw [if_neg (by omega),if_neg (by omega)]
      exact Ev.now _
    · refine Ev.neg h2 ?_
      rw [if_neg (by omega),if_pos (by omega)]
      exact Ev.now _
theorem cmpU_ev (a b:Int):Ev (fun N=>Z7l N a b) (sgn (a - b)):=cmpI_ev a b
theorem cmpMag_loop (a b:List Int) (ha:limbs a) (hb:limbs b) (hab:a.length=b.length) (hN:a.length < 1000000):∀ (d:Nat) (i:Int),i+1=(d:Int)→i < a.length →
    ∃ r,Ev (fun N=>Z66 N a b i) r∧(match r with | .inl _=>(0:Int) | .inr x=>x)=sgn (val (a.take d) - val (b.take d)):=by
  intro d
  induction d with
  | zero =>
    intro i hi hl
    refine ⟨.inl (), ?_,by simp [val,sgn]⟩
    refine Ev.step ?_ (fun N=>by rw [Z66])
    exact Ev.neg (by omega) (Ev.now _)
  | succ d ih =>
    intro i hi hl
    obtain rfl:i=(d:Int):=by omega
    have ra:=Z34 ha d
    have rb:=Z34 hb d
    have hw:IntKind.i64.wrap ((d:Int) - 1)=(d:Int) - 1:=Zip _ (by omega) (by omega)
    have la:=val_lt (Z4n ha d)
    have lb:=val_lt (Z4n hb d)
    have na:=Z4c (Z4n ha d)
    have nb:=Z4c (Z4n hb d)
    rw [List.length_take,Nat.min_eq_left (by omega)] at la lb
    rw [Zay a d (by omega),Zay b d (by omega)]
    by_cases h:dg a d=dg b d
    · obtain ⟨r,e,hr⟩:=ih ((d:Int) - 1) (by omega) (by omega)
      refine ⟨r, ?_, ?_⟩
      · refine Ev.step ?_ (fun N=>by rw [Z66,hw])
        refine Ev.pos (by omega) (Ev.bindc (idx_dg (by omega)) (Ev.bindc (idx_dg (by omega)) (Ev.bind (cmpU_ev _ _) (Ev.neg ?_ e))))
        rw [h]
        exact fun e=>e (sgn_zero.2 (by omega))
      · rw [hr,h]
        congr 1
        omega
    · refine ⟨.inr (sgn (dg a d - dg b d)), ?_, ?_⟩
      · refine Ev.step ?_ (fun N=>by rw [Z66])
        exact Ev.pos (by omega) (Ev.bindc (idx_dg (by omega)) (Ev.bindc (idx_dg (by omega)) (Ev.bind (cmpU_ev _ _) (Ev.pos (fun e=>h (by have:=sgn_zero.1 e; omega)) (Ev.now _)))))
      · show sgn (dg a d - dg b d)=_
        generalize (4294967296:Int) ^ d=P at *
        by_cases hlt:dg a d < dg b d
        · have:P * (dg a d+1)≤P * dg b d:=Int.mul_le_mul_of_nonneg_left (by omega) (by omega)
          rw [Zeu (by omega),Zeu (by grind)]
        · have:P * (dg b d+1)≤P * dg a d:=Int.mul_le_mul_of_nonneg_left (by omega) (by omega)
          rw [sgn_pos (by omega),sgn_pos (by grind)]
theorem cmpMag_ev (a b:List Int) (ha:norm a) (hb:norm b) (h1:a.length < 100000) (h2:b.length < 100000):Ev (fun N=>Zfk N a b) (sgn (val a - val b)):=by
  refine Ev.bind (cmpI_ev _ _) ?_
  by_cases h:a.length=b.length
  · have hw:IntKind.i64.wrap (((a.length:Nat):Int) - 1)=(a.length:Int) - 1:=Zip _ (by omega) (by omega)
    obtain ⟨r,e,hr⟩:=cmpMag_loop a b ha.1 hb.1 h (by omega) a.length ((a.length:Int) - 1) (by omega) (by omega)
    rw [List.take_of_length_le (by omega),List.take_of_length_le (by omega)] at hr
    refine Ev.neg (fun e=>e (sgn_zero.2 (by omega))) ?_
    rw [hw]
    refine Ev.bind e ?_
    rw [← hr]
    cases r <;> exact Ev.now _
  · refine Ev.pos (fun e=>h (by have:=sgn_zero.1 e; omega)) ?_
    have na:=Z4c ha.1
    have nb:=Z4c hb.1
    have e:sgn (((a.length:Nat):Int) - ((b.length:Nat):Int))=sgn (val a - val b):=by
      by_cases hlt:a.length < b.length
      · have x:=Zgx hb (by intro e; rw [e] at hlt; simp at hlt)
        have y:=val_lt ha.1
        have z:(4294967296:Int) ^ a.length≤4294967296 ^ (b.length - 1):=pow_le' (by omega)
        have q:=Int.lt_of_lt_of_le y (Int.le_trans z x)
        rw [Zeu (by omega),Zeu (by omega)]
      · have x:=Zgx ha (fun e=>by have:=congrArg List.length e; rw [List.length_nil] at this; omega)
        have y:=val_lt hb.1
        have z:(4294967296:Int) ^ b.length≤4294967296 ^ (a.length - 1):=pow_le' (by omega)
        have q:=Int.lt_of_lt_of_le y (Int.le_trans z x)
        rw [sgn_pos (by omega),sgn_pos (by omega)]
    rw [e]
    exact Ev.now _
end Go.Proofs.Ytllcnlonkloabaa.Sh
