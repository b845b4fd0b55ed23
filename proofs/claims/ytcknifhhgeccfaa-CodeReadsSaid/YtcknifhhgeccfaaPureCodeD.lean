import Derived.Test.YtcknifhhgeccfaaPureCodeC
import Derived.Test.YtcknifhhgeccfaaPureLendB
set_option linter.unusedVariables false
set_option linter.unusedSimpArgs false
namespace Go.Proofs.Ytcknifhhgeccfaa.Sh
open Go Lift Go.Proofs
theorem bnum (b:List Int) (p:Nat) (lf:Int) (hb:b.length≤500000) (hbb:bytesL b) (hp:p≤b.length) :
    (Ev (fun N=>Z2l N (crd b p)) none∧Ev (fun N=>Z0b N (rr b p false lf) 1) (0,rr b p true lf)) ∨
    ∃ x rest,b.drop p=x::rest∧(0≤x∧x < 256)∧p+1≤b.length∧Ev (fun N=>Z2l N (crd b p)) (some (x,crd b (p+1)))∧Ev (fun N=>Z0b N (rr b p false lf) 1) (x,rr b (p+1) false lf):=by
  by_cases h:b.length≤p
  · exact .inl ⟨cnum_no h,Zbh 1 1 lf rfl hb hp (by omega) (by omega)⟩
  · cases hd:b.drop p with
    | nil=>have:=Z84 hd; omega
    | cons x rest =>
      have hx:=(Z4q (xs:=[x]) hbb hd).head
      have h1:=Z75 (xs:=[x]) 1 1 lf rfl hb hbb rfl (by omega) (by omega) hd
      rw [Z5h,Int.toNat_of_nonneg hx.1] at h1
      exact .inr ⟨x,rest,rfl,hx,by omega,cnum_ok hb hbb hd,h1⟩
theorem Zaj {p0:List Int} {r1:Int × Z06} {acc:List Z0d} {B:List Int} {a lf v:Int} {bd:Bool} (h:IntKind.i64.wrap r1.1≤v∨IntKind.i64.wrap r1.1 > 120∨bd=true):Ev (fun N=>Z1y N p0 r1 acc B a bd lf v) (acc,B,a,bd,lf):=by
  refine Ev.step ?_ (fun N=>by rw [Z1y])
  by_cases c:v < IntKind.i64.wrap r1.1
  · refine Ev.pos c ?_
    by_cases c2:IntKind.i64.wrap r1.1≤120
    · refine Ev.pos c2 ?_
      rcases h with h | h | h
      · omega
      · omega
      · exact Ev.neg (fun k=>k h) (Ev.now _)
    · exact Ev.neg c2 (Ev.now _)
  · exact Ev.neg c (Ev.now _)
theorem bops (b:List Int) (hb:b.length≤500000) (hbb:bytesL b) (q2 q4:Int × Z0k) (r1:Int × Z06) (lf:Int) (n:Nat) (hn:n≤120) (hq:bor .i64 (IntKind.wrap .i64 (q2.1 * 2 ^ (min (Int.toNat (8:Int)) (IntKind.bits .i64)))) q4.1=(n:Int)) (hr:IntKind.i64.wrap r1.1=(n:Int)):∀ (d:Nat) (acc:List Z0d) (v p:Nat),v+d=n→acc.length=v→p≤b.length →
    (Ev (fun N=>Z19 N q2 q4 acc b (p:Int) (v:Int)) (.inl ())∧∃ r,Ev (fun N=>Z1y N b r1 acc b (p:Int) false lf (v:Int)) r∧r.2.2.2.1=true) ∨
    ∃ os rest,os.length=d∧os.all mayO=true∧p+4 * d≤b.length∧b.drop p=opsB os++rest∧Ev (fun N=>Z19 N q2 q4 acc b (p:Int) (v:Int)) (.inr (acc++os,b,((p+4 * d:Nat):Int)))∧Ev (fun N=>Z1y N b r1 acc b (p:Int) false lf (v:Int)) (acc++os,b,((p+4 * d:Nat):Int),false,lf)
  | 0,acc,v,p,hv,ha,hp=>by
    refine .inr ⟨[],b.drop p,rfl,rfl,hp,by rw [opsB]; rfl, ?_, ?_⟩
    · rw [List.append_nil]
      refine Ev.step ?_ (fun N=>by rw [Z19,hq])
      exact Ev.neg (by omega) (Ev.now _)
    · rw [List.append_nil]
      exact Zaj (.inl (by rw [hr]; omega))
  | d+1,acc,v,p,hv,ha,hp=>by
    have happ:∀ x:Z0d,app acc [x]=some (acc++[x]):=fun x=>app_eq (by rw [lim_eq]; show acc.length+1≤_; omega)
    have cond:∀ {f:Nat→Option ((Unit) ⊕ ((List Z0d) × (List Int) × Int))} {w},Ev f w→Ev (fun N=>if (v:Int) < (n:Int) then f N else some (.inr (acc,b,(p:Int)))) w:=fun h=>Ev.pos (by omega) h
    have rstep:∀ {a0 a1 a2 a3:Int} {s0 s1 s2 s3:Z06} {r},Ev (fun N=>Z0b N (rr b p false lf) 1) (a0,s0)→Ev (fun N=>Z0b N s0 1) (a1,s1)→Ev (fun N=>Z0b N s1 1) (a2,s2)→Ev (fun N=>Z0b N s2 1) (a3,s3) →
        Ev (fun N=>Z1y N b r1 (acc++[⟨IntKind.i64.wrap a0,IntKind.i64.wrap a1,IntKind.i64.wrap a2,IntKind.i64.wrap a3⟩]) s3.fB s3.fAt s3.fBad s3.fLeft ((v+1:Nat):Int)) r→Ev (fun N=>Z1y N b r1 acc b (p:Int) false lf (v:Int)) r:=fun {a0 a1 a2 a3 s0 s1 s2 s3 r} h0 h1 h2 h3 h4=>by
      refine Ev.step ?_ (fun N=>by rw [Z1y,hr,Z36 (by omega)])
      exact Ev.pos (by omega) (Ev.pos (by omega) (Ev.pos Bool.false_ne_true (Ev.bind h0 (Ev.bind h1 (Ev.bind h2 (Ev.bind h3 (Ev.bindc (happ _) h4)))))))
    rcases bnum b p lf hb hbb hp with ⟨h,g⟩ | ⟨x0,t0,d0,b0,p0,h0,g0⟩
    · refine .inl ⟨?_,_,rstep g (Z9o b _ lf 1) (Z9o b _ lf 1) (Z9o b _ lf 1) (Zaj (.inr (.inr rfl))),rfl⟩
      refine Ev.step ?_ (fun N=>by rw [Z19,hq])
      exact Ev.pos (by omega) (Ev.bind h (Ev.now _))
    rcases bnum b (p+1) lf hb hbb p0 with ⟨h,g⟩ | ⟨x1,t1,d1,b1,p1,h1,g1⟩
    · refine .inl ⟨?_,_,rstep g0 g (Z9o b _ lf 1) (Z9o b _ lf 1) (Zaj (.inr (.inr rfl))),rfl⟩
      refine Ev.step ?_ (fun N=>by rw [Z19,hq])
      exact Ev.pos (by omega) (Ev.bind h0 (Ev.bind h (Ev.now _)))
    rcases bnum b (p+1+1) lf hb hbb p1 with ⟨h,g⟩ | ⟨x2,t2,d2,b2,p2,h2,g2⟩
    · refine .inl ⟨?_,_,rstep g0 g1 g (Z9o b _ lf 1) (Zaj (.inr (.inr rfl))),rfl⟩
      refine Ev.step ?_ (fun N=>by rw [Z19,hq])
      exact Ev.pos (by omega) (Ev.bind h0 (Ev.bind h1 (Ev.bind h (Ev.now _))))
    rcases bnum b (p+1+1+1) lf hb hbb p2 with ⟨h,g⟩ | ⟨x3,t3,d3,b3,p3,h3,g3⟩
    · refine .inl ⟨?_,_,rstep g0 g1 g2 g (Zaj (.inr (.inr rfl))),rfl⟩
      refine Ev.step ?_ (fun N=>by rw [Z19,hq])
      exact Ev.pos (by omega) (Ev.bind h0 (Ev.bind h1 (Ev.bind h2 (Ev.bind h (Ev.now _)))))
    have hmo:mayO ⟨x0,x1,x2,x3⟩=true:=decide_eq_true (by show 0≤x0∧x0≤255∧0≤x1∧x1≤255∧0≤x2∧x2≤255∧0≤x3∧x3≤255; omega)
    have ostep:∀ {w},Ev (fun N=>Z19 N q2 q4 (acc++[⟨x0,x1,x2,x3⟩]) b ((p+1+1+1+1:Nat):Int) ((v+1:Nat):Int)) w→Ev (fun N=>Z19 N q2 q4 acc b (p:Int) (v:Int)) w:=fun {w} h=>by
      refine Ev.step ?_ (fun N=>by rw [Z19,hq,Z36 (by omega)])
      exact Ev.pos (by omega) (Ev.bind h0 (Ev.bind h1 (Ev.bind h2 (Ev.bind h3 (Ev.bindc (happ _) h)))))
    have rs:=fun {r}=>rstep (r:=r) g0 g1 g2 g3
    rw [wrapI9 b0.1 b0.2,wrapI9 b1.1 b1.2,wrapI9 b2.1 b2.2,wrapI9 b3.1 b3.2] at rs
    rcases bops b hb hbb q2 q4 r1 lf n hn hq hr d (acc++[⟨x0,x1,x2,x3⟩]) (v+1) (p+1+1+1+1) (by omega) (by rw [List.length_append]; show acc.length+1=_; omega) p3 with ⟨k1,r,k2,k3⟩ | ⟨os,rest,o1,o2,o3,o4,k1,k2⟩
    · exact .inl ⟨ostep k1,r,rs k2,k3⟩
    · refine .inr ⟨⟨x0,x1,x2,x3⟩::os,rest,by rw [List.length_cons,o1],by rw [List.all_cons,hmo,o2]; rfl,by omega, ?_, ?_, ?_⟩
      · rw [opsB,mayO_bytes hmo]
        have e1:b.drop (p+1)=t0:=Z55 d0
        have e2:b.drop (p+1+1)=t1:=Z55 d1
        have e3:b.drop (p+1+1+1)=t2:=Z55 d2
        have e4:b.drop (p+1+1+1+1)=t3:=Z55 d3
        rw [d0, ← e1,d1, ← e2,d2, ← e3,d3, ← e4,o4]
        rfl
      · refine (ostep k1).eq ?_
        rw [List.append_assoc,show p+1+1+1+1+4 * d=p+4 * (d+1) by omega]; rfl
      · refine (rs k2).eq ?_
        rw [List.append_assoc,show p+1+1+1+1+4 * d=p+4 * (d+1) by omega]; rfl
theorem bcons (b:List Int) (hb:b.length≤5000) (hbb:bytesL b) (r18:(List Z0d) × (List Int) × Int) (q20:Int × Z0k) (r10:(List Z0d) × (List Int) × Int × Bool × Int) (r11:Int × Z06) (n:Nat) (hn:n≤16) (hq:q20.1=(n:Int)) (hr:IntKind.i64.wrap r11.1=(n:Int)):∀ (d:Nat) (acc:List Z02) (v p:Nat),v+d=n→acc.length=v→p≤b.length →
    (Ev (fun N=>Z1u N r18 q20 acc b (p:Int) (v:Int)) (.inl ())∧Ev (fun N=>Z2e N b r10 r11 acc (p:Int) (v:Int)) (.inr ())) ∨
    ∃ ts rest,ts.length=d∧ts.all mayT=true∧(∀ x ∈ ts,Small x∧Z0t x)∧b.drop p=layTs ts++rest∧Ev (fun N=>Z1u N r18 q20 acc b (p:Int) (v:Int)) (.inr (acc++ts,b,((p+(layTs ts).length:Nat):Int)))∧Ev (fun N=>Z2e N b r10 r11 acc (p:Int) (v:Int)) (.inl (acc++ts,((p+(layTs ts).length:Nat):Int)))
  | 0,acc,v,p,hv,ha,hp=>by
    refine .inr ⟨[],b.drop p,rfl,rfl,(fun x hx=>by cases hx),by rw [layTs]; rfl, ?_, ?_⟩
    · rw [List.append_nil,layTs]
      refine Ev.step ?_ (fun N=>by rw [Z1u,hq])
      exact Ev.neg (by omega) (Ev.now _)
    · rw [List.append_nil,layTs]
      refine Ev.step ?_ (fun N=>by rw [Z2e,hr])
      exact Ev.neg (by omega) (Ev.now _)
  | d+1,acc,v,p,hv,ha,hp=>by
    obtain ⟨w,hw,hw',ho⟩:=both_Read b p hb hbb hp
    have happ:∀ x:Z02,app acc [x]=some (acc++[x]):=fun x=>app_eq (by rw [lim_eq]; show acc.length+1≤_; omega)
    rcases ho with rfl | ⟨t,rest,rfl,h1,h2,h3,h4⟩
    · refine .inl ⟨?_, ?_⟩
      · have hterm:Ev (fun N=>Z7y N (crd b p)) none:=Ev.bind hw (Ev.pos Bool.false_ne_true (Ev.now _))
        refine Ev.step ?_ (fun N=>by rw [Z1u,hq])
        exact Ev.pos (by omega) (Ev.bind hterm (Ev.now _))
      · refine Ev.step ?_ (fun N=>by rw [Z2e,hr])
        exact Ev.pos (by omega) (Ev.bind hw' (Ev.pos Bool.false_ne_true (Ev.now _)))
    · have hterm:Ev (fun N=>Z7y N (crd b p)) (some (t,crd b (p+(layT t).length))):=Ev.bind hw (Ev.neg (fun h=>h rfl) (Ev.now _))
      have hroom:=Z58 h1 (layT_pos t)
      have ostep:∀ {w},Ev (fun N=>Z1u N r18 q20 (acc++[t]) b ((p+(layT t).length:Nat):Int) ((v+1:Nat):Int)) w→Ev (fun N=>Z1u N r18 q20 acc b (p:Int) (v:Int)) w:=fun {w} h=>by
        refine Ev.step ?_ (fun N=>by rw [Z1u,hq,Z36 (by omega)])
        exact Ev.pos (by omega) (Ev.bind hterm (Ev.bindc (happ _) h))
      have rstep:∀ {w},Ev (fun N=>Z2e N b r10 r11 (acc++[t]) ((p+(layT t).length:Nat):Int) ((v+1:Nat):Int)) w→Ev (fun N=>Z2e N b r10 r11 acc (p:Int) (v:Int)) w:=fun {w} h=>by
        refine Ev.step ?_ (fun N=>by rw [Z2e,hr,Z36 (by omega)])
        exact Ev.pos (by omega) (Ev.bind hw' (Ev.neg (fun k=>k rfl) (Ev.bindc (happ _) h)))
      rcases bcons b hb hbb r18 q20 r10 r11 n hn hq hr d (acc++[t]) (v+1) (p+(layT t).length) (by omega) (by rw [List.length_append]; show acc.length+1=_; omega) (by omega) with ⟨k1,k2⟩ | ⟨ts,rest',o1,o2,o3,o4,k1,k2⟩
      · exact .inl ⟨ostep k1,rstep k2⟩
      · have hd':=Z2u h1
        refine .inr ⟨t::ts,rest',by rw [List.length_cons,o1],by rw [List.all_cons,h2,o2]; rfl, ?_, ?_, ?_, ?_⟩
        · intro x hx
          rcases List.mem_cons.1 hx with rfl | hx
          · exact ⟨h3,h4⟩
          · exact o3 x hx
        · rw [layTs,List.append_assoc, ← o4,hd']; exact h1
        · refine (ostep k1).eq ?_
          rw [List.append_assoc,layTs,List.length_append, ← Nat.add_assoc]; rfl
        · refine (rstep k2).eq ?_
          rw [List.append_assoc,layTs,List.length_append, ← Nat.add_assoc]; rfl
theorem both_prog (b:List Int) (hb:b.length≤5000) (hbb:bytesL b) :
    (Ev (fun N=>Z6i N (crd b 0)) none∧Ev (fun N=>Z5k N b) (⟨[],[]⟩,5)) ∨
    ∃ q rest,Fits q∧b=bodyP q++rest∧Ev (fun N=>Z6i N (crd b 0)) (some (q,crd b (bodyP q).length))∧Ev (fun N=>Z5k N b) (if (bodyP q).length=b.length then (q,0) else (⟨[],[]⟩,5)):=by
  have hb5:b.length≤500000:=by omega
  have inr17:∀ {r1 r11:Int × Z06} {r10:(List Z0d) × (List Int) × Int × Bool × Int},Ev (fun N=>Z0b N ⟨b,0,false,0⟩ 2) r1→Ev (fun N=>Z1y N b r1 [] r1.2.fB r1.2.fAt r1.2.fBad r1.2.fLeft 0) r10→Ev (fun N=>Z0b N ⟨r10.2.1,r10.2.2.1,r10.2.2.2.1,r10.2.2.2.2⟩ 1) r11 →
      (IntKind.i64.wrap r1.1 > 120∨IntKind.i64.wrap r11.1 > 16∨r11.2.fBad=true)→Ev (fun N=>Z5k N b) (⟨[],[]⟩,5):=fun {r1 r11 r10} h1 h2 h3 h=>by
    have hB:Ev (fun N=>Z4g N b r1 r10 r11) (.inr ()):=by
      refine Ev.step ?_ (fun N=>by rw [Z4g])
      by_cases c1:IntKind.i64.wrap r1.1 > 120
      · exact Ev.pos c1 (Ev.now _)
      · refine Ev.neg c1 ?_
        by_cases c2:IntKind.i64.wrap r11.1 > 16
        · exact Ev.pos c2 (Ev.now _)
        · exact Ev.neg c2 (Ev.pos (by rcases h with h | h | h; exact absurd h c1; exact absurd h c2; exact h) (Ev.now _))
    exact Ev.bind h1 (Ev.bind h2 (Ev.bind h3 (Ev.bind hB (Ev.now _))))
  have w0:IntKind.i64.wrap 0=0:=by decide
  rcases Z62 b 0 2 (by omega) with h | ⟨xs,rest,hx,hd⟩
  · refine .inl ⟨?_,inr17 (Zbh (p:=0) 2 2 0 rfl hb5 (by omega) h (by omega)) (Zaj (.inl (by show IntKind.i64.wrap 0≤0; rw [w0]; omega))) (Z9o _ _ _ _) (.inr (.inr rfl))⟩
    rcases cnum_tot b 0 hb5 hbb with h' | ⟨x0,t0,d0,b0,p0,h0⟩
    · exact Ev.bind h' (Ev.now _)
    · exact Ev.bind h0 (Ev.bind (cnum_no (p:=0+1) (by omega)) (Ev.now _))
  match xs,hx with
  | [x0,x1],hx =>
  have hd0:b.drop 0=x0::x1::rest:=hd
  have hd1:b.drop (0+1)=x1::rest:=Z55 hd0
  have hd2:b.drop (0+1+1)=rest:=Z55 hd1
  have hxb:=Z4q hbb hd
  have b0:=hxb.head
  have b1:=hxb.tail.head
  have h0:=cnum_ok hb5 hbb hd0
  have h1:=cnum_ok hb5 hbb hd1
  have hroom:=Z58 hd (by simp)
  have hroom:0+2+rest.length=b.length:=hroom
  have n2:=Z75 2 2 0 rfl hb5 hbb hx (by omega) (by omega) hd
  have ev:valB 0 [x0,x1]=x0.toNat * 256+x1.toNat:=by rw [valB,valB,valB]; omega
  rw [ev] at n2
  have hq:=join2 b0 b1
  have hwn:IntKind.i64.wrap ((x0.toNat * 256+x1.toNat:Nat):Int)=((x0.toNat * 256+x1.toNat:Nat):Int):=Z3t _ (by omega)
  by_cases hn:x0.toNat * 256+x1.toNat≤120
  · have hneg:¬ (bor .i64 (IntKind.wrap .i64 (x0 * 2 ^ (min (Int.toNat (8:Int)) (IntKind.bits .i64)))) x1 > 120):=by rw [hq]; omega
    rcases bops b hb5 hbb (x0,crd b (0+1)) (x1,crd b (0+1+1)) (((x0.toNat * 256+x1.toNat:Nat):Int),rr b (0+2) false 0) 0 (x0.toNat * 256+x1.toNat) hn hq hwn (x0.toNat * 256+x1.toNat) [] 0 (0+1+1) (by omega) rfl (by omega) with ⟨k1,r,k2,k3⟩ | ⟨os,rest2,o1,o2,o3,o4,k1,k2⟩
    · refine .inl ⟨Ev.bind h0 (Ev.bind h1 (Ev.neg hneg (Ev.bind k1 (Ev.now _)))), ?_⟩
      obtain ⟨ro,rB,ra,rb,rl⟩:=r
      have k3:rb=true:=k3
      subst k3
      exact inr17 n2 k2 (Z9o _ _ _ _) (.inr (.inr rfl))
    · rw [List.nil_append] at k1 k2
      rcases bnum b (0+1+1+4 * (x0.toNat * 256+x1.toNat)) 0 hb5 hbb o3 with ⟨h2,g2⟩ | ⟨x2,t2,d2,b2,p2,h2,g2⟩
      · exact .inl ⟨Ev.bind h0 (Ev.bind h1 (Ev.neg hneg (Ev.bind k1 (Ev.bind h2 (Ev.now _))))),inr17 n2 k2 g2 (.inr (.inr rfl))⟩
      have w2:IntKind.i64.wrap x2=x2:=wrapI9 b2.1 b2.2
      by_cases h16:x2 > 16
      · exact .inl ⟨Ev.bind h0 (Ev.bind h1 (Ev.neg hneg (Ev.bind k1 (Ev.bind h2 (Ev.pos h16 (Ev.now _)))))),inr17 n2 k2 g2 (.inr (.inl (by show IntKind.i64.wrap x2 > 16; rw [w2]; exact h16)))⟩
      have hB:Ev (fun N=>Z4g N b (((x0.toNat * 256+x1.toNat:Nat):Int),rr b (0+2) false 0) (os,b,((0+1+1+4 * (x0.toNat * 256+x1.toNat):Nat):Int),false,0) (x2,rr b (0+1+1+4 * (x0.toNat * 256+x1.toNat)+1) false 0)) (.inl ()):=by
        refine Ev.step ?_ (fun N=>by rw [Z4g])
        exact Ev.neg (by show ¬ (IntKind.i64.wrap ((x0.toNat * 256+x1.toNat:Nat):Int) > 120); rw [hwn]; omega) (Ev.neg (by show ¬ IntKind.i64.wrap x2 > 16; rw [w2]; exact h16) (Ev.neg Bool.false_ne_true (Ev.now _)))
      rcases bcons b hb hbb (os,b,((0+1+1+4 * (x0.toNat * 256+x1.toNat):Nat):Int)) (x2,crd b (0+1+1+4 * (x0.toNat * 256+x1.toNat)+1)) (os,b,((0+1+1+4 * (x0.toNat * 256+x1.toNat):Nat):Int),false,0) (x2,rr b (0+1+1+4 * (x0.toNat * 256+x1.toNat)+1) false 0) x2.toNat (by omega) (by show x2=_; omega) (by show IntKind.i64.wrap x2=_; rw [w2]; omega) x2.toNat [] 0 (0+1+1+4 * (x0.toNat * 256+x1.toNat)+1) (by omega) rfl p2 with ⟨j1,j2⟩ | ⟨ts,rest3,t1,t2',t3,t4,j1,j2⟩
      · exact .inl ⟨Ev.bind h0 (Ev.bind h1 (Ev.neg hneg (Ev.bind k1 (Ev.bind h2 (Ev.neg h16 (Ev.bind j1 (Ev.now _))))))),Ev.bind n2 (Ev.bind k2 (Ev.bind g2 (Ev.bind hB (Ev.bind j2 (Ev.now _)))))⟩
      · rw [List.nil_append] at j1 j2
        have hf:Fits ⟨os,ts⟩:=⟨by show os.length≤120; omega,by show ts.length≤16; omega,o2,t2',fun x hx=>(t3 x hx).1,fun x hx=>(t3 x hx).2⟩
        have hbody:b=bodyP ⟨os,ts⟩++rest3:=by
          have e0:b=x0::x1::rest:=by rw [← hd0,List.drop_zero]
          have e1:rest=opsB os++(x2::t2):=by
            rw [← hd2,o4]
            have:=Z2u o4
            rw [opsB_len,o1,d2] at this
            rw [this]
          have e2:t2=layTs ts++rest3:=by
            have:=Z55 d2
            rw [← this,t4]
          unfold bodyP headP
          show b=_
          rw [e0,e1,e2]
          have a0:(((os.length / 256:Nat):Int))=x0:=by rw [o1]; omega
          have a1:(((os.length % 256:Nat):Int))=x1:=by rw [o1]; omega
          have a2:((ts.length:Nat):Int)=x2:=by rw [t1]; omega
          show _=[((os.length / 256:Nat):Int),((os.length % 256:Nat):Int)]++opsB os++[((ts.length:Nat):Int)]++layTs ts++rest3
          rw [a0,a1,a2]
          simp
        have hlen:=bodyP_len ⟨os,ts⟩
        have hlen:(bodyP ⟨os,ts⟩).length=3+4 * os.length+(layTs ts).length:=hlen
        have hend:0+1+1+4 * (x0.toNat * 256+x1.toNat)+1+(layTs ts).length=(bodyP ⟨os,ts⟩).length:=by rw [hlen,o1]; omega
        rw [hend] at j1 j2
        refine .inr ⟨⟨os,ts⟩,rest3,hf,hbody,Ev.bind h0 (Ev.bind h1 (Ev.neg hneg (Ev.bind k1 (Ev.bind h2 (Ev.neg h16 (Ev.bind j1 (Ev.now _))))))), ?_⟩
        refine Ev.bind n2 (Ev.bind k2 (Ev.bind g2 (Ev.bind hB (Ev.bind j2 ?_))))
        by_cases c:(bodyP ⟨os,ts⟩).length=b.length
        · rw [if_pos c]
          exact Ev.neg (by show ¬ (((bodyP ⟨os,ts⟩).length:Nat):Int) ≠ ((b.length:Nat):Int); omega) (Ev.now _)
        · rw [if_neg c]
          exact Ev.pos (by show (((bodyP ⟨os,ts⟩).length:Nat):Int) ≠ ((b.length:Nat):Int); omega) (Ev.now _)
  · have hpos:bor .i64 (IntKind.wrap .i64 (x0 * 2 ^ (min (Int.toNat (8:Int)) (IntKind.bits .i64)))) x1 > 120:=by rw [hq]; omega
    have hbig:IntKind.i64.wrap ((x0.toNat * 256+x1.toNat:Nat):Int) > 120:=by rw [hwn]; omega
    refine .inl ⟨Ev.bind h0 (Ev.bind h1 (Ev.pos hpos (Ev.now _))), ?_⟩
    rcases bnum b (0+2) 0 hb5 hbb (by omega) with ⟨h2,g2⟩ | ⟨x2,t2,d2,b2,p2,h2,g2⟩
    · exact inr17 n2 (Zaj (.inr (.inl hbig))) g2 (.inl hbig)
    · exact inr17 n2 (Zaj (.inr (.inl hbig))) g2 (.inl hbig)
end Go.Proofs.Ytcknifhhgeccfaa.Sh
