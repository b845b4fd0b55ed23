import Derived.Test.YtcknifhhgeccfaaPureWireI
set_option linter.unusedVariables false
set_option linter.unusedSimpArgs false
namespace Go.Proofs.Ytcknifhhgeccfaa.Sh
open Go Lift Go.Proofs
def RRd (b:List Int) (p:Nat) (left:Int) (r:Z02 × Z06):Prop :=
  r.2.fBad=true∨∃ rest,r.2=rr b (p+(layT r.1).length) false (left - pt r.1)∧b.drop p=layT r.1++rest∧pt r.1≤left∧Small r.1∧Z0t r.1
def RTot (b:List Int) (p:Nat) (left:Int):Prop:=∃ r,Ev (fun N=>beehiveref7_Reader_Term N (rr b p false left)) r∧RRd b p left r
section
variable {r3:Int × Z06} {mag B:List Int} {a lf n bi:Int} {bd neg:Bool} {s:ByteArray}
theorem rargs_tot (b:List Int) (L:Int) (hL:L≤300) (hT:∀ (p:Nat) (left:Int),p≤b.length→0≤left→left≤L→RTot b p left):∀ (d cnt v:Nat),v+d=cnt→cnt≤255→∀ (acc:List Z02),acc.length=v→∀ (p:Nat) (left:Int),p≤b.length→0≤left→left≤L →
    ∃ q,Ev (fun N=>beehiveref7_Reader_Term_L5 N r3 (mag,B,a,bd,lf,n,neg,bi,s,(cnt:Int)) acc b (p:Int) false left (v:Int)) q∧(q.2.2.2.1=true∨∃ ts rest,q=(acc++ts,b,((p+(layTs ts).length:Nat):Int),false,left - pts ts)∧ts.length=d∧b.drop p=layTs ts++rest∧pts ts≤left∧∀ x ∈ ts,Small x∧Z0t x)
  | 0,cnt,v,hv,hn,acc,ha,p,left,hp,h0,h1=>by
    refine ⟨(acc,b,(p:Int),false,left),rL5_end (.inl (by omega)),.inr ⟨[],b.drop p, ?_,rfl,by rw [layTs]; rfl,by rw [pts]; exact h0,(fun x hx=>by cases hx)⟩⟩
    rw [List.append_nil,layTs,pts,Int.sub_zero]; rfl
  | d+1,cnt,v,hv,hn,acc,ha,p,left,hp,h0,h1=>by
    obtain ⟨r,hr,ho⟩:=hT p left hp h0 h1
    have happ:∀ x:Z02,app acc [x]=some (acc++[x]):=fun x=>app_eq (by rw [lim_eq]; show acc.length+1≤_; omega)
    rcases ho with hbad | ⟨rest,e,hd,hw,hs,hwt⟩
    · refine ⟨(acc++[r.1],r.2.fB,r.2.fAt,r.2.fBad,r.2.fLeft), ?_,.inl hbad⟩
      refine Ev.step ?_ (fun N=>by rw [beehiveref7_Reader_Term_L5])
      exact Ev.pos (by show (v:Int) < (cnt:Int); omega) (Ev.pos Bool.false_ne_true (Ev.bind hr (Ev.bindc (happ _) (rL5_end (.inr hbad)))))
    · obtain ⟨t,st⟩:=r
      simp only at e hd hw hs hwt
      subst e
      have hpos:=layT_pos t
      have hroom:=Z58 hd hpos
      have hwp:=pt_pos t
      obtain ⟨q,hq,ho⟩:=rargs_tot b L hL hT d cnt (v+1) (by omega) hn (acc++[t]) (by rw [List.length_append]; show acc.length+1=_; omega) (p+(layT t).length) (left - pt t) (by omega) (by omega) (by omega)
      refine ⟨q, ?_, ?_⟩
      · refine Ev.step ?_ (fun N=>by rw [beehiveref7_Reader_Term_L5,Z36 (by omega)])
        exact Ev.pos (by show (v:Int) < (cnt:Int); omega) (Ev.pos Bool.false_ne_true (Ev.bind hr (Ev.bindc (happ _) hq)))
      · rcases ho with hbad | ⟨ts,rest',rfl,h3,h4,h5,h6⟩
        · exact .inl hbad
        · have hd':=Z2u hd
          refine .inr ⟨t::ts,rest', ?_,by rw [List.length_cons,h3], ?_,by rw [pts]; omega, ?_⟩
          · rw [List.append_assoc,layTs,pts,List.length_append,show p+((layT t).length+(layTs ts).length)=p+(layT t).length+(layTs ts).length by omega,show left - (pt t+pts ts)=left - pt t - pts ts by omega]
            rfl
          · rw [layTs,List.append_assoc, ← h4,hd']; exact hd
          · intro x hx
            rcases List.mem_cons.1 hx with rfl | hx
            · exact ⟨hs,hwt⟩
            · exact h6 x hx
end
theorem mkR {k n:Int} {neg:Bool} {mag:List Int} {bi:Int} {s:ByteArray} {args:List Z02} (hk:0≤k∧k < 256) (hn:-9223372036854775808≤n∧n≤9223372036854775807) (hm:mag.length≤300) (hl:lim32 mag) (hb:0≤bi∧bi < 18446744073709551616) (hs:s.size≤5000) (ha:args.length≤300) (hx:∀ x ∈ args,Small x∧Z0t x) :
    Small ⟨k,n,⟨neg,mag⟩,bi,s,args⟩∧Z0t ⟨k,n,⟨neg,mag⟩,bi,s,args⟩:=by
  refine ⟨Small.mk hm hs (by show args.length≤maxLen; rw [Z5j]; omega) fun x h=>(hx x h).1, ?_⟩
  refine Z0t.mk (show InR .i64 k from inI_mk (by omega) (by omega)) (show InR .i64 n from inI_mk hn.1 hn.2) (Zbm.mk trivial ⟨by show mag.length≤maxLen; rw [Z5j]; omega,fun x h=>?_⟩) (inU8_mk hb.1 hb.2) (by show s.size≤maxLen; rw [Z5j]; omega) (by show args.length≤maxLen; rw [Z5j]; omega) fun x h=>(hx x h).2
  have:=hl x h
  show (Lit.int .u32 x).wf=true
  simp [Lit.wf,IntKind.min,IntKind.max,IntKind.bits,IntKind.signed]
  omega
theorem pt_eq (k n:Int) (m:Z0m) (bi:Int) (s:ByteArray) (args:List Z02):pt ⟨k,n,m,bi,s,args⟩=1+pts args:=by rw [pt]
theorem pts_nil:pts []=0:=by rw [pts]
theorem rtot_of {b:List Int} {p:Nat} {left k:Int} {rest:List Int} (hb:b.length≤500000) (hbb:bytesL b) (h1:1≤left) (h2:left≤300) (hd:b.drop p=k::rest) {mag B:List Int} {a lf n bi cnt:Int} {bd neg:Bool} {s:ByteArray} {q:(List Z02) × (List Int) × Int × Bool × Int}
    (h:Ev (fun N=>beehiveref7_Reader_Term_B1 N (k,rr b (p+1) false (left - 1))) (.inl (mag,B,a,bd,lf,n,neg,bi,s,cnt):RB))
    (hL:Ev (fun N=>beehiveref7_Reader_Term_L5 N (k,rr b (p+1) false (left - 1)) (mag,B,a,bd,lf,n,neg,bi,s,cnt) [] B a bd lf 0) q)
    (hv:q.2.2.2.1=true∨∃ (args:List Z02) (xs rest':List Int) (c:Int),q=(args,b,((p+1+xs.length:Nat):Int),false,left - 1 - c)∧rest=xs++rest'∧layT ⟨k,n,⟨neg,mag⟩,bi,s,args⟩=k::xs∧pts args=c∧c≤left - 1∧Small ⟨k,n,⟨neg,mag⟩,bi,s,args⟩∧Z0t ⟨k,n,⟨neg,mag⟩,bi,s,args⟩):RTot b p left:=by
  have ht:=Zeu hb hbb h1 (by omega) hd h hL
  rcases hv with hbad | ⟨args,xs,rest',c,rfl,e1,e2,e3,e4,e5,e6⟩
  · exact ⟨_,ht,.inl hbad⟩
  · refine ⟨_,ht,.inr ⟨rest', ?_, ?_, ?_,e5,e6⟩⟩
    · show (⟨b,((p+1+xs.length:Nat):Int),false,left - 1 - c⟩:Z06)=_
      rw [pt_eq,e2,e3,List.length_cons,show p+(xs.length+1)=p+1+xs.length by omega,show left - (1+c)=left - 1 - c by omega]
    · show b.drop p=layT ⟨k,n,⟨neg,mag⟩,bi,s,args⟩++rest'
      rw [hd,e2,e1]; rfl
    · show pt ⟨k,n,⟨neg,mag⟩,bi,s,args⟩≤left
      rw [pt_eq,e3]; omega
theorem rleaf {b:List Int} {p:Nat} {left k:Int} {rest:List Int} (hb:b.length≤500000) (hbb:bytesL b) (h1:1≤left) (h2:left≤300) (hd:b.drop p=k::rest) {mag B:List Int} {a lf n bi:Int} {bd neg:Bool} {s:ByteArray}
    (h:Ev (fun N=>beehiveref7_Reader_Term_B1 N (k,rr b (p+1) false (left - 1))) (.inl (mag,B,a,bd,lf,n,neg,bi,s,0):RB))
    (hv:bd=true∨∃ (xs rest':List Int),bd=false∧B=b∧a=((p+1+xs.length:Nat):Int)∧lf=left - 1∧rest=xs++rest'∧layT ⟨k,n,⟨neg,mag⟩,bi,s,[]⟩=k::xs∧Small ⟨k,n,⟨neg,mag⟩,bi,s,[]⟩∧Z0t ⟨k,n,⟨neg,mag⟩,bi,s,[]⟩):RTot b p left:=by
  refine rtot_of hb hbb h1 h2 hd h (rL5_end (.inl (Int.le_refl 0))) ?_
  rcases hv with hv | ⟨xs,rest',rfl,rfl,rfl,rfl,e1,e2,e3,e4⟩
  · exact .inl hv
  · exact .inr ⟨[],xs,rest',0,by rw [Int.sub_zero],e1,e2,pts_nil,by omega,e3,e4⟩
theorem rterm_tot (b:List Int) (hb:b.length≤5000) (hbb:bytesL b):∀ (L:Nat),L≤300→∀ (p:Nat) (left:Int),p≤b.length→0≤left→left≤L→RTot b p left
  | L,hL,p,left,hp,h0,h1=>by
    have hb5:b.length≤500000:=by omega
    by_cases hz:left=0∨b.length < p+1
    · obtain ⟨r,hr,hbad⟩:=rterm_out hb5 hp h0 (by omega) hz
      exact ⟨r,hr,.inl hbad⟩
    match L,hL,h1 with
    | 0,hL,h1=>omega
    | L+1,hL,h1 =>
    rcases Z62 b p 1 hp with h | ⟨ks,rest,hx,hd⟩
    · omega
    match ks,hx with
    | [k],hx =>
    have hk:=(Z4q hbb hd).head
    have hd:b.drop p=k::rest:=hd
    have hd1:b.drop (p+1)=rest:=Z2u (xs:=[k]) hd
    have hp1:p+1≤b.length:=by omega
    have leaf:=fun {mag B:List Int} {a lf n bi:Int} {bd neg:Bool} {s:ByteArray}=>rleaf (mag:=mag) (B:=B) (a:=a) (lf:=lf) (n:=n) (bi:=bi) (bd:=bd) (neg:=neg) (s:=s) hb5 hbb (show 1≤left by omega) (show left≤300 by omega) hd
    have fin:=fun {mag B:List Int} {a lf n bi cnt:Int} {bd neg:Bool} {s:ByteArray} {q:(List Z02) × (List Int) × Int × Bool × Int}=>rtot_of (mag:=mag) (B:=B) (a:=a) (lf:=lf) (n:=n) (bi:=bi) (cnt:=cnt) (bd:=bd) (neg:=neg) (s:=s) (q:=q) hb5 hbb (show 1≤left by omega) (show left≤300 by omega) hd
    have ih:=fun (q:Nat) (l:Int)=>rterm_tot b hb hbb L (by omega) q l
    have wk:IntKind.u8.wrap k=k:=by rw [Zg7]; omega
    by_cases hno:¬ (1≤k∧k≤9)∨k=7
    · refine leaf (rbody_no hk.1 hk.2 hno) (.inr ⟨[],rest,rfl,rfl,rfl,rfl,rfl, ?_,mkR hk (by omega) (by simp) no32 (by omega) (by show 0≤5000; omega) (by simp) noArgs⟩)
      rw [Z7j]
      show IntKind.u8.wrap k::(headB ⟨k,0,⟨false,[]⟩,0,ByteArray.mk #[],[]⟩++if k=6∨k=8 then layTs [] else [])=_
      unfold headB
      rw [wk,if_neg (show ¬ k=1 by omega),if_neg (show ¬ k=2 by omega),if_neg (show ¬ k=3 by omega),if_neg (show ¬ (k=4∨k=5) by omega),if_neg (show ¬ k=6 by omega),if_neg (show ¬ k=9 by omega)]
      split
      · rw [layTs]; rfl
      · rfl
    · have k1:k=1∨k=2∨k=3∨(k=4∨k=5)∨k=6∨k=8∨k=9:=by omega
      rcases k1 with rfl | rfl | rfl | k45 | rfl | rfl | rfl
      · rcases Z62 b (p+1) 8 hp1 with h | ⟨xs,rest',hx,hd2⟩
        · exact leaf (rbody1 (Zbh 8 8 (left - 1) rfl hb5 hp1 h (by omega))) (.inl rfl)
        · have hn:=Z75 8 8 (left - 1) rfl hb5 hbb hx (by omega) (by omega) hd2
          have hxb:=Z4q hbb hd2
          have hlt:=val8_lt hxb hx
          refine leaf (rbody1 hn) (.inr ⟨xs,rest',rfl,rfl,by rw [hx],rfl,by rw [← hd1,hd2], ?_,mkR ⟨by omega,by omega⟩ (Zcn _) (by simp) no32 (by omega) (by show 0≤5000; omega) (by simp) noArgs⟩)
          rw [Z7j]
          show IntKind.u8.wrap 1::(beB (u64n (IntKind.i64.wrap ((valB 0 xs:Nat):Int))) 8++[])=_
          rw [List.append_nil,u64n_wrap hlt]
          have:=Zb1 xs 0 hxb
          rw [hx] at this
          rw [this]; rfl
      · rcases Z62 b (p+1) 1 hp1 with h | ⟨ss,r1,hx1,hd2⟩
        · exact leaf (rbody2_no (Zbh 1 1 (left - 1) rfl hb5 hp1 h (by omega))) (.inl rfl)
        match ss,hx1 with
        | [sg],hx1 =>
        have hsg:=(Z4q hbb hd2).head
        have n1:=Z75 (xs:=[sg]) 1 1 (left - 1) rfl hb5 hbb rfl (by omega) (by omega) hd2
        rw [Z5h,Int.toNat_of_nonneg hsg.1] at n1
        have hp2:p+1+1≤b.length:=by have:=Z58 hd2 (by simp); simp at this; omega
        have hd2':b.drop (p+1+1)=r1:=Z2u hd2
        by_cases hbig:sg > 1
        · have n2:=Z9o b ((p+1+1:Nat):Int) (left - 1) 1
          rw [show true=decide (sg > 1) from (decide_eq_true hbig).symm] at n2
          refine leaf (rbody2 n1 rfl n2 (Ev.step (Ev.neg (by show ¬ ((0:Int) < IntKind.i64.wrap 0); decide) (Ev.now _)) (fun N=>by rw [beehiveref7_Reader_Term_L4]))) (.inl (decide_eq_true hbig))
        rcases Z62 b (p+1+1) 1 hp2 with h | ⟨cs,r2,hx2,hd3⟩
        · have n2:=Zbh 1 1 (left - 1) rfl hb5 hp2 h (by omega)
          rw [show rr b (p+1+1) false (left - 1)=⟨b,((p+1+1:Nat):Int),decide (sg > 1),left - 1⟩ by rw [decide_eq_false hbig]] at n2
          exact leaf (rbody2 n1 rfl n2 (Ev.step (Ev.neg (by show ¬ ((0:Int) < IntKind.i64.wrap 0); decide) (Ev.now _)) (fun N=>by rw [beehiveref7_Reader_Term_L4]))) (.inl rfl)
        match cs,hx2 with
        | [c],hx2 =>
        have hc:=(Z4q hbb hd3).head
        have n2:=Z75 (xs:=[c]) 1 1 (left - 1) rfl hb5 hbb rfl (by omega) (by omega) hd3
        rw [Z5h,Int.toNat_of_nonneg hc.1,show rr b (p+1+1) false (left - 1)=⟨b,((p+1+1:Nat):Int),decide (sg > 1),left - 1⟩ by rw [decide_eq_false hbig]] at n2
        have hp3:p+1+1+1≤b.length:=by have:=Z58 hd3 (by simp); simp at this; omega
        have hd3':b.drop (p+1+1+1)=r2:=Z2u hd3
        obtain ⟨cn,rfl⟩:∃ cn:Nat,c=(cn:Int):=⟨c.toNat,by omega⟩
        rcases rlimbs b hb5 hbb (2,rr b (p+1) false (left - 1)) (sg,rr b (p+1+1) false (left - 1)) (((cn:Nat):Int),rr b (p+1+1+1) false (left - 1)) cn (by omega) rfl (left - 1) cn [] 0 (p+1+1+1) (by omega) rfl hp3 with ⟨r,hr,hbad,_⟩ | ⟨ts,r3,hr,l1,l2,l3⟩
        · exact leaf (rbody2 n1 rfl n2 hr) (.inl hbad)
        · rw [List.nil_append] at hr
          refine leaf (rbody2 n1 rfl n2 hr) (.inr ⟨sg::((cn:Nat):Int)::magB ts,r3,rfl,rfl, ?_,rfl, ?_, ?_,mkR ⟨by omega,by omega⟩ (by omega) (by show ts.length≤300; omega) l2 (by omega) (by show 0≤5000; omega) (by simp) noArgs⟩)
          · rw [List.length_cons,List.length_cons,Zdp,l1,show p+1+(4 * cn+1+1)=p+1+1+1+4 * cn by omega]
          · rw [← hd1,hd2, ← hd2',hd3, ← hd3',l3]; rfl
          · rw [Z7j]
            show IntKind.u8.wrap 2::(((if (sg == 1)=true then (1:Int) else 0)::IntKind.u8.wrap (ts.length:Int)::magB ts)++[])=_
            rw [List.append_nil,l1,Zg7,Zg7]
            have e1:(if (sg == 1)=true then (1:Int) else 0)=sg:=by
              have:sg=0∨sg=1:=by omega
              rcases this with rfl | rfl <;> rfl
            rw [e1,show ((cn:Nat):Int) % 256=(cn:Int) by omega]
            rfl
      · rcases Z62 b (p+1) 8 hp1 with h | ⟨xs,rest',hx,hd2⟩
        · exact leaf (rbody3 (Zbh 8 8 (left - 1) rfl hb5 hp1 h (by omega))) (.inl rfl)
        · have hn:=Z75 8 8 (left - 1) rfl hb5 hbb hx (by omega) (by omega) hd2
          have hxb:=Z4q hbb hd2
          have hlt:=val8_lt hxb hx
          refine leaf (rbody3 hn) (.inr ⟨xs,rest',rfl,rfl,by rw [hx],rfl,by rw [← hd1,hd2], ?_,mkR ⟨by omega,by omega⟩ (by omega) (by simp) no32 (by omega) (by show 0≤5000; omega) (by simp) noArgs⟩)
          rw [Z7j]
          show IntKind.u8.wrap 3::(beB (u64n ((valB 0 xs:Nat):Int)) 8++[])=_
          rw [List.append_nil,u64n_nat hlt]
          have:=Zb1 xs 0 hxb
          rw [hx] at this
          rw [this]; rfl
      · rcases Z62 b (p+1) 1 hp1 with h | ⟨xs,rest',hx,hd2⟩
        · exact leaf (rbody45 k45 (Zbh 1 1 (left - 1) rfl hb5 hp1 h (by omega))) (.inl rfl)
        match xs,hx with
        | [x],hx =>
        have hxb:=(Z4q hbb hd2).head
        have hn:=Z75 (xs:=[x]) 1 1 (left - 1) rfl hb5 hbb rfl (by omega) (by omega) hd2
        rw [Z5h,Int.toNat_of_nonneg hxb.1] at hn
        refine leaf (rbody45 k45 hn) (.inr ⟨[x],rest',rfl,rfl,rfl,rfl,by rw [← hd1,hd2], ?_,mkR hk (Zcn _) (by simp) no32 (by omega) (by show 0≤5000; omega) (by simp) noArgs⟩)
        rw [Z7j,Zg6 x (by omega) (by omega)]
        have ew:IntKind.u8.wrap x=x:=by rw [Zg7]; omega
        rcases k45 with rfl | rfl
        · show IntKind.u8.wrap 4::([IntKind.u8.wrap x]++[])=_
          rw [ew]; rfl
        · show IntKind.u8.wrap 5::([IntKind.u8.wrap x]++[])=_
          rw [ew]; rfl
      · rcases Z62 b (p+1) 1 hp1 with h | ⟨xs,rest',hx,hd2⟩
        · exact leaf (n:=0) (rbody6 (Zbh 1 1 (left - 1) rfl hb5 hp1 h (by omega))) (.inl rfl)
        match xs,hx with
        | [x],hx =>
        have hxb:=(Z4q hbb hd2).head
        have hn:=Z75 (xs:=[x]) 1 1 (left - 1) rfl hb5 hbb rfl (by omega) (by omega) hd2
        rw [Z5h,Int.toNat_of_nonneg hxb.1] at hn
        have hp2:p+1+1≤b.length:=by have:=Z58 hd2 (by simp); simp at this; omega
        have hd2':b.drop (p+1+1)=rest':=Z2u hd2
        obtain ⟨xn,rfl⟩:∃ xn:Nat,x=(xn:Int):=⟨x.toNat,by omega⟩
        have h6:=rbody6 hn
        simp only [Z3t xn (by omega)] at h6
        obtain ⟨q,hq,ho⟩:=rargs_tot (r3:=(6,rr b (p+1) false (left - 1))) (mag:=[]) (B:=b) (a:=((p+1+1:Nat):Int)) (lf:=left - 1) (n:=0) (bi:=0) (bd:=false) (neg:=false) (s:=ByteArray.mk #[]) b L (by omega) (fun q l a1 a2 a3=>ih q l a1 a2 a3) xn xn 0 (by omega) (by omega) [] rfl (p+1+1) (left - 1) hp2 (by omega) (by omega)
        refine fin h6 hq ?_
        rcases ho with hbad | ⟨ts,r3,rfl,l1,l2,l3,l4⟩
        · exact .inl hbad
        · refine .inr ⟨ts,((xn:Nat):Int)::layTs ts,r3,pts ts, ?_, ?_, ?_,rfl,l3,mkR ⟨by omega,by omega⟩ (by omega) (by simp) no32 (by omega) (by show 0≤5000; omega) (by omega) l4⟩
          · rw [List.length_cons,show p+1+((layTs ts).length+1)=p+1+1+(layTs ts).length by omega]; rfl
          · rw [← hd1,hd2, ← hd2',l2]; rfl
          · rw [Z7j]
            show IntKind.u8.wrap 6::([IntKind.u8.wrap (ts.length:Int)]++layTs ts)=_
            rw [l1,Zg7,Zg7,show ((xn:Nat):Int) % 256=(xn:Int) by omega]; rfl
      · obtain ⟨q,hq,ho⟩:=rargs_tot (r3:=(8,rr b (p+1) false (left - 1))) (mag:=[]) (B:=b) (a:=((p+1:Nat):Int)) (lf:=left - 1) (n:=0) (bi:=0) (bd:=false) (neg:=false) (s:=ByteArray.mk #[]) b L (by omega) (fun q l a1 a2 a3=>ih q l a1 a2 a3) 2 2 0 (by omega) (by omega) [] rfl (p+1) (left - 1) hp1 (by omega) (by omega)
        refine fin rbody8 hq ?_
        rcases ho with hbad | ⟨ts,r3,rfl,l1,l2,l3,l4⟩
        · exact .inl hbad
        · refine .inr ⟨ts,layTs ts,r3,pts ts,rfl, ?_,by rw [Z7j]; rfl,rfl,l3,mkR ⟨by omega,by omega⟩ (by omega) (by simp) no32 (by omega) (by show 0≤5000; omega) (by omega) l4⟩
          rw [← hd1,l2]
      · rcases Z62 b (p+1) 2 hp1 with h | ⟨xs,rest',hx,hd2⟩
        · have h9:=rbody9 (Ev.bind (Zbh 2 2 (left - 1) rfl hb5 hp1 h (by omega)) (Ev.pos rfl (Ev.now _)))
          exact ⟨_,rterm_inr hb5 hbb (by omega) (by omega) hd h9,.inl rfl⟩
        have hn:=Z75 2 2 (left - 1) rfl hb5 hbb hx (by omega) (by omega) hd2
        have hxb:=Z4q hbb hd2
        have hlt:valB 0 xs < 65536:=by
          have:=valB_lt xs 0 1 hxb (by omega)
          rw [hx] at this
          exact this
        have hroom:=Z58 hd2 (by omega)
        have hd2':b.drop (p+1+2)=rest':=by have:=Z2u hd2; rwa [hx] at this
        have hw1:IntKind.i64.wrap ((valB 0 xs:Nat):Int)=((valB 0 xs:Nat):Int):=Z3t _ (by omega)
        have hw2:IntKind.i64.wrap (((b.length:Nat):Int) - ((p+1+2:Nat):Int))=((b.length:Nat):Int) - ((p+1+2:Nat):Int):=Zg6 _ (by omega) (by omega)
        have hw3:IntKind.i64.wrap (((p+1+2:Nat):Int)+((valB 0 xs:Nat):Int))=((p+1+2+valB 0 xs:Nat):Int):=by rw [Zg6 _ (by omega) (by omega)]; omega
        by_cases hlong:((valB 0 xs:Nat):Int) > ((b.length:Nat):Int) - ((p+1+2:Nat):Int)
        · have h9:Ev (fun N=>beehiveref7_Reader_Term_B1 N (9,rr b (p+1) false (left - 1))) (.inr (b,((p+1+2:Nat):Int),left - 1):RB):=by
            refine rbody9 (Ev.bind hn (Ev.neg Bool.false_ne_true (Ev.pos ?_ (Ev.now _))))
            show IntKind.i64.wrap ((valB 0 xs:Nat):Int) > IntKind.i64.wrap (((b.length:Nat):Int) - ((p+1+2:Nat):Int))
            rw [hw1,hw2]; exact hlong
          exact ⟨_,rterm_inr hb5 hbb (by omega) (by omega) hd h9,.inl rfl⟩
        · have hlen2:(rest'.take (valB 0 xs)).length=valB 0 xs:=by
            have:=congrArg List.length hd2'
            rw [List.length_drop] at this
            rw [List.length_take]; omega
          have hb2:bytesL (rest'.take (valB 0 xs)):=fun x hx=>hbb x (List.mem_of_mem_drop (i:=p+1+2) (by rw [hd2']; exact List.mem_of_mem_take hx))
          have h9:Ev (fun N=>beehiveref7_Reader_Term_B1 N (9,rr b (p+1) false (left - 1))) (.inl ([],b,((p+1+2+valB 0 xs:Nat):Int),false,left - 1,0,false,0,bstr (rest'.take (valB 0 xs)),0):RB):=by
            refine rbody9 (Ev.bind hn (Ev.neg Bool.false_ne_true (Ev.neg ?_ ?_)))
            · show ¬ IntKind.i64.wrap ((valB 0 xs:Nat):Int) > IntKind.i64.wrap (((b.length:Nat):Int) - ((p+1+2:Nat):Int))
              rw [hw1,hw2]; exact hlong
            · show Ev (fun N=>(Lift.cut b ((p+1+2:Nat):Int) (IntKind.wrap .i64 (((p+1+2:Nat):Int)+(IntKind.wrap .i64 ((valB 0 xs:Nat):Int))))).bind fun x34=>some (.inl (([]:List Int),b,IntKind.wrap .i64 (((p+1+2:Nat):Int)+(IntKind.wrap .i64 ((valB 0 xs:Nat):Int))),false,left - 1,(0:Int),false,(0:Int),(Lift.bstr x34),(0:Int)):RB)) _
              rw [hw1,hw3]
              refine Ev.bindc (cut_eq (by omega) (by omega) (by omega)) ?_
              rw [Int.toNat_natCast,Int.toNat_natCast,hd2',show p+1+2+valB 0 xs - (p+1+2)=valB 0 xs by omega]
              exact Ev.now _
          refine leaf h9 (.inr ⟨xs++rest'.take (valB 0 xs),rest'.drop (valB 0 xs),rfl,rfl, ?_,rfl, ?_, ?_,mkR ⟨by omega,by omega⟩ (by omega) (by simp) no32 (by omega) (by rw [bstr_len,hlen2]; omega) (by simp) noArgs⟩)
          · rw [List.length_append,hx,hlen2,show p+1+(2+valB 0 xs)=p+1+2+valB 0 xs by omega]
          · rw [← hd1,hd2,List.append_assoc,List.take_append_drop]
          · rw [Z7j]
            show IntKind.u8.wrap 9::((beB (u64n ((bstr (rest'.take (valB 0 xs))).size:Int)) 2++sbytes (bstr (rest'.take (valB 0 xs))))++[])=_
            rw [List.append_nil,bstr_len,hlen2,Zco hb2,Zc0 (by omega) (by omega),Int.toNat_natCast]
            have:=Zb1 xs 0 hxb
            rw [hx] at this
            rw [this]; rfl
end Go.Proofs.Ytcknifhhgeccfaa.Sh
