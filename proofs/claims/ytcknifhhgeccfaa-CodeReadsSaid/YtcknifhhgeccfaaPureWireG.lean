import Derived.Test.YtcknifhhgeccfaaPureWireF
set_option linter.unusedVariables false
set_option linter.unusedSimpArgs false
namespace Go.Proofs.Ytcknifhhgeccfaa.Sh
open Go Lift Go.Proofs
def Rd (b:List Int) (p:Nat) (left:Int) (r:Option (Z02 × Z0a)):Prop :=
  r=none∨∃ t rest,r=some (t,rdr b (p+(layT t).length) (left - wt t))∧b.drop p=layT t++rest∧wt t≤left∧Small t∧Z0t t
def Tot (b:List Int) (p:Nat) (left:Int):Prop:=∃ r,Ev (fun N=>wire_reader_term N (rdr b p left)) r∧Rd b p left r
theorem layT_pos (t:Z02):0 < (layT t).length:=by rw [Z7j,List.length_cons]; omega
theorem args_tot (b:List Int) (L:Int) (hL:L≤300) (hT:∀ (p:Nat) (left:Int),p≤b.length→0≤left→left≤L→Tot b p left):∀ (d n v:Nat),v+d=n→n≤8→∀ (acc:List Z02),acc.length=v→∀ (p:Nat) (left:Int),p≤b.length→0≤left→left≤L →
    ∃ r,Ev (fun N=>wire_reader_args_L0 N (n:Int) acc b (p:Int) left (v:Int)) r∧(r=.inl ()∨∃ ts rest,r=.inr (acc++ts,b,((p+(layTs ts).length:Nat):Int),left - wts ts)∧ts.length=d∧b.drop p=layTs ts++rest∧wts ts≤left∧∀ x ∈ ts,Small x∧Z0t x)
  | 0,n,v,hv,hn,acc,ha,p,left,hp,h0,h1=>by
    refine ⟨.inr (acc,b,(p:Int),left), ?_,.inr ⟨[],b.drop p, ?_,rfl,by rw [layTs]; rfl,by rw [wts]; exact h0,(fun x hx=>by cases hx)⟩⟩
    · refine Ev.step ?_ (fun N=>by rw [wire_reader_args_L0])
      exact Ev.neg (by omega) (Ev.now _)
    · rw [List.append_nil,layTs,wts,Int.sub_zero]; rfl
  | d+1,n,v,hv,hn,acc,ha,p,left,hp,h0,h1=>by
    obtain ⟨r,hr,ho⟩:=hT p left hp h0 h1
    rcases ho with rfl | ⟨t,rest,rfl,hd,hw,hs,hwt⟩
    · refine ⟨.inl (), ?_,.inl rfl⟩
      refine Ev.step ?_ (fun N=>by rw [wire_reader_args_L0])
      exact Ev.pos (by omega) (Ev.bind hr (Ev.now _))
    · have hpos:=layT_pos t
      have hroom:=Z58 hd hpos
      have hwp:=wt_pos t
      obtain ⟨r,hr',ho⟩:=args_tot b L hL hT d n (v+1) (by omega) hn (acc++[t]) (by rw [List.length_append]; show acc.length+1=_; omega) (p+(layT t).length) (left - wt t) (by omega) (by omega) (by omega)
      refine ⟨r, ?_, ?_⟩
      · refine Ev.step ?_ (fun N=>by rw [wire_reader_args_L0,Z36 (by omega)])
        exact Ev.pos (by omega) (Ev.bind hr (Ev.bindc (app_eq (by rw [lim_eq]; show acc.length+1≤_; omega)) hr'))
      · rcases ho with rfl | ⟨ts,rest',rfl,h3,h4,h5,h6⟩
        · exact .inl rfl
        · have hd':=Z2u hd
          refine .inr ⟨t::ts,rest', ?_,by rw [List.length_cons,h3], ?_,by rw [wts]; omega, ?_⟩
          · rw [List.append_assoc,layTs,wts,List.length_append,show p+((layT t).length+(layTs ts).length)=p+(layT t).length+(layTs ts).length by omega,show left - (wt t+wts ts)=left - wt t - wts ts by omega]
            rfl
          · rw [layTs,List.append_assoc, ← h4,hd']; exact hd
          · intro x hx
            rcases List.mem_cons.1 hx with rfl | hx
            · exact ⟨hs,hwt⟩
            · exact h6 x hx
theorem inU8_mk {z:Int} (h0:0≤z) (h1:z < 18446744073709551616):InR .u64 z:=by
  show (Lit.int .u64 z).wf=true
  simp [Lit.wf,IntKind.min,IntKind.max,IntKind.bits,IntKind.signed]
  omega
theorem mkW {k n:Int} {neg:Bool} {mag:List Int} {bi:Int} {s:ByteArray} {args:List Z02} (hk:0≤k∧k < 256) (hn:-9223372036854775808≤n∧n≤9223372036854775807) (hm:mag.length≤8) (hl:lim32 mag) (hb:0≤bi∧bi < 18446744073709551616) (hs:s.size≤5000) (ha:args.length≤8) (hx:∀ x ∈ args,Small x∧Z0t x) :
    Small ⟨k,n,⟨neg,mag⟩,bi,s,args⟩∧Z0t ⟨k,n,⟨neg,mag⟩,bi,s,args⟩:=by
  refine ⟨Small.mk (by show mag.length≤300; omega) hs (by show args.length≤maxLen; rw [Z5j]; omega) fun x h=>(hx x h).1, ?_⟩
  refine Z0t.mk (show InR .i64 k from inI_mk (by omega) (by omega)) (show InR .i64 n from inI_mk hn.1 hn.2) (Zbm.mk trivial ⟨by show mag.length≤maxLen; rw [Z5j]; omega,fun x h=>?_⟩) (inU8_mk hb.1 hb.2) (by show s.size≤maxLen; rw [Z5j]; omega) (by show args.length≤maxLen; rw [Z5j]; omega) fun x h=>(hx x h).2
  have:=hl x h
  show (Lit.int .u32 x).wf=true
  simp [Lit.wf,IntKind.min,IntKind.max,IntKind.bits,IntKind.signed]
  omega
theorem noArgs:∀ x ∈ ([]:List Z02),Small x∧Z0t x:=fun x h=>by cases h
theorem no32:lim32 []:=fun x h=>by cases h
theorem tot_of {b:List Int} {p:Nat} {left k:Int} {rest:List Int} (hb:b.length≤500000) (hbb:bytesL b) (h1:1≤left) (h2:left≤300) (hd:b.drop p=k::rest) {v:Bod} (h:Ev (fun N=>wire_reader_term_B0 N (k,rdr b (p+1) (left - 1))) v)
    (hv:v=.inl ()∨∃ (n:Int) (neg:Bool) (mag:List Int) (bi:Int) (s:ByteArray) (args:List Z02) (xs rest':List Int) (c:Int),v=.inr (n,neg,mag,bi,s,args,b,((p+1+xs.length:Nat):Int),left - 1 - c)∧rest=xs++rest'∧layT ⟨k,n,⟨neg,mag⟩,bi,s,args⟩=k::xs∧wt ⟨k,n,⟨neg,mag⟩,bi,s,args⟩=1+c∧c≤left - 1∧Small ⟨k,n,⟨neg,mag⟩,bi,s,args⟩∧Z0t ⟨k,n,⟨neg,mag⟩,bi,s,args⟩):Tot b p left:=by
  have ht:=Z8u hb hbb h1 (by omega) hd h
  rcases hv with rfl | ⟨n,neg,mag,bi,s,args,xs,rest',c,rfl,e1,e2,e3,e4,e5,e6⟩
  · exact ⟨none,ht,.inl rfl⟩
  · refine ⟨_,ht,.inr ⟨⟨k,n,⟨neg,mag⟩,bi,s,args⟩,rest', ?_, ?_,by omega,e5,e6⟩⟩
    · rw [e2,e3,List.length_cons,show p+(xs.length+1)=p+1+xs.length by omega,show left - (1+c)=left - 1 - c by omega]
    · rw [hd,e2,e1]; rfl
theorem Z4q {b xs rest:List Int} {p:Nat} (hbb:bytesL b) (h:b.drop p=xs++rest):bytesL xs:=fun x hx=>hbb x (List.mem_of_mem_drop (i:=p) (by rw [h]; exact List.mem_append_left _ hx))
theorem val8_lt {xs:List Int} (hb:bytesL xs) (hl:xs.length=8):valB 0 xs < 18446744073709551616:=by
  have:=valB_lt xs 0 1 hb (by omega)
  rw [hl,show 1 * 256 ^ 8=18446744073709551616 by decide] at this
  exact this
theorem u64n_wrap {V:Nat} (h:V < 18446744073709551616):u64n (IntKind.i64.wrap (V:Int))=V:=by rw [wrapI_eq]; unfold u64n; omega
theorem u64n_nat {V:Nat} (h:V < 18446744073709551616):u64n (V:Int)=V:=by rw [Zc0 (by omega) (by omega)]; omega
theorem Zcn (x:Int):-9223372036854775808≤IntKind.i64.wrap x∧IntKind.i64.wrap x≤9223372036854775807:=by rw [wrapI_eq]; omega
theorem term_tot (b:List Int) (hb:b.length≤500000) (hbb:bytesL b):∀ (L:Nat),L≤300→∀ (p:Nat) (left:Int),p≤b.length→0≤left→left≤L→Tot b p left
  | L,hL,p,left,hp,h0,h1=>by
    by_cases hz:left=0
    · refine ⟨none, ?_,.inl rfl⟩
      refine Ev.step ?_ (fun N=>by rw [wire_reader_term])
      exact Ev.bind (weighs_no b (p:Int) left 1 (by omega) h0 (by omega)) (Ev.now _)
    match L,hL,h1 with
    | 0,hL,h1=>omega
    | L+1,hL,h1 =>
    rcases Z62 b p 1 hp with h | ⟨ks,rest,hx,hd⟩
    · refine ⟨none, ?_,.inl rfl⟩
      refine Ev.step ?_ (fun N=>by rw [wire_reader_term])
      exact Ev.bind (Zc9 b (p:Int) left 1 (by omega) (by omega) (by omega)) (Ev.bind (num_no 1 1 (left - 1) rfl hb hp h) (Ev.now _))
    match ks,hx with
    | [k],hx =>
    have hk:=(Z4q hbb hd).head
    have hd:b.drop p=k::rest:=hd
    have hd1:b.drop (p+1)=rest:=Z2u (xs:=[k]) hd
    have hp1:p+1≤b.length:=by have:=Z58 (xs:=[k]) hd (by simp); simp at this; omega
    have fin:=fun {v:Bod}=>tot_of (v:=v) hb hbb (show 1≤left by omega) (show left≤300 by omega) hd
    have ih:=fun (q:Nat) (l:Int)=>term_tot b hb hbb L (by omega) q l
    by_cases hkk:1≤k∧k≤9
    · have k1:k=1∨k=2∨k=3∨(k=4∨k=5)∨k=6∨k=7∨k=8∨k=9:=by omega
      rcases k1 with rfl | rfl | rfl | k45 | rfl | rfl | rfl | rfl
      · rcases Z62 b (p+1) 8 hp1 with h | ⟨xs,rest',hx,hd2⟩
        · exact fin (body1 (num_no 8 8 (left - 1) rfl hb hp1 h)) (.inl rfl)
        · have hn:=num_ok 8 8 (left - 1) rfl hb hbb hx (by omega) (by omega) hd2
          have hxb:=Z4q hbb hd2
          have hlt:=val8_lt hxb hx
          refine fin (body1 hn) (.inr ⟨IntKind.i64.wrap ((valB 0 xs:Nat):Int),false,[],0,ByteArray.mk #[],[],xs,rest',0, ?_, ?_, ?_,by rw [wt_eq]; rfl,by omega,mkW ⟨by omega,by omega⟩ (Zcn _) (by simp) no32 (by omega) (by show 0≤5000; omega) (by simp) noArgs⟩)
          · rw [hx,Int.sub_zero]
          · rw [← hd1,hd2]
          · rw [Z7j]
            show IntKind.u8.wrap 1::(beB (u64n (IntKind.i64.wrap ((valB 0 xs:Nat):Int))) 8++[])=_
            rw [List.append_nil,u64n_wrap hlt]
            have:=Zb1 xs 0 hxb
            rw [hx] at this
            rw [this]; rfl
      · rcases Z62 b (p+1) 1 hp1 with h | ⟨ss,r1,hx1,hd2⟩
        · have hbig:Ev (fun N=>Z42 N (rdr b (p+1) (left - 1))) none:=Ev.bind (num_no 1 1 (left - 1) rfl hb hp1 h) (Ev.now _)
          exact fin (body2 hbig) (.inl rfl)
        match ss,hx1 with
        | [sg],hx1 =>
        have hsg:=(Z4q hbb hd2).head
        have n1:=num_ok (xs:=[sg]) 1 1 (left - 1) rfl hb hbb rfl (by omega) (by omega) hd2
        rw [Z5h,Int.toNat_of_nonneg hsg.1] at n1
        have hp2:p+1+1≤b.length:=by have:=Z58 hd2 (by simp); simp at this; omega
        have hd2':=Z2u hd2
        have hd2':b.drop (p+1+1)=r1:=hd2'
        rcases Z62 b (p+1+1) 1 hp2 with h | ⟨cs,r2,hx2,hd3⟩
        · have hbig:Ev (fun N=>Z42 N (rdr b (p+1) (left - 1))) none:=Ev.bind n1 (Ev.bind (num_no 1 1 (left - 1) rfl hb hp2 h) (Ev.now _))
          exact fin (body2 hbig) (.inl rfl)
        match cs,hx2 with
        | [c],hx2 =>
        have hc:=(Z4q hbb hd3).head
        have n2:=num_ok (xs:=[c]) 1 1 (left - 1) rfl hb hbb rfl (by omega) (by omega) hd3
        rw [Z5h,Int.toNat_of_nonneg hc.1] at n2
        have hp3:p+1+1+1≤b.length:=by have:=Z58 hd3 (by simp); simp at this; omega
        have hd3':b.drop (p+1+1+1)=r2:=Z2u hd3
        have hB0:=bigB0_ok (sg,rdr b (p+1+1) (left - 1)) (c,rdr b (p+1+1+1) (left - 1)) hc.1 hc.2
        have ewc:IntKind.i64.wrap c=c:=Zg6 c (by omega) (by omega)
        by_cases hbad:sg > 1∨c > 8
        · rw [if_pos (show (sg,rdr b (p+1+1) (left - 1)).1 > 1∨(c,rdr b (p+1+1+1) (left - 1)).1 > 8 from hbad)] at hB0
          have hbig:Ev (fun N=>Z42 N (rdr b (p+1) (left - 1))) none:=Ev.bind n1 (Ev.bind n2 (Ev.bind hB0 (Ev.now _)))
          exact fin (body2 hbig) (.inl rfl)
        · rw [if_neg (show ¬ ((sg,rdr b (p+1+1) (left - 1)).1 > 1∨(c,rdr b (p+1+1+1) (left - 1)).1 > 8) from hbad)] at hB0
          by_cases hwl:c≤left - 1
          · have hwe:=Zc9 b ((p+1+1+1:Nat):Int) (left - 1) c hc.1 hwl (by omega)
            obtain ⟨cn,rfl⟩:∃ cn:Nat,c=(cn:Int):=⟨c.toNat,by omega⟩
            obtain ⟨r,hr,ho⟩:=limbs_tot b hb hbb (sg,rdr b (p+1+1) (left - 1)) (((cn:Nat):Int),rdr b (p+1+1+1) (left - 1)) cn (by omega) rfl (left - 1 - cn) cn [] 0 (p+1+1+1) (by omega) rfl hp3
            rcases ho with rfl | ⟨ts,r3,rfl,l1,l2,l3⟩
            · have hbig:Ev (fun N=>Z42 N (rdr b (p+1) (left - 1))) none:=by
                refine Ev.bind n1 (Ev.bind n2 (Ev.bind hB0 ?_))
                show Ev (fun N=>(Z1x N (rdr b (p+1+1+1) (left - 1)) (IntKind.wrap .i64 ((cn:Nat):Int))).bind _) _
                rw [ewc]
                exact Ev.bind hwe (Ev.bind hr (Ev.now _))
              exact fin (body2 hbig) (.inl rfl)
            · rw [List.nil_append] at hr
              have hsm:=small_ev ⟨sg == 1,ts⟩ l2
              have hmm:=nmay_ev ⟨sg == 1,ts⟩
              have hbig:Ev (fun N=>Z42 N (rdr b (p+1) (left - 1))) (if (smallN ⟨sg == 1,ts⟩).2=true then none else if ¬ (mayN ⟨sg == 1,ts⟩=true) then none else some ((⟨sg == 1,ts⟩:Z0m),rdr b (p+1+1+1+4 * cn) (left - 1 - cn))):=by
                refine Ev.bind n1 (Ev.bind n2 (Ev.bind hB0 ?_))
                show Ev (fun N=>(Z1x N (rdr b (p+1+1+1) (left - 1)) (IntKind.wrap .i64 ((cn:Nat):Int))).bind _) _
                rw [ewc]
                refine Ev.bind hwe (Ev.bind hr (Ev.bind hsm ?_))
                exact Ev.iff (fun _=>Ev.now _) (fun _=>Ev.bind hmm (Ev.iff (fun _=>Ev.now _) (fun _=>Ev.now _)))
              by_cases hs:(smallN ⟨sg == 1,ts⟩).2=true
              · rw [if_pos hs] at hbig; exact fin (body2 hbig) (.inl rfl)
              rw [if_neg hs] at hbig
              by_cases hm:mayN ⟨sg == 1,ts⟩=true
              · rw [if_neg (fun h=>h hm)] at hbig
                refine fin (body2 hbig) (.inr ⟨0,sg == 1,ts,0,ByteArray.mk #[],[],sg::((cn:Nat):Int)::magB ts,r3,(cn:Int), ?_, ?_, ?_, ?_,by omega,mkW ⟨by omega,by omega⟩ (by omega) (by omega) l2 (by omega) (by show 0≤5000; omega) (by simp) noArgs⟩)
                · rw [List.length_cons,List.length_cons,Zdp,l1,show p+1+(4 * cn+1+1)=p+1+1+1+4 * cn by omega]
                · rw [← hd1,hd2, ← hd2',hd3, ← hd3',l3]; rfl
                · rw [Z7j]
                  show IntKind.u8.wrap 2::(((if (sg == 1)=true then (1:Int) else 0)::IntKind.u8.wrap (ts.length:Int)::magB ts)++[])=_
                  rw [List.append_nil,l1,Zg7,Zg7]
                  have e1:(if (sg == 1)=true then (1:Int) else 0)=sg:=by
                    have:sg=0∨sg=1:=by omega
                    rcases this with rfl | rfl <;> rfl
                  rw [e1,show ((cn:Nat):Int) % 256=(cn:Int) by omega]
                  rfl
                · rw [wt_eq]
                  show 1+(ts.length:Int)=_
                  rw [l1]
              · rw [if_pos hm] at hbig; exact fin (body2 hbig) (.inl rfl)
          · have hbig:Ev (fun N=>Z42 N (rdr b (p+1) (left - 1))) none:=by
              refine Ev.bind n1 (Ev.bind n2 (Ev.bind hB0 ?_))
              show Ev (fun N=>(Z1x N (rdr b (p+1+1+1) (left - 1)) (IntKind.wrap .i64 c)).bind _) _
              rw [ewc]
              exact Ev.bind (weighs_no b _ (left - 1) c (by omega) (by omega) (by omega)) (Ev.now _)
            exact fin (body2 hbig) (.inl rfl)
      · rcases Z62 b (p+1) 8 hp1 with h | ⟨xs,rest',hx,hd2⟩
        · exact fin (body3 (num_no 8 8 (left - 1) rfl hb hp1 h)) (.inl rfl)
        · have hn:=num_ok 8 8 (left - 1) rfl hb hbb hx (by omega) (by omega) hd2
          have hxb:=Z4q hbb hd2
          have hlt:=val8_lt hxb hx
          refine fin (body3 hn) (.inr ⟨0,false,[],((valB 0 xs:Nat):Int),ByteArray.mk #[],[],xs,rest',0, ?_, ?_, ?_,by rw [wt_eq]; rfl,by omega,mkW ⟨by omega,by omega⟩ (by omega) (by simp) no32 (by omega) (by show 0≤5000; omega) (by simp) noArgs⟩)
          · rw [hx,Int.sub_zero]
          · rw [← hd1,hd2]
          · rw [Z7j]
            show IntKind.u8.wrap 3::(beB (u64n ((valB 0 xs:Nat):Int)) 8++[])=_
            rw [List.append_nil,u64n_nat hlt]
            have:=Zb1 xs 0 hxb
            rw [hx] at this
            rw [this]; rfl
      · rcases Z62 b (p+1) 1 hp1 with h | ⟨xs,rest',hx,hd2⟩
        · exact fin (body45 k45 (num_no 1 1 (left - 1) rfl hb hp1 h)) (.inl rfl)
        match xs,hx with
        | [x],hx =>
        have hxb:=(Z4q hbb hd2).head
        have hn:=num_ok (xs:=[x]) 1 1 (left - 1) rfl hb hbb rfl (by omega) (by omega) hd2
        rw [Z5h,Int.toNat_of_nonneg hxb.1] at hn
        refine fin (body45 k45 hn) (.inr ⟨IntKind.i64.wrap x,false,[],0,ByteArray.mk #[],[],[x],rest',0, ?_, ?_, ?_, ?_,by omega,mkW hk (Zcn _) (by simp) no32 (by omega) (by show 0≤5000; omega) (by simp) noArgs⟩)
        · rw [Int.sub_zero]; rfl
        · rw [← hd1,hd2]
        · rw [Z7j,Zg6 x (by omega) (by omega)]
          have ew:IntKind.u8.wrap x=x:=by rw [Zg7]; omega
          rcases k45 with rfl | rfl
          · show IntKind.u8.wrap 4::([IntKind.u8.wrap x]++[])=_
            rw [ew]; rfl
          · show IntKind.u8.wrap 5::([IntKind.u8.wrap x]++[])=_
            rw [ew]; rfl
        · rw [wt_eq]
          rcases k45 with rfl | rfl <;> rfl
      · rcases Z62 b (p+1) 1 hp1 with h | ⟨xs,rest',hx,hd2⟩
        · exact fin (body6_no (num_no 1 1 (left - 1) rfl hb hp1 h)) (.inl rfl)
        match xs,hx with
        | [x],hx =>
        have hxb:=(Z4q hbb hd2).head
        have hn:=num_ok (xs:=[x]) 1 1 (left - 1) rfl hb hbb rfl (by omega) (by omega) hd2
        rw [Z5h,Int.toNat_of_nonneg hxb.1] at hn
        have hp2:p+1+1≤b.length:=by have:=Z58 hd2 (by simp); simp at this; omega
        have hd2':b.drop (p+1+1)=rest':=Z2u hd2
        by_cases h8:x≤8
        · obtain ⟨xn,rfl⟩:∃ xn:Nat,x=(xn:Int):=⟨x.toNat,by omega⟩
          obtain ⟨r,hr,ho⟩:=args_tot b L (by omega) (fun q l a1 a2 a3=>ih q l a1 a2 a3) xn xn 0 (by omega) (by omega) [] rfl (p+1+1) (left - 1) hp2 (by omega) (by omega)
          have h2:=args_of (by omega) hr
          rw [← Z3t xn (by omega)] at h2
          rcases ho with rfl | ⟨ts,r3,rfl,l1,l2,l3,l4⟩
          · exact fin (body6 hn h2) (.inl rfl)
          · refine fin (body6 hn h2) (.inr ⟨0,false,[],0,ByteArray.mk #[],ts,((xn:Nat):Int)::layTs ts,r3,wts ts, ?_, ?_, ?_,by rw [wt_eq]; rfl,l3,mkW ⟨by omega,by omega⟩ (by omega) (by simp) no32 (by omega) (by show 0≤5000; omega) (by omega) l4⟩)
            · rw [List.length_cons,show p+1+((layTs ts).length+1)=p+1+1+(layTs ts).length by omega]; rfl
            · rw [← hd1,hd2, ← hd2',l2]; rfl
            · rw [Z7j]
              show IntKind.u8.wrap 6::([IntKind.u8.wrap (ts.length:Int)]++layTs ts)=_
              rw [l1,Zg7,Zg7,show ((xn:Nat):Int) % 256=(xn:Int) by omega]; rfl
        · have h2:Ev (fun N=>wire_reader_args N (rdr b (p+1+1) (left - 1)) (IntKind.i64.wrap x)) none:=by
            rw [Zg6 x (by omega) (by omega)]
            refine Ev.step ?_ (fun N=>by rw [wire_reader_args])
            exact Ev.pos (by omega) (Ev.now _)
          exact fin (body6 hn h2) (.inl rfl)
      · refine fin body7 (.inr ⟨0,false,[],0,ByteArray.mk #[],[],[],rest,0, ?_,rfl,by rw [Z7j]; rfl,by rw [wt_eq]; rfl,by omega,mkW ⟨by omega,by omega⟩ (by omega) (by simp) no32 (by omega) (by show 0≤5000; omega) (by simp) noArgs⟩)
        rw [Int.sub_zero]; rfl
      · obtain ⟨r,hr,ho⟩:=args_tot b L (by omega) (fun q l a1 a2 a3=>ih q l a1 a2 a3) 2 2 0 (by omega) (by omega) [] rfl (p+1) (left - 1) hp1 (by omega) (by omega)
        have h2:=args_of (n:=2) (by omega) hr
        rcases ho with rfl | ⟨ts,r3,rfl,l1,l2,l3,l4⟩
        · exact fin (body8 h2) (.inl rfl)
        · refine fin (body8 h2) (.inr ⟨0,false,[],0,ByteArray.mk #[],ts,layTs ts,r3,wts ts,rfl, ?_,by rw [Z7j]; rfl,by rw [wt_eq]; rfl,l3,mkW ⟨by omega,by omega⟩ (by omega) (by simp) no32 (by omega) (by show 0≤5000; omega) (by omega) l4⟩)
          rw [← hd1,l2]
      · rcases Z62 b (p+1) 2 hp1 with h | ⟨xs,rest',hx,hd2⟩
        · exact fin (body9 (Ev.bind (num_no 2 2 (left - 1) rfl hb hp1 h) (Ev.now _))) (.inl rfl)
        have hn:=num_ok 2 2 (left - 1) rfl hb hbb hx (by omega) (by omega) hd2
        have hxb:=Z4q hbb hd2
        have hlt:valB 0 xs < 65536:=by
          have:=valB_lt xs 0 1 hxb (by omega)
          rw [hx] at this
          exact this
        have hbe:beB (valB 0 xs) 2=xs:=by have:=Zb1 xs 0 hxb; rwa [hx] at this
        have hp2:p+1+2≤b.length:=by have:=Z58 hd2 (by omega); omega
        have hd2':b.drop (p+1+2)=rest':=by have:=Z2u hd2; rwa [hx] at this
        generalize valB 0 xs=V at hn hlt hbe
        have e2:IntKind.i64.wrap (Int.tdiv (IntKind.i64.wrap ((V:Nat):Int)) (8:Int))=(V:Int) / 8:=by
          rw [Z3t V (by omega),tdiv8,Zg6 _ (by omega) (by omega)]
        have body:∀ v:Bod,Ev (fun N=>(Z1x N (rdr b (p+1+2) (left - 1)) ((V:Int) / 8)).bind fun r31=>(match r31 with | .none=>some (.inl ():Bod) | .some q32=>(Z44 N q32 (V:Int)).bind fun r33=>(match r33 with | .none=>some (.inl ():Bod) | .some q34=>some (.inr ((0:Int),false,[],(0:Int),(Lift.bstr q34.1),[],q34.2.fb,q34.2.fat,q34.2.fleft):Bod)))) v→Ev (fun N=>wire_reader_term_B0 N (9,rdr b (p+1) (left - 1))) v:=fun v h=>by
          refine body9 (Ev.bind hn ?_)
          show Ev (fun N=>(Z1x N (rdr b (p+1+2) (left - 1)) (IntKind.wrap .i64 (Int.tdiv (IntKind.wrap .i64 ((V:Nat):Int)) (8:Int)))).bind fun r31=>(match r31 with | .none=>some (.inl ():Bod) | .some q32=>(Z44 N q32 (IntKind.wrap .i64 ((V:Nat):Int))).bind fun r33=>(match r33 with | .none=>some (.inl ():Bod) | .some q34=>some (.inr ((0:Int),false,[],(0:Int),(Lift.bstr q34.1),[],q34.2.fb,q34.2.fat,q34.2.fleft):Bod)))) _
          rw [e2,Z3t V (by omega)]
          exact h
        by_cases hwl:(V:Int) / 8≤left - 1
        · have hwe:=Zc9 b ((p+1+2:Nat):Int) (left - 1) ((V:Int) / 8) (by omega) hwl (by omega)
          rcases Z62 b (p+1+2) V hp2 with h | ⟨ys,r3,hy,hd3⟩
          · exact fin (body _ (Ev.bind hwe (Ev.bind (take_no b _ V _ hb hp2 h) (Ev.now _)))) (.inl rfl)
          · have hroom:p+1+2+V≤b.length:=by
              have:=congrArg List.length hd3
              rw [List.length_drop,List.length_append] at this
              omega
            have ht:=take_ok b (p+1+2) V (left - 1 - (V:Int) / 8) hb hroom
            rw [Zah hd3 hy] at ht
            have hyb:=Z4q hbb hd3
            have hsz:(bstr ys).size=V:=by rw [bstr_len,hy]
            refine fin (body _ (Ev.bind hwe (Ev.bind ht (Ev.now _)))) (.inr ⟨0,false,[],0,bstr ys,[],xs++ys,r3,(V:Int) / 8, ?_, ?_, ?_, ?_,hwl,mkW ⟨by omega,by omega⟩ (by omega) (by simp) no32 (by omega) (by omega) (by simp) noArgs⟩)
            · rw [List.length_append,hx,hy,show p+1+(2+V)=p+1+2+V by omega]
            · rw [← hd1,hd2, ← hd2',hd3,List.append_assoc]
            · rw [Z7j]
              show IntKind.u8.wrap 9::((beB (u64n ((bstr ys).size:Int)) 2++sbytes (bstr ys))++[])=_
              rw [List.append_nil,hsz,u64n_nat (by omega),hbe,Zco hyb]; rfl
            · rw [wt_eq]
              show 1+((bstr ys).size:Int) / 8=_
              rw [hsz]
        · exact fin (body _ (Ev.bind (weighs_no b _ (left - 1) _ (by omega) (by omega) (by omega)) (Ev.now _))) (.inl rfl)
    · exact fin (body_no hk.1 hk.2 hkk) (.inl rfl)
end Go.Proofs.Ytcknifhhgeccfaa.Sh
