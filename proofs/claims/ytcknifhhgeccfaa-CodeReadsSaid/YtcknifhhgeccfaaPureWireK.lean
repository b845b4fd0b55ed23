import Derived.Test.YtcknifhhgeccfaaPureWireJ
set_option linter.unusedVariables false
set_option linter.unusedSimpArgs false
namespace Go.Proofs.Ytcknifhhgeccfaa.Sh
open Go Lift Go.Proofs
def RBack (b:List Int) (t:Z02):Prop:=∀ (p:Nat) (left:Int) (rest:List Int),b.drop p=layT t++rest→pt t≤left→left≤300→Ev (fun N=>beehiveref7_Reader_Term N (rr b p false left)) (t,rr b (p+(layT t).length) false (left - pt t))
theorem rargs_back {r3:Int × Z06} {mag B:List Int} {a lf n bi:Int} {bd neg:Bool} {s:ByteArray} (b:List Int):∀ (ts:List Z02),(∀ x ∈ ts,RBack b x)→∀ (cnt v:Nat),v+ts.length=cnt→cnt≤255→∀ (acc:List Z02),acc.length=v→∀ (p:Nat) (left:Int) (rest:List Int),b.drop p=layTs ts++rest→pts ts≤left→left≤300 →
    Ev (fun N=>beehiveref7_Reader_Term_L5 N r3 (mag,B,a,bd,lf,n,neg,bi,s,(cnt:Int)) acc b (p:Int) false left (v:Int)) (acc++ts,b,((p+(layTs ts).length:Nat):Int),false,left - pts ts)
  | [],hx,cnt,v,hv,hn,acc,ha,p,left,rest,hd,hw,hl=>by
    rw [List.append_nil,layTs,pts,Int.sub_zero]
    exact rL5_end (.inl (by simp at hv; omega))
  | x::xs,hx,cnt,v,hv,hn,acc,ha,p,left,rest,hd,hw,hl=>by
    rw [List.length_cons] at hv
    rw [layTs,List.append_assoc] at hd
    rw [pts] at hw
    have hp:=pt_pos x
    have hnn:=pts_nn xs
    have h1:=hx x (by simp) p left (layTs xs++rest) hd (by omega) hl
    have hd':=Z2u hd
    have ih:=rargs_back (r3:=r3) (mag:=mag) (B:=B) (a:=a) (lf:=lf) (n:=n) (bi:=bi) (bd:=bd) (neg:=neg) (s:=s) b xs (fun y hy=>hx y (by simp [hy])) cnt (v+1) (by omega) hn (acc++[x]) (by rw [List.length_append]; show acc.length+1=_; omega) (p+(layT x).length) (left - pt x) rest hd' (by omega) (by omega)
    rw [List.append_assoc] at ih
    rw [layTs,pts,List.length_append,show p+((layT x).length+(layTs xs).length)=p+(layT x).length+(layTs xs).length by omega,show left - (pt x+pts xs)=left - pt x - pts xs by omega]
    refine Ev.step ?_ (fun N=>by rw [beehiveref7_Reader_Term_L5,Z36 (by omega)])
    exact Ev.pos (by show (v:Int) < (cnt:Int); omega) (Ev.pos Bool.false_ne_true (Ev.bind h1 (Ev.bindc (app_eq (by rw [lim_eq]; show acc.length+1≤_; omega)) ih)))
theorem rleaf_back {b:List Int} {p:Nat} {left k:Int} {rest:List Int} (hb:b.length≤500000) (hbb:bytesL b) (h1:1≤left) (h2:left≤300) (hd:b.drop p=k::rest) {mag:List Int} {n bi:Int} {neg:Bool} {s:ByteArray} {m:Nat}
    (h:Ev (fun N=>beehiveref7_Reader_Term_B1 N (k,rr b (p+1) false (left - 1))) (.inl (mag,b,((p+1+m:Nat):Int),false,left - 1,n,neg,bi,s,0):RB)) (hl:(layT ⟨k,n,⟨neg,mag⟩,bi,s,[]⟩).length=m+1) :
    Ev (fun N=>beehiveref7_Reader_Term N (rr b p false left)) (⟨k,n,⟨neg,mag⟩,bi,s,[]⟩,rr b (p+(layT ⟨k,n,⟨neg,mag⟩,bi,s,[]⟩).length) false (left - pt ⟨k,n,⟨neg,mag⟩,bi,s,[]⟩)):=by
  rw [hl,pt_eq,pts_nil,show p+(m+1)=p+1+m by omega,Int.add_zero]
  exact Zeu hb hbb h1 (by omega) hd h (rL5_end (.inl (Int.le_refl 0)))
theorem rlimbs_back (b:List Int) (hb:b.length≤500000) (hbb:bytesL b) (r3 r11 r19:Int × Z06) (n:Nat) (hn:n < 256) (hq:r19.1=(n:Int)) (left:Int) (rest:List Int):∀ (ts:List Int) (acc:List Int) (v p:Nat),lim32 ts→v+ts.length=n→acc.length=v→b.drop p=magB ts++rest →
    Ev (fun N=>beehiveref7_Reader_Term_L4 N r3 r11 r19 acc b (p:Int) false left (v:Int)) (acc++ts,b,((p+4 * ts.length:Nat):Int),false,left)
  | [],acc,v,p,hl,hv,ha,hd=>by
    rw [List.append_nil]
    refine Ev.step ?_ (fun N=>by rw [beehiveref7_Reader_Term_L4,hq,Z3t n (by omega)])
    exact Ev.neg (by simp at hv; omega) (Ev.now _)
  | x::xs,acc,v,p,hl,hv,ha,hd=>by
    have hx:=hl x (by simp)
    rw [List.length_cons] at hv
    rw [magB,List.append_assoc] at hd
    have hnum:=Z75 4 4 left rfl hb hbb (Z5f (u64n x) 4) (by omega) (by omega) hd
    have hd':=Z2u hd
    rw [Z5f] at hd'
    have ih:=rlimbs_back b hb hbb r3 r11 r19 n hn hq left rest xs (acc++[x]) (v+1) (p+4) (fun y hy=>hl y (by simp [hy])) (by omega) (by rw [List.length_append]; show acc.length+1=_; omega) hd'
    rw [List.append_assoc] at ih
    refine Ev.step ?_ (fun N=>by rw [beehiveref7_Reader_Term_L4,hq,Z3t n (by omega),Z36 (by omega)])
    refine Ev.pos (by omega) (Ev.pos Bool.false_ne_true (Ev.bind hnum ?_))
    show Ev (fun N=>(app acc ([IntKind.wrap .u32 ((valB 0 (beB (u64n x) 4):Nat):Int)]:List Int)).bind fun x15=>beehiveref7_Reader_Term_L4 N r3 r11 r19 x15 b ((p+4:Nat):Int) false left ((v+1:Nat):Int)) _
    rw [val4 hx.1 hx.2]
    refine Ev.bindc (app9 (by show acc.length+1≤_; omega)) ?_
    rw [List.length_cons,show p+4 * (xs.length+1)=p+4+4 * xs.length by omega]
    exact ih
mutual
theorem rterm_back (b:List Int) (hb:b.length≤500000) (hbb:bytesL b):∀ (t:Z02),Z0t t→rightT t=true→RBack b t
  | ⟨k,n,m,bi,s,args⟩,w,hr=>fun p left rest hd hw hl=>by
    obtain ⟨ho,hbare,hrs⟩:=Zeb hr
    have hx:=rterms_back b hb hbb args w.Args hrs
    have hkk:=kinds ho
    have hkk:1≤k∧k≤9:=hkk
    have hpos:=pt_pos ⟨k,n,m,bi,s,args⟩
    obtain ⟨b1,b2,b3,b4⟩:=bare_all hbare
    have b5:¬ (k=6∨k=8)→args=[]:=fun h=>Zep hbare (fun e=>h (.inl e)) (fun e=>h (.inr e))
    have b1:k ≠ 2→m=⟨false,[]⟩:=b1
    have b2:¬ (k=1∨k=4∨k=5)→n=0:=b2
    have b3:k ≠ 3→bi=0:=b3
    have b4:k ≠ 9→s=ByteArray.mk #[]:=b4
    have hN:=inI w.N
    have hBi:=inU w.Bits
    have hlay:=Z7j ⟨k,n,m,bi,s,args⟩
    have hwk:IntKind.u8.wrap (⟨k,n,m,bi,s,args⟩:Z02).fKind=k:=by show IntKind.u8.wrap k=k; rw [Zg7]; omega
    rw [hwk] at hlay
    have hd0:=hd
    rw [hlay,List.cons_append] at hd0
    have hd1:b.drop (p+1)=(headB ⟨k,n,m,bi,s,args⟩++if k=6∨k=8 then layTs args else [])++rest:=Z2u (xs:=[k]) hd0
    have hlen:=congrArg List.length hlay
    rw [List.length_cons,List.length_append] at hlen
    unfold headB at hd1 hlen
    unfold okT at ho
    have leaf:=fun {mag:List Int} {n bi:Int} {neg:Bool} {s:ByteArray} {m:Nat}=>rleaf_back (mag:=mag) (n:=n) (bi:=bi) (neg:=neg) (s:=s) (m:=m) hb hbb (show 1≤left by omega) hl hd0
    have k1:k=1∨k=2∨k=3∨k=4∨k=5∨k=6∨k=7∨k=8∨k=9:=by omega
    rcases k1 with rfl | rfl | rfl | rfl | rfl | rfl | rfl | rfl | rfl
    · have a1:=b1 (by decide); have a3:=b3 (by decide); have a4:=b4 (by decide); have a5:=b5 (by decide)
      subst a1 a3 a4 a5
      have hd1:b.drop (p+1)=(beB (u64n n) 8++[])++rest:=hd1
      rw [List.append_nil] at hd1
      have hlen:(layT ⟨1,n,⟨false,[]⟩,0,ByteArray.mk #[],[]⟩).length=(beB (u64n n) 8).length+0+1:=hlen
      rw [Z5f] at hlen
      have hn:=Z75 8 8 (left - 1) rfl hb hbb (Z5f _ 8) (by omega) (by omega) hd1
      rw [val8] at hn
      have h:=rbody1 hn
      have e:=back8 hN.1 hN.2
      simp only at h e
      rw [e] at h
      exact leaf h hlen
    · have a2:=b2 (by decide); have a3:=b3 (by decide); have a4:=b4 (by decide); have a5:=b5 (by decide)
      subst a2 a3 a4 a5
      obtain ⟨sg,mg⟩:=m
      have hd1:b.drop (p+1)=([(if sg=true then (1:Int) else 0)]++([IntKind.u8.wrap (mg.length:Int)]++(magB mg++[])))++rest:=hd1
      rw [List.append_nil,List.append_assoc] at hd1
      have hlen:(layT ⟨2,0,⟨sg,mg⟩,0,ByteArray.mk #[],[]⟩).length=((if sg=true then (1:Int) else 0)::IntKind.u8.wrap (mg.length:Int)::magB mg).length+0+1:=hlen
      rw [List.length_cons,List.length_cons,Zdp] at hlen
      have ho:(mayN ⟨sg,mg⟩ && !(smallN ⟨sg,mg⟩).2)=true:=ho
      rw [Bool.and_eq_true] at ho
      have h8:mg.length≤8:=by
        have hm:=ho.1
        unfold mayN at hm
        rw [Bool.and_eq_true] at hm
        exact of_decide_eq_true hm.1
      have hsg:0≤(if sg=true then (1:Int) else 0)∧(if sg=true then (1:Int) else 0)≤1:=by split <;> omega
      have n1:=Z75 (xs:=[(if sg=true then (1:Int) else 0)]) 1 1 (left - 1) rfl hb hbb rfl (by omega) (by omega) hd1
      rw [Z5h,Int.toNat_of_nonneg hsg.1] at n1
      have hd2:b.drop (p+1+1)=[IntKind.u8.wrap (mg.length:Int)]++(magB mg++rest):=by rw [← List.append_assoc]; exact Z2u hd1
      have hu:IntKind.u8.wrap (mg.length:Int)=((mg.length:Nat):Int):=by rw [Zg7]; omega
      rw [hu] at hd2
      have n2:=Z75 (xs:=[((mg.length:Nat):Int)]) 1 1 (left - 1) rfl hb hbb rfl (by omega) (by omega) hd2
      rw [Z5h,Int.toNat_natCast,show rr b (p+1+1) false (left - 1)=⟨b,((p+1+1:Nat):Int),decide ((if sg=true then (1:Int) else 0) > 1),left - 1⟩ by rw [decide_eq_false (by omega)]] at n2
      have hd3:b.drop (p+1+1+1)=magB mg++rest:=Z2u hd2
      have hl4:=rlimbs_back b hb hbb (2,rr b (p+1) false (left - 1)) ((if sg=true then (1:Int) else 0),rr b (p+1+1) false (left - 1)) (((mg.length:Nat):Int),rr b (p+1+1+1) false (left - 1)) mg.length (by omega) rfl (left - 1) rest mg [] 0 (p+1+1+1) (Zf2 w.Num.Mag) (by omega) rfl hd3
      rw [List.nil_append] at hl4
      have h:=rbody2 n1 rfl n2 hl4
      have e:((if sg=true then (1:Int) else 0) == 1)=sg:=by cases sg <;> rfl
      simp only at h
      rw [e,show p+1+1+1+4 * mg.length=p+1+(4 * mg.length+1+1) by omega] at h
      exact leaf h hlen
    · have a1:=b1 (by decide); have a2:=b2 (by decide); have a4:=b4 (by decide); have a5:=b5 (by decide)
      subst a1 a2 a4 a5
      have hd1:b.drop (p+1)=(beB (u64n bi) 8++[])++rest:=hd1
      rw [List.append_nil] at hd1
      have hlen:(layT ⟨3,0,⟨false,[]⟩,bi,ByteArray.mk #[],[]⟩).length=(beB (u64n bi) 8).length+0+1:=hlen
      rw [Z5f] at hlen
      have hBi:0≤bi∧bi≤18446744073709551615:=hBi
      have hn:=Z75 8 8 (left - 1) rfl hb hbb (Z5f _ 8) (by omega) (by omega) hd1
      rw [val8,Zc0 hBi.1 (by omega),Int.toNat_of_nonneg hBi.1] at hn
      exact leaf (rbody3 hn) hlen
    · have a1:=b1 (by decide); have a3:=b3 (by decide); have a4:=b4 (by decide); have a5:=b5 (by decide)
      subst a1 a3 a4 a5
      have ho:=of_decide_eq_true (p:=(0≤n∧n≤255)) ho
      have en:IntKind.u8.wrap n=n:=by rw [Zg7]; omega
      have hd1:b.drop (p+1)=([IntKind.u8.wrap n]++[])++rest:=hd1
      rw [List.append_nil,en] at hd1
      have hlen:(layT ⟨4,n,⟨false,[]⟩,0,ByteArray.mk #[],[]⟩).length=1+0+1:=hlen
      have hn:=Z75 (xs:=[n]) 1 1 (left - 1) rfl hb hbb rfl (by omega) (by omega) hd1
      rw [Z5h,Int.toNat_of_nonneg ho.1] at hn
      have h:=rbody45 (.inl rfl) hn
      have e:IntKind.i64.wrap n=n:=Zg6 n (by omega) (by omega)
      simp only [e] at h
      exact leaf h hlen
    · have a1:=b1 (by decide); have a3:=b3 (by decide); have a4:=b4 (by decide); have a5:=b5 (by decide)
      subst a1 a3 a4 a5
      have ho:=of_decide_eq_true (p:=(0≤n∧n≤63)) ho
      have en:IntKind.u8.wrap n=n:=by rw [Zg7]; omega
      have hd1:b.drop (p+1)=([IntKind.u8.wrap n]++[])++rest:=hd1
      rw [List.append_nil,en] at hd1
      have hlen:(layT ⟨5,n,⟨false,[]⟩,0,ByteArray.mk #[],[]⟩).length=1+0+1:=hlen
      have hn:=Z75 (xs:=[n]) 1 1 (left - 1) rfl hb hbb rfl (by omega) (by omega) hd1
      rw [Z5h,Int.toNat_of_nonneg ho.1] at hn
      have h:=rbody45 (.inr rfl) hn
      have e:IntKind.i64.wrap n=n:=Zg6 n (by omega) (by omega)
      simp only [e] at h
      exact leaf h hlen
    · have a1:=b1 (by decide); have a2:=b2 (by decide); have a3:=b3 (by decide); have a4:=b4 (by decide)
      subst a1 a2 a3 a4
      have ho:args.length≤8:=of_decide_eq_true (p:=(args.length≤8)) ho
      have en:IntKind.u8.wrap (args.length:Int)=((args.length:Nat):Int):=by rw [Zg7]; omega
      have hd1:b.drop (p+1)=([IntKind.u8.wrap (args.length:Int)]++layTs args)++rest:=hd1
      rw [en,List.append_assoc] at hd1
      have hlen:(layT ⟨6,0,⟨false,[]⟩,0,ByteArray.mk #[],args⟩).length=1+(layTs args).length+1:=hlen
      rw [pt_eq] at hw
      have h1:=Z75 (xs:=[((args.length:Nat):Int)]) 1 1 (left - 1) rfl hb hbb rfl (by omega) (by omega) hd1
      rw [Z5h,Int.toNat_natCast] at h1
      have h6:=rbody6 h1
      simp only [Z3t args.length (by omega)] at h6
      have ih:=rargs_back (r3:=(6,rr b (p+1) false (left - 1))) (mag:=[]) (B:=b) (a:=((p+1+1:Nat):Int)) (lf:=left - 1) (n:=0) (bi:=0) (bd:=false) (neg:=false) (s:=ByteArray.mk #[]) b args hx args.length 0 (by omega) (by omega) [] rfl (p+1+1) (left - 1) rest (Z2u hd1) (by omega) (by omega)
      have hnn:=pts_nn args
      have h:=Zeu hb hbb (by omega) (by omega) hd0 h6 ih
      rw [hlen,pt_eq,show p+(1+(layTs args).length+1)=p+1+1+(layTs args).length by omega,show left - (1+pts args)=left - 1 - pts args by omega]
      exact h
    · have a1:=b1 (by decide); have a2:=b2 (by decide); have a3:=b3 (by decide); have a4:=b4 (by decide); have a5:=b5 (by decide)
      subst a1 a2 a3 a4 a5
      have hlen:(layT ⟨7,0,⟨false,[]⟩,0,ByteArray.mk #[],[]⟩).length=0+0+1:=hlen
      exact leaf (rbody_no (by decide) (by decide) (.inr rfl)) hlen
    · have a1:=b1 (by decide); have a2:=b2 (by decide); have a3:=b3 (by decide); have a4:=b4 (by decide)
      subst a1 a2 a3 a4
      have ho:args.length=2:=of_decide_eq_true (p:=(args.length=2)) ho
      have hd1:b.drop (p+1)=([]++layTs args)++rest:=hd1
      rw [List.nil_append] at hd1
      have hlen:(layT ⟨8,0,⟨false,[]⟩,0,ByteArray.mk #[],args⟩).length=0+(layTs args).length+1:=hlen
      rw [pt_eq] at hw
      have ih:=rargs_back (r3:=(8,rr b (p+1) false (left - 1))) (mag:=[]) (B:=b) (a:=((p+1:Nat):Int)) (lf:=left - 1) (n:=0) (bi:=0) (bd:=false) (neg:=false) (s:=ByteArray.mk #[]) b args hx 2 0 (by omega) (by omega) [] rfl (p+1) (left - 1) rest hd1 (by omega) (by omega)
      have hnn:=pts_nn args
      have h:=Zeu hb hbb (by omega) (by omega) hd0 rbody8 ih
      rw [hlen,pt_eq,show p+(0+(layTs args).length+1)=p+1+(layTs args).length by omega,show left - (1+pts args)=left - 1 - pts args by omega]
      exact h
    · have a1:=b1 (by decide); have a2:=b2 (by decide); have a3:=b3 (by decide); have a5:=b5 (by decide)
      subst a1 a2 a3 a5
      have ho:s.size≤400:=of_decide_eq_true (p:=(s.size≤400)) ho
      have hd1:b.drop (p+1)=((beB (u64n (s.size:Int)) 2++sbytes s)++[])++rest:=hd1
      rw [List.append_nil,List.append_assoc] at hd1
      have hlen:(layT ⟨9,0,⟨false,[]⟩,0,s,[]⟩).length=(beB (u64n (s.size:Int)) 2++sbytes s).length+0+1:=hlen
      rw [List.length_append,Z5f,Z99] at hlen
      have n1:=Z75 2 2 (left - 1) rfl hb hbb (Z5f _ 2) (by omega) (by omega) hd1
      have e1:valB 0 (beB (u64n (s.size:Int)) 2)=s.size:=by
        rw [Zeq,show 256 ^ 2=65536 by decide,Zc0 (by omega) (by omega),Int.toNat_natCast]; omega
      rw [e1] at n1
      have hd2:=Z2u hd1
      rw [Z5f] at hd2
      have hroom:p+1+2+(sbytes s++rest).length=b.length:=by
        have:=Z58 hd1 (by rw [Z5f]; omega)
        rw [Z5f] at this
        exact this
      rw [List.length_append,Z99] at hroom
      have hw1:IntKind.i64.wrap ((s.size:Nat):Int)=((s.size:Nat):Int):=Z3t _ (by omega)
      have hw2:IntKind.i64.wrap (((b.length:Nat):Int) - ((p+1+2:Nat):Int))=((b.length:Nat):Int) - ((p+1+2:Nat):Int):=Zg6 _ (by omega) (by omega)
      have hw3:IntKind.i64.wrap (((p+1+2:Nat):Int)+((s.size:Nat):Int))=((p+1+2+s.size:Nat):Int):=by rw [Zg6 _ (by omega) (by omega)]; omega
      have h9:Ev (fun N=>beehiveref7_Reader_Term_B1 N (9,rr b (p+1) false (left - 1))) (.inl ([],b,((p+1+(2+s.size):Nat):Int),false,left - 1,0,false,0,s,0):RB):=by
        refine rbody9 (Ev.bind n1 (Ev.neg Bool.false_ne_true (Ev.neg ?_ ?_)))
        · show ¬ IntKind.i64.wrap ((s.size:Nat):Int) > IntKind.i64.wrap (((b.length:Nat):Int) - ((p+1+2:Nat):Int))
          rw [hw1,hw2]; omega
        · show Ev (fun N=>(Lift.cut b ((p+1+2:Nat):Int) (IntKind.wrap .i64 (((p+1+2:Nat):Int)+(IntKind.wrap .i64 ((s.size:Nat):Int))))).bind fun x34=>some (.inl (([]:List Int),b,IntKind.wrap .i64 (((p+1+2:Nat):Int)+(IntKind.wrap .i64 ((s.size:Nat):Int))),false,left - 1,(0:Int),false,(0:Int),(Lift.bstr x34),(0:Int)):RB)) _
          rw [hw1,hw3]
          refine Ev.bindc (cut_eq (by omega) (by omega) (by omega)) ?_
          rw [Int.toNat_natCast,Int.toNat_natCast,show p+1+2+s.size - (p+1+2)=s.size by omega,Zah hd2 (Z99 s),bstr_sbytes,show p+1+2+s.size=p+1+(2+s.size) by omega]
          exact Ev.now _
      exact leaf h9 hlen
theorem rterms_back (b:List Int) (hb:b.length≤500000) (hbb:bytesL b):∀ (ts:List Z02),(∀ x ∈ ts,Z0t x)→rightsT ts=true→∀ x ∈ ts,RBack b x
  | [],hw,hr=>fun x hx=>by cases hx
  | y::ys,hw,hr=>fun x hx=>by
    have h1:=rterm_back b hb hbb y (hw y (by simp)) (Za0 hr).1
    have h2:=rterms_back b hb hbb ys (fun z hz=>hw z (by simp [hz])) (Za0 hr).2
    rcases List.mem_cons.1 hx with rfl | hx
    · exact h1
    · exact h2 x hx
end
theorem both_Read (b:List Int) (p:Nat) (hb:b.length≤5000) (hbb:bytesL b) (hp:p≤b.length) :
    ∃ v,Ev (fun N=>Zc8 N b (p:Int)) v∧Ev (fun N=>Z92 N b (p:Int)) v∧(v=(zT,0,false)∨∃ t rest,v=(t,((p+(layT t).length:Nat):Int),true)∧b.drop p=layT t++rest∧mayT t=true∧Small t∧Z0t t):=by
  have hb5:b.length≤500000:=by omega
  obtain ⟨v,hv,ho⟩:=Read_tot b p hb5 hbb hp
  refine ⟨v,hv, ?_,ho⟩
  rcases ho with rfl | ⟨t,rest,rfl,h1,h2,h3,h4⟩
  · obtain ⟨r,hr,ho⟩:=rterm_tot b hb hbb 300 (by omega) p 300 hp (by omega) (by omega)
    rcases ho with hbad | ⟨rest,e,hd,hw,hs,hwt⟩
    · exact Ev.bind hr (Ev.pos hbad (Ev.now _))
    · obtain ⟨t,st⟩:=r
      simp only at e hd hw hs hwt
      subst e
      by_cases hm:mayT t=true
      · exfalso
        have:=Ev.det hv (Read_ok hb5 hbb hp hs hwt hm hd)
        have:=congrArg (fun z=>z.2.2) this
        cases this
      · exact Ev.bind hr (Ev.neg Bool.false_ne_true (Ev.bind (rmayT_ev t hs hwt) (Ev.pos hm (Ev.now _))))
  · obtain ⟨hw,hr⟩:=may_wt h2
    have hp:=pt_wt t hr
    have h:=rterm_back b hb5 hbb t h4 hr p 300 rest h1 (by omega) (by omega)
    exact Ev.bind h (Ev.neg Bool.false_ne_true (Ev.bind (rmayT_ev t h3 h4) (Ev.neg (fun k=>k h2) (Ev.now _))))
end Go.Proofs.Ytcknifhhgeccfaa.Sh
