import Derived.Test.YtcknifhhgeccfaaPureWireE
set_option linter.unusedVariables false
set_option linter.unusedSimpArgs false
namespace Go.Proofs.Ytcknifhhgeccfaa.Sh
open Go Lift Go.Proofs
theorem wrapI9 {k:Int} (h0:0≤k) (h1:k < 256):IntKind.i64.wrap k=k:=Zg6 k (by omega) (by omega)
theorem B1_ev (k:Int) (s:Z0a) (h0:0≤k) (h1:k < 256):Ev (fun N=>wire_reader_term_B1 N (k,s)) (decide (k=4∨k=5)):=by
  refine Ev.step ?_ (fun N=>by rw [wire_reader_term_B1,wrapI9 h0 h1])
  by_cases k4:k=4
  · have e:decide (k=4∨k=5)=(k == 4):=by simp [k4]
    rw [e]
    exact Ev.pos k4 (Ev.now _)
  · have e:decide (k=4∨k=5)=(k == 5):=by by_cases k5:k=5 <;> simp [k4,k5]
    rw [e]
    exact Ev.neg k4 (Ev.now _)
abbrev Bod:=Unit ⊕ (Int × Bool × (List Int) × Int × ByteArray × (List Z02) × (List Int) × Int × Int)
theorem body1 {s:Z0a} {r:Option (Int × Z0a)} (h:Ev (fun N=>Z1p N s 8) r):Ev (fun N=>wire_reader_term_B0 N (1,s)) (match (generalizing:=false) r with | .none=>(.inl ():Bod) | .some q=>.inr (IntKind.i64.wrap q.1,false,[],0,ByteArray.mk #[],[],q.2.fb,q.2.fat,q.2.fleft)):=by
  refine Ev.step ?_ (fun N=>by rw [wire_reader_term_B0,wrapI9 (show (0:Int)≤1 by decide) (by decide)])
  refine Ev.pos rfl (Ev.bind h ?_)
  cases r <;> exact Ev.now _
theorem body2 {s:Z0a} {r:Option (Z0m × Z0a)} (h:Ev (fun N=>Z42 N s) r):Ev (fun N=>wire_reader_term_B0 N (2,s)) (match (generalizing:=false) r with | .none=>(.inl ():Bod) | .some q=>.inr (0,q.1.fNeg,q.1.fMag,0,ByteArray.mk #[],[],q.2.fb,q.2.fat,q.2.fleft)):=by
  refine Ev.step ?_ (fun N=>by rw [wire_reader_term_B0,wrapI9 (show (0:Int)≤2 by decide) (by decide)])
  refine Ev.neg (by decide) (Ev.pos rfl (Ev.bind h ?_))
  cases r <;> exact Ev.now _
theorem body3 {s:Z0a} {r:Option (Int × Z0a)} (h:Ev (fun N=>Z1p N s 8) r):Ev (fun N=>wire_reader_term_B0 N (3,s)) (match (generalizing:=false) r with | .none=>(.inl ():Bod) | .some q=>.inr (0,false,[],q.1,ByteArray.mk #[],[],q.2.fb,q.2.fat,q.2.fleft)):=by
  refine Ev.step ?_ (fun N=>by rw [wire_reader_term_B0,wrapI9 (show (0:Int)≤3 by decide) (by decide)])
  refine Ev.neg (by decide) (Ev.neg (by decide) (Ev.pos rfl (Ev.bind h ?_)))
  cases r <;> exact Ev.now _
theorem body45 {k:Int} {s:Z0a} {r:Option (Int × Z0a)} (hk:k=4∨k=5) (h:Ev (fun N=>Z1p N s 1) r):Ev (fun N=>wire_reader_term_B0 N (k,s)) (match (generalizing:=false) r with | .none=>(.inl ():Bod) | .some q=>.inr (IntKind.i64.wrap q.1,false,[],0,ByteArray.mk #[],[],q.2.fb,q.2.fat,q.2.fleft)):=by
  have h1:=B1_ev k s (by omega) (by omega)
  rw [decide_eq_true hk] at h1
  refine Ev.step ?_ (fun N=>by rw [wire_reader_term_B0,wrapI9 (k:=k) (by omega) (by omega)])
  refine Ev.neg (by omega) (Ev.neg (by omega) (Ev.neg (by omega) (Ev.bind h1 (Ev.pos rfl (Ev.bind h ?_)))))
  cases r <;> exact Ev.now _
theorem body6 {s s1:Z0a} {n:Int} {r:Option ((List Z02) × Z0a)} (h:Ev (fun N=>Z1p N s 1) (some (n,s1))) (h':Ev (fun N=>wire_reader_args N s1 (IntKind.i64.wrap n)) r):Ev (fun N=>wire_reader_term_B0 N (6,s)) (match (generalizing:=false) r with | .none=>(.inl ():Bod) | .some q=>.inr (0,false,[],0,ByteArray.mk #[],q.1,q.2.fb,q.2.fat,q.2.fleft)):=by
  have h1:=B1_ev 6 s (by omega) (by omega)
  refine Ev.step ?_ (fun N=>by rw [wire_reader_term_B0,wrapI9 (show (0:Int)≤6 by decide) (by decide)])
  refine Ev.neg (by decide) (Ev.neg (by decide) (Ev.neg (by decide) (Ev.bind h1 (Ev.neg (by decide) (Ev.pos rfl (Ev.bind h (Ev.bind h' ?_)))))))
  cases r <;> exact Ev.now _
theorem body6_no {s:Z0a} (h:Ev (fun N=>Z1p N s 1) none):Ev (fun N=>wire_reader_term_B0 N (6,s)) (.inl ():Bod):=by
  have h1:=B1_ev 6 s (by omega) (by omega)
  refine Ev.step ?_ (fun N=>by rw [wire_reader_term_B0,wrapI9 (show (0:Int)≤6 by decide) (by decide)])
  exact Ev.neg (by decide) (Ev.neg (by decide) (Ev.neg (by decide) (Ev.bind h1 (Ev.neg (by decide) (Ev.pos rfl (Ev.bind h (Ev.now _)))))))
theorem body8 {s:Z0a} {r:Option ((List Z02) × Z0a)} (h':Ev (fun N=>wire_reader_args N s 2) r):Ev (fun N=>wire_reader_term_B0 N (8,s)) (match (generalizing:=false) r with | .none=>(.inl ():Bod) | .some q=>.inr (0,false,[],0,ByteArray.mk #[],q.1,q.2.fb,q.2.fat,q.2.fleft)):=by
  have h1:=B1_ev 8 s (by omega) (by omega)
  refine Ev.step ?_ (fun N=>by rw [wire_reader_term_B0,wrapI9 (show (0:Int)≤8 by decide) (by decide)])
  refine Ev.neg (by decide) (Ev.neg (by decide) (Ev.neg (by decide) (Ev.bind h1 (Ev.neg (by decide) (Ev.neg (by decide) (Ev.pos rfl (Ev.bind h' ?_)))))))
  cases r <;> exact Ev.now _
theorem body7 {s:Z0a}:Ev (fun N=>wire_reader_term_B0 N (7,s)) (.inr (0,false,[],0,ByteArray.mk #[],[],s.fb,s.fat,s.fleft):Bod):=by
  have h1:=B1_ev 7 s (by omega) (by omega)
  refine Ev.step ?_ (fun N=>by rw [wire_reader_term_B0,wrapI9 (show (0:Int)≤7 by decide) (by decide)])
  exact Ev.neg (by decide) (Ev.neg (by decide) (Ev.neg (by decide) (Ev.bind h1 (Ev.neg (by decide) (Ev.neg (by decide) (Ev.neg (by decide) (Ev.pos rfl (Ev.now _))))))))
theorem body9 {s:Z0a} {v:Bod} (h:Ev (fun N=>(Z1p N s (2:Int)).bind fun r29=>(match r29 with | .none=>some (.inl ()) | .some q30=>(Z1x N q30.2 (IntKind.wrap .i64 (Int.tdiv (IntKind.wrap .i64 q30.1) (8:Int)))).bind fun r31=>(match r31 with | .none=>some (.inl ()) | .some q32=>(Z44 N q32 (IntKind.wrap .i64 q30.1)).bind fun r33=>(match r33 with | .none=>some (.inl ()) | .some q34=>some (.inr ((0:Int),false,[],(0:Int),(Lift.bstr q34.1),[],q34.2.fb,q34.2.fat,q34.2.fleft)))))) v):Ev (fun N=>wire_reader_term_B0 N (9,s)) v:=by
  have h1:=B1_ev 9 s (by omega) (by omega)
  refine Ev.step ?_ (fun N=>by rw [wire_reader_term_B0,wrapI9 (show (0:Int)≤9 by decide) (by decide)])
  exact Ev.neg (by decide) (Ev.neg (by decide) (Ev.neg (by decide) (Ev.bind h1 (Ev.neg (by decide) (Ev.neg (by decide) (Ev.neg (by decide) (Ev.neg (by decide) (Ev.pos rfl h))))))))
theorem body_no {k:Int} {s:Z0a} (h0:0≤k) (h1:k < 256) (h:¬ (1≤k∧k≤9)):Ev (fun N=>wire_reader_term_B0 N (k,s)) (.inl ():Bod):=by
  have hB:=B1_ev k s h0 h1
  rw [decide_eq_false (show ¬ (k=4∨k=5) by omega)] at hB
  refine Ev.step ?_ (fun N=>by rw [wire_reader_term_B0,wrapI9 h0 h1])
  exact Ev.neg (by omega) (Ev.neg (by omega) (Ev.neg (by omega) (Ev.bind hB (Ev.neg Bool.false_ne_true (Ev.neg (by omega) (Ev.neg (by omega) (Ev.neg (by omega) (Ev.neg (by omega) (Ev.now _)))))))))
theorem args_of {b:List Int} {p n:Nat} {left:Int} {r:Unit ⊕ ((List Z02) × (List Int) × Int × Int)} (hn:n≤8) (h:Ev (fun N=>wire_reader_args_L0 N (n:Int) [] b (p:Int) left 0) r):Ev (fun N=>wire_reader_args N (rdr b p left) (n:Int)) (match (generalizing:=false) r with | .inl _=>none | .inr q=>some (q.1,⟨q.2.1,q.2.2.1,q.2.2.2⟩)):=by
  refine Ev.step ?_ (fun N=>by rw [wire_reader_args])
  refine Ev.neg (by omega) (Ev.bind h ?_)
  cases r <;> exact Ev.now _
def Back (b:List Int) (t:Z02):Prop:=∀ (p:Nat) (left:Int) (rest:List Int),b.drop p=layT t++rest→wt t≤left→left≤300→Ev (fun N=>wire_reader_term N (rdr b p left)) (some (t,rdr b (p+(layT t).length) (left - wt t)))
theorem args_back (b:List Int):∀ (ts:List Z02),(∀ x ∈ ts,Back b x)→∀ (n v:Nat),v+ts.length=n→n≤8→∀ (acc:List Z02),acc.length=v→∀ (p:Nat) (left:Int) (rest:List Int),b.drop p=layTs ts++rest→wts ts≤left→left≤300 →
    Ev (fun N=>wire_reader_args_L0 N (n:Int) acc b (p:Int) left (v:Int)) (.inr (acc++ts,b,((p+(layTs ts).length:Nat):Int),left - wts ts))
  | [],hx,n,v,hv,hn,acc,ha,p,left,rest,hd,hw,hl=>by
    refine Ev.step ?_ (fun N=>by rw [wire_reader_args_L0])
    rw [List.append_nil,layTs,wts,Int.sub_zero]
    exact Ev.neg (by simp at hv; omega) (Ev.now _)
  | x::xs,hx,n,v,hv,hn,acc,ha,p,left,rest,hd,hw,hl=>by
    rw [List.length_cons] at hv
    rw [layTs,List.append_assoc] at hd
    rw [wts] at hw
    have hp:=wt_pos x
    have hnn:=Z81 xs
    have h1:=hx x (by simp) p left (layTs xs++rest) hd (by omega) hl
    have hd':=Z2u hd
    have ih:=args_back b xs (fun y hy=>hx y (by simp [hy])) n (v+1) (by omega) hn (acc++[x]) (by rw [List.length_append]; show acc.length+1=_; omega) (p+(layT x).length) (left - wt x) rest hd' (by omega) (by omega)
    rw [List.append_assoc] at ih
    rw [layTs,wts,List.length_append,show p+((layT x).length+(layTs xs).length)=p+(layT x).length+(layTs xs).length by omega,show left - (wt x+wts xs)=left - wt x - wts xs by omega]
    refine Ev.step ?_ (fun N=>by rw [wire_reader_args_L0,Z36 (by omega)])
    exact Ev.pos (by omega) (Ev.bind h1 (Ev.bindc (app_eq (by rw [lim_eq]; show acc.length+1≤_; omega)) ih))
theorem binary_ok {b:List Int} {p:Nat} {left:Int} {rest:List Int} (s:ByteArray) (hb:b.length≤500000) (hbb:bytesL b) (h2:left≤1000) (hs:s.size≤60000) (hw:(s.size:Int) / 8≤left) (hd:b.drop p=(beB (u64n (s.size:Int)) 2++sbytes s)++rest) :
    Ev (fun N=>wire_reader_term_B0 N (9,rdr b p left)) (.inr (0,false,[],0,s,[],b,((p+2+s.size:Nat):Int),left - (s.size:Int) / 8):Bod):=by
  rw [List.append_assoc] at hd
  have n1:=num_ok 2 2 left rfl hb hbb (Z5f _ 2) (by omega) (by omega) hd
  have e1:valB 0 (beB (u64n (s.size:Int)) 2)=s.size:=by
    rw [Zeq,show 256 ^ 2=65536 by decide,Zc0 (by omega) (by omega),Int.toNat_natCast]; omega
  rw [e1] at n1
  have hd1:=Z2u hd
  rw [Z5f] at hd1
  have hroom:p+2+(sbytes s++rest).length=b.length:=by
    have:=Z58 hd (by rw [Z5f]; omega)
    rw [Z5f] at this
    exact this
  rw [List.length_append,Z99] at hroom
  have t1:=take_ok b (p+2) s.size (left - (s.size:Int) / 8) hb (by omega)
  rw [Zah hd1 (Z99 s)] at t1
  refine body9 (Ev.bind n1 ?_)
  have e2:IntKind.i64.wrap (Int.tdiv (IntKind.i64.wrap ((s.size:Nat):Int)) (8:Int))=(s.size:Int) / 8:=by
    rw [Z3t s.size (by omega),tdiv8,Zg6 _ (by omega) (by omega)]
  show Ev (fun N=>(Z1x N (rdr b (p+2) left) (IntKind.wrap .i64 (Int.tdiv (IntKind.wrap .i64 ((s.size:Nat):Int)) (8:Int)))).bind fun r31=>(match r31 with | .none=>some (.inl ():Bod) | .some q32=>(Z44 N q32 (IntKind.wrap .i64 ((s.size:Nat):Int))).bind fun r33=>(match r33 with | .none=>some (.inl ():Bod) | .some q34=>some (.inr ((0:Int),false,[],(0:Int),(Lift.bstr q34.1),[],q34.2.fb,q34.2.fat,q34.2.fleft):Bod)))) _
  rw [e2,Z3t s.size (by omega)]
  refine Ev.bind (Zc9 b _ left _ (by omega) hw h2) (Ev.bind t1 ?_)
  show Ev (fun _=>some (.inr ((0:Int),false,[],(0:Int),Lift.bstr (sbytes s),[],b,((p+2+s.size:Nat):Int),left - (s.size:Int) / 8):Bod)) _
  rw [bstr_sbytes]
  exact Ev.now _
mutual
theorem term_back (b:List Int) (hb:b.length≤500000) (hbb:bytesL b):∀ (t:Z02),Z0t t→rightT t=true→Back b t
  | ⟨k,n,m,bi,s,args⟩,w,hr=>fun p left rest hd hw hl=>by
    obtain ⟨ho,hbare,hrs⟩:=Zeb hr
    have hx:=terms_back b hb hbb args w.Args hrs
    have hkk:=kinds ho
    have hkk:1≤k∧k≤9:=hkk
    have hpos:=wt_pos ⟨k,n,m,bi,s,args⟩
    have hwt:=wt_eq ⟨k,n,m,bi,s,args⟩
    obtain ⟨b1,b2,b3,b4⟩:=bare_all hbare
    have b5:¬ (k=6∨k=8)→args=[]:=fun h=>Zep hbare (fun e=>h (.inl e)) (fun e=>h (.inr e))
    have b1:k ≠ 2→m=⟨false,[]⟩:=b1
    have b2:¬ (k=1∨k=4∨k=5)→n=0:=b2
    have b3:k ≠ 3→bi=0:=b3
    have b4:k ≠ 9→s=ByteArray.mk #[]:=b4
    have hN:=inI w.N
    have hBi:=inU w.Bits
    have hlay:=Z7j ⟨k,n,m,bi,s,args⟩
    have hwk:IntKind.u8.wrap (⟨k,n,m,bi,s,args⟩:Z02).fKind=k:=by show IntKind.u8.wrap k=k; rw [Zg7]; omega
    rw [hwk] at hlay
    have hd0:=hd
    rw [hlay,List.cons_append] at hd0
    have hd1:b.drop (p+1)=(headB ⟨k,n,m,bi,s,args⟩++if k=6∨k=8 then layTs args else [])++rest:=Z2u (xs:=[k]) hd0
    have hlen:=congrArg List.length hlay
    rw [List.length_cons,List.length_append] at hlen
    unfold headB at hd1 hlen
    unfold okT at ho
    have k1:k=1∨k=2∨k=3∨k=4∨k=5∨k=6∨k=7∨k=8∨k=9:=by omega
    rcases k1 with rfl | rfl | rfl | rfl | rfl | rfl | rfl | rfl | rfl
    · have a1:=b1 (by decide); have a3:=b3 (by decide); have a4:=b4 (by decide); have a5:=b5 (by decide)
      subst a1 a3 a4 a5
      have hd1:b.drop (p+1)=(beB (u64n n) 8++[])++rest:=hd1
      rw [List.append_nil] at hd1
      have hlen:(layT ⟨1,n,⟨false,[]⟩,0,ByteArray.mk #[],[]⟩).length=(beB (u64n n) 8).length+0+1:=hlen
      rw [Z5f] at hlen
      have hwt:wt ⟨1,n,⟨false,[]⟩,0,ByteArray.mk #[],[]⟩=1:=hwt
      have hn:=num_ok 8 8 (left - 1) rfl hb hbb (Z5f _ 8) (by omega) (by omega) hd1
      rw [val8] at hn
      have h:=body1 hn
      have h:=Z8u hb hbb (by omega) (by omega) hd0 h
      refine h.eq ?_
      show some (Z02.mk 1 (IntKind.i64.wrap ((u64n n:Nat):Int)) ⟨false,[]⟩ 0 (ByteArray.mk #[]) [],(⟨b,((p+1+8:Nat):Int),left - 1⟩:Z0a))=_
      rw [back8 hN.1 hN.2,hlen,hwt]
    · have a2:=b2 (by decide); have a3:=b3 (by decide); have a4:=b4 (by decide); have a5:=b5 (by decide)
      subst a2 a3 a4 a5
      have hd1:b.drop (p+1)=(((if m.fNeg=true then (1:Int) else 0)::IntKind.u8.wrap (m.fMag.length:Int)::magB m.fMag)++[])++rest:=hd1
      rw [List.append_nil] at hd1
      have hlen:(layT ⟨2,0,m,0,ByteArray.mk #[],[]⟩).length=((if m.fNeg=true then (1:Int) else 0)::IntKind.u8.wrap (m.fMag.length:Int)::magB m.fMag).length+0+1:=hlen
      rw [List.length_cons,List.length_cons,Zdp] at hlen
      have hwt:wt ⟨2,0,m,0,ByteArray.mk #[],[]⟩=1+(m.fMag.length:Int):=hwt
      have ho:(mayN m && !(smallN m).2)=true:=ho
      rw [Bool.and_eq_true] at ho
      have h:=body2 (big_ok (left:=left - 1) m hb hbb (by omega) ho.1 (by simpa using ho.2) (Zf2 w.Num.Mag) (by omega) hd1)
      have h:=Z8u hb hbb (by omega) (by omega) hd0 h
      refine h.eq ?_
      show some (Z02.mk 2 0 m 0 (ByteArray.mk #[]) [],(⟨b,((p+1+2+4 * m.fMag.length:Nat):Int),left - 1 - m.fMag.length⟩:Z0a))=_
      rw [hlen,hwt,show p+(4 * m.fMag.length+1+1+0+1)=p+1+2+4 * m.fMag.length by omega,show left - (1+(m.fMag.length:Int))=left - 1 - m.fMag.length by omega]
    · have a1:=b1 (by decide); have a2:=b2 (by decide); have a4:=b4 (by decide); have a5:=b5 (by decide)
      subst a1 a2 a4 a5
      have hd1:b.drop (p+1)=(beB (u64n bi) 8++[])++rest:=hd1
      rw [List.append_nil] at hd1
      have hlen:(layT ⟨3,0,⟨false,[]⟩,bi,ByteArray.mk #[],[]⟩).length=(beB (u64n bi) 8).length+0+1:=hlen
      rw [Z5f] at hlen
      have hwt:wt ⟨3,0,⟨false,[]⟩,bi,ByteArray.mk #[],[]⟩=1:=hwt
      have hn:=num_ok 8 8 (left - 1) rfl hb hbb (Z5f _ 8) (by omega) (by omega) hd1
      rw [val8] at hn
      have h:=body3 hn
      have h:=Z8u hb hbb (by omega) (by omega) hd0 h
      refine h.eq ?_
      show some (Z02.mk 3 0 ⟨false,[]⟩ ((u64n bi:Nat):Int) (ByteArray.mk #[]) [],(⟨b,((p+1+8:Nat):Int),left - 1⟩:Z0a))=_
      have hBi:0≤bi∧bi≤18446744073709551615:=hBi
      rw [Zc0 hBi.1 (by omega),Int.toNat_of_nonneg hBi.1,hlen,hwt]
    · have a1:=b1 (by decide); have a3:=b3 (by decide); have a4:=b4 (by decide); have a5:=b5 (by decide)
      subst a1 a3 a4 a5
      have ho:=of_decide_eq_true (p:=(0≤n∧n≤255)) ho
      have en:IntKind.u8.wrap n=n:=by rw [Zg7]; omega
      have hd1:b.drop (p+1)=([IntKind.u8.wrap n]++[])++rest:=hd1
      rw [List.append_nil,en] at hd1
      have hlen:(layT ⟨4,n,⟨false,[]⟩,0,ByteArray.mk #[],[]⟩).length=1+0+1:=hlen
      have hwt:wt ⟨4,n,⟨false,[]⟩,0,ByteArray.mk #[],[]⟩=1:=hwt
      have hn:=num_ok (xs:=[n]) 1 1 (left - 1) rfl hb hbb rfl (by omega) (by omega) hd1
      rw [Z5h] at hn
      have h:=body45 (.inl rfl) hn
      have h:=Z8u hb hbb (by omega) (by omega) hd0 h
      refine h.eq ?_
      show some (Z02.mk 4 (IntKind.i64.wrap ((n.toNat:Nat):Int)) ⟨false,[]⟩ 0 (ByteArray.mk #[]) [],(⟨b,((p+1+1:Nat):Int),left - 1⟩:Z0a))=_
      rw [Int.toNat_of_nonneg ho.1,Zg6 n (by omega) (by omega),hlen,hwt]
    · have a1:=b1 (by decide); have a3:=b3 (by decide); have a4:=b4 (by decide); have a5:=b5 (by decide)
      subst a1 a3 a4 a5
      have ho:=of_decide_eq_true (p:=(0≤n∧n≤63)) ho
      have en:IntKind.u8.wrap n=n:=by rw [Zg7]; omega
      have hd1:b.drop (p+1)=([IntKind.u8.wrap n]++[])++rest:=hd1
      rw [List.append_nil,en] at hd1
      have hlen:(layT ⟨5,n,⟨false,[]⟩,0,ByteArray.mk #[],[]⟩).length=1+0+1:=hlen
      have hwt:wt ⟨5,n,⟨false,[]⟩,0,ByteArray.mk #[],[]⟩=1:=hwt
      have hn:=num_ok (xs:=[n]) 1 1 (left - 1) rfl hb hbb rfl (by omega) (by omega) hd1
      rw [Z5h] at hn
      have h:=body45 (.inr rfl) hn
      have h:=Z8u hb hbb (by omega) (by omega) hd0 h
      refine h.eq ?_
      show some (Z02.mk 5 (IntKind.i64.wrap ((n.toNat:Nat):Int)) ⟨false,[]⟩ 0 (ByteArray.mk #[]) [],(⟨b,((p+1+1:Nat):Int),left - 1⟩:Z0a))=_
      rw [Int.toNat_of_nonneg ho.1,Zg6 n (by omega) (by omega),hlen,hwt]
    · have a1:=b1 (by decide); have a2:=b2 (by decide); have a3:=b3 (by decide); have a4:=b4 (by decide)
      subst a1 a2 a3 a4
      have ho:args.length≤8:=of_decide_eq_true (p:=(args.length≤8)) ho
      have en:IntKind.u8.wrap (args.length:Int)=((args.length:Nat):Int):=by rw [Zg7]; omega
      have hd1:b.drop (p+1)=([IntKind.u8.wrap (args.length:Int)]++layTs args)++rest:=hd1
      rw [en,List.append_assoc] at hd1
      have hlen:(layT ⟨6,0,⟨false,[]⟩,0,ByteArray.mk #[],args⟩).length=1+(layTs args).length+1:=hlen
      have hwt:wt ⟨6,0,⟨false,[]⟩,0,ByteArray.mk #[],args⟩=1+wts args:=hwt
      have h1:=num_ok (xs:=[((args.length:Nat):Int)]) 1 1 (left - 1) rfl hb hbb rfl (by omega) (by omega) hd1
      rw [Z5h,Int.toNat_natCast] at h1
      have ih:=args_back b args hx args.length 0 (by omega) ho [] rfl (p+1+1) (left - 1) rest (Z2u hd1) (by omega) (by omega)
      have h2:=args_of ho ih
      rw [← Z3t args.length (by omega)] at h2
      have h:=body6 h1 h2
      have h:=Z8u hb hbb (by omega) (by omega) hd0 h
      refine h.eq ?_
      show some (Z02.mk 6 0 ⟨false,[]⟩ 0 (ByteArray.mk #[]) args,(⟨b,((p+1+1+(layTs args).length:Nat):Int),left - 1 - wts args⟩:Z0a))=_
      rw [hlen,hwt,show p+(1+(layTs args).length+1)=p+1+1+(layTs args).length by omega,show left - (1+wts args)=left - 1 - wts args by omega]
    · have a1:=b1 (by decide); have a2:=b2 (by decide); have a3:=b3 (by decide); have a4:=b4 (by decide); have a5:=b5 (by decide)
      subst a1 a2 a3 a4 a5
      have hlen:(layT ⟨7,0,⟨false,[]⟩,0,ByteArray.mk #[],[]⟩).length=0+0+1:=hlen
      have hwt:wt ⟨7,0,⟨false,[]⟩,0,ByteArray.mk #[],[]⟩=1:=hwt
      have h:=Z8u hb hbb (by omega) (by omega) hd0 (body7 (s:=rdr b (p+1) (left - 1)))
      refine h.eq ?_
      rw [hlen,hwt]
    · have a1:=b1 (by decide); have a2:=b2 (by decide); have a3:=b3 (by decide); have a4:=b4 (by decide)
      subst a1 a2 a3 a4
      have ho:args.length=2:=of_decide_eq_true (p:=(args.length=2)) ho
      have hd1:b.drop (p+1)=([]++layTs args)++rest:=hd1
      rw [List.nil_append] at hd1
      have hlen:(layT ⟨8,0,⟨false,[]⟩,0,ByteArray.mk #[],args⟩).length=0+(layTs args).length+1:=hlen
      have hwt:wt ⟨8,0,⟨false,[]⟩,0,ByteArray.mk #[],args⟩=1+wts args:=hwt
      have ih:=args_back b args hx 2 0 (by omega) (by omega) [] rfl (p+1) (left - 1) rest hd1 (by omega) (by omega)
      have h2:=args_of (by omega) ih
      have h:=body8 h2
      have h:=Z8u hb hbb (by omega) (by omega) hd0 h
      refine h.eq ?_
      show some (Z02.mk 8 0 ⟨false,[]⟩ 0 (ByteArray.mk #[]) args,(⟨b,((p+1+(layTs args).length:Nat):Int),left - 1 - wts args⟩:Z0a))=_
      rw [hlen,hwt,show p+(0+(layTs args).length+1)=p+1+(layTs args).length by omega,show left - (1+wts args)=left - 1 - wts args by omega]
    · have a1:=b1 (by decide); have a2:=b2 (by decide); have a3:=b3 (by decide); have a5:=b5 (by decide)
      subst a1 a2 a3 a5
      have ho:s.size≤400:=of_decide_eq_true (p:=(s.size≤400)) ho
      have hd1:b.drop (p+1)=((beB (u64n (s.size:Int)) 2++sbytes s)++[])++rest:=hd1
      rw [List.append_nil] at hd1
      have hlen:(layT ⟨9,0,⟨false,[]⟩,0,s,[]⟩).length=(beB (u64n (s.size:Int)) 2++sbytes s).length+0+1:=hlen
      rw [List.length_append,Z5f,Z99] at hlen
      have hwt:wt ⟨9,0,⟨false,[]⟩,0,s,[]⟩=1+(s.size:Int) / 8:=hwt
      have h:=binary_ok (left:=left - 1) s hb hbb (by omega) (by omega) (by omega) hd1
      have h:=Z8u hb hbb (by omega) (by omega) hd0 h
      refine h.eq ?_
      show some (Z02.mk 9 0 ⟨false,[]⟩ 0 s [],(⟨b,((p+1+2+s.size:Nat):Int),left - 1 - (s.size:Int) / 8⟩:Z0a))=_
      rw [hlen,hwt,show p+(2+s.size+0+1)=p+1+2+s.size by omega,show left - (1+(s.size:Int) / 8)=left - 1 - (s.size:Int) / 8 by omega]
theorem terms_back (b:List Int) (hb:b.length≤500000) (hbb:bytesL b):∀ (ts:List Z02),(∀ x ∈ ts,Z0t x)→rightsT ts=true→∀ x ∈ ts,Back b x
  | [],hw,hr=>fun x hx=>by cases hx
  | y::ys,hw,hr=>fun x hx=>by
    have h1:=term_back b hb hbb y (hw y (by simp)) (Za0 hr).1
    have h2:=terms_back b hb hbb ys (fun z hz=>hw z (by simp [hz])) (Za0 hr).2
    rcases List.mem_cons.1 hx with rfl | hx
    · exact h1
    · exact h2 x hx
end
end Go.Proofs.Ytcknifhhgeccfaa.Sh
