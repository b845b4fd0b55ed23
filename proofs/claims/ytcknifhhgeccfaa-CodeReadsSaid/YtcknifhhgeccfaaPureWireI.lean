import Derived.Test.YtcknifhhgeccfaaPureWireH
set_option linter.unusedVariables false
set_option linter.unusedSimpArgs false
namespace Go.Proofs.Ytcknifhhgeccfaa.Sh
open Go Lift Go.Proofs
mutual
def pt:Z02→Int
  | ⟨_,_,_,_,_,args⟩=>1+pts args
def pts:List Z02→Int
  | []=>0
  | x::xs=>pt x+pts xs
end
mutual
theorem pt_pos:∀ t:Z02,1≤pt t
  | ⟨_,_,_,_,_,args⟩=>by have:=pts_nn args; rw [pt]; omega
theorem pts_nn:∀ ts:List Z02,0≤pts ts
  | []=>by rw [pts]; omega
  | x::xs=>by have:=pt_pos x; have:=pts_nn xs; rw [pts]; omega
end
mutual
theorem pt_wt:∀ t:Z02,rightT t=true→pt t≤wt t
  | ⟨k,n,m,bi,s,args⟩,h=>by
    obtain ⟨ho,hbare,hrs⟩:=Zeb h
    have ih:=pts_wts args hrs
    have hp:=wt_pos ⟨k,n,m,bi,s,args⟩
    have b5:¬ (k=6∨k=8)→args=[]:=fun h=>Zep hbare (fun e=>h (.inl e)) (fun e=>h (.inr e))
    rw [pt]
    by_cases hk:k=6∨k=8
    · rw [wt_eq,if_neg (show ¬ k=2 by omega),if_neg (show ¬ k=9 by omega),if_pos hk]
      exact Int.add_le_add_left ih 1
    · rw [b5 hk,pts]; rw [b5 hk] at hp; omega
theorem pts_wts:∀ ts:List Z02,rightsT ts=true→pts ts≤wts ts
  | [],_=>by rw [pts,wts]; exact Int.le_refl 0
  | x::xs,h=>by
    have a:=pt_wt x (Za0 h).1
    have c:=pts_wts xs (Za0 h).2
    rw [pts,wts]; omega
end
abbrev rr (b:List Int) (p:Nat) (bad:Bool) (left:Int):Z06:=⟨b,(p:Int),bad,left⟩
theorem Z9o (B:List Int) (a lf z:Int):Ev (fun N=>Z0b N ⟨B,a,true,lf⟩ z) (0,⟨B,a,true,lf⟩):=by
  refine Ev.bind (a:=true) ?_ (Ev.pos rfl (Ev.now _))
  refine Ev.step ?_ (fun N=>by rw [Z30])
  exact Ev.pos rfl (Ev.now _)
theorem Zbh {b:List Int} {p:Nat} (k:Nat) (z left:Int) (hz:z=(k:Int)) (hb:b.length≤500000) (hp:p≤b.length) (h:b.length < p+k) (hk:k≤8):Ev (fun N=>Z0b N (rr b p false left) z) (0,rr b p true left):=by
  subst hz
  have e:IntKind.i64.wrap (((b.length:Nat):Int) - (k:Int))=(b.length:Int) - k:=Zg6 _ (by omega) (by omega)
  refine Ev.bind (a:=true) ?_ (Ev.pos rfl (Ev.now _))
  refine Ev.step ?_ (fun N=>by rw [Z30,e])
  refine Ev.neg Bool.false_ne_true (Ev.neg (by show ¬ ((p:Nat):Int) < 0; omega) ?_)
  by_cases c:((k:Nat):Int) > ((b.length:Nat):Int)
  · exact Ev.pos c (Ev.now _)
  · refine Ev.neg c ?_
    rw [show decide (((p:Nat):Int) > (b.length:Int) - k)=true from decide_eq_true (by omega)]
    exact Ev.now _
theorem rNum_loop (b:List Int) (p:Nat) (bad:Bool) (left:Int) (k:Nat) (hb:b.length≤500000) (hbb:bytesL b) (hk:k≤8) (hp:p+k≤b.length):∀ (d i:Nat),i+d=k→∀ v:Nat,v < 256 ^ i→Ev (fun N=>Z2j N (rr b p bad left) (k:Int) (v:Int) (i:Int)) ((valB v ((b.drop (p+i)).take d):Nat):Int)
  | 0,i,hd,v,hv=>by
    rw [List.take_zero,valB]
    refine Ev.step ?_ (fun N=>by rw [Z2j])
    exact Ev.neg (by omega) (Ev.now _)
  | d+1,i,hd,v,hv=>by
    have hlt:p+i < b.length:=by omega
    have hdr:b.drop (p+i)=b[p+i]::b.drop (p+i+1):=List.drop_eq_getElem_cons hlt
    have hx:=hbb b[p+i] (List.getElem_mem hlt)
    have h7:=pow_le7 (show i≤7 by omega)
    have ih:=rNum_loop b p bad left k hb hbb hk hp d (i+1) (by omega) (v * 256+b[p+i].toNat) (by rw [Nat.pow_succ]; omega)
    have e0:IntKind.wrap .u64 ((v:Int) * 2 ^ (min (Int.toNat (8:Int)) (IntKind.bits .u64)))=((v * 256:Nat):Int):=by
      rw [show (2:Int) ^ (min (Int.toNat (8:Int)) (IntKind.bits .u64))=256 by decide,wrapU _ (by omega) (by omega)]; omega
    have e1:IntKind.wrap .u64 b[p+i]=((b[p+i].toNat:Nat):Int):=by rw [wrapU _ (by omega) (by omega)]; omega
    have e2:bor .u64 ((v * 256:Nat):Int) ((b[p+i].toNat:Nat):Int)=((v * 256+b[p+i].toNat:Nat):Int):=by rw [bor_u64 (by omega) (by omega),or_byte v _ (by omega)]
    have e3:IntKind.i64.wrap ((p:Int)+(i:Int))=((p+i:Nat):Int):=by rw [Zg6 _ (by omega) (by omega)]; omega
    refine Ev.step ?_ (fun N=>by rw [Z2j,Z36 (by omega)])
    refine Ev.pos (by omega) ?_
    show Ev (fun N=>(idx b (IntKind.wrap .i64 ((p:Int)+(i:Int)))).bind fun x7=>Z2j N (rr b p bad left) (k:Int) (bor .u64 (IntKind.wrap .u64 ((v:Int) * 2 ^ (min (Int.toNat (8:Int)) (IntKind.bits .u64)))) (IntKind.wrap .u64 x7)) ((i+1:Nat):Int)) _
    rw [e3,hdr,List.take_succ_cons,valB]
    refine Ev.bindc (Zfr hdr) ?_
    rw [e0,e1,e2]
    exact ih
theorem Z75 {b:List Int} {p:Nat} {xs rest:List Int} (k:Nat) (z left:Int) (hz:z=(k:Int)) (hb:b.length≤500000) (hbb:bytesL b) (hk:xs.length=k) (h0:0 < k) (h8:k≤8) (h:b.drop p=xs++rest):Ev (fun N=>Z0b N (rr b p false left) z) (((valB 0 xs:Nat):Int),rr b (p+k) false left):=by
  subst hz
  have hr:=Z58 h (by omega)
  have e:IntKind.i64.wrap (((b.length:Nat):Int) - (k:Int))=(b.length:Int) - k:=Zg6 _ (by omega) (by omega)
  have hB:Ev (fun N=>Z30 N (rr b p false left) (k:Int)) false:=by
    refine Ev.step ?_ (fun N=>by rw [Z30,e])
    refine Ev.neg Bool.false_ne_true (Ev.neg (by show ¬ ((p:Nat):Int) < 0; omega) (Ev.neg (by show ¬ ((k:Nat):Int) > ((b.length:Nat):Int); omega) ?_))
    rw [show decide (((p:Nat):Int) > (b.length:Int) - k)=false from decide_eq_false (by omega)]
    exact Ev.now _
  have hl:=rNum_loop b p false left k hb hbb h8 (by omega) k 0 (by omega) 0 (by simp)
  rw [Nat.add_zero,Zah h hk] at hl
  refine Ev.bind hB (Ev.neg Bool.false_ne_true (Ev.bind hl ?_))
  show Ev (fun _=>some (((valB 0 xs:Nat):Int),(Z06.mk b (IntKind.wrap .i64 ((p:Int)+(k:Int))) false left))) _
  rw [show IntKind.i64.wrap ((p:Int)+(k:Int))=((p+k:Nat):Int) by rw [Zg6 _ (by omega) (by omega)]; omega]
  exact Ev.now _
abbrev RB:=((List Int) × (List Int) × Int × Bool × Int × Int × Bool × Int × ByteArray × Int) ⊕ ((List Int) × Int × Int)
theorem rB2_ev (k:Int) (s:Z06) (h0:0≤k) (h1:k < 256):Ev (fun N=>beehiveref7_Reader_Term_B2 N (k,s)) (decide (k=4∨k=5)):=by
  refine Ev.step ?_ (fun N=>by rw [beehiveref7_Reader_Term_B2,wrapI9 h0 h1])
  by_cases h4:k=4
  · subst h4; exact Ev.pos rfl (Ev.now _)
  · refine Ev.neg h4 ?_
    by_cases h5:k=5
    · subst h5; exact Ev.now _
    · rw [decide_eq_false (by omega),show (k == 5)=false by simpa using h5]; exact Ev.now _
theorem rbody1 {s:Z06} {r:Int × Z06} (h:Ev (fun N=>Z0b N s 8) r):Ev (fun N=>beehiveref7_Reader_Term_B1 N (1,s)) (.inl ([],r.2.fB,r.2.fAt,r.2.fBad,r.2.fLeft,IntKind.wrap .i64 r.1,false,0,ByteArray.mk #[],0):RB):=by
  refine Ev.step ?_ (fun N=>by rw [beehiveref7_Reader_Term_B1,wrapI9 (show (0:Int)≤1 by decide) (by decide)])
  exact Ev.pos rfl (Ev.bind h (Ev.now _))
theorem rbody45 {k:Int} {s:Z06} {r:Int × Z06} (hk:k=4∨k=5) (h:Ev (fun N=>Z0b N s 1) r):Ev (fun N=>beehiveref7_Reader_Term_B1 N (k,s)) (.inl ([],r.2.fB,r.2.fAt,r.2.fBad,r.2.fLeft,IntKind.wrap .i64 r.1,false,0,ByteArray.mk #[],0):RB):=by
  have h2:=rB2_ev k s (by omega) (by omega)
  rw [decide_eq_true hk] at h2
  refine Ev.step ?_ (fun N=>by rw [beehiveref7_Reader_Term_B1,wrapI9 (show 0≤k by omega) (by omega)])
  exact Ev.neg (by omega) (Ev.bind h2 (Ev.pos rfl (Ev.bind h (Ev.now _))))
theorem rnot45 {k:Int} (s:Z06) (h0:0≤k) (h1:k < 256) (h:¬ (k=4∨k=5)):Ev (fun N=>beehiveref7_Reader_Term_B2 N (k,s)) false:=by
  have h2:=rB2_ev k s h0 h1
  rwa [decide_eq_false h] at h2
theorem rbody2 {s s1:Z06} {sg:Int} {r:Int × Z06} {q:(List Int) × (List Int) × Int × Bool × Int} (h1:Ev (fun N=>Z0b N s 1) (sg,s1)) (hb:s1.fBad=false) (h2:Ev (fun N=>Z0b N ⟨s1.fB,s1.fAt,decide (sg > 1),s1.fLeft⟩ 1) r)
    (h3:Ev (fun N=>beehiveref7_Reader_Term_L4 N (2,s) (sg,s1) r [] r.2.fB r.2.fAt r.2.fBad r.2.fLeft 0) q):Ev (fun N=>beehiveref7_Reader_Term_B1 N (2,s)) (.inl (q.1,q.2.1,q.2.2.1,q.2.2.2.1,q.2.2.2.2,0,sg == 1,0,ByteArray.mk #[],0):RB):=by
  refine Ev.step ?_ (fun N=>by rw [beehiveref7_Reader_Term_B1,wrapI9 (show (0:Int)≤2 by decide) (by decide)])
  exact Ev.neg (by decide) (Ev.bind (rnot45 s (by decide) (by decide) (by decide)) (Ev.neg Bool.false_ne_true (Ev.pos rfl (Ev.bind h1 (Ev.neg (by show ¬ (s1.fBad=true); rw [hb]; exact Bool.false_ne_true) (Ev.bind h2 (Ev.bind h3 (Ev.now _))))))))
theorem rbody2_no {b:List Int} {p:Nat} {left:Int} (h1:Ev (fun N=>Z0b N (rr b p false left) 1) (0,rr b p true left)):Ev (fun N=>beehiveref7_Reader_Term_B1 N (2,rr b p false left)) (.inl ([],b,(p:Int),true,left,0,false,0,ByteArray.mk #[],0):RB):=by
  refine Ev.step ?_ (fun N=>by rw [beehiveref7_Reader_Term_B1,wrapI9 (show (0:Int)≤2 by decide) (by decide)])
  refine Ev.neg (by decide) (Ev.bind (rnot45 _ (by decide) (by decide) (by decide)) (Ev.neg Bool.false_ne_true (Ev.pos rfl (Ev.bind h1 (Ev.pos rfl (Ev.bind (Z9o b (p:Int) left 1) (Ev.bind (a:=([],b,(p:Int),true,left)) ?_ (Ev.now _))))))))
  refine Ev.step ?_ (fun N=>by rw [beehiveref7_Reader_Term_L3])
  exact Ev.neg (by show ¬ ((0:Int) < IntKind.i64.wrap 0); decide) (Ev.now _)
theorem rbody3 {s:Z06} {r:Int × Z06} (h:Ev (fun N=>Z0b N s 8) r):Ev (fun N=>beehiveref7_Reader_Term_B1 N (3,s)) (.inl ([],r.2.fB,r.2.fAt,r.2.fBad,r.2.fLeft,0,false,r.1,ByteArray.mk #[],0):RB):=by
  refine Ev.step ?_ (fun N=>by rw [beehiveref7_Reader_Term_B1,wrapI9 (show (0:Int)≤3 by decide) (by decide)])
  exact Ev.neg (by decide) (Ev.bind (rnot45 s (by decide) (by decide) (by decide)) (Ev.neg Bool.false_ne_true (Ev.neg (by decide) (Ev.pos rfl (Ev.bind h (Ev.now _))))))
theorem rbody6 {s:Z06} {r:Int × Z06} (h:Ev (fun N=>Z0b N s 1) r):Ev (fun N=>beehiveref7_Reader_Term_B1 N (6,s)) (.inl ([],r.2.fB,r.2.fAt,r.2.fBad,r.2.fLeft,0,false,0,ByteArray.mk #[],IntKind.wrap .i64 r.1):RB):=by
  refine Ev.step ?_ (fun N=>by rw [beehiveref7_Reader_Term_B1,wrapI9 (show (0:Int)≤6 by decide) (by decide)])
  exact Ev.neg (by decide) (Ev.bind (rnot45 s (by decide) (by decide) (by decide)) (Ev.neg Bool.false_ne_true (Ev.neg (by decide) (Ev.neg (by decide) (Ev.pos rfl (Ev.bind h (Ev.now _)))))))
theorem rbody8 {s:Z06}:Ev (fun N=>beehiveref7_Reader_Term_B1 N (8,s)) (.inl ([],s.fB,s.fAt,s.fBad,s.fLeft,0,false,0,ByteArray.mk #[],2):RB):=by
  refine Ev.step ?_ (fun N=>by rw [beehiveref7_Reader_Term_B1,wrapI9 (show (0:Int)≤8 by decide) (by decide)])
  exact Ev.neg (by decide) (Ev.bind (rnot45 s (by decide) (by decide) (by decide)) (Ev.neg Bool.false_ne_true (Ev.neg (by decide) (Ev.neg (by decide) (Ev.neg (by decide) (Ev.pos rfl (Ev.now _)))))))
theorem rbody9 {s:Z06} {v:RB} (h:Ev (fun N=>(Z0b N s (2:Int)).bind fun r31=>if r31.2.fBad=true then some (.inr (r31.2.fB,r31.2.fAt,r31.2.fLeft)) else if (IntKind.wrap .i64 r31.1) > (IntKind.wrap .i64 (((r31.2.fB.length:Nat):Int) - r31.2.fAt)) then some (.inr (r31.2.fB,r31.2.fAt,r31.2.fLeft)) else (Lift.cut r31.2.fB r31.2.fAt (IntKind.wrap .i64 (r31.2.fAt+(IntKind.wrap .i64 r31.1)))).bind fun x34=>some (.inl (([]:List Int),r31.2.fB,IntKind.wrap .i64 (r31.2.fAt+(IntKind.wrap .i64 r31.1)),r31.2.fBad,r31.2.fLeft,(0:Int),false,(0:Int),(Lift.bstr x34),(0:Int)))) v):Ev (fun N=>beehiveref7_Reader_Term_B1 N (9,s)) v:=by
  refine Ev.step ?_ (fun N=>by rw [beehiveref7_Reader_Term_B1,wrapI9 (show (0:Int)≤9 by decide) (by decide)])
  exact Ev.neg (by decide) (Ev.bind (rnot45 s (by decide) (by decide) (by decide)) (Ev.neg Bool.false_ne_true (Ev.neg (by decide) (Ev.neg (by decide) (Ev.neg (by decide) (Ev.neg (by decide) (Ev.pos rfl h)))))))
theorem rbody_no {k:Int} {s:Z06} (h0:0≤k) (h1:k < 256) (h:¬ (1≤k∧k≤9)∨k=7):Ev (fun N=>beehiveref7_Reader_Term_B1 N (k,s)) (.inl ([],s.fB,s.fAt,s.fBad,s.fLeft,0,false,0,ByteArray.mk #[],0):RB):=by
  refine Ev.step ?_ (fun N=>by rw [beehiveref7_Reader_Term_B1,wrapI9 h0 h1])
  exact Ev.neg (by omega) (Ev.bind (rnot45 s h0 h1 (by omega)) (Ev.neg Bool.false_ne_true (Ev.neg (by omega) (Ev.neg (by omega) (Ev.neg (by omega) (Ev.neg (by omega) (Ev.neg (by omega) (Ev.now _))))))))
theorem rL5_end {r3:Int × Z06} {mag B:List Int} {a lf n bi cnt v:Int} {bd neg:Bool} {s:ByteArray} {B':List Int} {a' lf':Int} {bd':Bool} {acc:List Z02} (h:cnt≤v∨bd'=true):Ev (fun N=>beehiveref7_Reader_Term_L5 N r3 (mag,B,a,bd,lf,n,neg,bi,s,cnt) acc B' a' bd' lf' v) (acc,B',a',bd',lf'):=by
  refine Ev.step ?_ (fun N=>by rw [beehiveref7_Reader_Term_L5])
  by_cases c:v < cnt
  · rcases h with h | h
    · omega
    · exact Ev.pos c (Ev.neg (fun k=>k h) (Ev.now _))
  · exact Ev.neg c (Ev.now _)
theorem Zeu {b:List Int} {p:Nat} {left k:Int} {rest:List Int} (hb:b.length≤500000) (hbb:bytesL b) (h1:1≤left) (h2:left≤1000) (hd:b.drop p=k::rest) {mag B:List Int} {a lf n bi cnt:Int} {bd neg:Bool} {s:ByteArray} {q:(List Z02) × (List Int) × Int × Bool × Int}
    (h:Ev (fun N=>beehiveref7_Reader_Term_B1 N (k,rr b (p+1) false (left - 1))) (.inl (mag,B,a,bd,lf,n,neg,bi,s,cnt):RB))
    (hL:Ev (fun N=>beehiveref7_Reader_Term_L5 N (k,rr b (p+1) false (left - 1)) (mag,B,a,bd,lf,n,neg,bi,s,cnt) [] B a bd lf 0) q) :
    Ev (fun N=>beehiveref7_Reader_Term N (rr b p false left)) (⟨k,n,⟨neg,mag⟩,bi,s,q.1⟩,⟨q.2.1,q.2.2.1,q.2.2.2.1,q.2.2.2.2⟩):=by
  have hk:0≤k∧k < 256:=hbb k (List.mem_of_mem_drop (i:=p) (by rw [hd]; exact List.mem_cons_self))
  have hnum:=Z75 (xs:=[k]) (rest:=rest) 1 1 (left - 1) rfl hb hbb rfl (by omega) (by omega) hd
  rw [Z5h,Int.toNat_of_nonneg hk.1] at hnum
  have hw:IntKind.wrap .i64 (left - 1)=left - 1:=Zg6 _ (by omega) (by omega)
  have hB0:Ev (fun N=>beehiveref7_Reader_Term_B0 N (rr b p false left)) false:=by
    refine Ev.step ?_ (fun N=>by rw [beehiveref7_Reader_Term_B0,hw])
    exact Ev.neg (by omega) (Ev.now _)
  refine Ev.step ?_ (fun N=>by rw [beehiveref7_Reader_Term,hw])
  refine Ev.bind hB0 (Ev.bind hnum (Ev.bind h (Ev.bind hL ?_)))
  show Ev (fun _=>some (Z02.mk (IntKind.i64.wrap k) _ _ _ _ _,_)) _
  rw [Zg6 k (by omega) (by omega)]
  exact Ev.now _
theorem rterm_inr {b:List Int} {p:Nat} {left k:Int} {rest:List Int} (hb:b.length≤500000) (hbb:bytesL b) (h1:1≤left) (h2:left≤1000) (hd:b.drop p=k::rest) {B:List Int} {a lf:Int}
    (h:Ev (fun N=>beehiveref7_Reader_Term_B1 N (k,rr b (p+1) false (left - 1))) (.inr (B,a,lf):RB)) :
    Ev (fun N=>beehiveref7_Reader_Term N (rr b p false left)) (zT,⟨B,a,true,lf⟩):=by
  have hk:0≤k∧k < 256:=hbb k (List.mem_of_mem_drop (i:=p) (by rw [hd]; exact List.mem_cons_self))
  have hnum:=Z75 (xs:=[k]) (rest:=rest) 1 1 (left - 1) rfl hb hbb rfl (by omega) (by omega) hd
  rw [Z5h,Int.toNat_of_nonneg hk.1] at hnum
  have hw:IntKind.wrap .i64 (left - 1)=left - 1:=Zg6 _ (by omega) (by omega)
  have hB0:Ev (fun N=>beehiveref7_Reader_Term_B0 N (rr b p false left)) false:=by
    refine Ev.step ?_ (fun N=>by rw [beehiveref7_Reader_Term_B0,hw])
    exact Ev.neg (by omega) (Ev.now _)
  refine Ev.step ?_ (fun N=>by rw [beehiveref7_Reader_Term,hw])
  exact Ev.bind hB0 (Ev.bind hnum (Ev.bind h (Ev.now _)))
theorem rterm_out {b:List Int} {p:Nat} {left:Int} (hb:b.length≤500000) (hp:p≤b.length) (h0:0≤left) (h2:left≤1000) (h:left=0∨b.length < p+1):∃ r,Ev (fun N=>beehiveref7_Reader_Term N (rr b p false left)) r∧r.2.fBad=true:=by
  have hw:IntKind.wrap .i64 (left - 1)=left - 1:=Zg6 _ (by omega) (by omega)
  have fin:∀ bd:Bool,Ev (fun N=>beehiveref7_Reader_Term_B0 N (rr b p false left)) bd→Ev (fun N=>Z0b N ⟨b,(p:Int),bd,left - 1⟩ 1) (0,rr b p true (left - 1))→∃ r,Ev (fun N=>beehiveref7_Reader_Term N (rr b p false left)) r∧r.2.fBad=true:=fun bd h1 h3=>by
    refine ⟨((⟨IntKind.i64.wrap 0,0,⟨false,[]⟩,0,ByteArray.mk #[],[]⟩:Z02),rr b p true (left - 1)), ?_,rfl⟩
    refine Ev.step ?_ (fun N=>by rw [beehiveref7_Reader_Term,hw])
    refine Ev.bind h1 (Ev.bind h3 (Ev.bind (rbody_no (k:=0) (by decide) (by decide) (.inl (by decide))) ?_))
    exact Ev.bind (rL5_end (.inl (Int.le_refl 0))) (Ev.now _)
  by_cases hl:left=0
  · refine fin true ?_ (Z9o _ _ _ _)
    refine Ev.step ?_ (fun N=>by rw [beehiveref7_Reader_Term_B0,hw])
    exact Ev.pos (by omega) (Ev.now _)
  · refine fin false ?_ (Zbh 1 1 (left - 1) rfl hb hp (by omega) (by omega))
    refine Ev.step ?_ (fun N=>by rw [beehiveref7_Reader_Term_B0,hw])
    exact Ev.neg (by omega) (Ev.now _)
theorem rlimbs (b:List Int) (hb:b.length≤500000) (hbb:bytesL b) (r3 r11 r19:Int × Z06) (n:Nat) (hn:n < 256) (hq:r19.1=(n:Int)) (left:Int):∀ (d:Nat) (acc:List Int) (v p:Nat),v+d=n→acc.length=v→p≤b.length →
    (∃ r,Ev (fun N=>beehiveref7_Reader_Term_L4 N r3 r11 r19 acc b (p:Int) false left (v:Int)) r∧r.2.2.2.1=true∧b.length < p+4 * d) ∨
    ∃ ts rest,Ev (fun N=>beehiveref7_Reader_Term_L4 N r3 r11 r19 acc b (p:Int) false left (v:Int)) (acc++ts,b,((p+4 * d:Nat):Int),false,left)∧ts.length=d∧lim32 ts∧b.drop p=magB ts++rest
  | 0,acc,v,p,hv,ha,hp=>by
    refine .inr ⟨[],b.drop p, ?_,rfl,(fun x hx=>by cases hx),by rw [magB]; rfl⟩
    rw [List.append_nil]
    refine Ev.step ?_ (fun N=>by rw [beehiveref7_Reader_Term_L4,hq,Z3t n (by omega)])
    exact Ev.neg (by omega) (Ev.now _)
  | d+1,acc,v,p,hv,ha,hp=>by
    rcases Z62 b p 4 hp with h | ⟨xs,rest,hx,hd⟩
    · have e:IntKind.u32.wrap 0=0:=by decide
      refine .inl ⟨(acc++[0],b,(p:Int),true,left), ?_,rfl,by omega⟩
      refine Ev.step ?_ (fun N=>by rw [beehiveref7_Reader_Term_L4,hq,Z3t n (by omega),Z36 (by omega)])
      refine Ev.pos (by omega) (Ev.pos Bool.false_ne_true (Ev.bind (Zbh 4 4 left rfl hb hp h (by omega)) (Ev.bindc (app9 (by show acc.length+1≤_; omega)) ?_)))
      refine Ev.step ?_ (fun N=>by rw [beehiveref7_Reader_Term_L4,hq,Z3t n (by omega)])
      by_cases c:((v+1:Nat):Int) < ((n:Nat):Int)
      · exact Ev.pos c (Ev.neg (fun k=>k rfl) (Ev.now _))
      · exact Ev.neg c (Ev.now _)
    · have hnum:=Z75 4 4 left rfl hb hbb hx (by omega) (by omega) hd
      have hxb:bytesL xs:=fun x hx=>hbb x (List.mem_of_mem_drop (i:=p) (by rw [hd]; exact List.mem_append_left _ hx))
      have hlt:=val4_lt hxb hx
      have hroom:=Z58 hd (by omega)
      have e:IntKind.u32.wrap ((valB 0 xs:Nat):Int)=((valB 0 xs:Nat):Int):=by rw [wrapU32]; omega
      have step:∀ {r},Ev (fun N=>beehiveref7_Reader_Term_L4 N r3 r11 r19 (acc++[((valB 0 xs:Nat):Int)]) b ((p+4:Nat):Int) false left ((v+1:Nat):Int)) r→Ev (fun N=>beehiveref7_Reader_Term_L4 N r3 r11 r19 acc b (p:Int) false left (v:Int)) r:=fun {r} hr=>by
        refine Ev.step ?_ (fun N=>by rw [beehiveref7_Reader_Term_L4,hq,Z3t n (by omega),Z36 (by omega)])
        refine Ev.pos (by omega) (Ev.pos Bool.false_ne_true (Ev.bind hnum ?_))
        show Ev (fun N=>(app acc ([IntKind.wrap .u32 ((valB 0 xs:Nat):Int)]:List Int)).bind fun x15=>beehiveref7_Reader_Term_L4 N r3 r11 r19 x15 b ((p+4:Nat):Int) false left ((v+1:Nat):Int)) _
        rw [e]
        exact Ev.bindc (app9 (by show acc.length+1≤_; omega)) hr
      rcases rlimbs b hb hbb r3 r11 r19 n hn hq left d (acc++[((valB 0 xs:Nat):Int)]) (v+1) (p+4) (by omega) (by rw [List.length_append]; show acc.length+1=_; omega) (by omega) with ⟨r,hr,h1,h2⟩ | ⟨ts,rest',hr,h1,h2,h3⟩
      · exact .inl ⟨r,step hr,h1,by omega⟩
      · refine .inr ⟨((valB 0 xs:Nat):Int)::ts,rest', ?_,by rw [List.length_cons,h1], ?_, ?_⟩
        · refine (step hr).eq ?_
          rw [List.append_assoc,show p+4+4 * d=p+4 * (d+1) by omega]; rfl
        · intro x hx'
          rcases List.mem_cons.1 hx' with rfl | hx'
          · omega
          · exact h2 x hx'
        · have hd2:=Z2u hd
          rw [hx] at hd2
          have hu:u64n ((valB 0 xs:Nat):Int)=valB 0 xs:=by rw [Zc0 (by omega) (by omega)]; omega
          have h4:beB (valB 0 xs) 4=xs:=by have:=Zb1 xs 0 hxb; rwa [hx] at this
          rw [magB,hu,h4,List.append_assoc, ← h3,hd2]
          exact hd
end Go.Proofs.Ytcknifhhgeccfaa.Sh
