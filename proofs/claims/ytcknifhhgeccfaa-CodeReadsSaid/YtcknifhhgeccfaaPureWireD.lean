import Derived.Test.YtcknifhhgeccfaaPureWireC
set_option linter.unusedVariables false
set_option linter.unusedSimpArgs false
namespace Go.Proofs.Ytcknifhhgeccfaa.Sh
open Go Lift Go.Proofs
theorem take_ok (b:List Int) (p n:Nat) (left:Int) (hb:b.length≤500000) (h:p+n≤b.length):Ev (fun N=>Z44 N ⟨b,(p:Int),left⟩ (n:Int)) (some ((b.drop p).take n,⟨b,((p+n:Nat):Int),left⟩)):=by
  have e1:IntKind.i64.wrap (((b.length:Nat):Int) - (p:Int))=(b.length:Int) - p:=Zg6 _ (by omega) (by omega)
  have e2:IntKind.i64.wrap ((p:Int)+(n:Int))=((p+n:Nat):Int):=by rw [Zg6 _ (by omega) (by omega)]; omega
  have e3:IntKind.i64.wrap (((p+n:Nat):Int) - (n:Int))=(p:Int):=by rw [Zg6 _ (by omega) (by omega)]; omega
  refine Ev.neg (by show ¬ ((n:Int) > IntKind.i64.wrap (((b.length:Nat):Int) - (p:Int))); rw [e1]; omega) ?_
  show Ev (fun N=>(Lift.cut b (IntKind.wrap .i64 ((IntKind.wrap .i64 ((p:Int)+(n:Int))) - (n:Int))) (IntKind.wrap .i64 ((p:Int)+(n:Int)))).bind fun x2=>some (some (x2,(Z0a.mk b (IntKind.wrap .i64 ((p:Int)+(n:Int))) left)))) _
  rw [e2,e3]
  refine Ev.bindc (cut_eq (by omega) (by omega) (by omega)) ?_
  rw [Int.toNat_natCast,Int.toNat_natCast,show p+n - p=n by omega]
  exact Ev.now _
theorem take_no (b:List Int) (p n:Nat) (left:Int) (hb:b.length≤500000) (hp:p≤b.length) (h:b.length < p+n):Ev (fun N=>Z44 N ⟨b,(p:Int),left⟩ (n:Int)) none:=by
  have e1:IntKind.i64.wrap (((b.length:Nat):Int) - (p:Int))=(b.length:Int) - p:=Zg6 _ (by omega) (by omega)
  exact Ev.pos (by show ((n:Int) > IntKind.i64.wrap (((b.length:Nat):Int) - (p:Int))); rw [e1]; omega) (Ev.now _)
theorem or_byte (v x:Nat) (hx:x < 256):v * 256 ||| x=v * 256+x:=by
  have:=Nat.shiftLeft_add_eq_or_of_lt (show x < 2 ^ 8 by omega) v
  rw [Nat.shiftLeft_eq,show 2 ^ 8=256 from rfl] at this
  exact this.symm
theorem pow_le7 {i:Nat} (h:i≤7):256 ^ i≤72057594037927936:=by
  have:=Nat.pow_le_pow_right (show 0 < 256 by omega) h
  exact this
theorem rnum_loop (xs0:List Int) (s:Z0a) (hl:xs0.length≤8) (hb:bytesL xs0):∀ (ts:List Int) (i:Nat),xs0.drop i=ts→∀ v:Nat,v < 256 ^ i→Ev (fun N=>Z5d N (xs0,s) (i:Int) (v:Int)) ((valB v ts:Nat):Int)
  | [],i,hd,v,hv=>by
    have:=Z84 hd
    refine Ev.step ?_ (fun N=>by rw [Z5d])
    exact Ev.neg (by show ¬ ((i:Int) < ((xs0.length:Nat):Int)); omega) (Ev.now _)
  | x::xs,i,hd,v,hv=>by
    have hlen:=Z8i hd
    have hx := hb x (by have : x ∈ xs0.drop i := by rw [hd]; exact List.mem_cons_self
                        exact List.mem_of_mem_drop this)
    have h7:=pow_le7 (show i≤7 by omega)
    have ih:=rnum_loop xs0 s hl hb xs (i+1) (Z55 hd) (v * 256+x.toNat) (by rw [Nat.pow_succ]; omega)
    have e0:IntKind.wrap .u64 ((v:Int) * 2 ^ (min (Int.toNat (8:Int)) (IntKind.bits .u64)))=((v * 256:Nat):Int):=by
      rw [show (2:Int) ^ (min (Int.toNat (8:Int)) (IntKind.bits .u64))=256 by decide,wrapU _ (by omega) (by omega)]; omega
    have e1:IntKind.wrap .u64 x=((x.toNat:Nat):Int):=by rw [wrapU _ (by omega) (by omega)]; omega
    have e2:bor .u64 ((v * 256:Nat):Int) ((x.toNat:Nat):Int)=((v * 256+x.toNat:Nat):Int):=by rw [bor_u64 (by omega) (by omega),or_byte v x.toNat (by omega)]
    refine Ev.step ?_ (fun N=>by rw [Z5d,Z36 (by omega)])
    refine Ev.pos (by show ((i:Int) < ((xs0.length:Nat):Int)); omega) (Ev.bindc (Zfr hd) ?_)
    rw [e0,e1,e2]
    exact ih
theorem Zah {xs rest l:List Int} {k:Nat} (h:l=xs++rest) (hk:xs.length=k):l.take k=xs:=by subst h hk; simp
theorem Z58 {b xs rest:List Int} {p:Nat} (h:b.drop p=xs++rest) (hx:0 < xs.length):p+xs.length+rest.length=b.length:=by
  have:=congrArg List.length h
  rw [List.length_drop,List.length_append] at this
  omega
theorem Z2u {b xs rest:List Int} {p:Nat} (h:b.drop p=xs++rest):b.drop (p+xs.length)=rest:=by
  rw [← List.drop_drop,h,List.drop_left]
theorem num_ok {b:List Int} {p:Nat} {xs rest:List Int} (k:Nat) (z left:Int) (hz:z=(k:Int)) (hb:b.length≤500000) (hbb:bytesL b) (hk:xs.length=k) (h0:0 < k) (h8:k≤8) (h:b.drop p=xs++rest):Ev (fun N=>Z1p N ⟨b,(p:Int),left⟩ z) (some (((valB 0 xs:Nat):Int),⟨b,((p+k:Nat):Int),left⟩)):=by
  subst hz
  have hr:=Z58 h (by omega)
  have ht:=take_ok b p k left hb (by omega)
  rw [Zah h hk] at ht
  have hxb:bytesL xs:=fun x hx=>hbb x (List.mem_of_mem_drop (i:=p) (by rw [h]; exact List.mem_append_left _ hx))
  exact Ev.bind ht (Ev.bind (rnum_loop xs _ (by omega) hxb xs 0 rfl 0 (by simp)) (Ev.now _))
theorem num_no {b:List Int} {p:Nat} (k:Nat) (z left:Int) (hz:z=(k:Int)) (hb:b.length≤500000) (hp:p≤b.length) (h:b.length < p+k):Ev (fun N=>Z1p N ⟨b,(p:Int),left⟩ z) none:=by
  subst hz
  exact Ev.bind (take_no b p k left hb hp h) (Ev.now _)
theorem Z62 (b:List Int) (p k:Nat) (hp:p≤b.length):b.length < p+k∨∃ xs rest,xs.length=k∧b.drop p=xs++rest:=by
  by_cases h:b.length < p+k
  · exact .inl h
  · exact .inr ⟨(b.drop p).take k,(b.drop p).drop k,by rw [List.length_take,List.length_drop]; omega,(List.take_append_drop k _).symm⟩
theorem Zc9 (b:List Int) (p left n:Int) (h0:0≤n) (h1:n≤left) (h2:left≤1000):Ev (fun N=>Z1x N ⟨b,p,left⟩ n) (some ⟨b,p,left - n⟩):=by
  have e:IntKind.i64.wrap (left - n)=left - n:=Zg6 _ (by omega) (by omega)
  refine Ev.neg (by show ¬ (IntKind.i64.wrap (left - n) < 0); rw [e]; omega) ?_
  show Ev (fun _=>some (some (Z0a.mk b p (IntKind.i64.wrap (left - n))))) _
  rw [e]
  exact Ev.now _
theorem weighs_no (b:List Int) (p left n:Int) (h1:left < n) (h2:0≤left) (h3:n≤1000000):Ev (fun N=>Z1x N ⟨b,p,left⟩ n) none:=by
  have e:IntKind.i64.wrap (left - n)=left - n:=Zg6 _ (by omega) (by omega)
  exact Ev.pos (by show (IntKind.i64.wrap (left - n) < 0); rw [e]; omega) (Ev.now _)
theorem Z5h (x:Int):valB 0 [x]=x.toNat:=by rw [valB,valB]; omega
theorem Z3t (n:Nat) (h:n < 9223372036854775808):IntKind.i64.wrap (n:Int)=(n:Int):=Zg6 _ (by omega) (by omega)
theorem val4 {x:Int} (h0:0≤x) (h1:x < 4294967296):IntKind.u32.wrap ((valB 0 (beB (u64n x) 4):Nat):Int)=x:=by
  rw [Zeq,Zc0 h0 (by omega),show 256 ^ 4=4294967296 by decide,wrapU32]
  omega
theorem val4_lt {xs:List Int} (hb:bytesL xs) (hl:xs.length=4):valB 0 xs < 4294967296:=by
  have:=valB_lt xs 0 1 hb (by omega)
  rw [hl,show 1 * 256 ^ 4=4294967296 by decide] at this
  exact this
theorem limbs_ok (b:List Int) (hb:b.length≤500000) (hbb:bytesL b) (q2 q4:Int × Z0a) (n:Nat) (hn:n≤8) (hq:q4.1=(n:Int)) (left:Int) (rest:List Int):∀ (ts:List Int) (acc:List Int) (v p:Nat),lim32 ts→v+ts.length=n→acc.length=v→b.drop p=magB ts++rest →
    Ev (fun N=>Z25 N q2 q4 acc b (p:Int) left (v:Int)) (.inr (acc++ts,b,((p+4 * ts.length:Nat):Int),left))
  | [],acc,v,p,hl,hv,ha,hd=>by
    refine Ev.step ?_ (fun N=>by rw [Z25,hq,Z3t n (by omega)])
    rw [List.append_nil]
    exact Ev.neg (by simp at hv; omega) (Ev.now _)
  | x::xs,acc,v,p,hl,hv,ha,hd=>by
    have hx:=hl x (by simp)
    rw [List.length_cons] at hv
    rw [magB,List.append_assoc] at hd
    have hnum:=num_ok 4 4 left rfl hb hbb (Z5f (u64n x) 4) (by omega) (by omega) hd
    have hd':=Z2u hd
    rw [Z5f] at hd'
    have ih:=limbs_ok b hb hbb q2 q4 n hn hq left rest xs (acc++[x]) (v+1) (p+4) (fun y hy=>hl y (by simp [hy])) (by omega) (by rw [List.length_append]; show acc.length+1=_; omega) hd'
    rw [List.append_assoc] at ih
    refine Ev.step ?_ (fun N=>by rw [Z25,hq,Z3t n (by omega),Z36 (by omega)])
    refine Ev.pos (by omega) (Ev.bind hnum ?_)
    show Ev (fun N=>(app acc ([IntKind.wrap .u32 ((valB 0 (beB (u64n x) 4):Nat):Int)]:List Int)).bind fun x15=>Z25 N q2 q4 x15 b ((p+4:Nat):Int) left ((v+1:Nat):Int)) _
    rw [val4 hx.1 hx.2]
    refine Ev.bindc (app9 (by show acc.length+1≤_; omega)) ?_
    rw [List.length_cons,show p+4 * (xs.length+1)=p+4+4 * xs.length by omega]
    exact ih
theorem limbs_tot (b:List Int) (hb:b.length≤500000) (hbb:bytesL b) (q2 q4:Int × Z0a) (n:Nat) (hn:n≤8) (hq:q4.1=(n:Int)) (left:Int):∀ (d:Nat) (acc:List Int) (v p:Nat),v+d=n→acc.length=v→p≤b.length →
    ∃ r,Ev (fun N=>Z25 N q2 q4 acc b (p:Int) left (v:Int)) r∧(r=.inl ()∨∃ ts rest,r=.inr (acc++ts,b,((p+4 * d:Nat):Int),left)∧ts.length=d∧lim32 ts∧b.drop p=magB ts++rest)
  | 0,acc,v,p,hv,ha,hp=>by
    refine ⟨.inr (acc,b,(p:Int),left), ?_,.inr ⟨[],b.drop p,by simp,rfl,(fun x hx=>by cases hx),by rw [magB]; rfl⟩⟩
    refine Ev.step ?_ (fun N=>by rw [Z25,hq,Z3t n (by omega)])
    exact Ev.neg (by omega) (Ev.now _)
  | d+1,acc,v,p,hv,ha,hp=>by
    rcases Z62 b p 4 hp with h | ⟨xs,rest,hx,hd⟩
    · refine ⟨.inl (), ?_,.inl rfl⟩
      refine Ev.step ?_ (fun N=>by rw [Z25,hq,Z3t n (by omega),Z36 (by omega)])
      exact Ev.pos (by omega) (Ev.bind (num_no 4 4 left rfl hb hp h) (Ev.now _))
    · have hnum:=num_ok 4 4 left rfl hb hbb hx (by omega) (by omega) hd
      have hxb:bytesL xs:=fun x hx=>hbb x (List.mem_of_mem_drop (i:=p) (by rw [hd]; exact List.mem_append_left _ hx))
      have hlt:=val4_lt hxb hx
      have hroom:=Z58 hd (by omega)
      have e:IntKind.u32.wrap ((valB 0 xs:Nat):Int)=((valB 0 xs:Nat):Int):=by rw [wrapU32]; omega
      obtain ⟨r,hr,ho⟩:=limbs_tot b hb hbb q2 q4 n hn hq left d (acc++[((valB 0 xs:Nat):Int)]) (v+1) (p+4) (by omega) (by rw [List.length_append]; show acc.length+1=_; omega) (by omega)
      refine ⟨r, ?_, ?_⟩
      · refine Ev.step ?_ (fun N=>by rw [Z25,hq,Z3t n (by omega),Z36 (by omega)])
        refine Ev.pos (by omega) (Ev.bind hnum ?_)
        show Ev (fun N=>(app acc ([IntKind.wrap .u32 ((valB 0 xs:Nat):Int)]:List Int)).bind fun x15=>Z25 N q2 q4 x15 b ((p+4:Nat):Int) left ((v+1:Nat):Int)) _
        rw [e]
        exact Ev.bindc (app9 (by show acc.length+1≤_; omega)) hr
      · rcases ho with rfl | ⟨ts,rest',rfl,h1,h2,h3⟩
        · exact .inl rfl
        · refine .inr ⟨((valB 0 xs:Nat):Int)::ts,rest', ?_,by rw [List.length_cons,h1], ?_, ?_⟩
          · rw [List.append_assoc,show p+4+4 * d=p+4 * (d+1) by omega]; rfl
          · intro x hx'
            rcases List.mem_cons.1 hx' with rfl | hx'
            · omega
            · exact h2 x hx'
          · have hd2:=Z2u hd
            rw [hx] at hd2
            have hu:u64n ((valB 0 xs:Nat):Int)=valB 0 xs:=by rw [Zc0 (by omega) (by omega)]; omega
            have h4:beB (valB 0 xs) 4=xs:=by have:=Zb1 xs 0 hxb; rwa [hx] at this
            rw [magB,hu,h4,List.append_assoc, ← h3,hd2]
            exact hd
theorem bigB0_ok (q2 q4:Int × Z0a) (h0:q4.1 ≥ 0) (h8:q4.1 < 256):Ev (fun N=>Z72 N q2 q4) (if q2.1 > 1∨q4.1 > 8 then .inl () else .inr ()):=by
  refine Ev.step ?_ (fun N=>by rw [Z72,Zg6 q4.1 (by omega) (by omega)])
  by_cases h1:q2.1 > 1
  · rw [if_pos (Or.inl h1:q2.1 > 1∨q4.1 > 8)]; exact Ev.pos h1 (Ev.now _)
  · by_cases h2:q4.1 > 8
    · rw [if_pos (Or.inr h2:q2.1 > 1∨q4.1 > 8)]; exact Ev.neg h1 (Ev.pos h2 (Ev.now _))
    · rw [if_neg (show ¬ (q2.1 > 1∨q4.1 > 8) by omega)]; exact Ev.neg h1 (Ev.neg h2 (Ev.now _))
end Go.Proofs.Ytcknifhhgeccfaa.Sh
