import Derived.Test.YtllcnlonkloabaaPureTellsB
import Derived.Test.YtllcnlonkloabaaPureTellsA
set_option linter.unusedVariables false
set_option linter.unusedSimpArgs false
namespace Go.Proofs.Ytllcnlonkloabaa.Sh
open Go Lift Go.Proofs
open Go.IntKind (wrap)
theorem scaled {x:Int} (hx:(x.natAbs:Int) < TOP):x * (UU:Int) < ((2 ^ 256 * UU:Nat):Int)∧-((2 ^ 256 * UU:Nat):Int) < x * (UU:Int):=by
 have hT:TOP=((2 ^ 256:Nat):Int):=by decide
 have hU:(0:Int) < (UU:Int):=by exact_mod_cast UU_pos
 rw [hT] at hx
 have e:((2 ^ 256 * UU:Nat):Int)=((2 ^ 256:Nat):Int) * (UU:Int):=kv _ _
 rw [e, ← Int.neg_mul]
 exact ⟨jy (by omega) hU,jy (by omega) hU⟩
theorem cmpF_far {x:Int} (hx:(x.natAbs:Int) < TOP) {t:Nat} (hn:nanW t=false) (h:2 ^ 256 * UU≤VV (rg t)):cmpF x t=if sg t=true then 1 else -1:=by
 have hs:=scaled hx
 have h':((2 ^ 256 * UU:Nat):Int)≤((VV (rg t):Nat):Int):=Int.ofNat_le.2 h
 unfold cmpF sV
 rw [hn]
 generalize ((2 ^ 256 * UU:Nat):Int)=K at *
 generalize x * (UU:Int)=y at *
 cases sg t with
 |true=>simp only [xh,if_false,if_true]; rw [if_pos (by omega)]
 |false=>simp only [xh,if_false]; rw [if_neg (by omega)]
theorem field_eq {t:Nat} (ht:t < 18446744073709551616):band .u64 (Int.fdiv ((t:Nat):Int) (yh 52)) (2047:Int)=((rg t / 4503599627370496:Nat):Int):=by
 have hr:rg t=t % 9223372036854775808:=rfl
 have e:yh 52=4503599627370496:=by decide
 rw [e,um _ (by decide),show ((t:Nat):Int) / 4503599627370496=((t / 4503599627370496:Nat):Int) by omega]
 have h1:=Zik (a:=t / 4503599627370496) (b:=2047) (by omega) (by decide)
 rw [show ((2047:Nat):Int)=2047 from rfl,show (2047:Nat)=2 ^ 11 - 1 by decide,and_mask] at h1
 rw [h1]
 omega
theorem sign_pos {α:Type} {t:Nat} (ht:t < 18446744073709551616) (u v:α):(if Int.fdiv ((t:Nat):Int) (yh 63)=(1:Int) then u else v)=if sg t=true then u else v:=by
 have:=sign_bit ht
 exact Z5n (by rw [← this,beq_iff_eq]) rfl rfl
theorem rcmpNum_ev (x:Int) (hx:(x.natAbs:Int) < TOP) (b:Int) (h:W64 b):Ev (fun N=>Z5i N (numN x) b) (cmpF x b.toNat):=by
 have hT:TOP=((2 ^ 256:Nat):Int):=by decide
 have hU:(0:Int) < (UU:Int):=by exact_mod_cast UU_pos
 have hc:=rclean_ev b h
 refine Ev.bind hc (Ev.bind (numMay_ev x hx) (Ev.neg (by simp) ?_))
 have hnn:=rnan_ev (cleanW b) (cleanW_w h)
 cases hn:nanW b.toNat with
 |true =>
  have e:cleanW b=9221120237041090561:=by unfold cleanW; rw [if_pos hn]
  rw [e,nan_NN] at hnn
  rw [e]
  have e2:cmpF x b.toNat=-1:=by unfold cmpF; rw [if_pos hn]
  rw [e2]
  exact Ev.bind hnn (Ev.pos rfl (Ev.now _))
 |false =>
  have e:cleanW b=b:=by unfold cleanW; rw [hn]; rfl
  rw [e,hn] at hnn
  rw [e]
  refine Ev.bind hnn (Ev.neg (by simp) ?_)
  obtain ⟨t,rfl⟩:=ul h.lo
  have ht:t < 18446744073709551616:=by have:=h.hi; omega
  rw [xn] at hn ⊢
  have fin:∀ (y:Int),cmpF x t=y→Ev (fun _:Nat=>some y) (cmpF x t):=fun y hy=>by rw [hy]; exact Ev.now _
  have sgnEv:(2 ^ 256 * UU≤VV (rg t))→Ev (fun _:Nat=>if Int.fdiv ((t:Nat):Int) (yh 63)=(1:Int) then some (1:Int) else some (-1:Int)) (cmpF x t):=fun hf=>by
   rw [cmpF_far hx hn hf]
   refine Ev.of (f:=fun _=>some (if sg t=true then (1:Int) else -1)) (Ev.now _) fun N=>?_
   rw [sign_pos ht]
   split <;> rfl
  rw [field_eq ht]
  by_cases c:1323≤rg t / 4503599627370496
  ·refine Ev.pos (by omega) (sgnEv ?_)
   have hlow:¬ rg t < 4503599627370496:=by omega
   obtain ⟨K,hK⟩:∃ K:Nat,K=1330:=⟨_,rfl⟩
   rw [Zc2 hlow, ← UU_up 256 K (by omega)]
   have h52:(2:Nat) ^ 52=4503599627370496:=by decide
   have h1:2 ^ K≤2 ^ (52+(rg t / 4503599627370496 - 1)):=ve (by decide) (by omega)
   rw [j5,h52] at h1
   exact u7 h1 (ql _ (by omega))
  ·refine Ev.neg (by omega) (Ev.bind (rwhole_ev ht (by omega)) ?_)
   have hfl:=Nat.div_add_mod (VV (rg t)) UU
   have hlt:=zn (VV (rg t)) UU_pos
   generalize hTd:VV (rg t) / UU=T at *
   generalize VV (rg t) % UU=ρ at hfl hlt ⊢
   have hV:(VV (rg t):Int)=(T:Int) * (UU:Int)+(ρ:Int):=by rw [← hfl,Int.natCast_add,kv,Int.mul_comm]
   have hmag:(numN (if sg t=true then -(T:Int) else (T:Int))).fMag=toL T:=by
    unfold numN
    cases sg t
    ·simp only [xh,if_false]; rw [ze]
    ·simp only [if_true]; rw [Int.natAbs_neg,ze]
   have hlen:=toL_len (T:Int) 8 (by omega)
   rw [TOP_eq,xn] at hlen
   by_cases c8:(T:Int) < TOP
   ·refine Ev.neg (by show ¬ (((numN (if sg t=true then -(T:Int) else (T:Int))).fMag.length:Nat):Int) > 8; rw [hmag]; have:=hlen.2 c8; omega) ?_
    have hcmp:=ncmp_ev x (if sg t=true then -(T:Int) else (T:Int)) hx (by split <;> omega)
    refine Ev.bind hcmp ?_
    have hlt':(ρ:Int) < (UU:Int):=by exact_mod_cast hlt
    have hsV:sV t=if sg t then -((T:Int) * (UU:Int)+(ρ:Int)) else (T:Int) * (UU:Int)+(ρ:Int):=by
     unfold sV; rw [hV]
    have hcF:cmpF x t=if (if sg t=true then -((T:Int) * (UU:Int)+(ρ:Int)) else (T:Int) * (UU:Int)+(ρ:Int)) < x * (UU:Int) then 1 else -1:=by
     unfold cmpF; rw [hn,hsV]; rfl
    obtain ⟨f1,f2⟩:=cmp_fin x T ρ UU (sg t) hU (by omega) hlt'
    rw [← hcF] at f1 f2
    by_cases hz:sgn (x - (if sg t=true then -(T:Int) else (T:Int)))=0
    ·refine Ev.pos hz ?_
     rw [← f2 hz]
     by_cases hρ:ρ ≠ 0
     ·refine Ev.pos (by show decide (ρ ≠ 0)=true; exact decide_eq_true hρ) ?_
      refine Ev.of (f:=fun _=>some (if sg t=true∧0 < (ρ:Int) then (1:Int) else -1)) (Ev.now _) fun N=>?_
      rw [sign_pos ht,Z5n (show sg t=true ↔ (sg t=true∧0 < (ρ:Int)) from ⟨fun h=>⟨h,by omega⟩,fun h=>h.1⟩) rfl rfl]
      split <;> rfl
     ·refine Ev.neg (by show ¬ decide (ρ ≠ 0)=true; simpa using hρ) ?_
      rw [if_neg (by omega)]
      exact Ev.now _
    ·refine Ev.neg hz ?_
     rw [f1 hz]
     exact Ev.now _
   ·refine Ev.pos (by show (((numN (if sg t=true then -(T:Int) else (T:Int))).fMag.length:Nat):Int) > 8; rw [hmag]; apply j3; intro q; exact c8 (hlen.1 (by omega))) (sgnEv ?_)
    rw [hT] at c8
    have h1:2 ^ 256≤T:=by omega
    have h2:=ql UU h1
    have h3:T * UU≤VV (rg t):=by rw [← hfl,z8]; omega
    exact u7 h2 h3
theorem Zh9 {t:Z00} (h:Fine t) (hk:t.fKind=1∨t.fKind=2):Ev (fun N=>Z51 N t) (numN (numV t),true):=by
 have e:=rtNum_ev t h.s h.w
 unfold numT at e
 rw [if_pos h.m] at e
 unfold numV
 by_cases h1:t.fKind=1
 ·rw [if_pos h1] at e ⊢; exact e
 ·rw [if_neg h1,if_pos (by omega)] at e
  rw [if_neg h1]
  obtain ⟨x,hx,ex,_⟩:=h.big (by omega)
  rw [ex] at e ⊢
  rw [Zcf]; exact e
theorem Ze7 {t:Z00} (h:Fine t) (hk:t.fKind=3):Ev (fun N=>Z51 N t) ((⟨false,[]⟩:Z08),false):=by
 have e:=rtNum_ev t h.s h.w
 unfold numT at e
 rwa [if_pos h.m,if_neg (by omega),if_neg (by omega)] at e
theorem inW' {t:Z00} (h:Fine t):W64 t.fBits:=⟨(inB h).1,(inB h).2⟩
theorem rnumbers_ev {a b:Z00} (ha:Fine a) (hb:Fine b) (ka:a.fKind=1∨a.fKind=2∨a.fKind=3) (kb:b.fKind=1∨b.fKind=2∨b.fKind=3):Ev (fun N=>Z6o N a b) (sgn (numKey a - numKey b)):=by
 unfold numKey
 by_cases h1:a.fKind=1∨a.fKind=2
 ·rw [if_pos h1]
  refine Ev.bind (Zh9 ha h1) ?_
  by_cases h2:b.fKind=1∨b.fKind=2
  ·rw [if_pos h2,sgn_scale]
   exact Ev.bind (Zh9 hb h2) (Ev.pos rfl (Ev.pos rfl (Ev.bind (ncmp_ev _ _ (ha.numV_top h1) (hb.numV_top h2)) (Ev.now _))))
  ·rw [if_neg h2, ← cmpF_key (ha.numV_top h1)]
   exact Ev.bind (Ze7 hb (by omega)) (Ev.pos rfl (Ev.neg (by simp) (Ev.bind (rcmpNum_ev _ (ha.numV_top h1) _ (inW' hb)) (Ev.now _))))
 ·rw [if_neg h1]
  refine Ev.bind (Ze7 ha (by omega)) ?_
  by_cases h2:b.fKind=1∨b.fKind=2
  ·rw [if_pos h2,Zd1, ← cmpF_key (hb.numV_top h2)]
   have hr:wrap .i64 (0 - cmpF (numV b) a.fBits.toNat)=-(cmpF (numV b) a.fBits.toNat):=by
    have:cmpF (numV b) a.fBits.toNat=-1∨cmpF (numV b) a.fBits.toNat=1:=by
     unfold cmpF
     split
     ·exact .inl rfl
     ·split
      ·exact .inr rfl
      ·exact .inl rfl
    rw [Zk1 _ (by omega) (by omega)]; omega
   refine Ev.bind (Zh9 hb h2) (Ev.neg (by simp) (Ev.pos rfl (Ev.bind (rcmpNum_ev _ (hb.numV_top h2) _ (inW' ha)) ?_)))
   show Ev (fun _=>some (wrap .i64 (0 - cmpF (numV b) a.fBits.toNat))) _
   rw [hr]
   exact Ev.now _
  ·rw [if_neg h2, ← place_key]
   have hc:=rcmp_ev a.fBits b.fBits (inW' ha) (inW' hb)
   rw [cleanW_id (ha.nan (by omega)),cleanW_id (hb.nan (by omega))] at hc
   exact Ev.bind (Ze7 hb (by omega)) (Ev.neg (by simp) (Ev.neg (by simp) (Ev.bind hc (Ev.now _))))
def rcls (k:Int):Int:=if k≤3 then 1 else k - 2
theorem rclass_ev {t:Z00} (h:Fine t):Ev (fun N=>Z6g N t) (rcls t.fKind):=by
 have hk:=h.kind
 have e:idx ([(0:Int),(1:Int),(1:Int),(1:Int),(2:Int),(3:Int),(4:Int),(5:Int),(6:Int),(7:Int)]:List Int) t.fKind=some (rcls t.fKind):=by
  generalize t.fKind=k at *
  have:k=1∨k=2∨k=3∨k=4∨k=5∨k=6∨k=7∨k=8∨k=9:=by omega
  rcases this with rfl | rfl | rfl | rfl | rfl | rfl | rfl | rfl | rfl <;> rfl
 exact Ev.bindc e (Ev.now _)
theorem rcls_cls {j k:Int} (hj:1≤j∧j≤9) (hk:1≤k∧k≤9):sgn (rcls j - rcls k)=sgn (cls j - cls k):=by
 unfold rcls cls
 refine sgn_same ?_ ?_ <;> (repeat' split) <;> omega
theorem rsign_ev (x y:Int):Ev (fun N=>Z4g N x y) (sgn (x - y)):=by
 have e:sgn (x - y)=if x < y then -1 else if x > y then 1 else 0:=by
  unfold sgn
  repeat' split
  all_goals omega
 rw [e]
 exact Ev.iff (fun _=>Ev.now _) fun _=>Ev.iff (fun _=>Ev.now _) fun _=>Ev.now _
theorem less_lexB:∀ X Y:List UInt8,Op.bytesLess X Y=decide (lexB X Y < 0)
 |[],[]=>rfl
 |[],_::_=>rfl
 |_::_,[]=>rfl
 |x::xs,y::ys=>by
  rw [Op.bytesLess,less_lexB xs ys,lexB]
  by_cases h1:x < y
  ·rw [if_pos h1,decide_eq_true h1]; rfl
  ·rw [if_neg h1,decide_eq_false h1,Bool.false_or]
   by_cases h2:y < x
   ·rw [if_pos h2,show (x == y)=false from by rw [beq_eq_false_iff_ne]; rintro rfl; exact UInt8.lt_irrefl _ h2]
    rfl
   ·rw [if_neg h2]
    have:x=y:=UInt8.le_antisymm (UInt8.not_lt.1 h2) (UInt8.not_lt.1 h1)
    subst this
    simp
theorem toList_data (a:ByteArray):a.toList=a.data.toList:=by
 obtain ⟨x⟩:=a
 have key:∀ (n i:Nat) (r:List UInt8),x.size - i=n→ByteArray.toList.loop ⟨x⟩ i r=r.reverse++x.toList.drop i:=by
  intro n
  induction n with
  |zero =>
   intro i r hn
   unfold ByteArray.toList.loop
   have:¬ i < (ByteArray.mk x).size:=by show ¬ i < x.size; omega
   rw [if_neg this,jw (by simp; omega),xm]
  |succ n ih =>
   intro i r hn
   unfold ByteArray.toList.loop
   have hlt:i < x.size:=by omega
   have:i < (ByteArray.mk x).size:=hlt
   rw [if_pos this,ih (i+1) _ (by omega)]
   have hg:(ByteArray.mk x).get! i=x[i]:=by
    show x[i]! = _
    rw [getElem!_pos x i hlt]
   rw [List.reverse_cons,qb,hg,List.drop_eq_getElem_cons (i:=i) (by simpa using hlt)]
   simp
 have:=key x.size 0 [] (by omega)
 simpa [ByteArray.toList] using this
theorem rb1_ev (a b:Z00):Ev (fun N=>beehiveref5_cmp_B1 N a b) (decide (a.fKind=1∨a.fKind=2∨a.fKind=3)):=by
 refine Ev.step ?_ (fun N=>by rw [beehiveref5_cmp_B1])
 by_cases h1:a.fKind=1
 ·refine Ev.pos h1 ?_
  rw [h1]; exact Ev.now _
 ·refine Ev.neg h1 ?_
  by_cases h2:a.fKind=2
  ·refine Ev.pos h2 ?_
   rw [h2]; exact Ev.now _
  ·refine Ev.neg h2 ?_
   rw [show decide (a.fKind=1∨a.fKind=2∨a.fKind=3)=(a.fKind == (3:Int)) from by rw [uh,decide_eq_true_eq,beq_iff_eq]; omega]
   exact Ev.now _
theorem rb2_ev (a b:Z00):Ev (fun N=>beehiveref5_cmp_B2 N a b) (decide (a.fKind=4∨a.fKind=5)):=by
 refine Ev.step ?_ (fun N=>by rw [beehiveref5_cmp_B2])
 by_cases h1:a.fKind=4
 ·refine Ev.pos h1 ?_
  rw [h1]; exact Ev.now _
 ·refine Ev.neg h1 ?_
  rw [show decide (a.fKind=4∨a.fKind=5)=(a.fKind == (5:Int)) from by rw [uh,decide_eq_true_eq,beq_iff_eq]; omega]
  exact Ev.now _
def rargs (c:Int):Unit ⊕ Int:=if c=0 then .inl () else .inr c
theorem Fine.cons2 {t:Z00} (h:Fine t) (hk:t.fKind=8):t.fArgs.length=2:=by
 have ho:=h.right.1
 unfold okT at ho
 rw [if_neg (by omega),if_neg (by omega),if_neg (by omega),if_neg (by omega),if_neg (by omega),if_neg (by omega),if_pos hk] at ho
 exact of_decide_eq_true ho
mutual
theorem rcompare_ev:∀ (a:Z00),Fine a→∀ b:Z00,Fine b→Ev (fun N=>beehiveref5_cmp N a b) (cmpT a b)
 |⟨k,n,m,f,s,args⟩,ha,b,hb=>by
  have hargs:=fun (p0 p1:Z00) (e0:p0.fArgs.drop 0=args) (h1:p1.fArgs.drop 0=b.fArgs) (hl:p0.fArgs.length=p1.fArgs.length) (hm:p0.fArgs.length≤maxLen)=>rcompareA_ev args ha.arg b.fArgs hb.arg p0 p1 0 e0 h1 hl hm
  have hka:=ha.kind
  have hkb:=hb.kind
  have hnum:=fun h1 h2=>rnumbers_ev ha hb h1 h2
  generalize hA:(⟨k,n,m,f,s,args⟩:Z00)=a at *
  have hAa:a.fArgs=args:=by rw [← hA]
  rw [Zcc]
  have tail:Ev (fun N=>beehiveref5_cmp_B0 N a b) (.inl ())→∀ v,(a.fArgs.length=b.fArgs.length→v=cmpA a.fArgs b.fArgs)→(a.fArgs.length ≠ b.fArgs.length→v=sgn ((a.fArgs.length:Int) - (b.fArgs.length:Int))) →
    Ev (fun N=>(beehiveref5_cmp_B0 N a b).bind fun r19=>(match r19 with | .inl r20=>if ((a.fArgs.length:Nat):Int) ≠ ((b.fArgs.length:Nat):Int) then (Z4g N ((a.fArgs.length:Nat):Int) ((b.fArgs.length:Nat):Int)).bind fun r23=>some r23 else (beehiveref5_cmp_L3 N a b (0:Int)).bind fun r29=>(match r29 with | .inl r30=>some (0:Int) | .inr r31=>some r31) | .inr r21=>some r21)) v:=fun hB v h1 h2=>by
   refine Ev.bind hB ?_
   by_cases hl:a.fArgs.length=b.fArgs.length
   ·refine Ev.neg (by omega) ?_
    rw [h1 hl]
    have hL:=hargs a b (by rw [← hAa]; rfl) rfl hl ha.w.ArgsLen
    rw [← hAa] at hL
    refine Ev.bind hL ?_
    unfold rargs
    by_cases hz:cmpA a.fArgs b.fArgs=0
    ·rw [if_pos hz,hz]; exact Ev.now _
    ·rw [if_neg hz]; exact Ev.now _
   ·refine Ev.pos (by omega) ?_
    rw [h2 hl]
    exact Ev.bind (rsign_ev _ _) (Ev.now _)
  refine Ev.step ?_ (fun N=>by rw [beehiveref5_cmp])
  refine Ev.bind (rclass_ev ha) (Ev.bind (rclass_ev hb) ?_)
  have hsame:=rcls_cls hka hkb
  have hsg:=rsign_ev (rcls a.fKind) (rcls b.fKind)
  rw [hsame] at hsg
  unfold lex
  by_cases hc:sgn (cls a.fKind - cls b.fKind) ≠ 0
  ·rw [if_pos hc]
   refine Ev.pos (fun e=>hc ?_) (Ev.bind hsg (Ev.now _))
   rw [← hsame,e,Int.sub_self]; rfl
  ·rw [if_neg hc]
   have hc0:sgn (cls a.fKind - cls b.fKind)=0:=by simpa using hc
   refine Ev.neg (fun q=>q ?_) ?_
   ·rw [hc0] at hsame
    have:=Z80.1 hsame
    omega
   have hcl:=cls_num hka hkb hc0
   rcases kinds_of hka with hn | h6 | h8 | h9 | ho
   ·rw [Zhb b hn]
    have hB:Ev (fun N=>beehiveref5_cmp_B0 N a b) (.inr (sgn (numKey a - numKey b))):=by
     refine Ev.step ?_ (fun N=>by rw [beehiveref5_cmp_B0])
     have:=rb1_ev a b
     rw [decide_eq_true hn] at this
     exact Ev.bind this (Ev.pos rfl (Ev.bind (hnum hn (by omega)) (Ev.now _)))
    exact Ev.bind hB (Ev.now _)
   ·rw [Zhs b h6]
    refine tail ?_ _ (fun hl=>?_) (fun hl=>?_)
    ·refine Ev.step ?_ (fun N=>by rw [beehiveref5_cmp_B0])
     have h1:=rb1_ev a b
     have h2:=rb2_ev a b
     rw [decide_eq_false (by omega)] at h1 h2
     exact Ev.bind h1 (Ev.neg (by simp) (Ev.bind h2 (Ev.neg (by simp) (Ev.neg (by omega) (Ev.now _)))))
    ·rw [hl,Int.sub_self]; rfl
    ·unfold lex
     rw [if_pos (by rw [Ne,Z80]; omega)]
   ·rw [Zhp b h8]
    have l1:=ha.cons2 h8
    have l2:=hb.cons2 (by omega)
    refine tail ?_ _ (fun hl=>rfl) (fun hl=>by omega)
    refine Ev.step ?_ (fun N=>by rw [beehiveref5_cmp_B0])
    have h1:=rb1_ev a b
    have h2:=rb2_ev a b
    rw [decide_eq_false (by omega)] at h1 h2
    exact Ev.bind h1 (Ev.neg (by simp) (Ev.bind h2 (Ev.neg (by simp) (Ev.neg (by omega) (Ev.now _)))))
   ·rw [Zhd b h9]
    have hB:Ev (fun N=>beehiveref5_cmp_B0 N a b) (.inr (lexB a.fBytes.data.toList b.fBytes.data.toList)):=by
     refine Ev.step ?_ (fun N=>by rw [beehiveref5_cmp_B0])
     have h1:=rb1_ev a b
     have h2:=rb2_ev a b
     rw [decide_eq_false (by omega)] at h1 h2
     refine Ev.bind h1 (Ev.neg (by simp) (Ev.bind h2 (Ev.neg (by simp) (Ev.pos h9 ?_))))
     rw [toList_data,toList_data,less_lexB]
     have hb3:=Zg2 a.fBytes.data.toList b.fBytes.data.toList
     have hz:=lexB_zero a.fBytes.data.toList b.fBytes.data.toList
     have hbeq:(a.fBytes.data.toList == b.fBytes.data.toList)=decide (lexB a.fBytes.data.toList b.fBytes.data.toList=0):=by
      rw [uh,beq_iff_eq,decide_eq_true_eq,hz]
     rw [hbeq]
     generalize lexB a.fBytes.data.toList b.fBytes.data.toList=q at *
     rcases hb3 with rfl | rfl | rfl
     ·exact Ev.neg (by decide) (Ev.neg (by decide) (Ev.now _))
     ·exact Ev.pos (by decide) (Ev.now _)
     ·exact Ev.neg (by decide) (Ev.pos (by decide) (Ev.now _))
    exact Ev.bind hB (Ev.now _)
   ·rw [Zhr b ho]
    by_cases h7:a.fKind=7
    ·have za:=Zi4 ha.right.2.1
     have zb:=Zi4 hb.right.2.1
     have n1:=za.1 (by omega)
     have n2:=zb.1 (by omega)
     have a1:=za.2.2.2.2 (by omega)
     have a2:=zb.2.2.2.2 (by omega)
     refine tail ?_ _ (fun hl=>?_) (fun hl=>?_)
     ·refine Ev.step ?_ (fun N=>by rw [beehiveref5_cmp_B0])
      have h1:=rb1_ev a b
      have h2:=rb2_ev a b
      rw [decide_eq_false (by omega)] at h1 h2
      exact Ev.bind h1 (Ev.neg (by simp) (Ev.bind h2 (Ev.neg (by simp) (Ev.neg (by omega) (Ev.now _)))))
     ·rw [n1,n2,a1,a2,cmpA]; rfl
     ·rw [a1,a2] at hl; exact absurd rfl hl
    ·have hB:Ev (fun N=>beehiveref5_cmp_B0 N a b) (.inr (sgn (a.fN - b.fN))):=by
      refine Ev.step ?_ (fun N=>by rw [beehiveref5_cmp_B0])
      have h1:=rb1_ev a b
      have h2:=rb2_ev a b
      rw [decide_eq_false (by omega)] at h1
      rw [decide_eq_true (by omega)] at h2
      exact Ev.bind h1 (Ev.neg (by simp) (Ev.bind h2 (Ev.pos rfl (Ev.bind (rsign_ev _ _) (Ev.now _)))))
     exact Ev.bind hB (Ev.now _)
theorem rcompareA_ev:∀ (xs:List Z00),(∀ x ∈ xs,Fine x)→∀ (ys:List Z00),(∀ y ∈ ys,Fine y)→∀ (p0 p1:Z00) (i:Nat),p0.fArgs.drop i=xs→p1.fArgs.drop i=ys→p0.fArgs.length=p1.fArgs.length→p0.fArgs.length≤maxLen →
  Ev (fun N=>beehiveref5_cmp_L3 N p0 p1 (i:Nat)) (rargs (cmpA xs ys))
 |[],hx,ys,hy,p0,p1,i,hl,hm,he,hll=>by
  have h1:=Z6l hl
  have hys:ys=[]:=by rw [← hm]; exact jw (by omega)
  subst hys
  rw [cmpA]
  refine Ev.step ?_ (fun N=>by rw [beehiveref5_cmp_L3])
  exact Ev.neg (by omega) (Ev.now _)
 |x::xs,hx,[],hy,p0,p1,i,hl,hm,he,hll=>by
  have h1:=Z5o hl
  have h2:=Z6l hm
  omega
 |x::xs,hx,y::ys,hy,p0,p1,i,hl,hm,he,hll=>by
  have h1:=Z5o hl
  have h2:=Z5o hm
  rw [Z4k] at hll
  have hc:=rcompare_ev x (hx x (by simp)) y (hy y (by simp))
  rw [Zb3]
  unfold lex
  by_cases h0:cmpT x y ≠ 0
  ·rw [if_pos h0]
   refine Ev.step ?_ (fun N=>by rw [beehiveref5_cmp_L3])
   refine Ev.pos (by omega) (Ev.bindc (Zjg hl) (Ev.bindc (Zjg hm) (Ev.bind hc (Ev.pos h0 ?_))))
   unfold rargs
   rw [if_neg h0]
   exact Ev.now _
  ·rw [if_neg h0]
   have ih:=rcompareA_ev xs (fun z hz=>hx z (by simp [hz])) ys (fun z hz=>hy z (by simp [hz])) p0 p1 (i+1) (Z50 hl) (Z50 hm) he (by rw [Z4k]; exact hll)
   refine Ev.step ?_ (fun N=>by rw [beehiveref5_cmp_L3,Z3a (by omega)])
   exact Ev.pos (by omega) (Ev.bindc (Zjg hl) (Ev.bindc (Zjg hm) (Ev.bind hc (Ev.neg h0 ih))))
end
end Go.Proofs.Ytllcnlonkloabaa.Sh
