import Derived.Test.YtllcnlonkloabaaPureCmpNum
import Derived.Test.YtllcnlonkloabaaPureMayIff
import Derived.Test.YtllcnlonkloabaaLift4
set_option linter.unusedVariables false
set_option linter.unusedSimpArgs false
namespace Go.Proofs.Ytllcnlonkloabaa.Sh
open Go Lift Go.Proofs
open Go.IntKind (wrap)
structure Fine (t:Z00):Prop where
 s:Small t
 w:Z0l t
 m:mayT t=true
theorem Fine.right {t:Z00} (h:Fine t):okT t=true∧bareT t=true∧rightsT t.fArgs=true:=by
 have:=h.m
 rw [mayT_iff,yx,rightT_eq,yx,yx] at this
 exact ⟨this.2.1.1,this.2.1.2,this.2.2⟩
theorem wt_mem:∀ {ts:List Z00} {y:Z00},y ∈ ts→wt y≤wts ts
 |x::xs,y,h=>by
  have h1:=Zbm xs
  have h2:=wt_pos x
  rw [wts]
  rcases List.mem_cons.1 h with rfl | h
  ·omega
  ·have:=wt_mem h; omega
theorem Fine.arg {t:Z00} (h:Fine t):∀ y ∈ t.fArgs,Fine y:=by
 intro y hy
 obtain ⟨h1,h2,h3⟩:=h.right
 have hk:t.fKind=6∨t.fKind=8:=by
  apply j3
  intro hn
  have e:=bare_args h2 (fun e=>hn (.inl e)) (fun e=>hn (.inr e))
  rw [e] at hy
  cases hy
 refine ⟨h.s.args y hy,h.w.Args y hy, ?_⟩
 have hm:=h.m
 rw [mayT_iff,yx,decide_eq_true_eq,wt_eq,if_neg (by omega),if_neg (by omega),if_pos hk] at hm
 have:=wt_mem hy
 rw [rights_all] at h3
 rw [mayT_iff,yx,decide_eq_true_eq]
 exact ⟨by omega,List.all_eq_true.1 h3 y hy⟩
theorem Fine.kind {t:Z00} (h:Fine t):1≤t.fKind∧t.fKind≤9:=by
 have:=h.right.1
 unfold okT at this
 repeat' split at this
 all_goals first | omega | cases this
def bigV (n:Z08):Int:=if n.fNeg=true then -(val n.fMag) else val n.fMag
theorem Zcf (x:Int):bigV (numN x)=x:=by
 unfold bigV
 rw [num_val]
 by_cases h:x < 0
 ·rw [if_pos (by exact decide_eq_true h)]; omega
 ·rw [if_neg (by show ¬ decide (x < 0)=true; simpa using h)]; omega
theorem numN_inj {x y:Int} (h:numN x=numN y):x=y:=by rw [← Zcf x,h,Zcf]
theorem Fine.big {t:Z00} (h:Fine t) (hk:t.fKind=2):∃ x:Int,(x.natAbs:Int) < TOP∧t.fNum=numN x∧(x < -1152921504606846976∨1152921504606846975 < x):=by
 have ho:=h.right.1
 unfold okT at ho
 rw [if_neg (by omega),if_pos hk,yx,qj] at ho
 rcases may_or t.fNum (limbs_of h.w.Num.Mag) with ⟨x,hx,e⟩ | hf
 ·refine ⟨x,hx,e, ?_⟩
  apply j3
  intro hn
  have hlen:(numN x).fMag.length≤2:=by
   have a:=toL_len (x.natAbs:Int) 2 (by omega)
   rw [xn] at a
   exact a.2 (by show (x.natAbs:Int) < 4294967296 ^ 2; omega)
  have hv:val2 (numN x).fMag=(x.natAbs:Int):=by
   have:∀ {l:List Int},l.length≤2→val2 l=val l:=fun {l} h=>by
    match l,h with
    |[],_=>rfl
    |[a],_=>rw [val2,val,val]; omega
    |[a,b],_=>rw [val2,val,val,val]; omega
   rw [this hlen,num_val]
  have h2:=ho.2
  rw [e] at h2
  have hm:mayN (numN x)=true:=by rw [← e]; exact ho.1
  unfold smallN at h2
  rw [if_pos ⟨hm,hlen⟩,hv] at h2
  split at h2
  ·rename_i hneg
   have:x < 0:=of_decide_eq_true hneg
   rw [if_pos (by omega)] at h2
   cases h2
  ·rename_i hneg
   have:¬ x < 0:=fun h=>hneg (decide_eq_true h)
   rw [if_pos (by omega)] at h2
   cases h2
 ·have:=Ev.det (nmay_ev t.fNum) hf
  rw [ho.1] at this
  cases this
theorem Fine.int {t:Z00} (h:Fine t) (hk:t.fKind=1):-1152921504606846976≤t.fN∧t.fN≤1152921504606846975:=by
 have ho:=h.right.1
 unfold okT at ho
 rw [if_pos hk] at ho
 exact of_decide_eq_true ho
theorem int_top {x:Int} (h:-1152921504606846976≤x∧x≤1152921504606846975):(x.natAbs:Int) < TOP:=by unfold TOP; omega
def numV (t:Z00):Int:=if t.fKind=1 then t.fN else bigV t.fNum
theorem Fine.numV_top {t:Z00} (h:Fine t) (hk:t.fKind=1∨t.fKind=2):((numV t).natAbs:Int) < TOP:=by
 unfold numV
 split
 ·rename_i h1; exact int_top (h.int h1)
 ·rename_i h1
  obtain ⟨x,hx,e,_⟩:=h.big (by omega)
  rw [e,Zcf]; exact hx
theorem termNum_ev {t:Z00} (h:Fine t) (hk:t.fKind=1∨t.fKind=2):Ev (fun N=>Zfw N t) (numN (numV t),true):=by
 have hm:=Zhn t h.s h.w
 rw [h.m] at hm
 refine Ev.bind hm (Ev.neg (by simp) ?_)
 unfold numV
 by_cases h1:t.fKind=1
 ·rw [if_pos h1]
  have:=h.int h1
  exact Ev.pos h1 (Ev.bind (Of_ev t.fN (by omega) (by omega)) (Ev.now _))
 ·rw [if_neg h1]
  obtain ⟨x,hx,e,_⟩:=h.big (by omega)
  have hl:=Zhm x hx
  refine Ev.neg h1 (Ev.pos (by omega) ?_)
  rw [e,Zcf]
  exact Ev.bind (clone32_ev _ (by rw [lim_eq]; omega)) (Ev.now _)
theorem Zfd {t:Z00} (h:Fine t) (hk:t.fKind=3):Ev (fun N=>Zfw N t) ((⟨false,[]⟩:Z08),false):=by
 have hm:=Zhn t h.s h.w
 rw [h.m] at hm
 exact Ev.bind hm (Ev.neg (by simp) (Ev.neg (by omega) (Ev.neg (by omega) (Ev.now _))))
def topE:Nat:=2200
def TOPF:Int:=((2 ^ topE:Nat):Int)
theorem sV_top {b:Nat} (h:nanW b=false):-TOPF < sV b∧sV b < TOPF:=by
 have h1:VV (rg b) < 2 ^ topE:=by
  have h2:=VV_inf_lt topE (by decide)
  rcases nan_no h with e | e
  ·rw [e]; exact h2
  ·exact Nat.lt_trans (VV_fin e) h2
 have h3:((VV (rg b):Nat):Int) < TOPF:=Int.ofNat_lt.2 h1
 have h4:(0:Int)≤((VV (rg b):Nat):Int):=vk _
 generalize TOPF=W at *
 unfold sV
 split <;> omega
theorem int_topF {x:Int} (h:(x.natAbs:Int) < TOP):-TOPF < x * (UU:Int)∧x * (UU:Int) < TOPF:=by
 have hU:(0:Int) < (UU:Int):=by exact_mod_cast UU_pos
 have hT:TOP=((2 ^ 256:Nat):Int):=by decide
 have e:((2 ^ 256:Nat):Int) * (UU:Int)≤TOPF:=by
  have:2 ^ 256 * UU≤2 ^ topE:=by rw [← UU_def, ← j5]; exact ve (by decide) (by decide)
  rw [← kv]
  exact Int.ofNat_le.2 this
 rw [hT] at h
 generalize hP:((2 ^ 256:Nat):Int)=P at *
 have a:=jy (show x < P by omega) hU
 have b:=jy (show -P < x by omega) hU
 rw [Int.neg_mul] at b
 omega
def fkey (b:Nat):Int:=if nanW b then 3 * TOPF else 3 * sV b+(if sg b then 1 else 2)
def numKey (t:Z00):Int:=if t.fKind=1∨t.fKind=2 then 3 * (numV t * (UU:Int)) else fkey t.fBits.toNat
theorem cmpF_key {x:Int} (hx:(x.natAbs:Int) < TOP) (b:Nat):cmpF x b=sgn (3 * (x * (UU:Int)) - fkey b):=by
 have h:=int_topF hx
 unfold cmpF fkey
 generalize x * (UU:Int)=y at *
 cases hn:nanW b with
 |true =>
  simp only [if_true]
  rw [Z9v (by omega)]
 |false =>
  simp only [xh,if_false]
  by_cases c:sV b < y
  ·rw [if_pos (by omega),Zal (by split <;> omega)]
  ·rw [if_neg (by omega),Z9v (by split <;> omega)]
theorem sgn_same {x y:Int} (h1:x < 0 ↔ y < 0) (h2:0 < x ↔ 0 < y):sgn x=sgn y:=by
 unfold sgn
 rw [Z5n h1 rfl rfl,Z5n (show x=0 ↔ y=0 by omega) rfl rfl]
theorem place_lt {a b:Nat}:place a < place b ↔ fkey a < fkey b:=by
 have hra:rg a < 9223372036854775808:=zn _ (by decide)
 have hrb:rg b < 9223372036854775808:=zn _ (by decide)
 unfold place fkey
 cases na:nanW a with
 |true =>
  cases nb:nanW b with
  |true=>simp
  |false =>
   have:=sV_top nb
   simp only [if_true,xh,if_false]
   split <;> omega
 |false =>
  have ta:=sV_top na
  cases nb:nanW b with
  |true =>
   simp only [if_true,xh,if_false]
   split <;> omega
  |false =>
   have h1:∀ {r s:Nat},((VV r:Nat):Int) < ((VV s:Nat):Int) ↔ (r:Int) < (s:Int):=fun {r s}=>by
    rw [Int.ofNat_lt,Int.ofNat_lt]; exact VV_lt_iff
   have hab:=h1 (r:=rg a) (s:=rg b)
   have hba:=h1 (r:=rg b) (s:=rg a)
   have p1:(0:Int)≤((VV (rg a):Nat):Int):=vk _
   have p2:(0:Int)≤((VV (rg b):Nat):Int):=vk _
   simp only [xh,if_false]
   unfold sV
   cases sg a <;> cases sg b <;> simp only [xh,if_false,if_true] <;> omega
theorem place_key (a b:Nat):sgn (place a - place b)=sgn (fkey a - fkey b):=by
 have h1:=place_lt (a:=a) (b:=b)
 have h2:=place_lt (a:=b) (b:=a)
 exact sgn_same (by omega) (by omega)
theorem sgn_scale (x y:Int):sgn (3 * (x * (UU:Int)) - 3 * (y * (UU:Int)))=sgn (x - y):=by
 have hU:(0:Int) < (UU:Int):=by exact_mod_cast UU_pos
 have h1:x * (UU:Int) < y * (UU:Int) ↔ x < y:=Int.mul_lt_mul_right hU
 have h2:y * (UU:Int) < x * (UU:Int) ↔ y < x:=Int.mul_lt_mul_right hU
 exact sgn_same (by omega) (by omega)
theorem Zd1 (x y:Int):sgn (y - x)=-sgn (x - y):=by
 unfold sgn
 repeat' split
 all_goals omega
theorem Zaq (x:Int):sgn x=0∨sgn x=-1∨sgn x=1:=by
 rcases Int.lt_trichotomy x 0 with h | h | h
 ·exact .inr (.inl (Z9v h))
 ·exact .inl (Z80.2 h)
 ·exact .inr (.inr (Zal h))
theorem inB {t:Z00} (h:Fine t):0≤t.fBits∧t.fBits≤18446744073709551615:=inU h.w.Bits
theorem numbers_ev {a b:Z00} (ha:Fine a) (hb:Fine b) (ka:a.fKind=1∨a.fKind=2∨a.fKind=3) (kb:b.fKind=1∨b.fKind=2∨b.fKind=3):Ev (fun N=>Zbi N a b) (sgn (numKey a - numKey b)):=by
 unfold numKey
 by_cases h1:a.fKind=1∨a.fKind=2
 ·rw [if_pos h1]
  refine Ev.bind (termNum_ev ha h1) ?_
  by_cases h2:b.fKind=1∨b.fKind=2
  ·rw [if_pos h2,sgn_scale]
   exact Ev.bind (termNum_ev hb h2) (Ev.pos rfl (Ev.pos rfl (Ev.bind (cmp_ev _ _ (ha.numV_top h1) (hb.numV_top h2)) (Ev.now _))))
  ·rw [if_neg h2, ← cmpF_key (ha.numV_top h1)]
   have:=inB hb
   exact Ev.bind (Zfd hb (by omega)) (Ev.pos rfl (Ev.neg (by simp) (Ev.bind (cmpNum_ev _ (ha.numV_top h1) _ this.1 this.2) (Ev.now _))))
 ·rw [if_neg h1]
  refine Ev.bind (Zfd ha (by omega)) ?_
  have hia:=inB ha
  by_cases h2:b.fKind=1∨b.fKind=2
  ·rw [if_pos h2,Zd1, ← cmpF_key (hb.numV_top h2)]
   have hr:wrap .i64 (0 - cmpF (numV b) a.fBits.toNat)=-(cmpF (numV b) a.fBits.toNat):=by
    have:cmpF (numV b) a.fBits.toNat=-1∨cmpF (numV b) a.fBits.toNat=1:=by
     unfold cmpF
     split
     ·exact .inl rfl
     ·split
      ·exact .inr rfl
      ·exact .inl rfl
    rw [Zk1 _ (by omega) (by omega)]; omega
   refine Ev.bind (termNum_ev hb h2) (Ev.neg (by simp) (Ev.pos rfl (Ev.bind (cmpNum_ev _ (hb.numV_top h2) _ hia.1 hia.2) ?_)))
   show Ev (fun _=>some (wrap .i64 (0 - cmpF (numV b) a.fBits.toNat))) _
   rw [hr]
   exact Ev.now _
  ·rw [if_neg h2, ← place_key]
   have hib:=inB hb
   exact Ev.bind (Zfd hb (by omega)) (Ev.neg (by simp) (Ev.neg (by simp) (Ev.bind (fcmp_ev _ _ hia hib) (Ev.now _))))
def cls (k:Int):Int:=if k=1 then 0 else if k=2 then 0 else if k=3 then 0 else k
theorem cls_ev (k:Int):Ev (fun N=>Zbs N k) (cls k):=by
 unfold cls
 exact Ev.iff (fun _=>Ev.now _) fun _=>Ev.iff (fun _=>Ev.now _) fun _=>Ev.iff (fun _=>Ev.now _) fun _=>Ev.now _
mutual
def cmpT:Z00→Z00→Int
 |⟨k,n,m,f,s,args⟩,b=>if sgn (cls k - cls b.fKind) ≠ 0 then sgn (cls k - cls b.fKind) else if k=1∨k=2∨k=3 then sgn (numKey ⟨k,n,m,f,s,args⟩ - numKey b) else if k=6 then (if sgn ((args.length:Int) - (b.fArgs.length:Int)) ≠ 0 then sgn ((args.length:Int) - (b.fArgs.length:Int)) else cmpA args b.fArgs) else if k=8 then cmpA args b.fArgs else if k=9 then lexB s.data.toList b.fBytes.data.toList else sgn (n - b.fN)
def cmpA:List Z00→List Z00→Int
 |[],[]=>0
 |[],_::_=>-1
 |_::_,[]=>1
 |x::xs,y::ys=>if cmpT x y ≠ 0 then cmpT x y else cmpA xs ys
end
theorem cmpT_eq (a b:Z00):cmpT a b=if sgn (cls a.fKind - cls b.fKind) ≠ 0 then sgn (cls a.fKind - cls b.fKind) else if a.fKind=1∨a.fKind=2∨a.fKind=3 then sgn (numKey a - numKey b) else if a.fKind=6 then (if sgn ((a.fArgs.length:Int) - (b.fArgs.length:Int)) ≠ 0 then sgn ((a.fArgs.length:Int) - (b.fArgs.length:Int)) else cmpA a.fArgs b.fArgs) else if a.fKind=8 then cmpA a.fArgs b.fArgs else if a.fKind=9 then lexB a.fBytes.data.toList b.fBytes.data.toList else sgn (a.fN - b.fN):=by
 cases a; rw [cmpT]
theorem cls_num {j k:Int} (hj:1≤j∧j≤9) (hk:1≤k∧k≤9) (h:sgn (cls j - cls k)=0):((j=1∨j=2∨j=3)∧(k=1∨k=2∨k=3))∨(j=k∧4≤j):=by
 rw [Z80] at h
 unfold cls at h
 repeat' split at h
 all_goals omega
theorem or3 {α:Type} (k:Int) (u v:α):(if k=1∨k=2∨k=3 then u else v)=if k=1 then u else if k=2 then u else if k=3 then u else v:=by
 by_cases h1:k=1
 ·rw [if_pos (.inl h1),if_pos h1]
 ·by_cases h2:k=2
  ·rw [if_pos (.inr (.inl h2)),if_neg h1,if_pos h2]
  ·by_cases h3:k=3
   ·rw [if_pos (.inr (.inr h3)),if_neg h1,if_neg h2,if_pos h3]
   ·rw [if_neg (by omega),if_neg h1,if_neg h2,if_neg h3]
theorem cb0_ev (a b:Z00):Ev (fun N=>order_compare_B0 N a b) (if a.fKind=1∨a.fKind=2∨a.fKind=3 then .inl () else .inr ()):=by
 refine Ev.step ?_ (fun N=>by rw [order_compare_B0])
 rw [or3]
 exact Ev.iff (fun _=>Ev.now _) fun _=>Ev.iff (fun _=>Ev.now _) fun _=>Ev.iff (fun _=>Ev.now _) fun _=>Ev.now _
def cmpR (xs ys:List Z00):Unit ⊕ Int→Prop
 |.inl _=>cmpA xs ys=if xs.length < ys.length then -1 else 0
 |.inr r=>cmpA xs ys=r
mutual
theorem Z84:∀ (a:Z00),Fine a→∀ b:Z00,Fine b→Ev (fun N=>order_compare N a b) (cmpT a b)
 |⟨k,n,m,f,s,args⟩,ha,b,hb=>by
  have hargs:=compareA_ev args ha.arg b.fArgs hb.arg args b.fArgs 0 rfl rfl ha.w.ArgsLen hb.w.ArgsLen
  have hka:=ha.kind
  have hkb:=hb.kind
  have hnum:=fun h1 h2=>numbers_ev ha hb h1 h2
  rw [cmpT_eq]
  generalize hA:(⟨k,n,m,f,s,args⟩:Z00)=a at *
  have hAa:a.fArgs=args:=by rw [← hA]
  have hAF:Ev (fun N=>slices_CompareFunc_api_Term_api_Term_api_Term_api_Term N a.fArgs b.fArgs) (cmpA a.fArgs b.fArgs):=by
   rw [hAa]
   obtain ⟨r,h1,h2⟩:=hargs
   refine Ev.step ?_ (fun N=>by rw [slices_CompareFunc_api_Term_api_Term_api_Term_api_Term])
   refine Ev.bind h1 ?_
   cases r with
   |inl u =>
    rw [show cmpA args b.fArgs=if ((args.length:Nat):Int) < ((b.fArgs.length:Nat):Int) then -1 else 0 from by rw [h2]; exact Z5n (by omega) rfl rfl]
    exact Ev.iff (fun _=>Ev.now _) (fun _=>Ev.now _)
   |inr r =>
    rw [show cmpA args b.fArgs=r from h2]
    exact Ev.now _
  refine Ev.step ?_ (fun N=>by rw [order_compare])
  refine Ev.bind (cls_ev _) (Ev.bind (cls_ev _) (Ev.bind (cmpI_ev _ _) ?_))
  by_cases hc:sgn (cls a.fKind - cls b.fKind) ≠ 0
  ·rw [if_pos hc]; exact Ev.pos hc (Ev.now _)
  ·rw [if_neg hc]
   refine Ev.neg hc (Ev.bind (cb0_ev a b) ?_)
   have hcl:=cls_num hka hkb (by simpa using hc)
   by_cases hn:a.fKind=1∨a.fKind=2∨a.fKind=3
   ·rw [if_pos hn,if_pos hn]
    exact Ev.bind (hnum hn (by omega)) (Ev.now _)
   ·rw [if_neg hn,if_neg hn]
    show Ev (fun N=>if a.fKind=(6:Int) then _ else _) _
    refine Ev.iff (fun h6=>?_) fun h6=>Ev.iff (fun h8=>?_) fun h8=>Ev.iff (fun h9=>?_) fun h9=>?_
    ·refine Ev.bind (cmpI_ev _ _) ?_
     exact Ev.iff (fun _=>Ev.now _) fun _=>Ev.bind hAF (Ev.now _)
    ·exact Ev.bind hAF (Ev.now _)
    ·rw [← scmp_eq]
     exact Ev.bind (Ev.bind (Ev.now _) (Ev.now _)) (Ev.now _)
    ·exact Ev.bind (cmpI_ev _ _) (Ev.now _)
theorem compareA_ev:∀ (xs:List Z00),(∀ x ∈ xs,Fine x)→∀ (ys:List Z00),(∀ y ∈ ys,Fine y)→∀ (l m:List Z00) (i:Nat),l.drop i=xs→m.drop i=ys→l.length≤maxLen→m.length≤maxLen →
  ∃ r,Ev (fun N=>slices_CompareFunc_api_Term_api_Term_api_Term_api_Term_L0 N l m (i:Nat)) r∧cmpR xs ys r
 |[],hx,ys,hy,l,m,i,hl,hm,hll,hml=>by
  have h1:=Z6l hl
  rw [Z4k] at hll
  refine ⟨.inl (), ?_, ?_⟩
  ·refine Ev.step ?_ (fun N=>by rw [slices_CompareFunc_api_Term_api_Term_api_Term_api_Term_L0])
   exact Ev.neg (by omega) (Ev.now _)
  cases ys <;> simp [cmpR,cmpA]
 |x::xs,hx,[],hy,l,m,i,hl,hm,hll,hml=>by
  have h1:=Z5o hl
  have h2:=Z6l hm
  refine ⟨.inr 1, ?_, ?_⟩
  ·refine Ev.step ?_ (fun N=>by rw [slices_CompareFunc_api_Term_api_Term_api_Term_api_Term_L0])
   exact Ev.pos (by omega) (Ev.bindc (Zjg hl) (Ev.pos (by omega) (Ev.now _)))
  simp [cmpR,cmpA]
 |x::xs,hx,y::ys,hy,l,m,i,hl,hm,hll,hml=>by
  have h1:=Z5o hl
  have h2:=Z5o hm
  rw [Z4k] at hll
  have hc:=Z84 x (hx x (by simp)) y (hy y (by simp))
  by_cases h0:cmpT x y ≠ 0
  ·refine ⟨.inr (cmpT x y), ?_, ?_⟩
   ·refine Ev.step ?_ (fun N=>by rw [slices_CompareFunc_api_Term_api_Term_api_Term_api_Term_L0])
    exact Ev.pos (by omega) (Ev.bindc (Zjg hl) (Ev.neg (by omega) (Ev.bindc (Zjg hm) (Ev.bind hc (Ev.pos h0 (Ev.now _))))))
   show cmpA (x::xs) (y::ys)=_
   rw [cmpA,if_pos h0]
  ·obtain ⟨r,h3,h4⟩:=compareA_ev xs (fun z hz=>hx z (by simp [hz])) ys (fun z hz=>hy z (by simp [hz])) l m (i+1) (Z50 hl) (Z50 hm) (by rw [Z4k]; exact hll) hml
   refine ⟨r, ?_, ?_⟩
   ·refine Ev.step ?_ (fun N=>by rw [slices_CompareFunc_api_Term_api_Term_api_Term_api_Term_L0,Z3a (by omega)])
    exact Ev.pos (by omega) (Ev.bindc (Zjg hl) (Ev.neg (by omega) (Ev.bindc (Zjg hm) (Ev.bind hc (Ev.neg h0 h3)))))
   have e:cmpA (x::xs) (y::ys)=cmpA xs ys:=by rw [cmpA,if_neg h0]
   cases r with
   |inl u =>
    show cmpA (x::xs) (y::ys)=_
    rw [e,show cmpA xs ys=_ from h4]
    exact Z5n (by simp) rfl rfl
   |inr r =>
    show cmpA (x::xs) (y::ys)=_
    rw [e]
    exact h4
end
theorem ocmp_ev {a b:Z00} (ha:Fine a) (hb:Fine b):Ev (fun N=>Z8h N a b) (cmpT a b):=by
 have h1:=Zhn a ha.s ha.w
 have h2:=Zhn b hb.s hb.w
 rw [ha.m] at h1
 rw [hb.m] at h2
 exact Ev.bind h1 (Ev.neg (by simp) (Ev.bind h2 (Ev.neg (by simp) (Ev.bind (Z84 a ha b hb) (Ev.now _)))))
end Go.Proofs.Ytllcnlonkloabaa.Sh
