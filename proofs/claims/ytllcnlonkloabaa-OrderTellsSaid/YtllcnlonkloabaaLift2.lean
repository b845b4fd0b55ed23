import Derived.Test.YtllcnlonkloabaaLift1
import Derived.Laws.StructEq
import Derived.Laws.BytesString
set_option linter.unusedVariables false
namespace Lift
open Go Go.RowKit
inductive Ex where
  | normal
  | exit (id:Nat)
  | ret
  /-- it panics,of one value -/
  | pan (v:Value)
def ExIs:Exit→Ex→Prop
 |.normal,.normal=>True
 |.exit i,.exit j=>i=j
 |.ret,.ret=>True
 |.panic l,.pan v=>l=[{ v:=v,recovered:=false }]
 |_,_=>False
def Zix (P:Program) (G:Gh) (c:Code) (st:St) (R:Ex→St→Prop):Prop :=
 ∀ β S a w,Sim G β S st a w→c.wp P (fun ex a' w'=>∃ ex' st' β' S',ExIs ex ex'∧R ex' st'∧Sim G β' S' st' a' w') a w
theorem Zix.mono {P:Program} {G:Gh} {c:Code} {st:St} {R R':Ex→St→Prop} (h:Zix P G c st R) (k:∀ ex st',R ex st'→R' ex st'):Zix P G c st R' :=
 fun β S a w hs=>wp_mono (h β S a w hs) fun ex a' w' ⟨ex',st',β',S',h1,h2,h3⟩=>⟨ex',st',β',S',h1,k _ _ h2,h3⟩
theorem Zix.skip {P:Program} {G:Gh} {st:St} {R:Ex→St→Prop} (h:R .normal st):Zix P G .skip st R :=
 fun β S a w hs=>wp_skip ⟨.normal,st,β,S,trivial,h,hs⟩
theorem Zix.ret {P:Program} {G:Gh} {st:St} {R:Ex→St→Prop} (h:R .ret st):Zix P G .ret st R :=
 fun β S a w hs=>wp_ret ⟨.ret,st,β,S,trivial,h,hs⟩
theorem Zix.exit {P:Program} {G:Gh} {id:Nat} {st:St} {R:Ex→St→Prop} (h:R (.exit id) st):Zix P G (.exit id) st R :=
 fun β S a w hs=>wp_exit ⟨.exit id,st,β,S,rfl,h,hs⟩
theorem Zix.seq {P:Program} {G:Gh} {x y:Code} {st:St} {R R1:Ex→St→Prop} (hx:Zix P G x st R1) (hy:∀ st',R1 .normal st'→Zix P G y st' R) (hother:∀ ex st',ex ≠ .normal→R1 ex st'→R ex st'):Zix P G (.seq x y) st R :=
 fun β S a w hs=>wp_seq (wp_mono (hx β S a w hs) fun ex a' w' ⟨ex',st',β',S',h1,h2,h3⟩=>by
  cases ex <;> cases ex' <;> simp only [ExIs] at h1
  ·exact hy st' h2 β' S' a' w' h3
  ·exact ⟨.exit _,st',β',S',h1,hother _ _ (by simp) h2,h3⟩
  ·exact ⟨.ret,st',β',S',trivial,hother _ _ (by simp) h2,h3⟩
  ·exact ⟨.pan _,st',β',S',h1,hother _ _ (by simp) h2,h3⟩)
theorem Zix.cond {P:Program} {G:Gh} {c:Operand} {x y:Code} {st:St} {R:Ex→St→Prop} {b:Bool} (hc:Zjd st c=some (.v (.one (.d (.bool b))))) (h:Zix P G (if b then x else y) st R):Zix P G (.cond c x y) st R :=
 fun β S a w hs=>by
  have hv:a.eval c=.bool b:=by have:=Z0p hs hc; simpa only [AV.Rep,A1.Rep,AC.Rep,C.Rep] using this
  exact wp_cond hv (h β S a w hs)
theorem Zix.block {P:Program} {G:Gh} {id:Nat} {c:Code} {st:St} {R R1:Ex→St→Prop} (h:Zix P G c st R1) (k:∀ ex st',R1 ex st'→R (match ex with | .exit j=>if j=id then .normal else .exit j | e=>e) st'):Zix P G (.block id c) st R :=
 fun β S a w hs=>wp_block (wp_mono (h β S a w hs) fun ex a' w' ⟨ex',st',β',S',h1,h2,h3⟩=>by
  have hk:=k _ _ h2
  cases ex with
  |normal=>cases ex' <;> first | exact h1.elim | exact ⟨.normal,st',β',S',trivial,hk,h3⟩
  |ret=>cases ex' <;> first | exact h1.elim | exact ⟨.ret,st',β',S',trivial,hk,h3⟩
  |exit i =>
   cases ex' with
   |exit j =>
    have e:i=j:=h1
    subst e
    show if i=id then _ else _
    by_cases c:i=id
    ·rw [if_pos c]
     simp only [c,if_true] at hk
     exact ⟨.normal,st',β',S',trivial,hk,h3⟩
    ·rw [if_neg c]
     simp only [c,if_false] at hk
     exact ⟨.exit i,st',β',S',rfl,hk,h3⟩
   |_=>exact h1.elim
  |panic l =>
   cases ex' with
   |pan v=>exact ⟨.pan v,st',β',S',h1,hk,h3⟩
   |_=>exact h1.elim
  |_=>cases ex' <;> exact h1.elim)
def capD:Cap→Option C
 |.d c=>some c
 |.ptr ..=>none
def leaveC (obs:List (Nat × Ob)):AC→Option (OC × List Nat × List Prop)
 |.d c=>some (.dat c,[],[])
 |.vw s sz i n=>match Zjf s obs with
  |some (.arr sz' rows more)=>bif sz' == sz && i == 0 then bif more then some (.own sz rows,[s],[n=rows.length]) else some (.room sz n rows,[s],[n≤rows.length]) else none
  |_=>none
 |.fn f caps=>(Zj6 capD caps).map fun cs=>(.fn f cs,[],[])
 |_=>none
def leaveCs (obs:List (Nat × Ob)):List AC→Option (List OC × List Nat × List Prop)
 |[]=>some ([],[],[])
 |a::as=>match leaveC obs a,leaveCs obs as with
  |some (c,s,p),some (cs,ss,ps)=>some (c::cs,s++ss,p++ps)
  |_,_=>none
def leaveV (obs:List (Nat × Ob)):AV→Option (PV × List Nat × List Prop)
 |.v (.one (.ptr s 0))=>match Zjf s obs with
  |some (.var cells)=>(leaveCs obs cells).map fun (cs,ss,ps)=>(.obj cs,s::ss,ps)
  |_=>none
 |.v (.one a)=>(leaveC obs a).map fun (c,s,p)=>(.v (.one c),s,p)
 |.v (.agg as)=>(leaveCs obs as).map fun (cs,s,p)=>(.v (.agg cs),s,p)
 |_=>none
def Zjj (obs:List (Nat × Ob)):List AV→Option (List PV × List Nat × List Prop)
 |[]=>some ([],[],[])
 |a::as=>match leaveV obs a,Zjj obs as with
  |some (c,s,p),some (cs,ss,ps)=>some (c::cs,s++ss,p++ps)
  |_,_=>none
section
variable {G:Gh} {β:Nat→Option Nat} {S:Nat→Prop} {st:St} {a:Act} {w:World} (hs:Sim G β S st a w)
include hs
omit hs in
theorem capD_rep:∀ {caps:List Cap} {cs:List C} {l:List Value},All2 (fun a b=>capD a=some b) caps cs→All2 (Cap.Rep w S β) caps l→All2 (C.Rep w S) cs l
 |[],[],[],_,_=>trivial
 |c::caps,c'::cs,v::l,h,hv=>by
  refine ⟨?_,capD_rep h.2 hv.2⟩
  have h1:=h.1
  cases c with
  |d c=>simp only [capD,yn] at h1; subst h1; exact hv.1
  |ptr=>simp [capD] at h1
 |[],[],_::_,_,hv=>hv.elim
 |[],_::_,_,h,_=>h.elim
 |_::_,[],_,h,_=>h.elim
 |_::_,_::_,[],_,hv=>hv.elim
theorem leaveC_rep {x:AC} {c:OC} {ss:List Nat} {ps:List Prop} {v:Value} (h:leaveC st.obs x=some (c,ss,ps)) (hp:AllP ps) (hv:x.Rep w S β v):c.Rep w S v (ss.map β)∧∀ s ∈ ss, ∃ o,(s,o) ∈ st.obs:=by
 cases x with
 |d d =>
  simp only [leaveC,yn,yt] at h
  obtain ⟨rfl,rfl,rfl⟩:=h
  exact ⟨⟨rfl,hv⟩,fun s hs=>by cases hs⟩
 |vw s sz i n =>
  simp only [leaveC] at h
  cases hg:Zjf s st.obs with
  |none=>rw [hg] at h; cases h
  |some ob =>
   rw [hg] at h
   cases ob with
   |var=>cases h
   |arr sz' rows more =>
    simp only at h
    cases hb:(sz' == sz && i == 0) with
    |false=>rw [hb] at h; cases h
    |true =>
     rw [hb] at h
     simp only [yx,beq_iff_eq] at hb
     obtain ⟨rfl,rfl⟩:=hb
     cases more with
     |false =>
     simp only [cond_true,cond_false,yn,yt] at h
     obtain ⟨rfl,rfl,rfl⟩:=h
     have hn:n≤rows.length:=hp.1
     have hmem:=Z22 s _ _ hg
     rcases hv with ⟨hb0,_,hn0,ad,h1⟩ | ⟨b,cap,hb0,h1,h2,t',h3⟩
     ·exact absurd (hs.out s _ hmem hb0).2.1 (by simp)
     obtain ⟨⟨vs,t,hh,h0,hr,_,hm⟩,_,_⟩:=hs.ob s _ b hmem hb0
     have hm:=hm rfl
     unfold World.shape? at h3
     rw [hh] at h3
     simp only [yn,yt,xk] at h3
     have hc:cap=rows.length:=uu h0 (by rw [← h3.2,hm])
     subst hc
     refine ⟨⟨b,vs,t,by rw [qh,hb0]; rfl,by rw [h1,vz],hn,hh,hm,h0,hr⟩,fun s' hs'=>?_⟩
     simp at hs'; subst hs'; exact ⟨_,Z22 s' _ _ hg⟩
     |true =>
     simp only [cond_true,yn,yt] at h
     obtain ⟨rfl,rfl,rfl⟩:=h
     have hn:n=rows.length:=hp.1
     subst hn
     have hmem:=Z22 s _ _ hg
     rcases hv with ⟨hb0,_,hn0,ad,h1⟩ | ⟨b,cap,hb0,h1,h2,t',h3⟩
     ·have hemp:=hs.out s _ hmem hb0
      obtain ⟨rfl,_,hpos⟩:=hemp
      exact ⟨.inl ⟨by rw [qh,hb0]; rfl,rfl,hpos,ad,h1⟩,fun s' hs'=>by simp at hs'; subst hs'; exact ⟨_,hmem⟩⟩
     obtain ⟨⟨vs,t,hh,h0,hr,_,_⟩,_,_⟩:=hs.ob s _ b hmem hb0
     unfold World.shape? at h3
     rw [hh] at h3
     simp only [yn,yt,xk] at h3
     refine ⟨.inr ⟨b,cap,vs,t,by rw [qh,hb0]; rfl, ?_,h2,hh,h3.2,h0,hr⟩,fun s' hs'=>?_⟩
     ·rw [h1,vz]
     ·simp at hs'; subst hs'; exact ⟨_,Z22 s' _ _ hg⟩
 |fn f caps =>
  simp only [leaveC,ym,yt] at h
  obtain ⟨cs,hcs,rfl,rfl,rfl⟩:=h
  obtain ⟨vs,hv1,hv2⟩:=hv
  refine ⟨⟨rfl,vs,hv1, ?_⟩,fun s hs=>by cases hs⟩
  exact capD_rep (Z34 hcs) hv2
 |_=>simp [leaveC] at h
theorem Zh6:∀ {xs:List AC} {cs:List OC} {ss:List Nat} {ps:List Prop} {vs:List Value},leaveCs st.obs xs=some (cs,ss,ps)→AllP ps→All2 (AC.Rep w S β) xs vs→OCs.Rep w S cs vs (ss.map β)∧∀ s ∈ ss, ∃ o,(s,o) ∈ st.obs
 |[],_,_,_,[],h,_,_=>by simp only [leaveCs,yn,yt] at h; obtain ⟨rfl,rfl,rfl⟩:=h; exact ⟨rfl,fun s hs=>by cases hs⟩
 |x::xs,_,_,_,v::vs,h,hp,hv=>by
  simp only [leaveCs] at h
  split at h
  ·rename_i c s p cs ss ps h1 h2
   simp only [yn,yt] at h
   obtain ⟨rfl,rfl,rfl⟩:=h
   rw [AllP.append] at hp
   obtain ⟨k1,k2⟩:=leaveC_rep hs h1 hp.1 hv.1
   obtain ⟨m1,m2⟩:=Zh6 h2 hp.2 hv.2
   refine ⟨⟨s.map β,ss.map β,by rw [List.map_append],k1,m1⟩,fun s' hs'=>?_⟩
   rcases List.mem_append.1 hs' with h | h
   ·exact k2 s' h
   ·exact m2 s' h
  ·cases h
 |[],_,_,_,_::_,_,_,hv=>hv.elim
 |_::_,_,_,_,[],_,_,hv=>hv.elim
theorem leaveV_rep {x:AV} {c:PV} {ss:List Nat} {ps:List Prop} {v:Value} (h:leaveV st.obs x=some (c,ss,ps)) (hp:AllP ps) (hv:x.Rep w S β v):c.Rep w S v (ss.map β)∧∀ s ∈ ss, ∃ o,(s,o) ∈ st.obs:=by
 have one:∀ {y:AC},(leaveC st.obs y).map (fun (c,s,p)=>((.v (.one c):PV),s,p))=some (c,ss,ps)→y.Rep w S β v→c.Rep w S v (ss.map β)∧∀ s ∈ ss, ∃ o,(s,o) ∈ st.obs:=by
  intro y h hv
  simp only [ym,yt] at h
  obtain ⟨⟨c',s',p'⟩,h1,rfl,rfl,rfl⟩:=h
  exact leaveC_rep hs h1 hp hv
 cases x with
 |bad=>simp [leaveV] at h
 |tup l=>simp [leaveV] at h
 |v y =>
  cases y with
  |agg as =>
   simp only [leaveV,ym,yt] at h
   obtain ⟨⟨c',s',p'⟩,h1,rfl,rfl,rfl⟩:=h
   obtain ⟨vs,rfl,hv⟩:=hv
   obtain ⟨k1,k2⟩:=Zh6 hs h1 hp hv
   exact ⟨⟨vs,rfl,k1⟩,k2⟩
  |one y =>
   cases y with
   |ptr s off =>
    cases off with
    |succ off=>simp only [leaveV,leaveC,ji,reduceCtorEq] at h
    |zero =>
     simp only [leaveV] at h
     cases hg:Zjf s st.obs with
     |none=>rw [hg] at h; cases h
     |some ob =>
      rw [hg] at h
      cases ob with
      |arr=>cases h
      |var cells =>
       simp only [ym,yt] at h
       obtain ⟨⟨c',s',p'⟩,h1,rfl,rfl,rfl⟩:=h
       obtain ⟨b,hb,hv⟩:=hv
       obtain ⟨⟨vs,t,hh,hc⟩,_,_⟩:=hs.ob s _ b (Z22 s _ _ hg) hb
       obtain ⟨k1,k2⟩:=Zh6 hs h1 hp hc
       refine ⟨⟨b,vs,t,s'.map β,by rw [qh,hb],hv,hh,k1⟩,fun s1 hs1=>?_⟩
       rcases List.mem_cons.1 hs1 with rfl | hs1
       ·exact ⟨_,Z22 s1 _ _ hg⟩
       ·exact k2 s1 hs1
   |d c=>exact one (y:=.d c) h hv
   |vw s sz i n=>exact one (y:=.vw s sz i n) h hv
   |fn f caps=>exact one (y:=.fn f caps) h hv
   |_=>simp [leaveV,leaveC] at h
theorem Z7o:∀ {xs:List AV} {cs:List PV} {ss:List Nat} {ps:List Prop} {vs:List Value},Zjj st.obs xs=some (cs,ss,ps)→AllP ps→All2 (AV.Rep w S β) xs vs→PVs.Rep w S cs vs (ss.map β)∧∀ s ∈ ss, ∃ o,(s,o) ∈ st.obs
 |[],_,_,_,[],h,_,_=>by simp only [Zjj,yn,yt] at h; obtain ⟨rfl,rfl,rfl⟩:=h; exact ⟨rfl,fun s hs=>by cases hs⟩
 |x::xs,_,_,_,v::vs,h,hp,hv=>by
  simp only [Zjj] at h
  split at h
  ·rename_i c s p cs ss ps h1 h2
   simp only [yn,yt] at h
   obtain ⟨rfl,rfl,rfl⟩:=h
   rw [AllP.append] at hp
   obtain ⟨k1,k2⟩:=leaveV_rep hs h1 hp.1 hv.1
   obtain ⟨m1,m2⟩:=Z7o h2 hp.2 hv.2
   refine ⟨⟨s.map β,ss.map β,by rw [List.map_append],k1,m1⟩,fun s' hs'=>?_⟩
   rcases List.mem_append.1 hs' with h | h
   ·exact k2 s' h
   ·exact m2 s' h
  ·cases h
 |[],_,_,_,_::_,_,_,hv=>hv.elim
 |_::_,_,_,_,[],_,_,hv=>hv.elim
end
def objSites:List PV→Nat→List Nat
 |[],_=>[]
 |.obj cells::ps,n=>n::objSites ps (PV.enter (.obj cells) n).2.2
 |.v x::ps,n=>objSites ps (PV.enter (.v x) n).2.2
theorem Zf8 {w:World} {F:Nat→Prop} {β:Nat→Option Nat}:∀ {ps:List PV} {vs:List Value} {bs:List (Option Nat)} {n:Nat},PVs.Rep w F ps vs bs→Fits β n bs→All2 (fun s v=>∃ b,β s=some b∧v=.pointer (some ⟨b,0,none⟩)) (objSites ps n) (Zjp ps vs)∧∀ s ∈ objSites ps n, ∃ o,(s,o) ∈ (PVs.enter ps n).2.1
 |[],[],bs,n,h,_=>⟨trivial,fun s hs=>by cases hs⟩
 |p::ps,v::vs,bs,n,h,hf=>by
  obtain ⟨b1,b2,rfl,h1,h2⟩:=h
  obtain ⟨k1,k2,k3⟩:=PV.enter_rep h1 hf.left
  have hf2:=hf.right
  rw [← k1] at hf2
  obtain ⟨m1,m2⟩:=Zf8 h2 hf2
  cases p with
  |v x =>
   exact ⟨m1,fun s hs=>let ⟨o,ho⟩:=m2 s hs; ⟨o,List.mem_append.2 (.inr ho)⟩⟩
  |obj cells =>
   refine ⟨⟨k2,m1⟩,fun s hs=>?_⟩
   ·rcases List.mem_cons.1 hs with rfl | hs
    ·exact ⟨_,List.mem_append.2 (.inl (List.mem_cons.2 (.inl rfl)))⟩
    ·obtain ⟨o,ho⟩:=m2 s hs; exact ⟨o,List.mem_append.2 (.inr ho)⟩
 |[],_::_,_,_,h,_=>h.elim
 |_::_,[],_,_,h,_=>h.elim
def resSem (tmps:Array Value):ResultVar→Sem Value
 |.tmp t=>pure (tmps.getD t undef)
 |.cell a t=>do loadVar t (← asAddr (tmps.getD a undef))
theorem Zg7 (fn:Func) (tmps:Array Value):results fn tmps=(fn.results.toList.mapM (resSem tmps) >>= fun vs=>pure (Zk0 vs)):=by
 unfold results
 rw [Array.mapM_eq_mapM_toList,map_eq_pure_bind,bind_assoc]
 have tl:∀ vs:List Value,(pure (if h:vs.toArray.size=1 then vs.toArray[0] else Value.tuple vs.toArray):Sem Value)=pure (Zk0 vs):=by
  intro vs
  match vs with
  |[]=>rfl
  |[v]=>rfl
  |v::v'::vs=>simp [Zk0]
 simp only [pure_bind,tl]
 congr 1
def resultA (P:Program) (st:St):ResultVar→Option (AV × List Prop)
 |.tmp t=>(st.fr[t]?).map fun y=>(y,[])
 |.cell a t=>match st.fr[a]? with
  |some (.v (.one p))=>(cellsAt st p).bind fun (cs,pr)=>(takeVar P t cs).map fun y=>(.v y,[pr])
  |_=>none
def resultsA (P:Program) (st:St):List ResultVar→Option (List AV × List Prop)
 |[]=>some ([],[])
 |r::rs=>match resultA P st r,resultsA P st rs with
  |some (x,p),some (xs,ps)=>some (x::xs,p++ps)
  |_,_=>none
theorem resultA_run {P:Program} {G:Gh} {β:Nat→Option Nat} {S:Nat→Prop} {st:St} {a:Act} {w:World} (hs:Sim G β S st a w) {r:ResultVar} {x:AV} {ps:List Prop} (h:resultA P st r=some (x,ps)) (hp:AllP ps) :
  ∃ v,(resSem a.tmps r).run P w=.ok v w∧x.Rep w S β v:=by
 have slot:∀ (t:Nat) (y:AV),st.fr[t]? = some y→y.Rep w S β (a.tmps.getD t undef):=fun t y hy=>Z0p hs (x:=.tmp t) hy
 cases r with
 |tmp t =>
  simp only [resultA,ym,yt] at h
  obtain ⟨y,hy,rfl,rfl⟩:=h
  exact ⟨_,rfl,slot t y hy⟩
 |cell c t =>
  simp only [resultA] at h
  split at h
  ·rename_i p hpc
   simp only [yo,ym,yt] at h
   obtain ⟨⟨cs,pr⟩,hc,y,hy,rfl,rfl⟩:=h
   obtain ⟨b,off,hv,hcr⟩:=cellsAt_rep hs hc hp.1 (slot c _ hpc)
   obtain ⟨v,hr,hrep⟩:=takeVar_run hy hcr
   refine ⟨v, ?_,hrep⟩
   simp only [resSem,hv,asAddr,Sem.run_bind,Sem.run_pure,Result.andThen_ok,hr]
  ·cases h
theorem Zcm {P:Program} {G:Gh} {β:Nat→Option Nat} {S:Nat→Prop} {st:St} {a:Act} {w:World} (hs:Sim G β S st a w):∀ {rs:List ResultVar} {xs:List AV} {ps:List Prop},resultsA P st rs=some (xs,ps)→AllP ps →
  ∃ vs:List Value,(rs.mapM (resSem a.tmps)).run P w=.ok vs w∧All2 (AV.Rep w S β) xs vs
 |[],xs,ps,h,_=>by simp only [resultsA,yn,yt] at h; obtain ⟨rfl,rfl⟩:=h; exact ⟨[],rfl,trivial⟩
 |r::rs,xs,ps,h,hp=>by
  simp only [resultsA] at h
  split at h
  ·rename_i x p xs' ps' h1 h2
   simp only [yn,yt] at h
   obtain ⟨rfl,rfl⟩:=h
   rw [AllP.append] at hp
   obtain ⟨v,hv,hr⟩:=resultA_run hs h1 hp.1
   obtain ⟨vs,hvs,hrs⟩:=Zcm hs h2 hp.2
   refine ⟨v::vs, ?_,hr,hrs⟩
   rw [List.mapM_cons,Sem.run_bind,hv,Result.andThen_ok,Sem.run_bind,hvs]
   rfl
  ·cases h
def Leaves (P:Program) (fn:Func) (args:List PV) (n:Nat) (fin:List PV) (st:St):Prop :=
 ∃ rs ps1 ss ps,resultsA P st fn.results.toList=some (rs,ps1)∧AllP ps1∧Zjj st.obs (rs++(objSites args n).map fun s=>.v (.one (.ptr s 0)))=some (fin,ss,ps)∧AllP ps∧ss.Nodup
theorem Zid {β:Nat→Option Nat}:∀ {ss:List Nat},ss.Nodup→(∀ s ∈ ss, ∀ s' ∈ ss, ∀ b,β s=some b→β s'=some b→s=s')→Once (ss.map β)
 |[],_,_=>trivial
 |s::ss,h,hi=>by
  rw [List.nodup_cons] at h
  have ih:=Zid h.2 fun a ha b hb=>hi a (by simp [ha]) b (by simp [hb])
  rw [qh]
  cases hb:β s with
  |none=>exact ih
  |some b =>
   refine ⟨fun hm=>?_,ih⟩
   obtain ⟨s',hs',e⟩:=List.mem_map.1 hm
   have:=hi s (by simp) s' (by simp [hs']) b hb e
   subst this
   exact h.1 hs'
theorem Ziz.of_code {P:Program} {f:FuncId} {fn:Func} {c:Code} {args fin:List PV} (n:Nat) (hf:P.funcs[f]? = some fn) (hb:fn.body=some c)
  (h:∀ G:Gh,G.n0=n→Zix P G c (startSt args n fn.ntmps) fun ex st'=>(ex=.normal∨ex=.ret)∧Leaves P fn args n fin st'):Ziz P f args fin:=by
 intro w vs F bs hF hrep hnd hbF
 refine calls_of_wp hf hb ?_
 have hstart:=Zio n fn.ntmps hF hrep hnd hbF
 have hfits:Fits (fun s=>bs.getD (s - n) none) n bs:=fun i b hi=>by simp [xe,hi]
 obtain ⟨hptrs,hnames⟩:=Zf8 hrep hfits
 have hw:=h _ rfl _ _ _ _ hstart
 refine wp_mono hw fun ex a' w' ⟨ex',st',β',S',h1,⟨h2,rs,ps1,ss,ps,hr,hp1,hl,hp,hss⟩,hs⟩=>?_
 obtain ⟨vres,hrun,hreps⟩:=Zcm hs hr hp1
 have hpar:∀ s ∈ objSites args n, ∀ b,bs.getD (s - n) none=some b→β' s=some b:=by
  intro s hm b hb
  obtain ⟨o,ho⟩:=hnames s hm
  exact (hs.par s (some b) ⟨b,rfl,Zg1.2 ⟨hb,o,ho⟩⟩).2
 have hall:All2 (AV.Rep w' S' β') (rs++(objSites args n).map fun s=>.v (.one (.ptr s 0))) (vres++Zjp args vs):=by
  refine hreps.append (All2.map (fun s=>AV.v (.one (.ptr s 0))) ?_)
  refine All2.mk hptrs.length fun i s v his hiv=>?_
  obtain ⟨v',hv',b,hb,rfl⟩:=hptrs.get i s his
  rw [hiv] at hv'
  injection hv' with hv'
  exact ⟨b,hpar s (qw his) b hb,hv'⟩
 obtain ⟨hfin,hobs⟩:=Z7o hs hl hp hall
 have hres:(results fn a'.tmps).run P w'=.ok (Zk0 vres) w':=by
  rw [Zg7,Sem.run_bind,hrun]
  rfl
 have post:Post w F bs (Zjp args vs) fin (.returned (Zk0 vres)) w':=by
  refine ⟨vres,S',ss.map β',rfl,hfin,Zid hss fun s1 m1 s2 m2 b e1 e2=>?_,fun b hb=>?_,hs.s0,fun b hb=>⟨hs.lt b hb, ?_⟩,fun b h1 h2=>hs.old b h1 h2,hs.size,hs.os,hs.tape,hs.output,hs.sh⟩
  ·obtain ⟨o1,q1⟩:=hobs s1 m1
   obtain ⟨o2,q2⟩:=hobs s2 m2
   exact hs.inj s1 o1 s2 o2 b q1 q2 e1 e2
  ·obtain ⟨s,hsm,hsb⟩:=List.mem_map.1 hb
   obtain ⟨o,ho⟩:=hobs s hsm
   exact (hs.ob s o b ho hsb).2
  ·exact hs.src b hb
 have hd:=hs.defers
 cases ex with
 |normal=>exact ⟨hd,_,hres,post⟩
 |ret=>exact ⟨hd,_,hres,post⟩
 |_=>rcases h2 with rfl | rfl <;> exact h1.elim
def Cap.nm (p:Nat→Bool):Cap→Bool
 |.d _=>false
 |.ptr s _=>p s
def AC.nm (p:Nat→Bool):AC→Bool
 |.d _ | .fptr _ | .cap0 | .bad=>false
 |.ptr s _ | .ep s _ _ _ | .vw s _ _ _=>p s
 |.fn _ caps=>caps.any (Cap.nm p)
def AC.killp (p:Nat→Bool) (x:AC):AC:=bif x.nm p then .bad else x
def A1.killp (p:Nat→Bool):A1→A1
 |.one a=>.one (a.killp p)
 |.agg cs=>.agg (cs.map (AC.killp p))
def AV.killp (p:Nat→Bool):AV→AV
 |.v x=>.v (x.killp p)
 |.tup l=>.tup (l.map (A1.killp p))
 |.bad=>.bad
def Ob.killp (p:Nat→Bool):Ob→Ob
 |.var cells=>.var (cells.map (AC.killp p))
 |.arr sz rows more=>.arr sz rows more
theorem AC.nm_names {p:Nat→Bool} {x:AC} {s:Nat} (h:x.nm p=false) (hs:x.names s=true):p s=false:=by
 cases x <;> simp only [AC.nm,AC.names,beq_iff_eq,xh] at h hs
 case ptr=>subst hs; exact h
 case ep=>subst hs; exact h
 case vw=>subst hs; exact h
 case fn f caps =>
  simp only [List.any_eq_true] at hs
  obtain ⟨c,hc,hcs⟩:=hs
  have:=List.any_eq_false.1 h c hc
  cases c with
  |d _=>simp [Cap.names] at hcs
  |ptr s' off =>
   simp only [Cap.names,beq_iff_eq] at hcs
   subst hcs
   simpa [Cap.nm] using this
section
variable {w w':World} {S S':Nat→Prop} {β β':Nat→Option Nat} (hS:∀ b,S b→S' b) (hw:Zj3 S w w') (hsh:Zj4 w w') (p:Nat→Bool) (hβ:∀ s,p s=false→β' s=β s)
include hS hw hsh hβ
theorem AC.Rep.killp (x:AC) (v:Value) (h:x.Rep w S β v):(x.killp p).Rep w' S' β' v:=by
 cases hn:x.nm p with
 |true=>unfold AC.killp; rw [hn]; trivial
 |false =>
  have e:x.killp p=x:=by unfold AC.killp; rw [hn]; rfl
  rw [e]
  exact AC.Rep.mono hS hw hsh x v (fun s hs=>hβ s (AC.nm_names hn hs)) h
theorem A1.Rep.killp (x:A1) (v:Value) (h:x.Rep w S β v):(x.killp p).Rep w' S' β' v:=by
 cases x with
 |one a=>exact AC.Rep.killp hS hw hsh p hβ a v h
 |agg cs =>
  obtain ⟨vs,h1,h2⟩:=h
  exact ⟨vs,h1,All2.map _ (h2.imp fun c u hr=>AC.Rep.killp hS hw hsh p hβ c u hr)⟩
theorem AV.Rep.killp (x:AV) (v:Value) (h:x.Rep w S β v):(x.killp p).Rep w' S' β' v:=by
 cases x with
 |v y=>exact A1.Rep.killp hS hw hsh p hβ y v h
 |tup l =>
  obtain ⟨vs,h1,h2⟩:=h
  exact ⟨vs,h1,All2.map _ (h2.imp fun c u hr=>A1.Rep.killp hS hw hsh p hβ c u hr)⟩
 |bad=>trivial
theorem Ob.Rep.killp (b:Nat) (hb:w'.heap[b]? = w.heap[b]?) (o:Ob) (h:o.Rep w S β b):(o.killp p).Rep w' S' β' b:=by
 cases o with
 |var cells =>
  obtain ⟨vs,t,h1,h2⟩:=h
  exact ⟨vs,t,by rw [hb]; exact h1,All2.map _ (h2.imp fun c u hr=>AC.Rep.killp hS hw hsh p hβ c u hr)⟩
 |arr sz rows more=>exact Ob.Rep.kill (β:=β) (β':=β) hS hw hsh 0 (fun _ _=>rfl) b hb (.arr sz rows more) h
end
def Zju (p:Nat→Bool) (os:List Nat):List (Nat × Ob)→List (Nat × Ob)
 |[]=>[]
 |(s,o)::r=>bif p s || os.contains s then Zju p os r else (s,o.killp p)::Zju p os r
theorem Zdv (p:Nat→Bool) (os:List Nat):∀ (l:List (Nat × Ob)) (s:Nat) (o:Ob),(s,o) ∈ Zju p os l→∃ o',(s,o') ∈ l∧o=o'.killp p∧p s=false∧s ∉ os
 |[],_,_,h=>by simp [Zju] at h
 |(s1,o1)::r,s,o,h=>by
  unfold Zju at h
  cases hb:(p s1 || os.contains s1) with
  |true =>
   rw [hb] at h
   obtain ⟨o',h1,h2⟩:=Zdv p os r s o h
   exact ⟨o',by simp [h1],h2⟩
  |false =>
   rw [hb] at h
   simp only [Bool.or_eq_false_iff] at hb
   simp only [cond_false,xc,yt] at h
   rcases h with ⟨rfl,rfl⟩ | h
   ·exact ⟨o1,by simp,rfl,hb.1,by simpa using hb.2⟩
   ·obtain ⟨o',h1,h2⟩:=Zdv p os r s o h
    exact ⟨o',by simp [h1],h2⟩
def Zj5 (β:Nat→Option Nat):List Nat→List (Option Nat)→Prop
 |[],[]=>True
 |s::ss,b::bs=>β s=b∧Zj5 β ss bs
 |_,_=>False
theorem Zj5.append {β:Nat→Option Nat}:∀ {s1 s2:List Nat} {b1 b2:List (Option Nat)},s1.length=b1.length→(Zj5 β (s1++s2) (b1++b2) ↔ Zj5 β s1 b1∧Zj5 β s2 b2)
 |[],_,[],_,_=>by simp [Zj5]
 |s::s1,s2,b::b1,b2,h=>by
  simp only [uq,Zj5,Zj5.append (s1:=s1) (b1:=b1) (by simpa using h),and_assoc]
 |[],_,_::_,_,h=>by simp at h
 |_::_,_,[],_,h=>by simp at h
theorem Zj5.fits {β:Nat→Option Nat}:∀ {n:Nat} {bs:List (Option Nat)},Zj5 β (List.range' n bs.length) bs→Fits β n bs
 |_,[],_=>fun i b hi=>by simp at hi
 |n,c::bs,h=>by
  simp only [xu,List.range'_succ,Zj5] at h
  intro i b hi
  cases i with
  |zero=>simp at hi; subst hi; exact h.1
  |succ i=>have:=Zj5.fits h.2 i b (by simpa using hi); rwa [show n+1+i=n+(i+1) by omega] at this
theorem Zj5.map {β:Nat→Option Nat}:∀ {ss:List Nat} {bs:List (Option Nat)},Zj5 β ss bs→bs=ss.map β
 |[],[],_=>rfl
 |s::ss,b::bs,h=>by simp only [Zj5] at h; rw [qh,h.1, ← Zj5.map h.2]
 |[],_::_,h=>h.elim
 |_::_,[],h=>h.elim
def standFor (β:Nat→Option Nat):List Nat→List (Option Nat)→Nat→Option Nat
 |s::ss,b::bs,x=>if x=s then b else standFor β ss bs x
 |_,_,x=>β x
theorem Zfa {β:Nat→Option Nat}:∀ {ss:List Nat} {bs:List (Option Nat)} {x:Nat},x ∉ ss→standFor β ss bs x=β x
 |[],_,_,_=>by simp [standFor]
 |s::ss,[],_,_=>by simp [standFor]
 |s::ss,b::bs,x,h=>by
  simp only [xc,not_or] at h
  simp only [standFor,h.1,if_false]
  exact Zfa h.2
theorem Zgt {β:Nat→Option Nat}:∀ {ss:List Nat} {bs:List (Option Nat)},ss.length=bs.length→ss.Nodup→Zj5 (standFor β ss bs) ss bs
 |[],[],_,_=>trivial
 |s::ss,b::bs,hl,hn=>by
  rw [List.nodup_cons] at hn
  refine ⟨by simp [standFor], ?_⟩
  have key:∀ {l:List Nat} {m:List (Option Nat)} {f g:Nat→Option Nat},(∀ x ∈ l,f x=g x)→Zj5 f l m→Zj5 g l m:=by
   intro l
   induction l with
   |nil=>intro m f g _ h; cases m with | nil=>trivial | cons _ _=>exact h.elim
   |cons y l ih =>
    intro m f g hfg h
    cases m with
    |nil=>exact h.elim
    |cons z m=>exact ⟨by rw [← hfg y (by simp)]; exact h.1,ih (fun x hx=>hfg x (by simp [hx])) h.2⟩
  refine key (fun x hx=>?_) (Zgt (β:=β) (ss:=ss) (bs:=bs) (by simpa using hl) hn.2)
  simp only [standFor]
  rw [if_neg]
  intro e
  subst e
  exact hn.1 hx
 |[],_::_,h,_=>by simp at h
 |_::_,[],h,_=>by simp at h
def Zjq:List PV→List Nat→Nat→List (Nat × Ob) × List Nat × Nat
 |.obj cells::ps,s::os,n =>
  let (xs,o,n1):=OCs.enter cells n
  let (o',ns,n2):=Zjq ps os n1
  ((s,.var xs)::o++o',s::List.range' n (n1 - n)++ns,n2)
 |_,_,n=>([],[],n)
theorem Zfn {w:World} {F:Nat→Prop} {β β0:Nat→Option Nat}:∀ {ps:List PV} {os:List Nat} {vs:List Value} {bs:List (Option Nat)} {n:Nat},PVs.Rep w F ps vs bs→All2 (fun s v=>∃ b,β0 s=some b∧v=.pointer (some ⟨b,0,none⟩)) os vs→(∀ p ∈ ps, ∃ cells,p=.obj cells) →
  (Zjq ps os n).2.1.length=bs.length∧(Zjq ps os n).2.2+os.length=n+bs.length∧(Zj5 β (Zjq ps os n).2.1 bs→((∀ s o,(s,o) ∈ (Zjq ps os n).1→s ∈ (Zjq ps os n).2.1∧Ob.Is w F β o (β s))∧∀ s ∈ os,β s=β0 s))
 |[],[],[],bs,n,h,_,_=>by
  simp only [PVs.Rep] at h
  subst h
  exact ⟨rfl,rfl,fun _=>⟨fun s o hm=>(by cases hm),fun s hs=>(by cases hs)⟩⟩
 |p::ps,s::os,v::vs,bs,n,h,ho,hp=>by
  obtain ⟨cells,rfl⟩:=hp p (by simp)
  obtain ⟨b1,b2,rfl,h1,h2⟩:=h
  obtain ⟨b,vs',t,bi,rfl,hv,hh,hc⟩:=h1
  obtain ⟨⟨b',hb',hv'⟩,ho⟩:=ho
  have hbb:b'=b:=by rw [hv] at hv'; simpa using hv'.symm
  subst hbb
  have hl:(OCs.enter cells n).2.2=n+bi.length:=by
   have hf:Fits (fun x=>bi.getD (x - n) none) n bi:=fun i b hi=>by simp [xe,hi]
   exact (OCs.enter_rep hc hf).1
  obtain ⟨m1,m2,m3⟩:=Zfn (β:=β) (n:=(OCs.enter cells n).2.2) h2 ho fun p' hp'=>hp p' (by simp [hp'])
  have e1:(Zjq (.obj cells::ps) (s::os) n).2.1=s::List.range' n bi.length++(Zjq ps os (OCs.enter cells n).2.2).2.1:=by
   show s::List.range' n ((OCs.enter cells n).2.2 - n)++_=_
   rw [hl,Nat.add_sub_cancel_left]
  refine ⟨?_, ?_,fun hst=>?_⟩
  ·rw [e1]
   simp [m1]
  ·show (Zjq ps os (OCs.enter cells n).2.2).2.2+_=_
   simp only [xu,yw] at *
   omega
  ·rw [e1] at hst
   have hst':=(Zj5.append (s1:=s::List.range' n bi.length) (b1:=some b'::bi) (by simp)).1 hst
   obtain ⟨⟨k1,k2⟩,k3⟩:=hst'
   obtain ⟨q1,q2,q3⟩:=OCs.enter_rep hc k2.fits
   obtain ⟨r1,r2⟩:=m3 k3
   refine ⟨fun s' o hm=>?_,fun s' hs'=>?_⟩
   ·have hm':(s',o) ∈ (s,Ob.var (OCs.enter cells n).1)::(OCs.enter cells n).2.1++(Zjq ps os (OCs.enter cells n).2.2).1:=hm
    rw [e1]
    rcases List.mem_append.1 hm' with hm' | hm'
    ·rcases List.mem_cons.1 hm' with e | hm'
     ·injection e with e2 e3
      subst e2 e3
      exact ⟨by simp,by rw [k1]; exact ⟨vs',t,hh,q2⟩⟩
     ·obtain ⟨⟨a1,a2⟩,a3⟩:=q3 s' o hm'
      exact ⟨List.mem_append.2 (.inl (List.mem_cons.2 (.inr (List.mem_range'_1.2 ⟨a1,a2⟩)))),a3⟩
    ·obtain ⟨a1,a2⟩:=r1 s' o hm'
     exact ⟨List.mem_append.2 (.inr a1),a2⟩
   ·rcases List.mem_cons.1 hs' with rfl | hs'
    ·rw [k1,hb']
    ·exact r2 s' hs'
 |[],[],_::_,_,_,_,ho,_=>ho.elim
 |[],_::_,[],_,_,_,ho,_=>ho.elim
 |[],_::_,_::_,_,_,h,_,_=>h.elim
 |_::_,[],[],_,_,h,_,_=>h.elim
 |_::_,[],_::_,_,_,_,ho,_=>ho.elim
 |_::_,_::_,[],_,_,h,_,_=>h.elim
def Cap.av:Cap→AV
 |.d c=>.v (.one (.d c))
 |.ptr s off=>.v (.one (.ptr s off))
def Zjo:List AV→List Nat
 |[]=>[]
 |.v (.one (.ptr s 0))::r=>s::Zjo r
 |_::r=>Zjo r
theorem objNames_cons {x:AV} {xs:List AV} (hne:∀ s,x ≠ .v (.one (.ptr s 0))):Zjo (x::xs)=Zjo xs:=by
 cases x with
 |bad=>rfl
 |tup l=>rfl
 |v y =>
  cases y with
  |agg as=>rfl
  |one y =>
   cases y with
   |ptr s off =>
    cases off with
    |zero=>exact absurd rfl (hne s)
    |succ off=>rfl
   |_=>rfl
theorem leaveV_obj {obs:List (Nat × Ob)} {x:AV} {c:PV} {ss:List Nat} {ps:List Prop} (h:leaveV obs x=some (c,ss,ps)):(∃ s cells,x=.v (.one (.ptr s 0))∧c=.obj cells∧s ∈ ss)∨((∀ s,x ≠ .v (.one (.ptr s 0)))∧∃ y,c=.v y):=by
 cases x with
 |bad=>simp [leaveV] at h
 |tup l=>simp [leaveV] at h
 |v y =>
  cases y with
  |agg as =>
   simp only [leaveV,ym,yt] at h
   obtain ⟨⟨c',s',p'⟩,h1,rfl,rfl,rfl⟩:=h
   exact .inr ⟨fun s=>by simp,_,rfl⟩
  |one y =>
   cases y with
   |ptr s off =>
    cases off with
    |succ off=>simp only [leaveV,leaveC,ji,reduceCtorEq] at h
    |zero =>
     simp only [leaveV] at h
     cases hg:Zjf s obs with
     |none=>rw [hg] at h; cases h
     |some ob =>
      rw [hg] at h
      cases ob with
      |arr=>cases h
      |var cells =>
       simp only [ym,yt] at h
       obtain ⟨⟨c',s',p'⟩,h1,rfl,rfl,rfl⟩:=h
       exact .inl ⟨s,_,rfl,rfl,by simp⟩
   |d c =>
    simp only [leaveV,ym,yt] at h
    obtain ⟨⟨c',s',p'⟩,h1,rfl,rfl,rfl⟩:=h
    exact .inr ⟨fun s=>by simp,_,rfl⟩
   |vw s sz i n =>
    simp only [leaveV,ym,yt] at h
    obtain ⟨⟨c',s',p'⟩,h1,rfl,rfl,rfl⟩:=h
    exact .inr ⟨fun s=>by simp,_,rfl⟩
   |fn f caps =>
    simp only [leaveV,ym,yt] at h
    obtain ⟨⟨c',s',p'⟩,h1,rfl,rfl,rfl⟩:=h
    exact .inr ⟨fun s=>by simp,_,rfl⟩
   |_=>simp [leaveV,leaveC] at h
theorem leaveVs_objs {w:World} {S:Nat→Prop} {β:Nat→Option Nat} {obs:List (Nat × Ob)}:∀ {xs:List AV} {cs:List PV} {ss:List Nat} {ps:List Prop} {vs:List Value},Zjj obs xs=some (cs,ss,ps)→All2 (AV.Rep w S β) xs vs →
  All2 (fun s v=>∃ b,β s=some b∧v=.pointer (some ⟨b,0,none⟩)) (Zjo xs) (Zjp cs vs)∧∀ s ∈ Zjo xs,s ∈ ss
 |[],_,_,_,[],h,_=>by
  simp only [Zjj,yn,yt] at h
  obtain ⟨rfl,rfl,rfl⟩:=h
  exact ⟨trivial,fun s hs=>by cases hs⟩
 |x::xs,_,_,_,v::vs,h,hv=>by
  simp only [Zjj] at h
  split at h
  ·rename_i c s p cs ss ps h1 h2
   simp only [yn,yt] at h
   obtain ⟨rfl,rfl,rfl⟩:=h
   obtain ⟨m1,m2⟩:=leaveVs_objs h2 hv.2
   rcases leaveV_obj h1 with ⟨s0,cells,rfl,rfl,hmem⟩ | ⟨hne,y,rfl⟩
   ·refine ⟨⟨hv.1,m1⟩,fun s' hs'=>?_⟩
    have hs'':s' ∈ s0::Zjo xs:=hs'
    rcases List.mem_cons.1 hs'' with rfl | hs''
    ·exact List.mem_append.2 (.inl hmem)
    ·exact List.mem_append.2 (.inr (m2 s' hs''))
   ·have e:Zjo (x::xs)=Zjo xs:=by
     exact objNames_cons hne
    rw [e]
    exact ⟨m1,fun s' hs'=>List.mem_append.2 (.inr (m2 s' hs'))⟩
  ·cases h
 |[],_,_,_,_::_,_,hv=>hv.elim
 |_::_,_,_,_,[],_,hv=>hv.elim
theorem PVs.Rep.split {w:World} {F:Nat→Prop}:∀ {p1 p2:List PV} {v1 v2:List Value} {bs:List (Option Nat)},p1.length=v1.length→PVs.Rep w F (p1++p2) (v1++v2) bs→∃ b1 b2,bs=b1++b2∧PVs.Rep w F p1 v1 b1∧PVs.Rep w F p2 v2 b2
 |[],_,[],_,bs,_,h=>⟨[],bs,rfl,rfl,h⟩
 |p::p1,p2,v::v1,v2,bs,hl,h=>by
  obtain ⟨b1,b2,rfl,h1,h2⟩:=h
  obtain ⟨c1,c2,rfl,k1,k2⟩:=PVs.Rep.split (by simpa using hl) h2
  exact ⟨b1++c1,c2,by rw [qb],⟨b1,c1,rfl,h1,k1⟩,k2⟩
 |[],_,_::_,_,_,h,_=>by simp at h
 |_::_,_,[],_,_,h,_=>by simp at h
def onlyV:List AV→Option (List A1)
 |[]=>some []
 |.v x::r=>(onlyV r).map (x::·)
 |_=>none
theorem Zit:∀ {l:List AV} {m:List A1},onlyV l=some m→l=m.map .v
 |[],m,h=>by simp [onlyV] at h; subst h; rfl
 |.v x::r,m,h=>by
  simp only [onlyV,ym] at h
  obtain ⟨m',h',rfl⟩:=h
  rw [Zit h']
  rfl
 |.tup _::_,_,h | .bad::_,_,h=>by simp [onlyV] at h
def tupA:List A1→AV
 |[x]=>.v x
 |l=>.tup l
theorem Zfu {w:World} {S:Nat→Prop} {β:Nat→Option Nat} {l:List A1} {vs:List Value} (h:All2 (A1.Rep w S β) l vs):(tupA l).Rep w S β (Zk0 vs):=by
 match l,vs,h with
 |[],[],_=>exact ⟨#[],rfl,trivial⟩
 |[x],[v],h=>exact h.1
 |x::y::l,v::u::vs,h=>exact ⟨(v::u::vs).toArray,rfl,by simpa using h⟩
theorem Zj5.mem {β:Nat→Option Nat}:∀ {ss:List Nat} {bs:List (Option Nat)},Zj5 β ss bs→∀ s ∈ ss,β s ∈ bs
 |[],[],_,s,hs=>by cases hs
 |s0::ss,b::bs,h,s,hs=>by
  rcases List.mem_cons.1 hs with rfl | hs
  ·exact List.mem_cons.2 (.inl h.1)
  ·exact List.mem_cons.2 (.inr (Zj5.mem h.2 s hs))
 |[],_::_,h,_,_=>h.elim
 |_::_,[],h,_,_=>h.elim
theorem Zj5.inj {β:Nat→Option Nat}:∀ {ss:List Nat} {bs:List (Option Nat)},Zj5 β ss bs→Once bs→∀ s ∈ ss, ∀ t ∈ ss, ∀ b,β s=some b→β t=some b→s=t
 |[],[],_,_,s,hs,_,_,_,_,_=>by cases hs
 |s0::ss,c::bs,h,hn,s,hs,t,ht,b,e1,e2=>by
  have hn2:Once bs:=by cases c with | none=>exact hn | some _=>exact hn.2
  have two:∀ u ∈ ss,β s0=some b→β u=some b→False:=fun u hu h1 h2=>by
   rw [h.1] at h1
   subst h1
   exact hn.1 (by rw [← h2]; exact Zj5.mem h.2 u hu)
  rcases List.mem_cons.1 hs with h1 | h1
  ·rcases List.mem_cons.1 ht with h2 | h2
   ·rw [h1,h2]
   ·exact (two t h2 (h1 ▸ e1) e2).elim
  ·rcases List.mem_cons.1 ht with h2 | h2
   ·exact (two s h1 (h2 ▸ e2) e1).elim
   ·exact Zj5.inj h.2 hn2 s h1 t h2 b e1 e2
 |[],_::_,h,_,_,_,_,_,_,_,_=>h.elim
 |_::_,[],h,_,_,_,_,_,_,_,_=>h.elim
def gone (ss os:List Nat) (m n2:Nat) (s:Nat):Bool:=(ss.contains s && !os.contains s) || (Nat.ble m s && Nat.blt s n2)
theorem gone_false {ss os:List Nat} {m n2 s:Nat} (h:gone ss os m n2 s=false):(s ∈ ss→s ∈ os)∧¬ (m≤s∧s < n2):=by
 unfold gone at h
 simp only [Bool.or_eq_false_iff,Bool.and_eq_false_iff,Bool.not_eq_false',List.contains_eq_mem,decide_eq_false_iff_not,decide_eq_true_eq,Nat.blt] at h
 obtain ⟨h1,h2⟩:=h
 refine ⟨fun hm=>?_,fun ⟨a,b⟩=>?_⟩
 ·rcases h1 with h1 | h1
  ·exact absurd hm h1
  ·exact h1
 ·rcases h2 with h2 | h2
  ·rw [Nat.ble_eq_true_of_le a] at h2; cases h2
  ·rw [Nat.ble_eq_true_of_le b] at h2; cases h2
def callSt (st:St) (ss os:List Nat) (m:Nat) (fres fobjs:List PV):St :=
 let r:=PVs.enter fres m
 let q:=Zjq fobjs os r.2.2
 { fr:=st.fr.map (AV.killp (gone ss os m q.2.2)),obs:=r.2.1++q.1++Zju (gone ss os m q.2.2) os st.obs }
theorem OC.enter_ge (c:OC) (n:Nat):n≤(c.enter n).2.2:=by
 cases c with
 |dat x=>exact xw _
 |own sz rows=>exact Nat.le_succ _
 |room sz m rows=>exact Nat.le_succ _
 |fn f cs=>exact xw _
theorem OCs.enter_ge:∀ (cs:List OC) (n:Nat),n≤(OCs.enter cs n).2.2
 |[],_=>xw _
 |c::cs,n=>u7 (OC.enter_ge c n) (OCs.enter_ge cs (c.enter n).2.2)
theorem Zhu:∀ (ps:List PV) (os:List Nat) (n:Nat),n≤(Zjq ps os n).2.2
 |.obj cells::ps,s::os,n=>u7 (OCs.enter_ge cells n) (Zhu ps os (OCs.enter cells n).2.2)
 |.obj _::_,[],_=>xw _
 |.v _::_,_,_=>xw _
 |[],_,_=>xw _
theorem Zh4:∀ {ps:List PV} {os:List Nat} {n s:Nat},s ∈ (Zjq ps os n).2.1→s ∈ os∨(n≤s∧s < (Zjq ps os n).2.2)
 |.obj cells::ps,s0::os,n,s,h=>by
  have g1:=OCs.enter_ge cells n
  have g2:=Zhu ps os (OCs.enter cells n).2.2
  have h':s ∈ s0::List.range' n ((OCs.enter cells n).2.2 - n)++(Zjq ps os (OCs.enter cells n).2.2).2.1:=h
  show s ∈ s0::os∨(n≤s∧s < (Zjq ps os (OCs.enter cells n).2.2).2.2)
  rcases List.mem_append.1 h' with h' | h'
  ·rcases List.mem_cons.1 h' with rfl | h'
   ·exact .inl (by simp)
   ·obtain ⟨a,b⟩:=List.mem_range'_1.1 h'
    exact .inr ⟨a,by omega⟩
  ·rcases Zh4 h' with h' | ⟨a,b⟩
   ·exact .inl (List.mem_cons.2 (.inr h'))
   ·exact .inr ⟨by omega,b⟩
 |.obj _::_,[],_,_,h=>by cases h
 |.v _::_,_,_,_,h=>by cases h
 |[],_,_,_,h=>by cases h
theorem Ob.empty_killp (p:Nat→Bool) (o:Ob):(o.killp p).empty ↔ o.empty:=by cases o <;> exact Iff.rfl
theorem sim_call {G:Gh} {β:Nat→Option Nat} {S:Nat→Prop} {st:St} {a:Act} {w w':World} (hs:Sim G β S st a w) {xs:List AV} {vs:List Value} (hv:All2 (AV.Rep w S β) xs vs)
  {pargs fres fobjs:List PV} {ss:List Nat} {ps:List Prop} (hl:Zjj st.obs xs=some (pargs,ss,ps)) (hp:AllP ps) (hnd:ss.Nodup) (hfo:∀ p ∈ fobjs, ∃ cells,p=.obj cells) (hlen:fobjs.length=(Zjo xs).length) (m:Nat)
  (hn2:(Zjq fobjs (Zjo xs) (PVs.enter fres m).2.2).2.2≤G.n0) (hnames:(List.range' m ((PVs.enter fres m).2.2 - m)++(Zjq fobjs (Zjo xs) (PVs.enter fres m).2.2).2.1).Nodup)
  {e:Ending} (post:Post w S (ss.map β) (Zjp pargs vs) (fres++fobjs) e w') :
  ∃ vres β' S',e=.returned (Zk0 vres)∧All2 (AV.Rep w' S' β') (PVs.enter fres m).1 vres∧Sim G β' S' (callSt st ss (Zjo xs) m fres fobjs) a w':=by
 obtain ⟨hptr,hosss⟩:=leaveVs_objs hl hv
 obtain ⟨hrep,hobs⟩:=Z7o hs hl hp hv
 obtain ⟨vres,F',bs',rfl,hfin,hbn,hbs,hF1,hF2,hold,hsize,hos,htape,hout,hsh⟩:=post
 generalize hOS:Zjo xs=os at *
 generalize hPT:Zjp pargs vs=ptrs at *
 have hll:fres.length=vres.length:=by
  have h1:=hfin.length
  have h2:=hptr.length
  simp only [yw] at h1
  omega
 obtain ⟨b1,b2,rfl,hr1,hr2⟩:=PVs.Rep.split hll hfin
 have hn1:(PVs.enter fres m).2.2=m+b1.length:=by
  have hf:Fits (fun x=>b1.getD (x - m) none) m b1:=fun i b hi=>by simp [xe,hi]
  exact (PVs.enter_rep hr1 hf).1
 have hsub:(PVs.enter fres m).2.2 - m=b1.length:=by omega
 rw [hsub] at hnames
 generalize hq:Zjq fobjs os (PVs.enter fres m).2.2=q at *
 obtain ⟨hql,hq2,_⟩:=Zfn (β:=β) (n:=(PVs.enter fres m).2.2) hr2 hptr hfo
 rw [hq] at hql hq2
 let NL:=List.range' m b1.length++q.2.1
 let β':=standFor β NL (b1++b2)
 have hst:Zj5 β' NL (b1++b2):=Zgt (by simp [NL,hql]) hnames
 obtain ⟨hst1,hst2⟩:=(Zj5.append (by simp)).1 hst
 obtain ⟨_,_,hback⟩:=Zfn (β:=β') (n:=(PVs.enter fres m).2.2) hr2 hptr hfo
 rw [hq] at hback
 obtain ⟨hqob,hqos⟩:=hback hst2
 obtain ⟨_,hres,hknown⟩:=PVs.enter_rep hr1 hst1.fits
 have hNLm:∀ s ∈ NL,s ∈ os∨(m≤s∧s < q.2.2):=by
  intro s hm
  have h22:(PVs.enter fres m).2.2≤q.2.2:=by
   rw [← hq]
   exact Zhu _ _ _
  rcases List.mem_append.1 hm with h | h
  ·obtain ⟨h1,h2⟩:=List.mem_range'_1.1 h
   exact .inr ⟨h1,by omega⟩
  ·have:=Zh4 (ps:=fobjs) (os:=os) (n:=(PVs.enter fres m).2.2) (s:=s) (by rw [hq]; exact h)
   rw [hq] at this
   rcases this with h | ⟨h1,h2⟩
   ·exact .inl h
   ·exact .inr ⟨by omega,h2⟩
 have hβ:∀ s,gone ss os m q.2.2 s=false→β' s=β s:=by
  intro s hg
  obtain ⟨g1,g2⟩:=gone_false hg
  by_cases hm:s ∈ NL
  ·rcases hNLm s hm with h | h
   ·exact hqos s h
   ·exact absurd h g2
  ·exact Zfa hm
 have hbsold:∀ b,some b ∈ ss.map β→¬ S b∧(G.own0 b∨G.w0.heap.size≤b)∧b < w.heap.size:=by
  intro b hb
  refine ⟨?_, ?_,hrep.blocks b hb⟩
  all_goals
   obtain ⟨s,hm,hsb⟩:=List.mem_map.1 hb
   obtain ⟨o,ho⟩:=hobs s hm
  ·exact (hs.ob s o b ho hsb).2.1
  ·exact (hs.ob s o b ho hsb).2.2
 have hsame:Zj3 S w w':=fun b hb=>hold b (hs.lt b hb) fun hm=>(hbsold b hm).1 hb
 have hnew:∀ b,some b ∈ b1++b2→¬ F' b∧(G.own0 b∨G.w0.heap.size≤b):=by
  intro b hb
  obtain ⟨h1,h2⟩:=hbs b hb
  refine ⟨h1, ?_⟩
  rcases h2 with h2 | h2
  ·exact (hbsold b h2).2.1
  ·exact .inr (u7 hs.size h2)
 have hrest:∀ s o,(s,o) ∈ Zju (gone ss os m q.2.2) os st.obs→∃ o',(s,o') ∈ st.obs∧o=o'.killp (gone ss os m q.2.2)∧β' s=β s∧∀ b,β s=some b→b < w.heap.size∧some b ∉ ss.map β:=by
  intro s o hm
  obtain ⟨o',h1,h2,h3,h4⟩:=Zdv _ _ _ _ _ hm
  refine ⟨o',h1,h2,hβ s h3,fun b hsb=>⟨(hs.ob s o' b h1 hsb).1.lt,fun hb=>?_⟩⟩
  obtain ⟨s1,hs1,he⟩:=List.mem_map.1 hb
  obtain ⟨o1,ho1⟩:=hobs s1 hs1
  have:=hs.inj s1 o1 s o' b ho1 h1 he hsb
  subst this
  exact h4 ((gone_false h3).1 hs1)
 have hnamed:∀ s o,(s,o) ∈ (PVs.enter fres m).2.1++q.1→s ∈ NL∧Ob.Is w' F' β' o (β' s):=by
  intro s o hm
  rcases List.mem_append.1 hm with h | h
  ·obtain ⟨h1,h2⟩:=hknown s o h
   exact ⟨List.mem_append.2 (.inl (List.mem_range'_1.2 h1)),h2⟩
  ·obtain ⟨h1,h2⟩:=hqob s o h
   exact ⟨List.mem_append.2 (.inr h1),h2⟩
 have hNLb:∀ s ∈ NL,β' s ∈ b1++b2:=hst.mem
 refine ⟨vres,β',F',rfl,hres, ?_⟩
 have hcs:callSt st ss os m fres fobjs={ fr:=st.fr.map (AV.killp (gone ss os m q.2.2)),obs:=(PVs.enter fres m).2.1++q.1++Zju (gone ss os m q.2.2) os st.obs }:=by
  unfold callSt
  simp only [hq]
 rw [hcs]
 refine ⟨hs.defers,All2.map _ (hs.fr.imp fun x v hx=>AV.Rep.killp hF1 hsame hsh _ hβ x v hx),fun s o b hm hsb=>?_,fun s o hm hsb=>?_,fun s1 o1 s2 o2 b m1 m2 he1 he2=>?_,fun b hb=>(hF2 b hb).1,fun b hb=>hF1 b (hs.s0 b hb),u7 hs.size hsize,fun b h1 h2=>?_,hos.trans hs.os,htape.trans hs.tape,hout.trans hs.output,fun s b hm=>?_,fun b hb=>?_,hs.sh.trans hsh⟩
 ·rcases List.mem_append.1 hm with hm | hm
  ·obtain ⟨h1,h2⟩:=hnamed s o hm
   rw [hsb] at h2
   exact ⟨h2,hnew b (by rw [← hsb]; exact hNLb s h1)⟩
  ·obtain ⟨o',h1,rfl,h3,h4⟩:=hrest s o hm
   rw [h3] at hsb
   obtain ⟨h4,h5⟩:=h4 b hsb
   obtain ⟨k1,k2,k3⟩:=hs.ob s o' b h1 hsb
   refine ⟨Ob.Rep.killp hF1 hsame hsh _ hβ b (hold _ h4 h5) o' k1,fun hF=>?_,k3⟩
   rcases (hF2 _ hF).2 with h | h | h
   ·exact k2 h
   ·exact h5 h
   ·omega
 ·rcases List.mem_append.1 hm with hm | hm
  ·obtain ⟨h1,h2⟩:=hnamed s o hm
   rw [hsb] at h2
   exact h2
  ·obtain ⟨o',h1,rfl,h3,h4⟩:=hrest s o hm
   rw [h3] at hsb
   exact (Ob.empty_killp _ o').2 (hs.out s o' h1 hsb)
 ·have mixed:∀ s t o o',(s,o) ∈ (PVs.enter fres m).2.1++q.1→(t,o') ∈ Zju (gone ss os m q.2.2) os st.obs→β' s=some b→β' t=some b→False:=by
   intro s t o o' h1 h2 hes het
   obtain ⟨_,_,_,h3,h4⟩:=hrest t o' h2
   rw [h3] at het
   obtain ⟨h4,h5⟩:=h4 b het
   have:=hbs b (by rw [← hes]; exact hNLb s (hnamed s o h1).1)
   rcases this.2 with h | h
   ·exact h5 h
   ·omega
  rcases List.mem_append.1 m1 with m1 | m1
  ·rcases List.mem_append.1 m2 with m2 | m2
   ·exact hst.inj hbn s1 (hnamed _ _ m1).1 s2 (hnamed _ _ m2).1 b he1 he2
   ·exact (mixed _ _ _ _ m1 m2 he1 he2).elim
  ·rcases List.mem_append.1 m2 with m2 | m2
   ·exact (mixed _ _ _ _ m2 m1 he2 he1).elim
   ·obtain ⟨o1',a1,_,e1,_⟩:=hrest _ _ m1
    obtain ⟨o2',a2,_,e2,_⟩:=hrest _ _ m2
    rw [e1] at he1
    rw [e2] at he2
    exact hs.inj _ _ _ _ b a1 a2 he1 he2
 ·refine (hold b (qc h1 hs.size) fun hm=>?_).trans (hs.old b h1 h2)
  rcases (hbsold b hm).2.1 with h | h
  ·exact h2 h
  ·omega
 ·obtain ⟨h1,h2⟩:=hs.par s b hm
  refine ⟨h1, ?_⟩
  by_cases hin:s ∈ NL
  ·rcases hNLm s hin with h | h
   ·exact (hqos s h).trans h2
   ·omega
  ·exact (Zfa hin).trans h2
 ·rcases (hF2 b hb).2 with h | h | h
  ·exact hs.src b h
  ·exact .inr (hbsold b h).2.1
  ·exact .inr (.inr (u7 hs.size h))
theorem Zd6 {P:Program} {w:World} {ρ:Operand→Value} {o:Oper} {c:Call} {g:Operand} {f:FuncId} {fn:Func} {caps:Array Value} (ho:o.op=.call c) (hc:c.callee=.value g) (hv:ρ g=.func (.func f) #[] caps)
  (hf:P.funcs[f]? = some fn) (hn:(fn.name == "runtime.NumGoroutine") = false) (hb:fn.body.isNone = false) : (execOp ρ o).run P w = .ok (.enter f (c.args.map ρ++caps)) w := by
 unfold execOp
 rw [ho]
 simp only [resolve,hc,hv,Deferred.ofValue,pure_bind,invoke,Array.empty_append]
 unfold callFunc
 have hp:(program:Sem Program).run P w=.ok P w:=rfl
 simp only [Sem.run_bind,hp,Result.andThen_ok,hf,hn,hb,xh,if_false,Sem.run_pure]
def Zje (st:St):List Operand→Option (List AV)
 |[]=>some []
 |x::xs=>match Zjd st x,Zje st xs with
  |some y,some ys=>some (y::ys)
  |_,_=>none
theorem Z96 {G:Gh} {β:Nat→Option Nat} {S:Nat→Prop} {st:St} {a:Act} {w:World} (h:Sim G β S st a w):∀ {xs:List Operand} {ys:List AV},Zje st xs=some ys→All2 (AV.Rep w S β) ys (xs.map a.eval)
 |[],_,e=>by simp only [Zje,yn] at e; subst e; trivial
 |x::xs,_,e=>by
  simp only [Zje] at e
  split at e
  ·rename_i y ys h1 h2
   simp only [yn] at e
   subst e
   exact ⟨Z0p h h1,Z96 h h2⟩
  ·cases e
theorem All2.of_map {α β γ:Type} {R:α→β→Prop} (f:γ→α):∀ {l:List γ} {m:List β},All2 R (l.map f) m→All2 (fun c b=>R (f c) b) l m
 |[],[],_=>trivial
 |x::xs,y::ys,h=>⟨h.1,All2.of_map f h.2⟩
 |[],_::_,h=>h.elim
 |_::_,[],h=>h.elim
theorem Z3j {P:Program} {f:FuncId} {args:Array Value} {w:World} {R R':Ending→World→Prop} (h:Calls P f args w R) (k:∀ e w',R e w'→R' e w'):Calls P f args w R' :=
 fun cs=>let ⟨e,w',fr,h1,h2⟩:=h cs; ⟨e,w',fr,k _ _ h1,h2⟩
theorem op_call {P:Program} {G:Gh} {o:Oper} {st:St} {c:Call} {g:Operand} {f:FuncId} {fn:Func} {caps:List Cap} {xs:List AV} {pargs fres fobjs:List PV} {ss:List Nat} {ps:List Prop} {l:List A1} (m:Nat)
  (ho:o.op=.call c) (hc:c.callee=.value g) (hg:Zjd st g=some (.v (.one (.fn f caps)))) (hx:Zje st c.args.toList=some xs)
  (hf:P.funcs[f]? = some fn) (hn:(fn.name == "runtime.NumGoroutine") = false) (hb:fn.body.isNone = false)
  (hl:Zjj st.obs (xs++caps.map Cap.av)=some (pargs,ss,ps)) (hp:AllP ps) (hnd:ss.Nodup) (hspec:Ziz P f pargs (fres++fobjs))
  (hfo:∀ p ∈ fobjs, ∃ cells,p=.obj cells) (hlen:fobjs.length=(Zjo (xs++caps.map Cap.av)).length)
  (hn2:(Zjq fobjs (Zjo (xs++caps.map Cap.av)) (PVs.enter fres m).2.2).2.2≤G.n0)
  (hnames:(List.range' m ((PVs.enter fres m).2.2 - m)++(Zjq fobjs (Zjo (xs++caps.map Cap.av)) (PVs.enter fres m).2.2).2.1).Nodup)
  (hres:onlyV (PVs.enter fres m).1=some l) :
  OpWp P G o st (tupA l) (callSt st ss (Zjo (xs++caps.map Cap.av)) m fres fobjs):=by
 intro β S a w hs next Q k
 obtain ⟨cv,hcv,hcaps⟩:∃ vs:Array Value,a.eval g=.func (.func f) #[] vs∧All2 (Cap.Rep w S β) caps vs.toList:=Z0p hs hg
 have hargs:All2 (AV.Rep w S β) (xs++caps.map Cap.av) (c.args.toList.map a.eval++cv.toList):=by
  refine (Z96 hs hx).append (All2.map _ (hcaps.imp fun cc v h=>?_))
  cases cc <;> exact h
 have hrun:=Zd6 (w:=w) ho hc hcv hf hn hb
 unfold Oper.wp
 rw [hrun,Oper.upon_enter]
 obtain ⟨hrep,hobs⟩:=Z7o hs hl hp hargs
 have hnb:∀ b,some b ∈ ss.map β→¬ S b:=by
  intro b hb
  obtain ⟨s,hm,hsb⟩:=List.mem_map.1 hb
  obtain ⟨o,ho⟩:=hobs s hm
  exact (hs.ob s o b ho hsb).2.1
 have hcall:=hspec w _ S (ss.map β) hs.lt hrep (Zid hnd fun s1 m1 s2 m2 b e1 e2=>by
  obtain ⟨o1,q1⟩:=hobs s1 m1
  obtain ⟨o2,q2⟩:=hobs s2 m2
  exact hs.inj s1 o1 s2 o2 b q1 q2 e1 e2) hnb
 have hvs:c.args.map a.eval++cv=(c.args.toList.map a.eval++cv.toList).toArray:=by
  apply zi
  simp
 rw [hvs]
 refine Z3j hcall fun e w' post=>?_
 obtain ⟨vres,β',S',rfl,hr,hsim⟩:=sim_call hs hargs hl hp hnd hfo hlen m hn2 hnames post
 show next (a.put o.dst (Zk0 vres)) w'
 refine k β' S' _ w' (Zfu ?_) hsim
 rw [Zit hres] at hr
 exact All2.of_map (R:=AV.Rep w' S' β') AV.v hr
def PostPan (w:World) (bs:List (Option Nat)) (v:Value) (e:Ending) (w':World):Prop :=
 e=.panicked [{ v:=v,recovered:=false }]∧(∀ b,b < w.heap.size→some b ∉ bs→w'.heap[b]? = w.heap[b]?)∧w.heap.size≤w'.heap.size∧w'.os=w.os∧w'.tape=w.tape∧w'.output=w.output∧Zj4 w w'
def FPan (P:Program) (f:FuncId) (args:List PV) (v:Value):Prop :=
 ∀ (w:World) (vs:List Value) (F:Nat→Prop) (bs:List (Option Nat)),(∀ b,F b→b < w.heap.size)→PVs.Rep w F args vs bs→Once bs→(∀ b,some b ∈ bs→¬ F b)→Calls P f vs.toArray w (PostPan w bs v)
def panSt (st:St) (ss:List Nat):St:={ fr:=st.fr.map (AV.killp fun s=>ss.contains s),obs:=Zju (fun s=>ss.contains s) [] st.obs }
theorem sim_pan {G:Gh} {β:Nat→Option Nat} {S:Nat→Prop} {st:St} {a:Act} {w w':World} (hs:Sim G β S st a w) {xs:List AV} {vs:List Value} (hv:All2 (AV.Rep w S β) xs vs)
  {pargs:List PV} {ss:List Nat} {ps:List Prop} (hl:Zjj st.obs xs=some (pargs,ss,ps)) (hp:AllP ps) {v:Value} {e:Ending} (post:PostPan w (ss.map β) v e w'):e=.panicked [{ v:=v,recovered:=false }]∧Sim G β S (panSt st ss) a w':=by
 obtain ⟨hrep,hobs⟩:=Z7o hs hl hp hv
 obtain ⟨rfl,hold,hsize,hos,htape,hout,hsh⟩:=post
 refine ⟨rfl, ?_⟩
 have hbsold:∀ b,some b ∈ ss.map β→¬ S b∧(G.own0 b∨G.w0.heap.size≤b):=by
  intro b hb
  obtain ⟨s,hm,hsb⟩:=List.mem_map.1 hb
  obtain ⟨o,ho⟩:=hobs s hm
  exact (hs.ob s o b ho hsb).2
 have hsame:Zj3 S w w':=fun b hb=>hold b (hs.lt b hb) fun hm=>(hbsold b hm).1 hb
 have hrest:∀ s o,(s,o) ∈ Zju (fun s=>ss.contains s) [] st.obs→∃ o',(s,o') ∈ st.obs∧o=o'.killp (fun s=>ss.contains s)∧∀ b,β s=some b→b < w.heap.size∧some b ∉ ss.map β:=by
  intro s o hm
  obtain ⟨o',h1,h2,h3,_⟩:=Zdv _ _ _ _ _ hm
  refine ⟨o',h1,h2,fun b hsb=>⟨(hs.ob s o' b h1 hsb).1.lt,fun hb=>?_⟩⟩
  obtain ⟨s1,hs1,he⟩:=List.mem_map.1 hb
  obtain ⟨o1,ho1⟩:=hobs s1 hs1
  have:=hs.inj s1 o1 s o' b ho1 h1 he hsb
  subst this
  simp [hs1] at h3
 refine ⟨hs.defers,All2.map _ (hs.fr.imp fun x v hx=>AV.Rep.killp (fun _ hb=>hb) hsame hsh _ (fun _ _=>rfl) x v hx),fun s o b hm hsb=>?_,fun s o hm hsb=>?_,fun s1 o1 s2 o2 b m1 m2 he1 he2=>?_,fun b hb=>qc (hs.lt b hb) hsize,hs.s0,u7 hs.size hsize,fun b h1 h2=>?_,hos.trans hs.os,htape.trans hs.tape,hout.trans hs.output,hs.par,hs.src,hs.sh.trans hsh⟩
 ·obtain ⟨o',h1,rfl,h4⟩:=hrest s o hm
  obtain ⟨h4,h5⟩:=h4 b hsb
  obtain ⟨k1,k2,k3⟩:=hs.ob s o' b h1 hsb
  exact ⟨Ob.Rep.killp (fun _ hb=>hb) hsame hsh _ (fun _ _=>rfl) b (hold _ h4 h5) o' k1,k2,k3⟩
 ·obtain ⟨o',h1,rfl,_⟩:=hrest s o hm
  exact (Ob.empty_killp _ o').2 (hs.out s o' h1 hsb)
 ·obtain ⟨o1',a1,_⟩:=hrest _ _ m1
  obtain ⟨o2',a2,_⟩:=hrest _ _ m2
  exact hs.inj _ _ _ _ b a1 a2 he1 he2
 ·refine (hold b (qc h1 hs.size) fun hm=>?_).trans (hs.old b h1 h2)
  rcases (hbsold b hm).2 with h | h
  ·exact h2 h
  ·omega
def OpPan (P:Program) (G:Gh) (o:Oper) (st:St) (v:Value) (st':St):Prop :=
  ∀ (β : Nat → Option Nat) (S : Nat → Prop) (a : Act) (w : World), Sim G β S st a w → ∀ (next : Act → World → Prop) (Q : Exit → Act → World → Prop),
    (∀ w',Sim G β S st' a w'→Q (.panic [{ v:=v,recovered:=false }]) a w')→o.wp P a w next Q
theorem op_call_pan {P:Program} {G:Gh} {o:Oper} {st:St} {c:Call} {g:Operand} {f:FuncId} {fn:Func} {caps:List Cap} {xs:List AV} {pargs:List PV} {ss:List Nat} {ps:List Prop} {v:Value}
  (ho:o.op=.call c) (hc:c.callee=.value g) (hg:Zjd st g=some (.v (.one (.fn f caps)))) (hx:Zje st c.args.toList=some xs)
  (hf:P.funcs[f]? = some fn) (hn:(fn.name == "runtime.NumGoroutine") = false) (hb:fn.body.isNone = false)
  (hl:Zjj st.obs (xs++caps.map Cap.av)=some (pargs,ss,ps)) (hp:AllP ps) (hnd:ss.Nodup) (hspec:FPan P f pargs v):OpPan P G o st v (panSt st ss):=by
 intro β S a w hs next Q k
 obtain ⟨cv,hcv,hcaps⟩:∃ vs:Array Value,a.eval g=.func (.func f) #[] vs∧All2 (Cap.Rep w S β) caps vs.toList:=Z0p hs hg
 have hargs:All2 (AV.Rep w S β) (xs++caps.map Cap.av) (c.args.toList.map a.eval++cv.toList):=by
  refine (Z96 hs hx).append (All2.map _ (hcaps.imp fun cc v h=>?_))
  cases cc <;> exact h
 have hrun:=Zd6 (w:=w) ho hc hcv hf hn hb
 unfold Oper.wp
 rw [hrun,Oper.upon_enter]
 obtain ⟨hrep,hobs⟩:=Z7o hs hl hp hargs
 have hnb:∀ b,some b ∈ ss.map β→¬ S b:=by
  intro b hb
  obtain ⟨s,hm,hsb⟩:=List.mem_map.1 hb
  obtain ⟨o,ho⟩:=hobs s hm
  exact (hs.ob s o b ho hsb).2.1
 have hcall:=hspec w _ S (ss.map β) hs.lt hrep (Zid hnd fun s1 m1 s2 m2 b e1 e2=>by
  obtain ⟨o1,q1⟩:=hobs s1 m1
  obtain ⟨o2,q2⟩:=hobs s2 m2
  exact hs.inj s1 o1 s2 o2 b q1 q2 e1 e2) hnb
 have hvs:c.args.map a.eval++cv=(c.args.toList.map a.eval++cv.toList).toArray:=by
  apply zi
  simp
 rw [hvs]
 refine Z3j hcall fun e w' post=>?_
 obtain ⟨rfl,hsim⟩:=sim_pan hs hargs hl hp post
 exact k w' hsim
theorem op_panic {P:Program} {G:Gh} {o:Oper} {st:St} {x:Operand} {t:TypeId} {u:Value} (ho:o.op=.panic x) (hx:flatV st x=some (.iface t u)):OpPan P G o st (.iface t u) st:=by
 intro β S a w hs next Q k
 have hv:=Zar hs hx
 unfold Oper.wp
 have:(execOp a.eval o).run P w=.halt (.panic (.iface t u)) w:=by
  unfold execOp
  rw [ho]
  simp only [hv]
  rfl
 rw [this,Oper.upon_panic]
 exact k w hs
def oneA (st:St) (x:Operand):Option AC :=
 match Zjd st x with
 |some (.v (.one p))=>some p
 |_=>none
theorem Z2t {st:St} {x:Operand} {p:AC} (h:oneA st x=some p):Zjd st x=some (.v (.one p)):=by
 unfold oneA at h
 split at h
 ·rename_i q hq; injection h with h; subst h; exact hq
 ·cases h
def qMove (st:St) (x:Operand):Option (AV × List Prop):=(Zjd st x).map fun y=>(y,[])
def qExtract (st:St) (x:Operand) (i:Nat):Option (AV × List Prop) :=
 match Zjd st x with
 |some (.tup l)=>(l[i]?).map fun y=>(.v y,[])
 |_=>none
def qLoad (P:Program) (st:St) (t:TypeId) (x:Operand):Option (AV × List Prop) :=
 (oneA st x).bind fun p=>(cellsAt st p).bind fun c=>(takeVar P t c.1).map fun y=>(.v y,[c.2])
def qNilCheck (st:St) (x:Operand):Option (AV × List Prop) :=
 (oneA st x).bind fun p=>match p with
  |.fn f cs=>some (.v (.one (.fn f cs)),[])
  |p=>bif isPtr p then some (.v (.one p),[]) else none
def qFieldAddr (P:Program) (st:St) (t:TypeId) (x:Operand) (f:Nat):Option (AV × List Prop) :=
 (oneA st x).bind fun p=>(fieldT P t f).bind fun fd=>match sizeT P fd.type with
  |some (n+1)=>(ptrAdd p fd.offset).map fun q=>(.v (.one q),[])
  |_=>none
def qField (P:Program) (st:St) (t:TypeId) (x:Operand) (f:Nat):Option (AV × List Prop) :=
 match Zjd st x with
 |some (.v (.agg cs))=>(fieldT P t f).bind fun fd=>(fieldOf P fd cs).map fun y=>(.v y,[])
 |_=>none
def qIndexAddr (P:Program) (st:St) (t:TypeId) (x y:Operand):Option (AV × List Prop) :=
 (oneA st x).bind fun p=>(oneA st y).bind fun i=>match i with
  |.d (.int k i)=>match arrT P t with
   |some (len,n)=>(ptrAdd p (i.toNat * n)).map fun q=>(.v (.one q),[0≤i∧i < (len:Int)])
   |none=>(Zjc P t).bind fun e=>(elemAt p i e.2).map fun q=>(.v (.one q.1),[q.2])
  |_=>none
def qLen (P:Program) (st:St) (t:TypeId) (x:Operand):Option (AV × List Prop) :=
 (oneA st x).bind fun p=>(Zjc P t).bind fun e=>(lenA p).map fun (n:Nat)=>((.v (.one (.d (.int .i64 (n:Int)))):AV),([]:List Prop))
def qFlat (P:Program) (st:St) (o:Oper):Option (AV × List Prop):=(flatOp P st o).map fun y=>(y,[])
def qNilcmp (P:Program) (st:St) (op:BinOp) (t:TypeId) (x y:Operand):Option (AV × List Prop) :=
 (oneA st x).bind fun p=>(oneA st y).bind fun z =>
  bif kindT P t == Zji p && Zji p != 0 then
   match Zji p,z,op with
   |1,.d .nilp,.eql | 2,.d .nils,.eql | 3,.d .nilf,.eql=>some (.v (.one (.d (.bool false))),[])
   |1,.d .nilp,.neq | 2,.d .nils,.neq | 3,.d .nilf,.neq=>some (.v (.one (.d (.bool true))),[])
   |_,_,_=>none
  else none
def vwMost (s sz i n:Nat) (h:Int) (obs:List (Nat × Ob)):Prop :=
 match Zjf s obs with
 |some (.arr sz' rows false)=>bif sz' == sz then h+i≤rows.length else h≤n
 |_=>h≤n
theorem vwMost_spec {s sz i n:Nat} {h:Int} {obs:List (Nat × Ob)} (hv:vwMost s sz i n h obs):h≤n∨∃ rows,Zjf s obs=some (.arr sz rows false)∧h+i≤rows.length:=by
  unfold vwMost at hv
  split at hv
  · rename_i sz' rows hg
    cases hb:sz' == sz with
    | false=>rw [hb] at hv; exact .inl hv
    | true => rw [hb] at hv; have : sz' = sz := by simpa using hb
              subst this; exact .inr ⟨rows,hg,hv⟩
  · exact .inl hv
def qCap0 (P:Program) (st:St) (t:TypeId) (x:Operand):Option (AV × List Prop) :=
 (oneA st x).bind fun p=>(Zjc P t).bind fun e=>(lenA p).map fun (n:Nat)=>((.v (.one .cap0):AV),([]:List Prop))
def qSlice (P:Program) (st:St) (t:TypeId) (x:Operand) (lo hi:Option Operand):Option (AV × List Prop) :=
 (oneA st x).bind fun p=>match p with
  |.d (.sl sz rows)=>(Zjc P t).bind fun e=>bif e.2 == sz then
    (bndA st lo 0).bind fun l=>(bndA st hi rows.length).map fun h=>(.v (.one (.d (.sl sz ((rows.drop l.toNat).take (h.toNat - l.toNat))))),[0≤l∧l≤h∧h≤rows.length])
   else none
  |.d (.slr sz n rows)=>(Zjc P t).bind fun e=>bif e.2 == sz then
    (bndA st lo 0).bind fun l=>(bndA st hi n).map fun h=>(.v (.one (.d (.sl sz ((rows.drop l.toNat).take (h.toNat - l.toNat))))),[0≤l∧l≤h∧h≤rows.length])
   else none
  |.d .nils=>(Zjc P t).bind fun e=>(bndA st lo 0).bind fun l=>(bndA st hi 0).map fun h=>(.v (.one (.d .nils)),[l=0∧h=0])
  |.vw s sz i n=>(Zjc P t).bind fun e=>bif e.2 == sz && Nat.blt 0 sz then
    (bndA st lo 0).bind fun l=>(bndA st hi n).map fun h=>(.v (.one (.vw s sz (l.toNat+i) (h.toNat - l.toNat))),[0≤l∧l≤h∧vwMost s sz i n h st.obs∧(l=0∨l < h)])
   else none
  |.d (.str s)=>match P.underlying t with
   |some .string=>(bndA st lo 0).bind fun l=>(bndA st hi s.size).map fun h=>(.v (.one (.d (.str (s.extract l.toNat h.toNat)))),[0≤l∧l≤h∧h≤s.size])
   |_=>none
  |_=>none
def stepQ (P:Program) (st:St) (o:Oper):Option (AV × List Prop) :=
 match o.op with
 |.move x | .assign x=>qMove st x
 |.extract x i=>qExtract st x i
 |.load t x=>qLoad P st t x
 |.nilCheck x=>qNilCheck st x
 |.fieldAddr t x f=>qFieldAddr P st t x f
 |.field t x f=>qField P st t x f
 |.indexAddr t x y=>qIndexAddr P st t x y
 |.build t ps=>(buildA P st t ps).map fun cs=>(.v (.agg cs),[])
 |.makeFunc (.func f) ⟨[]⟩ ys=>(Zj6 (capA st) ys.toList).map fun cs=>(.v (.one (.fn f cs)),[])
 |.slice t x lo hi none=>qSlice P st t x lo hi
 |.slice t x none (some (.const (.int _ 0))) (some (.const (.int _ 0)))=>qCap0 P st t x
 |.binOp op t x y _=>(qFlat P st o).or (qNilcmp P st op t x y)
 |.call { callee:=.builtin .len,args:=⟨[x]⟩,argTypes:=⟨[t]⟩ }=>(qFlat P st o).or (qLen P st t x)
 |_=>qFlat P st o
theorem op_len' {P:Program} {G:Gh} {o:Oper} {st:St} {t:TypeId} {x:Operand} {y:AV} {ps:List Prop} (ho:o.op=.call { callee:=.builtin .len,args:=#[x],argTypes:=#[t] }) (h:qLen P st t x=some (y,ps)):OpWp P G o st y st:=by
 simp only [qLen,yo,ym,yt] at h
 obtain ⟨p,hp,⟨e,k⟩,he,n,hn,rfl,rfl⟩:=h
 exact op_len ho (Z2t hp) he hn
theorem op_flat' {P:Program} {G:Gh} {o:Oper} {st:St} {y:AV} {ps:List Prop} (h:qFlat P st o=some (y,ps)):OpWp P G o st y st:=by
 simp only [qFlat,ym,yt] at h
 obtain ⟨y',h',rfl,rfl⟩:=h
 exact op_flat h'
theorem op_nilcmp' {P:Program} {G:Gh} {o:Oper} {st:St} {op:BinOp} {t t':TypeId} {x y:Operand} {z:AV} {ps:List Prop} (ho:o.op=.binOp op t x y t') (h:qNilcmp P st op t x y=some (z,ps)):OpWp P G o st z st:=by
  simp only [qNilcmp,yo] at h
  obtain ⟨p,hp,q,hq,h⟩:=h
  cases hc:(kindT P t == Zji p && Zji p != 0) with
  | false=>rw [hc] at h; cases h
  | true =>
    rw [hc] at h
    simp only [yx,beq_iff_eq,bne_iff_ne] at hc
    simp only [cond_true] at h
    split at h
    all_goals first
      | (rename_i hk; simp only [yn,yt] at h
         obtain ⟨rfl,rfl⟩:=h
         refine op_nilcmp ho (Z2t hp) (by rw [hk]; exact Z2t hq) hc.1 hc.2 (by simp))
      | cases h
theorem op_slice' {P:Program} {G:Gh} {o:Oper} {st:St} {t:TypeId} {x:Operand} {lo hi:Option Operand} {z:AV} {ps:List Prop} (ho:o.op=.slice t x lo hi none) (h:qSlice P st t x lo hi=some (z,ps)) (hp:AllP ps):OpWp P G o st z st:=by
 simp only [qSlice,yo] at h
 obtain ⟨p,hx,h⟩:=h
 split at h
 ·rename_i sz rows
  simp only [yo] at h
  obtain ⟨⟨e,n⟩,he,h⟩:=h
  cases hc:n == sz with
  |false=>rw [hc] at h; cases h
  |true =>
   rw [hc] at h
   have:n=sz:=by simpa using hc
   subst this
   simp only [cond_true,yo,ym,yt] at h
   obtain ⟨l,hl,h',hh,rfl,rfl⟩:=h
   obtain ⟨⟨h0,h1,h2⟩,_⟩:=hp
   exact op_slice_data ho (Z2t hx) he hl hh h0 h1 h2
 ·rename_i sz m rows
  simp only [yo] at h
  obtain ⟨⟨e,n⟩,he,h⟩:=h
  cases hc:n == sz with
  |false=>rw [hc] at h; cases h
  |true =>
   rw [hc] at h
   have:n=sz:=by simpa using hc
   subst this
   simp only [cond_true,yo,ym,yt] at h
   obtain ⟨l,hl,h',hh,rfl,rfl⟩:=h
   obtain ⟨⟨h0,h1,h2⟩,_⟩:=hp
   exact op_slice_room ho (Z2t hx) he hl hh h0 h1 h2
 ·simp only [yo,ym,yt] at h
  obtain ⟨⟨e,n⟩,he,l,hl,h',hh,rfl,rfl⟩:=h
  obtain ⟨⟨h0,h1⟩,_⟩:=hp
  exact op_slice_nils ho (Z2t hx) he hl hh h0 h1
 ·rename_i s sz i n
  simp only [yo] at h
  obtain ⟨⟨e,m⟩,he,h⟩:=h
  cases hc:(m == sz && Nat.blt 0 sz) with
  |false=>simp only at h; rw [hc] at h; cases h
  |true =>
   simp only at h
   rw [hc] at h
   simp only [yx,beq_iff_eq,zh] at hc
   obtain ⟨rfl,hpos⟩:=hc
   simp only [cond_true,yo,ym,yt] at h
   obtain ⟨l,hl,h',hh,rfl,rfl⟩:=h
   obtain ⟨⟨h0,h1,h2,h3⟩,_⟩:=hp
   (rw [Nat.add_comm]; exact op_slice_vw ho (Z2t hx) he hpos hl hh h0 h1 (vwMost_spec h2) h3)
 ·rename_i s
  split at h
  ·rename_i ht
   simp only [yo,ym,yt] at h
   obtain ⟨l,hl,h',hh,rfl,rfl⟩:=h
   obtain ⟨⟨h0,h1,h2⟩,_⟩:=hp
   exact op_slice_str ho (Z2t hx) ht hl hh h0 h1 h2
  ·cases h
 ·cases h
theorem stepQ_wp {P:Program} {G:Gh} {o:Oper} {st:St} {y:AV} {ps:List Prop} (h:stepQ P st o=some (y,ps)) (hp:AllP ps):OpWp P G o st y st:=by
  unfold stepQ at h
  split at h
  · rename_i x ho
    simp only [qMove,ym,yt] at h
    obtain ⟨y',h',rfl,rfl⟩:=h
    exact op_move (.inl ho) h'
  · rename_i x ho
    simp only [qMove,ym,yt] at h
    obtain ⟨y',h',rfl,rfl⟩:=h
    exact op_move (.inr ho) h'
  · rename_i x i ho
    unfold qExtract at h
    split at h
    · rename_i l hl
      simp only [ym,yt] at h
      obtain ⟨y',h',rfl,rfl⟩:=h
      exact op_extract ho hl h'
    · cases h
  · rename_i t x ho
    simp only [qLoad,yo,ym,yt] at h
    obtain ⟨p,hx,⟨cs,pr⟩,hc,y',hy,rfl,rfl⟩:=h
    exact op_load ho (Z2t hx) hc hp.1 hy
  · rename_i x ho
    simp only [qNilCheck,yo] at h
    obtain ⟨p,hx,h⟩:=h
    split at h
    · simp only [yn,yt] at h
      obtain ⟨rfl,rfl⟩:=h
      exact op_nilCheck_fn ho (Z2t hx)
    · cases hc:isPtr p with
      | false=>rw [hc] at h; cases h
      | true =>
        rw [hc] at h
        simp only [cond_true,yn,yt] at h
        obtain ⟨rfl,rfl⟩:=h
        exact op_nilCheck ho (Z2t hx) hc
  · rename_i t x f ho
    simp only [qFieldAddr,yo] at h
    obtain ⟨p,hx,fd,hf,h⟩:=h
    split at h
    · rename_i n hn
      simp only [ym,yt] at h
      obtain ⟨q,hq,rfl,rfl⟩:=h
      exact op_fieldAddr ho (Z2t hx) hf hn hq
    · cases h
  · rename_i t x f ho
    unfold qField at h
    split at h
    · rename_i cs hcs
      simp only [yo,ym,yt] at h
      obtain ⟨fd,hf,y',hy,rfl,rfl⟩:=h
      exact op_field ho hcs hf hy
    · cases h
  · rename_i t x y ho
    simp only [qIndexAddr,yo] at h
    obtain ⟨p,hx,i,hy,h⟩:=h
    split at h
    · rename_i k i
      split at h
      · rename_i len n ha
        simp only [ym,yt] at h
        obtain ⟨q,hq,rfl,rfl⟩:=h
        exact op_indexAddrArr ho (Z2t hx) (Z2t hy) ha hq hp.1
      · simp only [yo,ym,yt] at h
        obtain ⟨⟨e,n⟩,he,⟨q,pr⟩,hq,rfl,rfl⟩:=h
        exact op_indexAddr ho (Z2t hx) (Z2t hy) he hq hp.1
    · cases h
  · rename_i t ps' ho
    simp only [ym,yt] at h
    obtain ⟨cs,hcs,rfl,rfl⟩:=h
    exact op_build ho hcs
  · rename_i f ys ho
    simp only [ym,yt] at h
    obtain ⟨cs,hcs,rfl,rfl⟩:=h
    exact op_makeFunc ho hcs
  · rename_i t x lo hi ho
    exact op_slice' ho h hp
  · rename_i t x k k' ho
    simp only [qCap0,yo,ym,yt] at h
    obtain ⟨p,hx,⟨e,sz⟩,he,n,hn,rfl,rfl⟩:=h
    exact op_slice_cap0 ho (Z2t hx) hn he
  · rename_i op t x y t' ho
    cases hf:qFlat P st o with
    | none=>rw [hf] at h; exact op_nilcmp' ho (by simpa using h)
    | some r => rw [hf] at h; obtain rfl : r = _ := by simpa using h
                exact op_flat' hf
  · rename_i x t ho
    cases hf:qFlat P st o with
    | none=>rw [hf] at h; exact op_len' ho (by simpa using h)
    | some r => rw [hf] at h; obtain rfl : r = _ := by simpa using h
                exact op_flat' hf
  · exact op_flat' h
theorem Sim.grow {G:Gh} {β:Nat→Option Nat} {S:Nat→Prop} {st:St} {a:Act} {w w':World} (h:Sim G β S st a w) (hb:∀ b,b < w.heap.size→w'.heap[b]? = w.heap[b]?) (hsz:w.heap.size≤w'.heap.size) (hos:w'.os=w.os) (htape:w'.tape=w.tape) (hout:w'.output=w.output) (hsh:Zj4 w w'):Sim G β S st a w':=by
 have hw:Zj3 S w w':=fun b hs=>hb b (h.lt b hs)
 refine ⟨h.defers,h.fr.imp fun x v hx=>AV.Rep.mono (fun _ hb=>hb) hw hsh x v (fun _ _=>rfl) hx,fun s o b hm hbb=>?_,h.out,h.inj,fun b hs=>qc (h.lt b hs) hsz,h.s0,u7 h.size hsz,fun b h1 h2=>(hb b (qc h1 h.size)).trans (h.old b h1 h2),hos.trans h.os,htape.trans h.tape,hout.trans h.output,h.par,h.src,h.sh.trans hsh⟩
 obtain ⟨g1,g2,g3⟩:=h.ob s o b hm hbb
 have hbe:=hb b g1.lt
 refine ⟨?_,g2,g3⟩
 cases o with
 |var cells=>obtain ⟨vs,t,k1,k2⟩:=g1; exact ⟨vs,t,by rw [hbe]; exact k1,k2.imp fun c u hr=>AC.Rep.mono (fun _ hb=>hb) hw hsh c u (fun _ _=>rfl) hr⟩
 |arr sz rows more=>exact Ob.Rep.kill (S:=S) (S':=S) (β:=β) (β':=β) (fun _ hb=>hb) hw hsh 0 (fun _ _=>rfl) b hbe (.arr sz rows more) g1
def lendC (obs:List (Nat × Ob)):AC→Option (OC × List Prop)
 |.d c=>some (.dat c,[])
 |.vw s sz 0 n=>match Zjf s obs with
  |some (.arr sz' rows more)=>bif sz' == sz then bif more then some (.dat (.sl sz rows),[n=rows.length]) else some (.dat (.slr sz n rows),[0+n≤rows.length]) else none
  |_=>none
 |.vw s sz i n=>match Zjf s obs with
  |some (.arr sz' rows _)=>bif sz' == sz then some (.dat (.sl sz ((rows.drop i).take n)),[i+n≤rows.length]) else none
  |_=>none
 |.fn f caps=>(Zj6 capD caps).map fun cs=>(.fn f cs,[])
 |_=>none
def lendCs (obs:List (Nat × Ob)):List AC→Option (List OC × List Prop)
 |[]=>some ([],[])
 |a::as=>match lendC obs a,lendCs obs as with
  |some (c,p),some (cs,ps)=>some (c::cs,p++ps)
  |_,_=>none
def lendV (obs:List (Nat × Ob)):AV→Option (PV × List Prop)
 |.v (.one a)=>(lendC obs a).map fun r=>(.v (.one r.1),r.2)
 |.v (.agg as)=>(lendCs obs as).map fun r=>(.v (.agg r.1),r.2)
 |_=>none
def lendVs (obs:List (Nat × Ob)):List AV→Option (List PV × List Prop)
 |[]=>some ([],[])
 |a::as=>match lendV obs a,lendVs obs as with
  |some (c,p),some (cs,ps)=>some (c::cs,p++ps)
  |_,_=>none
section
variable {G:Gh} {β:Nat→Option Nat} {S:Nat→Prop} {st:St} {a:Act} {w:World} (hs:Sim G β S st a w)
include hs
theorem lendC_rep {x:AC} {c:OC} {ps:List Prop} {v:Value} (h:lendC st.obs x=some (c,ps)) (hp:AllP ps) (hv:x.Rep w S β v):c.Rep w (fun b=>S b∨∃ s o,(s,o) ∈ st.obs∧β s=some b) v []:=by
 have hF:∀ b,S b→(S b∨∃ s o,(s,o) ∈ st.obs∧β s=some b):=fun b hb=>.inl hb
 have rowsR:∀ {s sz:Nat} {rows:List (List C)} {more:Bool} {b:Nat},(s,Ob.arr sz rows more) ∈ st.obs→β s=some b→Zj2 w (fun b=>S b∨∃ s o,(s,o) ∈ st.obs∧β s=some b) b sz rows 0:=fun {s sz rows more b} hm hb=>by
  obtain ⟨⟨vs,t,hh,h0,hr,_,_⟩,_,_⟩:=hs.ob s _ b hm hb
  exact Zj2.mk fun i r hi=>by
   obtain ⟨q1,q2⟩:=hr.at i r hi
   exact ⟨q1,Zj1.mk fun j c hj=>let ⟨u,hu,hc⟩:=q2.at j c hj; ⟨u,hu,C.Rep.mono hF (Zj3.refl _ _) c u hc⟩⟩
 have gen:∀ {s sz i n:Nat} {rows:List (List C)} {more:Bool},(s,Ob.arr sz rows more) ∈ st.obs→i+n≤rows.length→AC.Rep w S β (.vw s sz i n) v→OC.Rep w (fun b=>S b∨∃ s o,(s,o) ∈ st.obs∧β s=some b) (.dat (.sl sz ((rows.drop i).take n))) v []:=fun {s sz i n rows more} hm hin hv=>by
  refine ⟨rfl, ?_⟩
  simp only [C.Rep]
  rcases hv with ⟨_,_,rfl,hv⟩ | ⟨b,cap,h0,h1,h2,_⟩
  ·exact .inl ⟨by simp,hv⟩
  have hl:((rows.drop i).take n).length=n:=by simp; omega
  refine .inr ⟨b,i * sz,cap,by rw [hl]; exact h1,by rw [hl]; exact h2,fun _=>.inr ⟨s,_,hm,h0⟩, ?_⟩
  have:=((rowsR hm h0).drop i).take n
  rwa [xk] at this
 unfold lendC at h
 split at h
 ·simp only [yn,yt] at h
  obtain ⟨rfl,rfl⟩:=h
  exact ⟨rfl,C.Rep.mono hF (Zj3.refl _ _) _ _ hv⟩
 ·rename_i s sz n
  cases hg:Zjf s st.obs with
  |none=>rw [hg] at h; cases h
  |some ob =>
   rw [hg] at h
   cases ob with
   |var=>cases h
   |arr sz' rows more =>
    simp only at h
    cases hb:sz' == sz with
    |false=>rw [hb] at h; cases h
    |true =>
     rw [hb] at h
     have:sz'=sz:=by simpa using hb
     subst this
     cases more with
     |false =>
      simp only [cond_true,cond_false,yn,yt] at h
      obtain ⟨rfl,rfl⟩:=h
      have hn:n≤rows.length:=by have:=hp.1; omega
      have hmem:=Z22 s _ _ hg
      rcases hv with ⟨hb0,_,hn0,ad,h1⟩ | ⟨b,cap,hb0,h1,h2,t',h3⟩
      ·exact absurd (hs.out s _ hmem hb0).2.1 (by simp)
      obtain ⟨⟨vs,t,hh,h0,hr,_,hm⟩,_,_⟩:=hs.ob s _ b hmem hb0
      have hm:=hm rfl
      unfold World.shape? at h3
      rw [hh] at h3
      simp only [yn,yt,xk] at h3
      have hc:cap=rows.length:=uu h0 (by rw [← h3.2,hm])
      subst hc
      refine ⟨rfl, ?_⟩
      simp only [C.Rep]
      exact ⟨b,by rw [h1,vz],hn,fun _=>.inr ⟨s,_,hmem,hb0⟩,rowsR hmem hb0⟩
     |true =>
     simp only [cond_true,yn,yt] at h
     obtain ⟨rfl,rfl⟩:=h
     have hn:n=rows.length:=hp.1
     have:=gen (Z22 _ _ _ hg) (by omega) hv
     rwa [List.drop_zero,hn,List.take_length] at this
 ·rename_i s sz i n _
  cases hg:Zjf s st.obs with
  |none=>rw [hg] at h; cases h
  |some ob =>
   rw [hg] at h
   cases ob with
   |var=>cases h
   |arr sz' rows more =>
    simp only at h
    cases hb:sz' == sz with
    |false=>rw [hb] at h; cases h
    |true =>
     rw [hb] at h
     have:sz'=sz:=by simpa using hb
     subst this
     simp only [cond_true,yn,yt] at h
     obtain ⟨rfl,rfl⟩:=h
     exact gen (Z22 _ _ _ hg) hp.1 hv
 ·rename_i f caps
  simp only [ym,yt] at h
  obtain ⟨cs,hcs,rfl,rfl⟩:=h
  obtain ⟨vs,hv1,hv2⟩:=hv
  refine ⟨rfl,vs,hv1, ?_⟩
  have:=capD_rep (Z34 hcs) hv2
  exact this.imp fun c u hr=>C.Rep.mono hF (Zj3.refl _ _) c u hr
 ·cases h
theorem lendCs_rep:∀ {xs:List AC} {cs:List OC} {ps:List Prop} {vs:List Value},lendCs st.obs xs=some (cs,ps)→AllP ps→All2 (AC.Rep w S β) xs vs→OCs.Rep w (fun b=>S b∨∃ s o,(s,o) ∈ st.obs∧β s=some b) cs vs []
 |[],_,_,[],h,_,_=>by simp only [lendCs,yn,yt] at h; obtain ⟨rfl,rfl⟩:=h; rfl
 |x::xs,_,_,v::vs,h,hp,hv=>by
  simp only [lendCs] at h
  split at h
  ·rename_i c p cs ps h1 h2
   simp only [yn,yt] at h
   obtain ⟨rfl,rfl⟩:=h
   rw [AllP.append] at hp
   exact ⟨[],[],rfl,lendC_rep hs h1 hp.1 hv.1,lendCs_rep h2 hp.2 hv.2⟩
  ·cases h
 |[],_,_,_::_,_,_,hv=>hv.elim
 |_::_,_,_,[],_,_,hv=>hv.elim
theorem lendV_rep {x:AV} {c:PV} {ps:List Prop} {v:Value} (h:lendV st.obs x=some (c,ps)) (hp:AllP ps) (hv:x.Rep w S β v):c.Rep w (fun b=>S b∨∃ s o,(s,o) ∈ st.obs∧β s=some b) v []∧∃ y,c=.v y:=by
 unfold lendV at h
 split at h
 ·simp only [ym,yt] at h
  obtain ⟨⟨c',p'⟩,h1,rfl,rfl⟩:=h
  exact ⟨lendC_rep hs h1 hp hv,_,rfl⟩
 ·simp only [ym,yt] at h
  obtain ⟨⟨c',p'⟩,h1,rfl,rfl⟩:=h
  obtain ⟨vs,hv1,hv2⟩:=hv
  exact ⟨⟨vs,hv1,lendCs_rep hs h1 hp hv2⟩,_,rfl⟩
 ·cases h
theorem Zfs:∀ {xs:List AV} {cs:List PV} {ps:List Prop} {vs:List Value},lendVs st.obs xs=some (cs,ps)→AllP ps→All2 (AV.Rep w S β) xs vs→PVs.Rep w (fun b=>S b∨∃ s o,(s,o) ∈ st.obs∧β s=some b) cs vs []∧Zjp cs vs=[]
 |[],_,_,[],h,_,_=>by simp only [lendVs,yn,yt] at h; obtain ⟨rfl,rfl⟩:=h; exact ⟨rfl,rfl⟩
 |x::xs,_,_,v::vs,h,hp,hv=>by
  simp only [lendVs] at h
  split at h
  ·rename_i c p cs ps h1 h2
   simp only [yn,yt] at h
   obtain ⟨rfl,rfl⟩:=h
   rw [AllP.append] at hp
   obtain ⟨k1,y,rfl⟩:=lendV_rep hs h1 hp.1 hv.1
   obtain ⟨k2,k3⟩:=Zfs h2 hp.2 hv.2
   exact ⟨⟨[],[],rfl,k1,k2⟩,k3⟩
  ·cases h
 |[],_,_,_::_,_,_,hv=>hv.elim
 |_::_,_,_,[],_,_,hv=>hv.elim
end
def OC.flatR:OC→Prop
 |.dat x=>x.flat=true
 |.own _ rows=>∀ r ∈ rows, ∀ c ∈ r,c.flat=true
 |.room _ _ rows=>∀ r ∈ rows, ∀ c ∈ r,c.flat=true
 |.fn _ _=>False
def PV.flatR:PV→Prop
 |.v (.one c)=>c.flatR
 |.v (.agg cs)=>∀ c ∈ cs,c.flatR
 |.obj _=>False
theorem Zj1.flatR {w:World} {F F':Nat→Prop} {b:Nat}:∀ {cs:List C} {off:Nat},(∀ c ∈ cs,c.flat=true)→Zj1 w F b cs off→Zj1 w F' b cs off
 |[],_,_,_=>by simp only [Zj1]
 |c::cs,off,hf,h=>by
  simp only [Zj1] at h ⊢
  obtain ⟨⟨u,hu,hr⟩,ht⟩:=h
  exact ⟨⟨u,hu,hr.flat (hf c (by simp))⟩,Zj1.flatR (fun x hx=>hf x (by simp [hx])) ht⟩
theorem Zj2.flatR {w:World} {F F':Nat→Prop} {b sz:Nat}:∀ {rs:List (List C)} {off:Nat},(∀ r ∈ rs, ∀ c ∈ r,c.flat=true)→Zj2 w F b sz rs off→Zj2 w F' b sz rs off
 |[],_,_,_=>by simp only [Zj2]
 |r::rs,off,hf,h=>by
  simp only [Zj2] at h ⊢
  obtain ⟨h1,h2,h3⟩:=h
  exact ⟨h1,Zj1.flatR (hf r (by simp)) h2,Zj2.flatR (fun x hx=>hf x (by simp [hx])) h3⟩
theorem OC.flatR_rep {w:World} {F F':Nat→Prop} {c:OC} {v:Value} {bs:List (Option Nat)} (hf:c.flatR) (h:c.Rep w F v bs):c.Rep w F' v bs:=by
 cases c with
 |dat x=>exact ⟨h.1,C.Rep.flat hf h.2⟩
 |fn f cs=>exact hf.elim
 |own sz rows =>
  rcases h with h | ⟨b,cap,vs,t,h1,h2,h3,h4,h5,h6,h7⟩
  ·exact .inl h
  ·exact .inr ⟨b,cap,vs,t,h1,h2,h3,h4,h5,h6,Zj2.flatR hf h7⟩
 |room sz n rows =>
  obtain ⟨b,vs,t,h1,h2,h3,h4,h5,h6,h7⟩:=h
  exact ⟨b,vs,t,h1,h2,h3,h4,h5,h6,Zj2.flatR hf h7⟩
theorem OCs.flatR_rep {w:World} {F F':Nat→Prop}:∀ {cs:List OC} {vs:List Value} {bs:List (Option Nat)},(∀ c ∈ cs,c.flatR)→OCs.Rep w F cs vs bs→OCs.Rep w F' cs vs bs
 |[],[],_,_,h=>h
 |c::cs,v::vs,_,hf,h=>by
  obtain ⟨b1,b2,rfl,h1,h2⟩:=h
  exact ⟨b1,b2,rfl,OC.flatR_rep (hf c (by simp)) h1,OCs.flatR_rep (fun x hx=>hf x (by simp [hx])) h2⟩
 |[],_::_,_,_,h=>h.elim
 |_::_,[],_,_,h=>h.elim
theorem PV.flatR_rep {w:World} {F F':Nat→Prop} {c:PV} {v:Value} {bs:List (Option Nat)} (hf:c.flatR) (h:c.Rep w F v bs):c.Rep w F' v bs:=by
 cases c with
 |obj cells=>exact hf.elim
 |v x =>
  cases x with
  |one c=>exact OC.flatR_rep hf h
  |agg cs=>obtain ⟨vs,hv,h⟩:=h; exact ⟨vs,hv,OCs.flatR_rep hf h⟩
theorem PVs.flatR_rep {w:World} {F F':Nat→Prop}:∀ {cs:List PV} {vs:List Value} {bs:List (Option Nat)},(∀ c ∈ cs,c.flatR)→PVs.Rep w F cs vs bs→PVs.Rep w F' cs vs bs
 |[],[],_,_,h=>h
 |c::cs,v::vs,_,hf,h=>by
  obtain ⟨b1,b2,rfl,h1,h2⟩:=h
  exact ⟨b1,b2,rfl,PV.flatR_rep (hf c (by simp)) h1,PVs.flatR_rep (fun x hx=>hf x (by simp [hx])) h2⟩
 |[],_::_,_,_,h=>h.elim
 |_::_,[],_,_,h=>h.elim
theorem op_lend {P:Program} {G:Gh} {o:Oper} {st:St} {c:Call} {g:Operand} {f:FuncId} {fn:Func} {caps:List Cap} {xs:List AV} {pargs fres:List PV} {ps:List Prop} {l:List A1} (m:Nat)
  (ho:o.op=.call c) (hc:c.callee=.value g) (hg:Zjd st g=some (.v (.one (.fn f caps)))) (hx:Zje st c.args.toList=some xs)
  (hf:P.funcs[f]? = some fn) (hn:(fn.name == "runtime.NumGoroutine") = false) (hb:fn.body.isNone = false)
  (hl:lendVs st.obs (xs++caps.map Cap.av)=some (pargs,ps)) (hp:AllP ps) (hspec:Ziz P f pargs fres) (hflat:∀ p ∈ fres,p.flatR)
  (hn2:(PVs.enter fres m).2.2≤G.n0) (hnames:(List.range' m ((PVs.enter fres m).2.2 - m)).Nodup)
  (hres:onlyV (PVs.enter fres m).1=some l) :
  OpWp P G o st (tupA l) (callSt st [] [] m fres []):=by
 intro β S a w hs next Q k
 obtain ⟨cv,hcv,hcaps⟩:∃ vs:Array Value,a.eval g=.func (.func f) #[] vs∧All2 (Cap.Rep w S β) caps vs.toList:=Z0p hs hg
 have hargs:All2 (AV.Rep w S β) (xs++caps.map Cap.av) (c.args.toList.map a.eval++cv.toList):=by
  refine (Z96 hs hx).append (All2.map _ (hcaps.imp fun cc v h=>?_))
  cases cc <;> exact h
 have hrun:=Zd6 (w:=w) ho hc hcv hf hn hb
 unfold Oper.wp
 rw [hrun,Oper.upon_enter]
 obtain ⟨hrep,hptr⟩:=Zfs hs hl hp hargs
 have hcall:=hspec w _ (fun b=>S b∨∃ s o,(s,o) ∈ st.obs∧β s=some b) [] (fun b hb=>by
  rcases hb with hb | ⟨s,o',hm,hb⟩
  ·exact hs.lt b hb
  ·exact (hs.ob s o' b hm hb).1.lt) hrep trivial (fun b hb=>by cases hb)
 have hvs:c.args.map a.eval++cv=(c.args.toList.map a.eval++cv.toList).toArray:=by
  apply zi
  simp
 rw [hvs]
 refine Z3j hcall fun e w' post=>?_
 rw [hptr] at post
 have post':Post w S (([]:List Nat).map β) (Zjp [] []) (fres++[]) e w':=by
  obtain ⟨vres,F',bs',he,hfin,hon,hbs,hF1,hF2,hold,hsize,hos,htape,hout,hsh⟩:=post
  refine ⟨vres,S,bs',he, ?_,hon,fun b hb=>?_,fun b hb=>hb,fun b hb=>⟨qc (hs.lt b hb) hsize,.inl hb⟩,fun b h1 _=>hold b h1 (by simp),hsize,hos,htape,hout,hsh⟩
  ·rw [xm]
   have:Zjp [] []=[]:=rfl
   rw [this]
   exact PVs.flatR_rep hflat hfin
  ·obtain ⟨h1,h2⟩:=hbs b hb
   refine ⟨fun h=>h1 (hF1 b (.inl h)), ?_⟩
   rcases h2 with h2 | h2
   ·cases h2
   ·exact .inr h2
 have hback:Zjq ([]:List PV) [] (PVs.enter fres m).2.2=([],[],(PVs.enter fres m).2.2):=rfl
 obtain ⟨vres,β',S',rfl,hr,hsim⟩:=sim_call hs (xs:=[]) (vs:=[]) trivial (pargs:=[]) (ss:=[]) (ps:=[]) rfl trivial wh (fobjs:=[]) (fun p hp=>by cases hp) rfl m (by
  show (Zjq ([]:List PV) [] (PVs.enter fres m).2.2).2.2≤G.n0
  rw [hback]; exact hn2) (by
  show (List.range' m ((PVs.enter fres m).2.2 - m)++(Zjq ([]:List PV) [] (PVs.enter fres m).2.2).2.1).Nodup
  rw [hback,xm]; exact hnames) post'
 show next (a.put o.dst (Zk0 vres)) w'
 refine k β' S' _ w' (Zfu ?_) hsim
 rw [Zit hres] at hr
 exact All2.of_map (R:=AV.Rep w' S' β') AV.v hr
def byteV (u:Value):Prop:=∃ n,u=.int .u8 n
def headOk:List C→Bool
 |.int .i64 _::_=>true
 |.int .u32 _::_=>true
 |_=>false
mutual
def C.apart:C→Prop
 |.sl _ rows=>apartRs rows
 |.slr ..=>False
 |.mk ..=>False
 |.pr ..=>False
 |_=>True
def apartR:List C→Prop
 |[]=>True
 |c::cs=>c.apart∧apartR cs
def apartRs:List (List C)→Prop
 |[]=>True
 |r::rs=>(headOk r=true∧apartR r)∧apartRs rs
end
theorem headOk_rep {w:World} {F:Nat→Prop} {b off:Nat} {r:List C} (h:headOk r=true) (hr:Zj1 w F b r off):∃ u,w.cell? ⟨b,off,none⟩=some u∧¬ byteV u:=by
 cases r with
 |nil=>cases h
 |cons c cs =>
  simp only [Zj1] at hr
  obtain ⟨⟨u,hu,hc⟩,_⟩:=hr
  refine ⟨u,hu, ?_⟩
  rintro ⟨n,rfl⟩
  cases c <;> try (cases h; done)
  rename_i k m
  cases k <;> first | (cases h; done) | (simp [C.Rep] at hc)
mutual
theorem C.Rep.apart {w:World} {F L:Nat→Prop} (hL:∀ b off u,L b→w.cell? ⟨b,off,none⟩=some u→byteV u):∀ (c:C) (v:Value),c.apart→C.Rep w F c v→C.Rep w (fun b=>F b∧¬ L b) c v
 |.int _ _,_,_,h=>by simpa only [C.Rep] using h
 |.bool _,_,_,h=>by simpa only [C.Rep] using h
 |.str _,_,_,h=>by simpa only [C.Rep] using h
 |.flt _ _,_,_,h=>by simpa only [C.Rep] using h
 |.nils,_,_,h=>by simpa only [C.Rep] using h
 |.nilp,_,_,h=>by simpa only [C.Rep] using h
 |.nili,_,_,h=>by simpa only [C.Rep] using h
 |.nilf,_,_,h=>by simpa only [C.Rep] using h
 |.sl0,_,_,h=>by simpa only [C.Rep] using h
 |.nanf,_,_,h=>by simpa only [C.Rep] using h
 |.nanb,_,_,h=>by simpa only [C.Rep] using h
 |.nanm,_,_,h=>by simpa only [C.Rep] using h
 |.ifc _ _,_,_,h=>by simpa only [C.Rep] using h
 |.slr ..,_,ha,_=>by simp only [C.apart] at ha
 |.mk ..,_,ha,_=>by simp only [C.apart] at ha
 |.pr ..,_,ha,_=>by simp only [C.apart] at ha
 |.sl sz rows,v,ha,h=>by
  simp only [C.Rep] at h ⊢
  simp only [C.apart] at ha
  rcases h with h | ⟨b,off,cap,hv,hc,hb,hr⟩
  ·exact .inl h
  refine .inr ⟨b,off,cap,hv,hc,fun hne=>⟨hb hne,fun hl=>?_⟩,Zj2.apart hL rows off ha hr⟩
  cases rows with
  |nil=>exact hne rfl
  |cons r rs =>
   simp only [apartRs] at ha
   simp only [Zj2] at hr
   obtain ⟨u,hu,hn⟩:=headOk_rep ha.1.1 hr.2.1
   exact hn (hL b _ u hl hu)
theorem Zj1.apart {w:World} {F L:Nat→Prop} {b:Nat} (hL:∀ b off u,L b→w.cell? ⟨b,off,none⟩=some u→byteV u):∀ (cs:List C) (off:Nat),apartR cs→Zj1 w F b cs off→Zj1 w (fun b=>F b∧¬ L b) b cs off
 |[],_,_,_=>by simp only [Zj1]
 |c::cs,off,ha,h=>by
  simp only [Zj1] at h ⊢
  simp only [apartR] at ha
  obtain ⟨⟨u,hu,hr⟩,ht⟩:=h
  exact ⟨⟨u,hu,C.Rep.apart hL c u ha.1 hr⟩,Zj1.apart hL cs (off+1) ha.2 ht⟩
theorem Zj2.apart {w:World} {F L:Nat→Prop} {b sz:Nat} (hL:∀ b off u,L b→w.cell? ⟨b,off,none⟩=some u→byteV u):∀ (rs:List (List C)) (off:Nat),apartRs rs→Zj2 w F b sz rs off→Zj2 w (fun b=>F b∧¬ L b) b sz rs off
 |[],_,_,_=>by simp only [Zj2]
 |r::rs,off,ha,h=>by
  simp only [Zj2] at h ⊢
  simp only [apartRs] at ha
  exact ⟨h.1,Zj1.apart hL r off ha.1.2 h.2.1,Zj2.apart hL rs (off+sz) ha.2 h.2.2⟩
end
def OC.apart:OC→Prop
 |.dat x=>x.apart
 |.own _ rows=>apartRs rows
 |.room _ _ rows=>apartRs rows
 |.fn _ _=>False
def PV.apart:PV→Prop
 |.v (.one c)=>c.apart
 |.v (.agg cs)=>∀ c ∈ cs,c.apart
 |.obj _=>False
section
variable {w:World} {F L:Nat→Prop} (hL:∀ b off u,L b→w.cell? ⟨b,off,none⟩=some u→byteV u)
include hL
theorem OC.apart_rep {c:OC} {v:Value} {bs:List (Option Nat)} (hf:c.apart) (h:c.Rep w F v bs):c.Rep w (fun b=>F b∧¬ L b) v bs:=by
 cases c with
 |dat x=>exact ⟨h.1,C.Rep.apart hL x v hf h.2⟩
 |fn f cs=>exact hf.elim
 |own sz rows =>
  rcases h with h | ⟨b,cap,vs,t,h1,h2,h3,h4,h5,h6,h7⟩
  ·exact .inl h
  ·exact .inr ⟨b,cap,vs,t,h1,h2,h3,h4,h5,h6,Zj2.apart hL rows 0 hf h7⟩
 |room sz n rows =>
  obtain ⟨b,vs,t,h1,h2,h3,h4,h5,h6,h7⟩:=h
  exact ⟨b,vs,t,h1,h2,h3,h4,h5,h6,Zj2.apart hL rows 0 hf h7⟩
theorem OCs.apart_rep:∀ {cs:List OC} {vs:List Value} {bs:List (Option Nat)},(∀ c ∈ cs,c.apart)→OCs.Rep w F cs vs bs→OCs.Rep w (fun b=>F b∧¬ L b) cs vs bs
 |[],[],_,_,h=>h
 |c::cs,v::vs,_,hf,h=>by
  obtain ⟨b1,b2,rfl,h1,h2⟩:=h
  exact ⟨b1,b2,rfl,OC.apart_rep hL (hf c (by simp)) h1,OCs.apart_rep (fun x hx=>hf x (by simp [hx])) h2⟩
 |[],_::_,_,_,h=>h.elim
 |_::_,[],_,_,h=>h.elim
theorem PV.apart_rep {c:PV} {v:Value} {bs:List (Option Nat)} (hf:c.apart) (h:c.Rep w F v bs):c.Rep w (fun b=>F b∧¬ L b) v bs:=by
 cases c with
 |obj cells=>exact hf.elim
 |v x =>
  cases x with
  |one c=>exact OC.apart_rep hL hf h
  |agg cs=>obtain ⟨vs,hv,h⟩:=h; exact ⟨vs,hv,OCs.apart_rep hL hf h⟩
theorem PVs.apart_rep:∀ {cs:List PV} {vs:List Value} {bs:List (Option Nat)},(∀ c ∈ cs,c.apart)→PVs.Rep w F cs vs bs→PVs.Rep w (fun b=>F b∧¬ L b) cs vs bs
 |[],[],_,_,h=>h
 |c::cs,v::vs,_,hf,h=>by
  obtain ⟨b1,b2,rfl,h1,h2⟩:=h
  exact ⟨b1,b2,rfl,PV.apart_rep hL (hf c (by simp)) h1,PVs.apart_rep (fun x hx=>hf x (by simp [hx])) h2⟩
 |[],_::_,_,_,h=>h.elim
 |_::_,[],_,_,h=>h.elim
end
def byteOb:Ob→Prop
 |.arr sz rows more=>more=false∧sz=1∧∀ r ∈ rows, ∃ n,r=[.int .u8 n]
 |.var _=>False
def bytesOnly:List (Nat × Ob)→Prop
 |[]=>True
 |x::l=>byteOb x.2∧bytesOnly l
theorem Zis:∀ {l:List (Nat × Ob)},bytesOnly l→∀ s o,(s,o) ∈ l→byteOb o
 |[],_,s,o,h=>by cases h
 |x::l,hb,s,o,h=>by
  rcases List.mem_cons.1 h with rfl | h
  ·exact hb.1
  ·exact Zis hb.2 s o h
theorem byteOb_cells {w:World} {S:Nat→Prop} {β:Nat→Option Nat} {b:Nat} {o:Ob} (ho:byteOb o) (hr:o.Rep w S β b) (off:Nat) (u:Value) (hu:w.cell? ⟨b,off,none⟩=some u):byteV u:=by
 cases o with
 |var _=>exact ho.elim
 |arr sz rows more =>
  obtain ⟨rfl,rfl,hrow⟩:=ho
  obtain ⟨vs,t,hh,_,hrr,_,hm⟩:=hr
  have hm:=hm rfl
  have hoff:off < rows.length:=by
   unfold World.cell? at hu
   simp only [hh] at hu
   rw [← kz rows.length, ← hm]
   rcases ui off vs.size with c | c
   ·exact c
   ·exfalso
    have e:vs[off]? = none:=Array.getElem?_eq_none c
    simp [e] at hu
  obtain ⟨h1,h2⟩:=hrr.at off _ (yu hoff)
  obtain ⟨n,hn⟩:=hrow _ (List.getElem_mem hoff)
  rw [hn] at h2
  simp only [Zj1,kz,xk] at h2
  obtain ⟨⟨u',hu',hc⟩,_⟩:=h2
  rw [hu] at hu'
  injection hu' with hu'
  subst hu'
  simp only [C.Rep] at hc
  exact ⟨n,hc⟩
theorem op_lapt {P:Program} {G:Gh} {o:Oper} {st:St} {c:Call} {g:Operand} {f:FuncId} {fn:Func} {caps:List Cap} {xs:List AV} {pargs fres:List PV} {ps:List Prop} {l:List A1} (m:Nat)
  (ho:o.op=.call c) (hc:c.callee=.value g) (hg:Zjd st g=some (.v (.one (.fn f caps)))) (hx:Zje st c.args.toList=some xs)
  (hf:P.funcs[f]? = some fn) (hn:(fn.name == "runtime.NumGoroutine") = false) (hb:fn.body.isNone = false)
  (hl:lendVs st.obs (xs++caps.map Cap.av)=some (pargs,ps)) (hp:AllP ps) (hspec:Ziz P f pargs fres) (hap:∀ p ∈ fres,p.apart) (hby:bytesOnly st.obs)
  (hn2:(PVs.enter fres m).2.2≤G.n0) (hnames:(List.range' m ((PVs.enter fres m).2.2 - m)).Nodup)
  (hres:onlyV (PVs.enter fres m).1=some l) :
  OpWp P G o st (tupA l) (callSt st [] [] m fres []):=by
 intro β S a w hs next Q k
 obtain ⟨cv,hcv,hcaps⟩:∃ vs:Array Value,a.eval g=.func (.func f) #[] vs∧All2 (Cap.Rep w S β) caps vs.toList:=Z0p hs hg
 have hargs:All2 (AV.Rep w S β) (xs++caps.map Cap.av) (c.args.toList.map a.eval++cv.toList):=by
  refine (Z96 hs hx).append (All2.map _ (hcaps.imp fun cc v h=>?_))
  cases cc <;> exact h
 have hrun:=Zd6 (w:=w) ho hc hcv hf hn hb
 unfold Oper.wp
 rw [hrun,Oper.upon_enter]
 obtain ⟨hrep,hptr⟩:=Zfs hs hl hp hargs
 have hcall:=hspec w _ (fun b=>S b∨∃ s o,(s,o) ∈ st.obs∧β s=some b) [] (fun b hb=>by
  rcases hb with hb | ⟨s,o',hm,hb⟩
  ·exact hs.lt b hb
  ·exact (hs.ob s o' b hm hb).1.lt) hrep trivial (fun b hb=>by cases hb)
 have hvs:c.args.map a.eval++cv=(c.args.toList.map a.eval++cv.toList).toArray:=by
  apply zi
  simp
 rw [hvs]
 refine Z3j hcall fun e w' post=>?_
 rw [hptr] at post
 have post':Post w S (([]:List Nat).map β) (Zjp [] []) (fres++[]) e w':=by
  obtain ⟨vres,F',bs',he,hfin,hon,hbs,hF1,hF2,hold,hsize,hos,htape,hout,hsh⟩:=post
  refine ⟨vres,fun b=>F' b∧¬ ∃ s o,(s,o) ∈ st.obs∧β s=some b,bs',he, ?_,hon,fun b hb=>?_,fun b hb=>⟨hF1 b (.inl hb), ?_⟩,fun b hb=>?_,fun b h1 _=>hold b h1 (by simp),hsize,hos,htape,hout,hsh⟩
  ·rw [xm]
   have:Zjp [] []=[]:=rfl
   rw [this]
   refine PVs.apart_rep (L:=fun b=>∃ s o,(s,o) ∈ st.obs∧β s=some b) (fun b off u hl hu=>?_) hap hfin
   obtain ⟨s,o',hm,hb'⟩:=hl
   have h1:=(hs.ob s o' b hm hb').1
   refine byteOb_cells (Zis hby s o' hm) h1 off u ?_
   have:=hold b h1.lt (by simp)
   unfold World.cell? at hu ⊢
   rwa [this] at hu
  ·obtain ⟨h1,h2⟩:=hbs b hb
   refine ⟨fun h=>h1 h.1, ?_⟩
   rcases h2 with h2 | h2
   ·cases h2
   ·exact .inr h2
  ·rintro ⟨s,o',hm,hb'⟩
   exact (hs.ob s o' b hm hb').2.1 hb
  ·obtain ⟨h1,h2⟩:=hF2 b hb.1
   refine ⟨h1, ?_⟩
   rcases h2 with (h2 | h2) | h2
   ·exact .inl h2
   ·exact absurd h2 hb.2
   ·rcases h2 with h2 | h2
    ·cases h2
    ·exact .inr (.inr h2)
 have hback:Zjq ([]:List PV) [] (PVs.enter fres m).2.2=([],[],(PVs.enter fres m).2.2):=rfl
 obtain ⟨vres,β',S',rfl,hr,hsim⟩:=sim_call hs (xs:=[]) (vs:=[]) trivial (pargs:=[]) (ss:=[]) (ps:=[]) rfl trivial wh (fobjs:=[]) (fun p hp=>by cases hp) rfl m (by
  show (Zjq ([]:List PV) [] (PVs.enter fres m).2.2).2.2≤G.n0
  rw [hback]; exact hn2) (by
  show (List.range' m ((PVs.enter fres m).2.2 - m)++(Zjq ([]:List PV) [] (PVs.enter fres m).2.2).2.1).Nodup
  rw [hback,xm]; exact hnames) post'
 show next (a.put o.dst (Zk0 vres)) w'
 refine k β' S' _ w' (Zfu ?_) hsim
 rw [Zit hres] at hr
 exact All2.of_map (R:=AV.Rep w' S' β') AV.v hr
def InTo (P:Program) (f:FuncId) (xs:List AV) (obs:List (Nat × Ob)) (y:AV) (obs':List (Nat × Ob)):Prop :=
  ∀ (G : Gh) (β : Nat → Option Nat) (S : Nat → Prop) (w : World) (vs : List Value), G.n0 = 0 → Sim G β S { fr := [], obs := obs } { tmps := #[], defers := [] } w → All2 (AV.Rep w S β) xs vs →
    Calls P f vs.toArray w fun e w'=>∃ v β' S',e=.returned v∧y.Rep w' S' β' v∧Sim G β' S' { fr:=[],obs:=obs' } { tmps:=#[],defers:=[] } w'
def inSt (xs:List AV) (obs:List (Nat × Ob)) (ntmps:Nat):St:={ fr:=xs++List.replicate (ntmps - xs.length) .bad,obs:=obs }
def onlyA:List AV→Option (List A1)
 |[]=>some []
 |.v x::r=>(onlyA r).map (x::·)
 |_=>none
theorem onlyA_eq:∀ {l:List AV} {ys:List A1},onlyA l=some ys→l=ys.map .v
 |[],ys,h=>by simp only [onlyA,yn] at h; subst h; rfl
 |.v x::r,ys,h=>by
  simp only [onlyA,ym] at h
  obtain ⟨zs,hz,rfl⟩:=h
  rw [qh,onlyA_eq hz]
 |.tup l::r,ys,h=>by cases h
 |.bad::r,ys,h=>by cases h
theorem InTo.of_code {P:Program} {f:FuncId} {fn:Func} {c:Code} {xs:List AV} {obs:List (Nat × Ob)} {y:AV} {obs':List (Nat × Ob)} (hf:P.funcs[f]? = some fn) (hb:fn.body=some c)
  (h:∀ G:Gh,G.n0=0→Zix P G c (inSt xs obs fn.ntmps) fun ex st'=>(ex=.normal∨ex=.ret)∧∃ rs ps ys,resultsA P st' fn.results.toList=some (rs,ps)∧AllP ps∧onlyA rs=some ys∧y=tupA ys∧st'.obs=obs'):InTo P f xs obs y obs':=by
 intro G β S w vs hG hs hxs
 refine calls_of_wp hf hb ?_
 have hstart:Sim G β S (inSt xs obs fn.ntmps) { tmps:=vs.toArray++Array.replicate (fn.ntmps - vs.toArray.size) undef,defers:=[] } w:=by
  refine ⟨hs.defers, ?_,hs.ob,hs.out,hs.inj,hs.lt,hs.s0,hs.size,hs.old,hs.os,hs.tape,hs.output,hs.par,hs.src,hs.sh⟩
  rw [Array.toList_append,Array.toList_replicate]
  refine All2.append hxs ?_
  rw [jh, ← hxs.length]
  generalize fn.ntmps - xs.length=m
  induction m with
  |zero=>trivial
  |succ m ih=>exact ⟨trivial,ih⟩
 refine wp_mono (h G hG β S _ w hstart) fun ex a' w' ⟨ex',st',β',S',h1,⟨h2,rs,ps,ys,hr,hp,hy1,hy2,ho⟩,hs'⟩=>?_
 obtain ⟨vres,hrun,hreps⟩:=Zcm hs' hr hp
 have hres:(results fn a'.tmps).run P w'=.ok (Zk0 vres) w':=by
  rw [Zg7,Sem.run_bind,hrun]
  rfl
 have post:∃ v β' S',(Ending.returned (Zk0 vres):Ending)=.returned v∧y.Rep w' S' β' v∧Sim G β' S' { fr:=[],obs:=obs' } { tmps:=#[],defers:=[] } w':=by
  refine ⟨_,β',S',rfl, ?_,⟨hs.defers,trivial,ho ▸ hs'.ob,ho ▸ hs'.out,ho ▸ hs'.inj,hs'.lt,hs'.s0,hs'.size,hs'.old,hs'.os,hs'.tape,hs'.output,hs'.par,hs'.src,hs'.sh⟩⟩
  rw [hy2]
  refine Zfu ?_
  rw [onlyA_eq hy1] at hreps
  exact All2.of_map (R:=AV.Rep w' S' β') AV.v hreps
 have hd:a'.defers=[]:=hs'.defers.trans (Eq.symm hs.defers)
 cases ex with
 |normal=>exact ⟨hd,_,hres,post⟩
 |ret=>exact ⟨hd,_,hres,post⟩
 |_=>rcases h2 with rfl | rfl <;> exact h1.elim
def KPost (w:World) (F:Nat→Prop) (bk:Option Nat) (sz:Nat) (rows':List (List C)) (e:Ending) (w':World):Prop :=
  ∃ F' : Nat → Prop, e = .returned (Zk0 []) ∧ (∀ b, F b → F' b) ∧ (∀ b, F' b → b < w'.heap.size ∧ (F b ∨ w.heap.size ≤ b)) ∧ (bk = none → rows' = []) ∧ (∀ b, bk = some b → ¬ F' b ∧ Ob.Rep w' F' (fun _ => none) b (.arr sz rows' true)) ∧
    (∀ b,b < w.heap.size→bk ≠ some b→w'.heap[b]? = w.heap[b]?)∧w.heap.size≤w'.heap.size∧w'.os=w.os∧w'.tape=w.tape∧w'.output=w.output∧Zj4 w w'
def KSpec (P:Program) (f:FuncId) (args:List PV) (sz:Nat) (rows':List (List C)):Prop :=
 ∀ (w:World) (vs:List Value) (F:Nat→Prop) (bk:Option Nat),(∀ b,F b→b < w.heap.size)→PVs.Rep w F args vs [bk]→(∀ b,bk=some b→¬ F b)→Calls P f vs.toArray w (KPost w F bk sz rows')
theorem Ob.Rep.keep {w w':World} {S S':Nat→Prop} {β:Nat→Option Nat} (hS:∀ b,S b→S' b) (hw:Zj3 S w w') (hsh:Zj4 w w') {b:Nat} (hb:w'.heap[b]? = w.heap[b]?) {o:Ob} (h:o.Rep w S β b):o.Rep w' S' β b:=by
 cases o with
 |var cells =>
  obtain ⟨vs,t,g1,g2⟩:=h
  exact ⟨vs,t,hb.trans g1,g2.imp fun c u hr=>AC.Rep.mono hS hw hsh c u (fun _ _=>rfl) hr⟩
 |arr sz rows more=>exact Ob.Rep.kill (β:=β) (β':=β) hS hw hsh 0 (fun _ _=>rfl) b hb (.arr sz rows more) h
theorem sim_kept {G:Gh} {β:Nat→Option Nat} {S:Nat→Prop} {st:St} {a:Act} {w w':World} (hs:Sim G β S st a w) {s sz:Nat} {rows rows':List (List C)} (hm:(s,.arr sz rows true) ∈ st.obs) {e:Ending} (post:KPost w S (β s) sz rows' e w') :
  e=.returned (Zk0 [])∧∃ S',Sim G β S' { st with obs:=setOb s (.arr sz rows' true) st.obs } a w':=by
 obtain ⟨F',he,hF1,hF2,hnone,hsome,hold,hsize,hos,htape,hout,hsh⟩:=post
 have hsame:Zj3 S w w':=fun b hb=>hold b (hs.lt b hb) fun e=>(hs.ob s _ b hm e).2.1 hb
 refine ⟨he,F',hs.defers,hs.fr.imp fun x v hx=>AV.Rep.mono hF1 hsame hsh x v (fun _ _=>rfl) hx,fun s' o b ho hb=>?_,fun s' o ho hb=>?_,fun s1 o1 s2 o2 b m1 m2 e1 e2=>?_,fun b hb=>(hF2 b hb).1,fun b hb=>hF1 b (hs.s0 b hb),u7 hs.size hsize,fun b h1 h2=>?_,hos.trans hs.os,htape.trans hs.tape,hout.trans hs.output,hs.par,fun b hb=>?_,hs.sh.trans hsh⟩
 ·rcases Z6b _ _ _ _ _ ho with ⟨rfl,rfl,_⟩ | ⟨hne,ho⟩
  ·obtain ⟨k1,k2⟩:=hsome b hb
   exact ⟨k2,k1,(hs.ob s' _ b hm hb).2.2⟩
  ·obtain ⟨k1,k2,k3⟩:=hs.ob s' o b ho hb
   have hlt:=k1.lt
   refine ⟨k1.keep hF1 hsame hsh (hold b hlt fun e=>hne (hs.inj s' o s _ b ho hm hb e)),fun h=>?_,k3⟩
   rcases (hF2 b h).2 with h | h
   ·exact k2 h
   ·omega
 ·rcases Z6b _ _ _ _ _ ho with ⟨rfl,rfl,_⟩ | ⟨hne,ho⟩
  ·exact ⟨hnone hb,rfl,(hs.out s' _ hm hb).2.2⟩
  ·exact hs.out s' o ho hb
 ·have old:∀ t o,(t,o) ∈ setOb s (.arr sz rows' true) st.obs→∃ o',(t,o') ∈ st.obs:=fun t o ho=>by
   rcases Z6b _ _ _ _ _ ho with ⟨rfl,_,_⟩ | ⟨_,ho⟩
   ·exact ⟨_,hm⟩
   ·exact ⟨o,ho⟩
  obtain ⟨p1,q1⟩:=old _ _ m1
  obtain ⟨p2,q2⟩:=old _ _ m2
  exact hs.inj s1 p1 s2 p2 b q1 q2 e1 e2
 ·refine (hold b (qc h1 hs.size) fun e=>?_).trans (hs.old b h1 h2)
  rcases (hs.ob s _ b hm e).2.2 with h | h
  ·exact h2 h
  ·omega
 ·rcases (hF2 b hb).2 with h | h
  ·exact hs.src b h
  ·exact .inr (.inr (u7 hs.size h))
theorem op_kcall {P:Program} {G:Gh} {o:Oper} {st:St} {c:Call} {g:Operand} {f:FuncId} {fn:Func} {caps:List Cap} {xs:List AV} {pargs:List PV} {ps:List Prop} {s sz:Nat} {rows rows':List (List C)}
  (ho:o.op=.call c) (hc:c.callee=.value g) (hg:Zjd st g=some (.v (.one (.fn f caps)))) (hx:Zje st c.args.toList=some xs)
  (hf:P.funcs[f]? = some fn) (hn:(fn.name == "runtime.NumGoroutine") = false) (hb:fn.body.isNone = false)
  (hl:Zjj st.obs (xs++caps.map Cap.av)=some (pargs,[s],ps)) (hp:AllP ps) (hm:(s,.arr sz rows true) ∈ st.obs) (hspec:KSpec P f pargs sz rows') :
  OpWp P G o st (tupA []) { st with obs:=setOb s (.arr sz rows' true) st.obs }:=by
 intro β S a w hs next Q k
 obtain ⟨cv,hcv,hcaps⟩:∃ vs:Array Value,a.eval g=.func (.func f) #[] vs∧All2 (Cap.Rep w S β) caps vs.toList:=Z0p hs hg
 have hargs:All2 (AV.Rep w S β) (xs++caps.map Cap.av) (c.args.toList.map a.eval++cv.toList):=by
  refine (Z96 hs hx).append (All2.map _ (hcaps.imp fun cc v h=>?_))
  cases cc <;> exact h
 have hrun:=Zd6 (w:=w) ho hc hcv hf hn hb
 unfold Oper.wp
 rw [hrun,Oper.upon_enter]
 obtain ⟨hrep,hobs⟩:=Z7o hs hl hp hargs
 have hcall:=hspec w _ S (β s) hs.lt hrep fun b hb=>(hs.ob s _ b hm hb).2.1
 have hvs:c.args.map a.eval++cv=(c.args.toList.map a.eval++cv.toList).toArray:=by
  apply zi
  simp
 rw [hvs]
 refine Z3j hcall fun e w' post=>?_
 obtain ⟨rfl,S',hsim⟩:=sim_kept hs hm post
 show next (a.put o.dst (Zk0 [])) w'
 exact k β S' _ w' (Zfu (l:=[]) trivial) hsim
inductive Hint where
  | none
  /-- a call: names of what comes back from here on; the results; what its objects hold -/
  | call (m:Nat) (fres fobjs:List PV)
  /-- a choice -/
  | pick (b:Bool)
  /-- a call that takes and hands back data alone -/
  | pcall (fres:List PV)
  /-- likewise,to which own slices are lent,and that hands back plain data -/
  | lcall (fres:List PV)
  /-- likewise,and that hands back new slices of plain data: names of what comes back from here on -/
  | lnew (m:Nat) (fres:List PV)
  /-- likewise,bytes are lent,and what comes back leads to no bytes -/
  | lapt (m:Nat) (fres:List PV)
  /-- a call that writes into own array s,and gives it back with these rows -/
  | kcall (s:Nat) (rows:List (List C))
  /-- what an operation on plain values yields,where that hangs on the values -/
  | flat (v:Value)
  /-- what a function without a body yields -/
  | ext (v:Value)
  /-- two structs of plain fields are compared -/
  | seq
  /-- a call that is walked where it stands -/
  | inl (y:AV) (obs:List (Nat × Ob))
  /-- bytes that become a string -/
  | bstr (ns:List Int)
  /-- what is no number,or is made so -/
  | nan
structure Eff where
 y:AV
 κ:AV→AV
 obs:List (Nat × Ob)
 ps:List Prop
def Eff.st (e:Eff) (st:St):St:={ fr:=st.fr.map e.κ,obs:=e.obs }
def goodV (st:St) (y:Operand):Option A1 :=
 match Zjd st y with
 |some (.v v)=>bif v.cells.all AC.good then some v else none
 |_=>none
theorem goodV_eq {st:St} {y:Operand} {v:A1} (h:goodV st y=some v):Zjd st y=some (.v v)∧v.cells.all AC.good=true:=by
 unfold goodV at h
 split at h
 ·rename_i v' hv
  cases hg:v'.cells.all AC.good with
  |false=>rw [hg] at h; cases h
  |true=>rw [hg] at h; simp only [cond_true,yn] at h; subst h; exact ⟨hv,hg⟩
 ·cases h
def Eff.new (st:St) (d:Nat) (y:AV) (o:Ob) (ps:List Prop):Eff:={ y:=y,κ:=AV.kill d,obs:=(d,o)::Zjh d st.obs,ps:=ps }
def eStore (P:Program) (st:St) (t:TypeId) (x y:Operand):Option Eff :=
 (oneA st x).bind fun p=>(goodV st y).bind fun v=>bif sizeT P t == some v.cells.length then (storeTo st p v.cells).map fun r=>{ y:=.bad,κ:=fun x=>x,obs:=r.1,ps:=[r.2] } else none
def eBox (st:St) (d:Nat) (x:Operand):Option Eff:=(goodV st x).map fun v=>Eff.new st d (.v (.one (.ptr d 0))) (.var (v.cells.map (AC.kill d))) []
def eAlloc (P:Program) (st:St) (d:Nat) (t:TypeId):Option Eff:=(zeroT P t).bind fun zs=>(Zj6 AC.ofV zs.toList).map fun cs=>Eff.new st d (.v (.one (.ptr d 0))) (.var cs) []
def Zja (P:Program) (st:St) (d:Nat) (t:TypeId) (n:Nat) (ps:Array (Nat × Operand)):Option Eff:=(buildSliceA P st t n ps).map fun r=>Eff.new st d (.v (.one (.vw d r.1 0 n))) (.arr r.1 r.2 true) []
def mkMore:Operand→Bool
 |.const (.int _ 0)=>false
 |_=>true
def eMakeSlice (P:Program) (st:St) (d:Nat) (t:TypeId) (x y:Operand):Option Eff :=
 (intA st x).bind fun l=>(intA st y).bind fun c=>(Zjc P t).bind fun e=>(zeroT P e.1).bind fun zs=>(Zj6 C.ofV zs.toList).bind fun row=>(bytesT P e.1).bind fun b =>
  bif row.length == e.2 && Nat.blt 0 e.2 then some (Eff.new st d (.v (.one (.vw d e.2 0 l.toNat))) (.arr e.2 (List.replicate c.toNat row) (mkMore x)) [0≤l∧l≤c∧c * (b:Int)≤281474976710656∧c≤9223372036854775807]) else none
def eAppend (P:Program) (st:St) (d:Nat) (t t2:TypeId) (x y:Operand):Option Eff :=
 (oneA st x).bind fun p=>(oneA st y).bind fun q=>(Zjc P t).bind fun e=>(zeroT P e.1).bind fun zs=>(bytesT P e.1).bind fun b=>bif zs.size == e.2 && Nat.blt 0 e.2 then
  match p with
  |.vw s sz 0 n=>match Zjf s st.obs,srcOf P t t2 st q with
   |some (.arr sz' rows false),some (szq,rx,pr)=>bif sz' == e.2 && sz == e.2 && szq == e.2 then
     some { y:=.v (.one (.vw d e.2 0 (n+rx.length))),κ:=fun x=>(x.kill s).kill d,obs:=(d,.arr e.2 (rows.take n++rx++rows.drop (n+rx.length)) false)::Zjh d (Zjh s st.obs),ps:=[pr,n+rx.length≤rows.length] }
    else none
   |some (.arr sz' rows true),some (szq,rx,pr)=>bif sz' == e.2 && sz == e.2 && szq == e.2 then
     some { y:=.v (.one (.vw d e.2 0 (rows.length+rx.length))),κ:=fun x=>(x.kill s).kill d,obs:=(d,.arr e.2 (rows++rx) true)::Zjh d (Zjh s st.obs),ps:=[pr,n=rows.length,(rows.length+rx.length) * b≤140737488355328,rows.length+rx.length≤9223372036854775807] }
    else none
   |_,_=>none
  |p=>match srcOf P t t2 st q with
   |some (szq,rx,pr)=>bif szq == e.2 && Zjv p then some (Eff.new st d (.v (.one (.vw d e.2 0 rx.length))) (.arr e.2 rx true) [pr,rx.length * b≤140737488355328,rx.length≤9223372036854775807]) else none
   |none=>none
 else none
def Zj9 (P:Program) (st:St) (d:Nat) (t tn:TypeId) (x y:Operand):Option Eff :=
 (oneA st x).bind fun p=>(intA st y).bind fun k=>(Zjc P t).bind fun e=>(zeroT P e.1).bind fun zs=>(bytesT P e.1).bind fun b =>
  match p,P.underlying tn with
  |.d .nils,some (.int _)=>bif zs.size == e.2 && Nat.blt 0 e.2 then some (Eff.new st d (.v (.one (.vw d e.2 0 k.toNat))) (.arr e.2 [] true) [0 < k∧k * (b:Int)≤140737488355328∧k≤9223372036854775807]) else none
  |_,_=>none
def isObj:PV→Bool
 |.obj _=>true
 |_=>false
def nodupB:List Nat→Bool
 |[]=>true
 |x::l=>!l.contains x && nodupB l
theorem Z94:∀ {l:List Nat},nodupB l=true→l.Nodup
 |[],_=>wh
 |x::l,h=>by
  simp only [nodupB,yx,qj,List.contains_eq_mem,decide_eq_false_iff_not] at h
  exact List.nodup_cons.2 ⟨h.1,Z94 h.2⟩
def eCall (P:Program) (n0:Nat) (st:St) (c:Call) (g:Operand):Hint→Option Eff
  | .call m fres fobjs=>match oneA st g with
    | some (.fn f caps)=>(Zje st c.args.toList).bind fun xs=>(P.funcs[f]?).bind fun fn=>(Zjj st.obs (xs++caps.map Cap.av)).bind fun l =>
      (onlyV (PVs.enter fres m).1).bind fun ys =>
      bif !(fn.name == "runtime.NumGoroutine") && !fn.body.isNone && nodupB l.2.1 && fobjs.all isObj && fobjs.length == (Zjo (xs ++ caps.map Cap.av)).length
          && Nat.ble (Zjq fobjs (Zjo (xs++caps.map Cap.av)) (PVs.enter fres m).2.2).2.2 n0
          && nodupB (List.range' m ((PVs.enter fres m).2.2 - m)++(Zjq fobjs (Zjo (xs++caps.map Cap.av)) (PVs.enter fres m).2.2).2.1) then
        let os:=Zjo (xs++caps.map Cap.av)
        let q:=Zjq fobjs os (PVs.enter fres m).2.2
        some { y:=tupA ys,κ:=AV.killp (gone l.2.1 os m q.2.2),obs:=(PVs.enter fres m).2.1++q.1++Zju (gone l.2.1 os m q.2.2) os st.obs,ps:=Ziz P f l.1 (fres++fobjs)::l.2.2 }
      else none
    | _=>none
  | .lnew m fres=>match oneA st g with
    | some (.fn f caps)=>(Zje st c.args.toList).bind fun xs=>(P.funcs[f]?).bind fun fn=>(lendVs st.obs (xs++caps.map Cap.av)).bind fun l =>
      (onlyV (PVs.enter fres m).1).bind fun ys =>
      bif !(fn.name == "runtime.NumGoroutine") && !fn.body.isNone && Nat.ble (PVs.enter fres m).2.2 n0 && nodupB (List.range' m ((PVs.enter fres m).2.2 - m)) then
        some { y:=tupA ys,κ:=AV.killp (gone [] [] m (PVs.enter fres m).2.2),obs:=(PVs.enter fres m).2.1++[]++Zju (gone [] [] m (PVs.enter fres m).2.2) [] st.obs,ps:=Ziz P f l.1 fres::(∀ p ∈ fres,p.flatR)::l.2 }
      else none
    | _=>none
  | .lapt m fres=>match oneA st g with
    | some (.fn f caps)=>(Zje st c.args.toList).bind fun xs=>(P.funcs[f]?).bind fun fn=>(lendVs st.obs (xs++caps.map Cap.av)).bind fun l =>
      (onlyV (PVs.enter fres m).1).bind fun ys =>
      bif !(fn.name == "runtime.NumGoroutine") && !fn.body.isNone && Nat.ble (PVs.enter fres m).2.2 n0 && nodupB (List.range' m ((PVs.enter fres m).2.2 - m)) then
        some { y:=tupA ys,κ:=AV.killp (gone [] [] m (PVs.enter fres m).2.2),obs:=(PVs.enter fres m).2.1++[]++Zju (gone [] [] m (PVs.enter fres m).2.2) [] st.obs,ps:=Ziz P f l.1 fres::(∀ p ∈ fres,p.apart)::bytesOnly st.obs::l.2 }
      else none
    | _=>none
  | .kcall s rows'=>match oneA st g with
    | some (.fn f caps)=>(Zje st c.args.toList).bind fun xs=>(P.funcs[f]?).bind fun fn=>(Zjj st.obs (xs++caps.map Cap.av)).bind fun l =>
      bif !(fn.name == "runtime.NumGoroutine") && !fn.body.isNone && l.2.1 == [s] then (match Zjf s st.obs with
        | some (.arr sz _ true)=>some { y:=tupA [],κ:=fun x=>x,obs:=setOb s (.arr sz rows' true) st.obs,ps:=KSpec P f l.1 sz rows'::l.2.2 }
        | _=>none)
      else none
    | _=>none
  | .inl y obs'=>none
  | _=>none
def stepE (P:Program) (n0:Nat) (st:St) (o:Oper) (h:Hint):Option Eff :=
 match o.op,o.dst with
 |.store t x y,_=>eStore P st t x y
 |.box t x,some d=>bif Nat.blt d n0 then eBox st d x else none
 |.alloc t,some d=>bif Nat.blt d n0 then eAlloc P st d t else none
 |.buildSlice t n ps,some d=>bif Nat.blt d n0 then Zja P st d t n ps else none
 |.makeSlice t x y,some d=>bif Nat.blt d n0 then eMakeSlice P st d t x y else none
 |.call { callee:=.builtin .append,args:=⟨[x,y]⟩,argTypes:=⟨[t,t']⟩ },some d=>bif Nat.blt d n0 then (bif t == t' || strT P t' then eAppend P st d t t' x y else Zj9 P st d t t' x y) else none
 |.call c,_=>match c.callee with
  |.value g=>eCall P n0 st c g h
  |_=>none
 |_,_=>none
theorem st_map_id (st:St) (obs:List (Nat × Ob)):({ fr:=st.fr.map fun x=>x,obs:=obs }:St)={ st with obs:=obs }:=by
 cases st; simp
theorem eStore_wp {P:Program} {G:Gh} {o:Oper} {st:St} {t:TypeId} {x y:Operand} {e:Eff} (ho:o.op=.store t x y) (h:eStore P st t x y=some e) (hp:AllP e.ps):OpWp P G o st e.y (e.st st):=by
 simp only [eStore,yo] at h
 obtain ⟨p,hx,v,hv,h⟩:=h
 cases hc:(sizeT P t == some v.cells.length) with
 |false=>rw [hc] at h; cases h
 |true =>
  rw [hc] at h
  simp only [cond_true,ym] at h
  obtain ⟨⟨obs',pr⟩,hst,rfl⟩:=h
  unfold Eff.st
  rw [st_map_id]
  exact op_store ho (Z2t hx) (goodV_eq hv).1 (goodV_eq hv).2 (by simpa using hc) hst hp.1
theorem eBox_wp {P:Program} {G:Gh} {o:Oper} {st:St} {t:TypeId} {x:Operand} {d:Nat} {e:Eff} (ho:o.op=.box t x) (hd:d < G.n0) (h:eBox st d x=some e):OpWp P G o st e.y (e.st st):=by
 simp only [eBox,ym] at h
 obtain ⟨v,hv,rfl⟩:=h
 exact op_box ho (goodV_eq hv).1 (goodV_eq hv).2 hd
theorem eAlloc_wp {P:Program} {G:Gh} {o:Oper} {st:St} {t:TypeId} {d:Nat} {e:Eff} (ho:o.op=.alloc t) (hd:d < G.n0) (h:eAlloc P st d t=some e):OpWp P G o st e.y (e.st st):=by
 simp only [eAlloc,yo,ym] at h
 obtain ⟨zs,hz,cs,hc,rfl⟩:=h
 exact op_alloc ho hz hc hd
theorem eBuildSlice_wp {P:Program} {G:Gh} {o:Oper} {st:St} {t:TypeId} {n d:Nat} {ps:Array (Nat × Operand)} {e:Eff} (ho:o.op=.buildSlice t n ps) (hd:d < G.n0) (h:Zja P st d t n ps=some e):OpWp P G o st e.y (e.st st):=by
 simp only [Zja,ym] at h
 obtain ⟨⟨sz,rows⟩,hb,rfl⟩:=h
 exact op_buildSlice ho hb hd
theorem eMakeSlice_wp {P:Program} {G:Gh} {o:Oper} {st:St} {t:TypeId} {d:Nat} {x y:Operand} {e:Eff} (ho:o.op=.makeSlice t x y) (hd:d < G.n0) (h:eMakeSlice P st d t x y=some e) (hp:AllP e.ps):OpWp P G o st e.y (e.st st):=by
 simp only [eMakeSlice,yo] at h
 obtain ⟨l,hl,c,hc,⟨et,sz⟩,he,zs,hz,row,hrow,b,hb,h⟩:=h
 cases hcc:(row.length == sz && Nat.blt 0 sz) with
 |false=>simp only at h; rw [hcc] at h; cases h
 |true =>
  simp only at h
  rw [hcc] at h
  simp only [yx,beq_iff_eq,zh] at hcc
  simp only [cond_true,yn] at h
  subst h
  obtain ⟨⟨h0,h1,h2,h3⟩,_⟩:=hp
  exact op_makeSlice ho hl hc he hz hrow hb hcc.1 hcc.2 h0 h1 h2 h3 hd
theorem eCall_wp {P:Program} {G:Gh} {o:Oper} {st:St} {c:Call} {g:Operand} {hh:Hint} {e:Eff} (ho:o.op=.call c) (hc:c.callee=.value g) (h:eCall P G.n0 st c g hh=some e) (hp:AllP e.ps):OpWp P G o st e.y (e.st st):=by
 cases hh with
 |call m fres fobjs =>
  simp only [eCall] at h
  split at h
  ·rename_i f caps hg
   simp only [yo] at h
   obtain ⟨xs,hxs,fn,hfn,⟨pargs,ss,ps⟩,hl,ys,hys,h⟩:=h
   generalize hcc : (!(fn.name == "runtime.NumGoroutine") && !fn.body.isNone && nodupB ss && fobjs.all isObj && fobjs.length == (Zjo (xs++caps.map Cap.av)).length
     && Nat.ble (Zjq fobjs (Zjo (xs++caps.map Cap.av)) (PVs.enter fres m).2.2).2.2 G.n0
     && nodupB (List.range' m ((PVs.enter fres m).2.2 - m)++(Zjq fobjs (Zjo (xs++caps.map Cap.av)) (PVs.enter fres m).2.2).2.1))=bb at h
   cases bb with
   |false=>cases h
   |true =>
    simp only [yx,qj,beq_iff_eq] at hcc
    obtain ⟨⟨⟨⟨⟨⟨c1,c2⟩,c3⟩,c4⟩,c5⟩,c6⟩,c7⟩:=hcc
    simp only [cond_true,yn] at h
    subst h
    have hfo:∀ p ∈ fobjs, ∃ cells,p=PV.obj cells:=by
     intro p hm
     have:=List.all_eq_true.1 c4 p hm
     cases p with
     |v x=>cases this
     |obj cells=>exact ⟨cells,rfl⟩
    exact op_call m ho hc (Z2t hg) hxs hfn c1 c2 hl hp.2 (Z94 c3) hp.1 hfo c5 (kr c6) (Z94 c7) hys
  ·cases h
 |lnew m fres =>
  simp only [eCall] at h
  split at h
  ·rename_i f caps hg
   simp only [yo] at h
   obtain ⟨xs,hxs,fn,hfn,⟨pargs,ps⟩,hl,ys,hys,h⟩:=h
   generalize hcc : (!(fn.name == "runtime.NumGoroutine") && !fn.body.isNone && Nat.ble (PVs.enter fres m).2.2 G.n0 && nodupB (List.range' m ((PVs.enter fres m).2.2 - m))) = bb at h
   cases bb with
   |false=>cases h
   |true =>
    simp only [yx,qj] at hcc
    obtain ⟨⟨⟨c1,c2⟩,c6⟩,c7⟩:=hcc
    simp only [cond_true,yn] at h
    subst h
    exact op_lend m ho hc (Z2t hg) hxs hfn c1 c2 hl hp.2.2 hp.1 hp.2.1 (kr c6) (Z94 c7) hys
  ·cases h
 |lapt m fres =>
  simp only [eCall] at h
  split at h
  ·rename_i f caps hg
   simp only [yo] at h
   obtain ⟨xs,hxs,fn,hfn,⟨pargs,ps⟩,hl,ys,hys,h⟩:=h
   generalize hcc : (!(fn.name == "runtime.NumGoroutine") && !fn.body.isNone && Nat.ble (PVs.enter fres m).2.2 G.n0 && nodupB (List.range' m ((PVs.enter fres m).2.2 - m))) = bb at h
   cases bb with
   |false=>cases h
   |true =>
    simp only [yx,qj] at hcc
    obtain ⟨⟨⟨c1,c2⟩,c6⟩,c7⟩:=hcc
    simp only [cond_true,yn] at h
    subst h
    exact op_lapt m ho hc (Z2t hg) hxs hfn c1 c2 hl hp.2.2.2 hp.1 hp.2.1 hp.2.2.1 (kr c6) (Z94 c7) hys
  ·cases h
 |kcall s rows' =>
  simp only [eCall] at h
  split at h
  ·rename_i f caps hg
   simp only [yo] at h
   obtain ⟨xs,hxs,fn,hfn,⟨pargs,ss,ps⟩,hl,h⟩:=h
   generalize hcc : (!(fn.name == "runtime.NumGoroutine") && !fn.body.isNone && ss == [s]) = bb at h
   cases bb with
   |false=>cases h
   |true =>
    simp only [yx,qj,beq_iff_eq] at hcc
    obtain ⟨⟨c1,c2⟩,rfl⟩:=hcc
    simp only [cond_true] at h
    split at h
    ·rename_i sz rows hgo
     simp only [yn] at h
     subst h
     unfold Eff.st
     rw [st_map_id]
     exact op_kcall ho hc (Z2t hg) hxs hfn c1 c2 hl hp.2 (Z22 _ _ _ hgo) hp.1
    ·cases h
  ·cases h
 |inl y obs'=>cases h
 |_=>cases h
theorem eAppend_wp {P:Program} {G:Gh} {o:Oper} {st:St} {t t2:TypeId} {x y:Operand} {d:Nat} {e:Eff} (ho:o.op=.call { callee:=.builtin .append,args:=#[x,y],argTypes:=#[t,t2] }) (hd:d < G.n0) (h:eAppend P st d t t2 x y=some e) (hp:AllP e.ps):OpWp P G o st e.y (e.st st):=by
 simp only [eAppend,yo] at h
 obtain ⟨p,hx,q,hy,⟨et,sz⟩,he,zs,hz,b,hb,h⟩:=h
 cases hcc:(zs.size == sz && Nat.blt 0 sz) with
 |false=>simp only at h; rw [hcc] at h; cases h
 |true =>
  simp only at h
  rw [hcc] at h
  simp only [yx,beq_iff_eq,zh] at hcc
  obtain ⟨hzl,hpos⟩:=hcc
  simp only [cond_true] at h
  split at h
  ·rename_i _ s sz1 n
   split at h
   ·rename_i sz' rows szq rx pr hg hq
    cases hc2:(sz' == sz && sz1 == sz && szq == sz) with
    |false=>rw [hc2] at h; cases h
    |true =>
     rw [hc2] at h
     simp only [yx,beq_iff_eq] at hc2
     obtain ⟨⟨rfl,rfl⟩,rfl⟩:=hc2
     simp only [cond_true,yn] at h
     subst h
     obtain ⟨h1,h2,_⟩:=hp
     have:=op_append_in ho (Z2t hx) (Z2t hy) hg hq h1 h2 he (elemT_size he) hpos hd
     have e2:(st.fr.map fun x=>(x.kill s).kill d)=(st.fr.map (AV.kill s)).map (AV.kill d):=by rw [zz]; rfl
     unfold Eff.st
     simp only [e2]
     exact this
   ·rename_i sz' rows szq rx pr hg hq
    cases hc2:(sz' == sz && sz1 == sz && szq == sz) with
    |false=>rw [hc2] at h; cases h
    |true =>
     rw [hc2] at h
     simp only [yx,beq_iff_eq] at hc2
     obtain ⟨⟨rfl,rfl⟩,rfl⟩:=hc2
     simp only [cond_true,yn] at h
     subst h
     obtain ⟨h1,h2,h3,h4,_⟩:=hp
     have:=op_append ho (Z2t hx) (Z2t hy) hg hq h1 h2 he hz hzl hpos hb h3 h4 hd
     have e2:(st.fr.map fun x=>(x.kill s).kill d)=(st.fr.map (AV.kill s)).map (AV.kill d):=by rw [zz]; rfl
     unfold Eff.st
     simp only [e2]
     exact this
   ·cases h
  ·split at h
   ·rename_i szq rx pr hq
    cases hc2:(szq == sz && Zjv p) with
    |false=>rw [hc2] at h; cases h
    |true =>
     rw [hc2] at h
     simp only [yx,beq_iff_eq] at hc2
     obtain ⟨rfl,hr⟩:=hc2
     simp only [cond_true,yn] at h
     subst h
     obtain ⟨h1,h3,h4,_⟩:=hp
     exact op_append_new ho (Z2t hx) hr (Z2t hy) hq h1 hpos he hz hzl hb h3 h4 hd
   ·cases h
theorem eAppendMake_wp {P:Program} {G:Gh} {o:Oper} {st:St} {t tn:TypeId} {x y:Operand} {d:Nat} {e:Eff} (ho:o.op=.call { callee:=.builtin .append,args:=#[x,y],argTypes:=#[t,tn] }) (hd:d < G.n0) (h:Zj9 P st d t tn x y=some e) (hp:AllP e.ps):OpWp P G o st e.y (e.st st):=by
 simp only [Zj9,yo] at h
 obtain ⟨p,hx,k,hy,⟨et,sz⟩,he,zs,hz,b,hb,h⟩:=h
 split at h
 ·rename_i kn htn
  cases hcc:(zs.size == sz && Nat.blt 0 sz) with
  |false=>simp only at h; rw [hcc] at h; cases h
  |true =>
   simp only at h
   rw [hcc] at h
   simp only [yx,beq_iff_eq,zh] at hcc
   simp only [cond_true,yn] at h
   subst h
   obtain ⟨⟨h0,h1,h2⟩,_⟩:=hp
   exact op_append_make ho (Z2t hx) hy htn hcc.2 he hz hcc.1 hb h0 h1 h2 hd
 ·cases h
theorem stepE_wp {P:Program} {G:Gh} {o:Oper} {st:St} {hh:Hint} {e:Eff} (h:stepE P G.n0 st o hh=some e) (hp:AllP e.ps):OpWp P G o st e.y (e.st st):=by
 have guard:∀ {d:Nat} {r:Option Eff},(bif Nat.blt d G.n0 then r else none)=some e→d < G.n0∧r=some e:=by
  intro d r hr
  cases hc:Nat.blt d G.n0 with
  |false=>rw [hc] at hr; cases hr
  |true=>rw [hc] at hr; exact ⟨by simpa using hc,hr⟩
 unfold stepE at h
 split at h
 ·rename_i ho
  exact eStore_wp ho h hp
 ·rename_i ho _
  exact eBox_wp ho (guard h).1 (guard h).2
 ·rename_i ho _
  exact eAlloc_wp ho (guard h).1 (guard h).2
 ·rename_i ho _
  exact eBuildSlice_wp ho (guard h).1 (guard h).2
 ·rename_i ho _
  exact eMakeSlice_wp ho (guard h).1 (guard h).2 hp
 ·rename_i x y t t' d ho _
  obtain ⟨hd,h⟩:=guard h
  cases hc:(t == t' || strT P t') with
  |false=>rw [hc] at h; exact eAppendMake_wp ho hd h hp
  |true=>rw [hc] at h; exact eAppend_wp ho hd h hp
 ·rename_i c _ ho _
  split at h
  ·rename_i g hg
   exact eCall_wp ho hg h hp
  ·cases h
 ·cases h
def Ob.Le (x y:Ob):Prop:=(∀ (w:World) (S:Nat→Prop) (β:Nat→Option Nat) (b:Nat),x.Rep w S β b→y.Rep w S β b)∧(x.empty→y.empty)
theorem Ob.Le.refl (x:Ob):Ob.Le x x:=⟨fun _ _ _ _ h=>h,id⟩
theorem Ob.Le.of_eq {x y:Ob} (h:x=y):Ob.Le x y:=h ▸ Ob.Le.refl x
theorem Ob.Le.var {cs cs':List AC} (h:ACs.Le cs cs'):Ob.Le (.var cs) (.var cs') :=
 ⟨fun w S β b ⟨vs,t,h1,h2⟩=>⟨vs,t,h1,All2.le (All2.imp (fun x y hxy v=>hxy w S β v) h) h2⟩,id⟩
theorem Ob.Le.more {sz:Nat} {rows rows':List (List C)} {m:Bool} (h:rows=rows'):Ob.Le (.arr sz rows m) (.arr sz rows' true) :=
 ⟨fun w S β b ⟨vs,t,h1,h2,h3,h4,_⟩=>h ▸ ⟨vs,t,h1,h2,h3,h4,fun h=>by cases h⟩,fun ⟨h1,h2,h3⟩=>⟨h ▸ h1,rfl,h3⟩⟩
def Zjl:List AV→List AV→Option (List Prop)
 |[],[]=>some []
 |_::xs,.bad::ys=>Zjl xs ys
 |x::xs,y::ys=>(Zjl xs ys).map fun ps=>AV.Le x y::ps
 |_,_=>none
def lowerObs (l:List (Nat × Ob)):List (Nat × Ob)→Option (List Prop)
 |[]=>some []
 |(s,o)::r=>match Zjf s l,lowerObs l r with
  |some o',some ps=>some (Ob.Le o' o::ps)
  |_,_=>none
def lower (st st':St):Option (List Prop) :=
 match Zjl st.fr st'.fr,lowerObs st.obs st'.obs with
 |some ps,some qs=>some (ps++qs)
 |_,_=>none
theorem Zdz {w:World} {S:Nat→Prop} {β:Nat→Option Nat}:∀ {xs ys:List AV} {ps:List Prop} {vs:List Value},Zjl xs ys=some ps→AllP ps→All2 (AV.Rep w S β) xs vs→All2 (AV.Rep w S β) ys vs
 |[],[],_,[],_,_,_=>trivial
 |x::xs,.bad::ys,_,v::vs,h,hp,hr=>⟨trivial,Zdz (by simpa only [Zjl] using h) hp hr.2⟩
 |x::xs,.v y::ys,_,v::vs,h,hp,hr=>by
  simp only [Zjl,ym] at h
  obtain ⟨ps,h,rfl⟩:=h
  exact ⟨hp.1 _ _ _ _ hr.1,Zdz h hp.2 hr.2⟩
 |x::xs,.tup y::ys,_,v::vs,h,hp,hr=>by
  simp only [Zjl,ym] at h
  obtain ⟨ps,h,rfl⟩:=h
  exact ⟨hp.1 _ _ _ _ hr.1,Zdz h hp.2 hr.2⟩
 |[],_::_,_,_,h,_,_=>by simp [Zjl] at h
 |_::_,[],_,_,h,_,_=>by simp [Zjl] at h
 |[],_,_,_::_,_,_,hr=>hr.elim
 |_::_,_,_,[],_,_,hr=>hr.elim
theorem Zfb {l:List (Nat × Ob)}:∀ {m:List (Nat × Ob)} {ps:List Prop},lowerObs l m=some ps→AllP ps→∀ s o,(s,o) ∈ m→∃ o',(s,o') ∈ l∧Ob.Le o' o
 |[],_,_,_,s,o,hm=>by cases hm
 |(s0,o0)::r,_,h,hp,s,o,hm=>by
  simp only [lowerObs] at h
  split at h
  ·rename_i o' ps hg hr
   simp only [yn] at h
   subst h
   obtain ⟨hle,hp⟩:=hp
   rcases List.mem_cons.1 hm with e | hm
   ·injection e with e1 e2
    subst e1 e2
    exact ⟨o',Z22 _ _ _ hg,hle⟩
   ·exact Zfb hr hp s o hm
  ·cases h
theorem Sim.less {G:Gh} {β:Nat→Option Nat} {S:Nat→Prop} {st st':St} {a:Act} {w:World} (h:Sim G β S st a w) (hf:All2 (AV.Rep w S β) st.fr a.tmps.toList→All2 (AV.Rep w S β) st'.fr a.tmps.toList) (hm:∀ s o,(s,o) ∈ st'.obs→∃ o',(s,o') ∈ st.obs∧Ob.Le o' o):Sim G β S st' a w:=by
 refine ⟨h.defers,hf h.fr,fun s o b ho hb=>?_,fun s o ho hb=>?_,fun s1 o1 s2 o2 b m1 m2 e1 e2=>?_,h.lt,h.s0,h.size,h.old,h.os,h.tape,h.output,h.par,h.src,h.sh⟩
 ·obtain ⟨o',h1,hle⟩:=hm s o ho
  obtain ⟨g1,g2,g3⟩:=h.ob s o' b h1 hb
  exact ⟨hle.1 _ _ _ _ g1,g2,g3⟩
 ·obtain ⟨o',h1,hle⟩:=hm s o ho
  exact hle.2 (h.out s o' h1 hb)
 ·obtain ⟨p1,h1,_⟩:=hm _ _ m1
  obtain ⟨p2,h2,_⟩:=hm _ _ m2
  exact h.inj _ _ _ _ b h1 h2 e1 e2
theorem Sim.lower {G:Gh} {β:Nat→Option Nat} {S:Nat→Prop} {st st':St} {a:Act} {w:World} (h:Sim G β S st a w) {ps:List Prop} (hl:lower st st'=some ps) (hp:AllP ps):Sim G β S st' a w:=by
 unfold Lift.lower at hl
 split at hl
 ·rename_i qs rs hq hr
  simp only [yn] at hl
  subst hl
  rw [AllP.append] at hp
  exact h.less (Zdz hq hp.1) (Zfb hr hp.2)
 ·cases hl
def rn (s t x:Nat):Nat:=bif x == s then t else x
def Cap.ren (s t:Nat):Cap→Cap
 |.ptr s' off=>.ptr (rn s t s') off
 |c=>c
def AC.ren (s t:Nat):AC→AC
 |.ptr s' off=>.ptr (rn s t s') off
 |.ep s' sz i off=>.ep (rn s t s') sz i off
 |.vw s' sz i n=>.vw (rn s t s') sz i n
 |.fn f caps=>.fn f (caps.map (Cap.ren s t))
 |x=>x
def A1.ren (s t:Nat):A1→A1
 |.one a=>.one (a.ren s t)
 |.agg cs=>.agg (cs.map (AC.ren s t))
def AV.ren (s t:Nat):AV→AV
 |.v x=>.v (x.ren s t)
 |.tup l=>.tup (l.map (A1.ren s t))
 |.bad=>.bad
def Ob.ren (s t:Nat):Ob→Ob
 |.var cells=>.var (cells.map (AC.ren s t))
 |o=>o
def St.ren (s t:Nat) (st:St):St:={ fr:=st.fr.map (AV.ren s t),obs:=st.obs.map fun o=>(rn s t o.1,o.2.ren s t) }
section
variable {w:World} {S:Nat→Prop} {β β':Nat→Option Nat} {s t:Nat} (hβ:∀ x,x ≠ t→β' (rn s t x)=β x)
include hβ
theorem Cap.Rep.ren {x:Cap} {v:Value} (hx:x.names t=false) (h:x.Rep w S β v):(x.ren s t).Rep w S β' v:=by
 cases x with
 |d c=>exact h
 |ptr s' off=>obtain ⟨b,h1,h2⟩:=h; exact ⟨b,by rw [hβ s' (by simpa [Cap.names] using hx)]; exact h1,h2⟩
theorem AC.Rep.ren {x:AC} {v:Value} (hx:x.names t=false) (h:x.Rep w S β v):(x.ren s t).Rep w S β' v:=by
 cases x with
 |ptr s' off=>obtain ⟨b,h1,h2⟩:=h; exact ⟨b,by rw [hβ s' (by simpa [AC.names] using hx)]; exact h1,h2⟩
 |ep s' sz i off=>obtain ⟨b,h1,h2⟩:=h; exact ⟨b,by rw [hβ s' (by simpa [AC.names] using hx)]; exact h1,h2⟩
 |vw s' sz i n =>
  have e:=hβ s' (by simpa [AC.names] using hx)
  show (β' (rn s t s')=none∧_)∨_
  rw [e]
  exact h
 |fn f caps =>
  obtain ⟨vs,h1,h2⟩:=h
  refine ⟨vs,h1,All2.map _ (h2.mono_names (nm:=Cap.names) fun c u hc hr=>Cap.Rep.ren hβ ?_ hr)⟩
  simp only [AC.names,List.any_eq_false] at hx
  cases hn:c.names t with
  |false=>rfl
  |true=>exact absurd hn (hx c hc)
 |_=>exact h
theorem A1.Rep.ren {x:A1} {v:Value} (hx:x.names t=false) (h:x.Rep w S β v):(x.ren s t).Rep w S β' v:=by
 cases x with
 |one a=>exact AC.Rep.ren hβ hx h
 |agg cs =>
  obtain ⟨vs,h1,h2⟩:=h
  refine ⟨vs,h1,All2.map _ (h2.mono_names (nm:=AC.names) fun c u hc hr=>AC.Rep.ren hβ ?_ hr)⟩
  simp only [A1.names,List.any_eq_false] at hx
  cases hn:c.names t with
  |false=>rfl
  |true=>exact absurd hn (hx c hc)
theorem AV.Rep.ren {x:AV} {v:Value} (hx:x.names t=false) (h:x.Rep w S β v):(x.ren s t).Rep w S β' v:=by
 cases x with
 |v y=>exact A1.Rep.ren hβ hx h
 |tup l =>
  obtain ⟨vs,h1,h2⟩:=h
  refine ⟨vs,h1,All2.map _ (h2.mono_names (nm:=A1.names) fun c u hc hr=>A1.Rep.ren hβ ?_ hr)⟩
  simp only [AV.names,List.any_eq_false] at hx
  cases hn:c.names t with
  |false=>rfl
  |true=>exact absurd hn (hx c hc)
 |bad=>trivial
end
theorem AC.kill_no (t:Nat) (x:AC):(x.kill t).names t=false:=by
 cases h:(x.kill t).names t with
 |false=>rfl
 |true=>exact absurd rfl (AC.kill_names t t x h).2
theorem A1.kill_no (t:Nat) (x:A1):(x.kill t).names t=false:=by
 cases x with
 |one a=>exact AC.kill_no t a
 |agg cs =>
  simp only [A1.kill,A1.names,List.any_map,List.any_eq_false,Function.comp]
  intro c _
  rw [AC.kill_no]
  simp
theorem AV.kill_no (t:Nat) (x:AV):(x.kill t).names t=false:=by
 cases x with
 |v y=>exact A1.kill_no t y
 |tup l =>
  simp only [AV.kill,AV.names,List.any_map,List.any_eq_false,Function.comp]
  intro c _
  rw [A1.kill_no]
  simp
 |bad=>rfl
theorem Sim.ren {G:Gh} {β:Nat→Option Nat} {S:Nat→Prop} {st:St} {a:Act} {w:World} (h:Sim G β S st a w) (s t:Nat) (ht:t < G.n0) (hne:s ≠ t):∃ β',Sim G β' S ((st.kill t).ren s t) a w:=by
 have hβ:∀ x,x ≠ t→(fun x=>if x=t then β s else β x) (rn s t x)=β x:=by
  intro x hx
  unfold rn
  by_cases e:x=s
  ·subst e; simp
  ·have hb:(x == s)=false:=by simpa using e
   rw [hb]; simp [hx]
 have hin:∀ s' o,(s',o) ∈ ((st.kill t).ren s t).obs→∃ s0 o0,(s0,o0) ∈ st.obs∧s0 ≠ t∧s'=rn s t s0∧o=(o0.kill t).ren s t:=by
  intro s' o hm
  obtain ⟨⟨s1,o1⟩,h1,h2⟩:=List.mem_map.1 hm
  injection h2 with h2 h3
  obtain ⟨o0,h4,h5,h6⟩:=Z2u t st.obs s1 o1 h1
  exact ⟨s1,o0,h4,h6,h2.symm,by rw [← h3,h5]⟩
 refine ⟨fun x=>if x=t then β s else β x,h.defers, ?_,fun s' o b hm hb=>?_,fun s' o hm hb=>?_,fun s1 o1 s2 o2 b m1 m2 e1 e2=>?_,h.lt,h.s0,h.size,h.old,h.os,h.tape,h.output,fun s' b hm=>?_,h.src,h.sh⟩
 ·refine All2.map _ (All2.map _ (h.fr.imp fun x v hx=>AV.Rep.ren hβ (AV.kill_no t x) (AV.Rep.kill (β':=β) (fun _ hb=>hb) (Zj3.refl _ _) (Zj4.refl _) t (fun _ _=>rfl) x v hx)))
 ·obtain ⟨s0,o0,h1,h2,rfl,rfl⟩:=hin s' o hm
  have hb:=(hβ s0 h2).symm.trans hb
  obtain ⟨g1,g2,g3⟩:=h.ob s0 o0 b h1 hb
  refine ⟨?_,g2,g3⟩
  cases o0 with
  |var cells =>
   obtain ⟨vs,ty,k1,k2⟩:=g1
   exact ⟨vs,ty,k1,All2.map _ (All2.map _ (k2.imp fun x v hx=>AC.Rep.ren hβ (AC.kill_no t x) (AC.Rep.kill (β':=β) (fun _ hb=>hb) (Zj3.refl _ _) (Zj4.refl _) t (fun _ _=>rfl) x v hx)))⟩
  |arr sz rows more=>exact g1
 ·obtain ⟨s0,o0,h1,h2,rfl,rfl⟩:=hin s' o hm
  have hb:=(hβ s0 h2).symm.trans hb
  have:=h.out s0 o0 h1 hb
  cases o0 with
  |var cells=>exact this
  |arr sz rows more=>exact this
 ·obtain ⟨p1,q1,a1,a2,rfl,rfl⟩:=hin s1 o1 m1
  obtain ⟨p2,q2,c1,c2,rfl,rfl⟩:=hin s2 o2 m2
  have e1:=(hβ p1 a2).symm.trans e1
  have e2:=(hβ p2 c2).symm.trans e2
  rw [h.inj p1 q1 p2 q2 b a1 c1 e1 e2]
 ·obtain ⟨h1,h2⟩:=h.par s' b hm
  refine ⟨h1, ?_⟩
  have:s' ≠ t:=by omega
  simp only [this,if_false]
  exact h2
def keepFr (ks:List Nat):Nat→List AV→List AV
 |_,[]=>[]
 |i,x::xs=>(bif ks.contains i then x else .bad)::keepFr ks (i+1) xs
theorem keepFr_rep {w:World} {S:Nat→Prop} {β:Nat→Option Nat} {ks:List Nat}:∀ {xs:List AV} {vs:List Value} {i:Nat},All2 (AV.Rep w S β) xs vs→All2 (AV.Rep w S β) (keepFr ks i xs) vs
 |[],[],_,_=>trivial
 |x::xs,v::vs,i,h=>by
  refine ⟨?_,keepFr_rep h.2⟩
  cases ks.contains i with
  |true=>exact h.1
  |false=>trivial
 |[],_::_,_,h=>h.elim
 |_::_,[],_,h=>h.elim
def keepObs (l:List (Nat × Ob)):List Nat→Option (List (Nat × Ob))
 |[]=>some []
 |s::r=>match Zjf s l,keepObs l r with
  |some o,some q=>some ((s,o)::q)
  |_,_=>none
theorem keepObs_mem {l:List (Nat × Ob)}:∀ {r:List Nat} {q:List (Nat × Ob)},keepObs l r=some q→∀ s o,(s,o) ∈ q→(s,o) ∈ l
 |[],q,h,s,o,hm=>by simp only [keepObs,yn] at h; subst h; cases hm
 |s0::r,q,h,s,o,hm=>by
  simp only [keepObs] at h
  split at h
  ·rename_i o0 q0 h1 h2
   simp only [yn] at h
   subst h
   rcases List.mem_cons.1 hm with e | hm
   ·rw [e]; exact Z22 _ _ _ h1
   ·exact keepObs_mem h2 s o hm
  ·cases h
inductive Adj where
  /-- an array object is only read from now on -/
  | fz (s:Nat)
  /-- a slot,an object,told in other words -/
  | slot (i:Nat) (y:AV)
  | ob (s:Nat) (o:Ob)
  /-- a slot that holds nil: an own array that is not there -/
  | new (s sz i:Nat)
  /-- likewise,a cell of an object -/
  | newc (s sz s0 k:Nat)
  /-- likewise,a cell of a struct in a slot -/
  | newa (s sz i k:Nat)
  /-- another name -/
  | ren (s t:Nat)
  /-- only these slots and objects are known from now on -/
  | keep (ks os:List Nat)
def adj1 (n0:Nat) (st:St):Adj→Option (St × List Prop)
 |.fz s=>match Zjf s st.obs with
  |some (.arr sz rows _)=>some (st.fz s sz rows,st.fzP s sz rows)
  |_=>none
 |.slot i y=>(st.fr[i]?).map fun x=>({ st with fr:=st.fr.set i y },[AV.Le x y])
 |.ob s o=>(Zjf s st.obs).map fun x=>({ st with obs:=setOb s o st.obs },[Ob.Le x o])
 |.new s sz i=>match st.fr[i]? with
  |some (.v (.one p))=>bif Zjv p && Nat.blt s n0 && Nat.blt 0 sz then some ({ fr:=(st.fr.map (AV.kill s)).set i (.v (.one (.vw s sz 0 0))),obs:=(s,.arr sz [] true)::Zjh s st.obs },[]) else none
  |_=>none
 |.newa s sz i k=>match st.fr[i]? with
  |some (.v (.agg cs))=>match cs[k]? with
   |some p=>bif Zjv p && Nat.blt s n0 && Nat.blt 0 sz then some ({ fr:=(st.fr.map (AV.kill s)).set i (.v (.agg ((cs.map (AC.kill s)).set k (.vw s sz 0 0)))),obs:=(s,.arr sz [] true)::Zjh s st.obs },[]) else none
   |none=>none
  |_=>none
 |.ren s t=>bif Nat.blt t n0 && !(s == t) then some ((st.kill t).ren s t,[]) else none
 |.keep ks os=>(keepObs st.obs os).map fun q=>({ fr:=keepFr ks 0 st.fr,obs:=q },[])
 |.newc s sz s0 k=>match Zjf s0 st.obs with
  |some (.var cells)=>match cells[k]? with
   |some p=>bif Zjv p && Nat.blt s n0 && Nat.blt 0 sz && !(s0 == s) then some ({ fr:=st.fr.map (AV.kill s),obs:=(s,.arr sz [] true)::setOb s0 (.var ((cells.map (AC.kill s)).set k (.vw s sz 0 0))) (Zjh s st.obs) },[]) else none
   |none=>none
  |_=>none
theorem Zdn (s s0:Nat) (hne:s0 ≠ s):∀ (l:List (Nat × Ob)) (o:Ob),Zjf s0 l=some o→Zjf s0 (Zjh s l)=some (o.kill s)
 |[],o,h=>by simp [Zjf] at h
 |(s1,o1)::r,o,h=>by
  unfold Zjf at h
  unfold Zjh
  by_cases e:s1=s
  ·subst e
   have hb:(s1 == s0)=false:=by simpa using Ne.symm hne
   rw [hb] at h
   simp only [beq_self_eq_true,cond_true]
   exact Zdn s1 s0 hne r o h
  ·have hb:(s1 == s)=false:=by simpa using e
   rw [hb]
   simp only [cond_false]
   unfold Zjf
   by_cases e2:s1=s0
   ·subst e2
    simp at h ⊢
    rw [h]
   ·have hb2:(s1 == s0)=false:=by simpa using e2
    rw [hb2] at h ⊢
    exact Zdn s s0 hne r o h
theorem adj1_sim {G:Gh} {β:Nat→Option Nat} {S:Nat→Prop} {st st':St} {a:Act} {w:World} {x:Adj} {ps:List Prop} (hs:Sim G β S st a w) (h:adj1 G.n0 st x=some (st',ps)) (hp:AllP ps):∃ β' S',Sim G β' S' st' a w:=by
  cases x with
  | fz s =>
    simp only [adj1] at h
    split at h
    · rename_i sz rows more hg
      simp only [yn,yt] at h
      obtain ⟨rfl,rfl⟩:=h
      exact ⟨_,_,hs.fz s sz rows more (Z22 _ _ _ hg) hp⟩
    · cases h
  | slot i y =>
    simp only [adj1,ym,yt] at h
    obtain ⟨x,hx,rfl,rfl⟩:=h
    refine ⟨β,S,hs.less (fun hf=>?_) fun s o ho=>⟨o,ho,Ob.Le.refl o⟩⟩
    obtain ⟨v,hv,hr⟩:=hf.get i x hx
    have:=hf.set i (hp.1 _ _ _ _ hr)
    rwa [show a.tmps.toList.set i v=a.tmps.toList from by
      apply jr
      intro j
      by_cases e:i=j
      · subst e; rw [uz (List.getElem?_eq_some_iff.1 hv).1,hv]
      · rw [jo e]] at this
  | ob s o =>
    simp only [adj1,ym,yt] at h
    obtain ⟨x,hx,rfl,rfl⟩:=h
    refine ⟨β,S,hs.less id fun s' o' ho=>?_⟩
    rcases Z6b s o st.obs s' o' ho with ⟨rfl,rfl,_⟩ | ⟨_,h1⟩
    · exact ⟨x,Z22 _ _ _ hx,hp.1⟩
    · exact ⟨o',h1,Ob.Le.refl o'⟩
  | new s sz i =>
    simp only [adj1] at h
    split at h
    · rename_i p hi
      cases hc:(Zjv p && Nat.blt s G.n0 && Nat.blt 0 sz) with
      | false=>rw [hc] at h; cases h
      | true =>
        rw [hc] at h
        simp only [yx,zh] at hc
        obtain ⟨⟨hr,hs0⟩,hpos⟩:=hc
        simp only [cond_true,yn,yt] at h
        obtain ⟨rfl,rfl⟩:=h
        obtain ⟨β',q1,q2,q3⟩:=hs.none s hs0 (.arr sz [] true) ⟨rfl,rfl,hpos⟩
        refine ⟨β',S,q3.less (fun hf=>?_) fun s o ho=>⟨o,ho,Ob.Le.refl o⟩⟩
        obtain ⟨v,hv,hrep⟩:=hs.fr.get i _ hi
        obtain ⟨ad,hv'⟩:=Zc9 hr hrep
        have:=hf.set i (a:=.v (.one (.vw s sz 0 0))) (b:=v) (.inl ⟨q1,rfl,rfl,ad,hv'⟩)
        rwa [show a.tmps.toList.set i v=a.tmps.toList from by
          apply jr
          intro j
          by_cases e:i=j
          · subst e; rw [uz (List.getElem?_eq_some_iff.1 hv).1,hv]
          · rw [jo e]] at this
    · cases h
  | newa s sz i k =>
    simp only [adj1] at h
    split at h
    · rename_i cs hi
      split at h
      · rename_i p hk
        cases hc:(Zjv p && Nat.blt s G.n0 && Nat.blt 0 sz) with
        | false=>rw [hc] at h; cases h
        | true =>
          rw [hc] at h
          simp only [yx,zh] at hc
          obtain ⟨⟨hr,hs0⟩,hpos⟩:=hc
          simp only [cond_true,yn,yt] at h
          obtain ⟨rfl,rfl⟩:=h
          obtain ⟨β',q1,q2,q3⟩:=hs.none s hs0 (.arr sz [] true) ⟨rfl,rfl,hpos⟩
          refine ⟨β',S,q3.less (fun hf=>?_) fun s o ho=>⟨o,ho,Ob.Le.refl o⟩⟩
          obtain ⟨v,hv,hrep⟩:=hs.fr.get i _ hi
          obtain ⟨vs,rfl,hcs⟩:∃ vs:Array Value,v=.agg vs∧All2 (AC.Rep w S β) cs vs.toList:=hrep
          obtain ⟨u,hu,hru⟩:=hcs.get k p hk
          obtain ⟨ad,hu'⟩:=Zc9 hr hru
          obtain ⟨v2,hv2,hrep2⟩:=hf.get i (AV.kill s (.v (.agg cs))) (by show (st.fr.map (AV.kill s))[i]? = _; rw [qa,hi]; rfl)
          have ev:v2=.agg vs:=by rw [hv] at hv2; injection hv2 with e; exact e.symm
          subst ev
          obtain ⟨vs2,e2,hcs2⟩:∃ vs2:Array Value,Value.agg vs=.agg vs2∧All2 (AC.Rep w S β') (cs.map (AC.kill s)) vs2.toList:=hrep2
          injection e2 with e2
          subst e2
          have hset:=hcs2.set k (a:=.vw s sz 0 0) (b:=u) (.inl ⟨q1,rfl,rfl,ad,hu'⟩)
          rw [show vs.toList.set k u=vs.toList from by
            apply jr
            intro j
            by_cases e:k=j
            · subst e; rw [uz (List.getElem?_eq_some_iff.1 hu).1,hu]
            · rw [jo e]] at hset
          have:=hf.set i (a:=.v (.agg ((cs.map (AC.kill s)).set k (.vw s sz 0 0)))) (b:=.agg vs) ⟨vs,rfl,hset⟩
          rwa [show a.tmps.toList.set i (.agg vs)=a.tmps.toList from by
            apply jr
            intro j
            by_cases e:i=j
            · subst e; rw [uz (List.getElem?_eq_some_iff.1 hv).1,hv]
            · rw [jo e]] at this
      · cases h
    · cases h
  | ren s t =>
    simp only [adj1] at h
    cases hc:(Nat.blt t G.n0 && !(s == t)) with
    | false=>rw [hc] at h; cases h
    | true =>
      rw [hc] at h
      simp only [yx,zh,qj,beq_eq_false_iff_ne] at hc
      simp only [cond_true,yn,yt] at h
      obtain ⟨rfl,rfl⟩:=h
      obtain ⟨β',hs'⟩:=hs.ren s t hc.1 hc.2
      exact ⟨β',S,hs'⟩
  | keep ks os =>
    simp only [adj1,ym,yt] at h
    obtain ⟨q,hq,rfl,rfl⟩:=h
    exact ⟨β,S,hs.less (fun hf=>keepFr_rep hf) fun s o hm=>⟨o,keepObs_mem hq s o hm,Ob.Le.refl o⟩⟩
  | newc s sz s0 k =>
    simp only [adj1] at h
    split at h
    · rename_i cells hg
      split at h
      · rename_i p hk
        cases hc:(Zjv p && Nat.blt s G.n0 && Nat.blt 0 sz && !(s0 == s)) with
        | false=>rw [hc] at h; cases h
        | true =>
          rw [hc] at h
          simp only [yx,zh,qj,beq_eq_false_iff_ne] at hc
          obtain ⟨⟨⟨hr,hs0⟩,hpos⟩,hne⟩:=hc
          simp only [cond_true,yn,yt] at h
          obtain ⟨rfl,rfl⟩:=h
          obtain ⟨β',q1,q2,q3⟩:=hs.none s hs0 (.arr sz [] true) ⟨rfl,rfl,hpos⟩
          refine ⟨β',S, ?_⟩
          have hm0:=Z22 _ _ _ hg
          -- the object s0 is there
          cases hb0:β s0 with
          | none=>exact (hs.out s0 _ hm0 hb0).elim
          | some b0 =>
            have hkill:=Z22 _ _ _ (Zdn s s0 hne _ _ hg)
            have hb0':β' s0=some b0:=by rw [q2 s0 hne]; exact hb0
            have hob:=hs.ob s0 _ b0 hm0 hb0
            obtain ⟨⟨vs,t,hh,hcs⟩,_,_⟩:=hob
            obtain ⟨u,hu,hru⟩:=hcs.get k p hk
            obtain ⟨ad,hu'⟩:=Zc9 hr hru
            have hq:=(q3.ob s0 _ b0 (ut _ hkill) hb0').1
            obtain ⟨vs2,t2,hh2,hcs2⟩:=hq
            rw [hh] at hh2
            injection hh2 with hh2
            injection hh2 with e1 e2 e3
            subst e1 e2
            refine ⟨q3.defers,q3.fr,fun s' o b ho hb=>?_,fun s' o ho hb=>?_,fun s1 o1 s2 o2 b m1 m2 e1 e2=>?_,q3.lt,q3.s0,q3.size,q3.old,q3.os,q3.tape,q3.output,q3.par,q3.src,q3.sh⟩
            · rcases List.mem_cons.1 ho with e | ho
              · injection e with e1 e2; subst e1 e2
                exact q3.ob _ _ b (List.mem_cons.2 (.inl rfl)) hb
              · rcases Z6b s0 _ _ s' o ho with ⟨rfl,rfl,_⟩ | ⟨_,h1⟩
                · rw [hb0'] at hb; injection hb with hb; subst hb
                  refine ⟨⟨vs,t,hh, ?_⟩,(q3.ob s' _ b0 (ut _ hkill) hb0').2⟩
                  have:=hcs2.set k (a:=.vw s sz 0 0) (b:=u) (.inl ⟨q1,rfl,rfl,ad,hu'⟩)
                  rwa [show vs.toList.set k u=vs.toList from by
                    apply jr
                    intro j
                    by_cases e:k=j
                    · subst e; rw [uz (List.getElem?_eq_some_iff.1 hu).1,hu]
                    · rw [jo e]] at this
                · exact q3.ob s' o b (ut _ h1) hb
            · rcases List.mem_cons.1 ho with e | ho
              · injection e with e1 e2; subst e1 e2
                exact q3.out _ _ (List.mem_cons.2 (.inl rfl)) hb
              · rcases Z6b s0 _ _ s' o ho with ⟨rfl,rfl,_⟩ | ⟨_,h1⟩
                · rw [hb0'] at hb; cases hb
                · exact q3.out s' o (ut _ h1) hb
            · have key:∀ s' o',(s',o') ∈ (s,Ob.arr sz [] true)::setOb s0 (.var ((cells.map (AC.kill s)).set k (.vw s sz 0 0))) (Zjh s st.obs)→∃ o,(s',o) ∈ (s,Ob.arr sz [] true)::Zjh s st.obs:=by
                intro s' o' hm'
                rcases List.mem_cons.1 hm' with e | hm'
                · exact ⟨_,List.mem_cons.2 (.inl e)⟩
                · rcases Z6b s0 _ _ s' o' hm' with ⟨rfl,_,o'',h1⟩ | ⟨_,h1⟩
                  · exact ⟨o'',ut _ h1⟩
                  · exact ⟨o',ut _ h1⟩
              obtain ⟨p1,h1⟩:=key _ _ m1
              obtain ⟨p2,h2⟩:=key _ _ m2
              exact q3.inj _ _ _ _ b h1 h2 e1 e2
      · cases h
    · cases h
def adjs (n0:Nat):List Adj→St→Option (St × List Prop)
 |[],st=>some (st,[])
 |x::r,st=>(adj1 n0 st x).bind fun p=>(adjs n0 r p.1).map fun q=>(q.1,p.2++q.2)
theorem Z5w {G:Gh} {a:Act} {w:World}:∀ {l:List Adj} {β:Nat→Option Nat} {S:Nat→Prop} {st st':St} {ps:List Prop},Sim G β S st a w→adjs G.n0 l st=some (st',ps)→AllP ps→∃ β' S',Sim G β' S' st' a w
 |[],β,S,st,_,_,hs,h,_=>by simp only [adjs,yn,yt] at h; obtain ⟨rfl,rfl⟩:=h; exact ⟨β,S,hs⟩
 |x::r,β,S,st,st',ps,hs,h,hp=>by
  simp only [adjs,yo,ym,yt] at h
  obtain ⟨⟨st1,ps1⟩,h1,⟨st2,ps2⟩,h2,rfl,rfl⟩:=h
  rw [AllP.append] at hp
  obtain ⟨β1,S1,hs1⟩:=adj1_sim hs h1 hp.1
  exact Z5w hs1 h2 hp.2
structure OpH where
 pre:List Adj:=[]
 want:Bool:=true
 h:Hint:=.none
 cast:Option AV:=none
 post:List Adj:=[]
def castV (y:AV):Option AV→AV × List Prop
 |none=>(y,[])
 |some z=>(z,[AV.Le y z])
theorem Z99 {y z:AV} {c:Option AV} {ps:List Prop} (h:castV y c=(z,ps)) (hp:AllP ps):AV.Le y z:=by
 cases c with
 |none=>simp only [castV,yt] at h; exact .of_eq h.1
 |some z'=>simp only [castV,yt] at h; obtain ⟨rfl,rfl⟩:=h; exact hp.1
def qTold (P:Program) (st:St) (o:Oper) (v:Value):Option (AV × List Prop):=(flatSem P st o).bind fun s=>(AV.ofV v).map fun y=>(y,[Zjs P s=some v])
theorem qTold_wp {P:Program} {G:Gh} {o:Oper} {st:St} {v:Value} {y:AV} {ps:List Prop} (h:qTold P st o v=some (y,ps)) (hp:AllP ps):OpWp P G o st y st:=by
 simp only [qTold,yo,ym,yt] at h
 obtain ⟨s,hs,y',hy,rfl,rfl⟩:=h
 refine op_flat ?_
 unfold flatOp
 rw [hs,vo,hp.1,vo,hy]
def qPick (st:St) (o:Oper) (b:Bool):Option (AV × List Prop) :=
 match o.op with
 |.pick c x y=>match Zjd st c with
  |some (.v (.one (.d (.bool v))))=>(Zjd st (bif b then x else y)).map fun z=>(z,[v=b])
  |_=>none
 |_=>none
theorem qPick_wp {P:Program} {G:Gh} {o:Oper} {st:St} {b:Bool} {y:AV} {ps:List Prop} (h:qPick st o b=some (y,ps)) (hp:AllP ps):OpWp P G o st y st:=by
 unfold qPick at h
 split at h
 ·rename_i c x z ho
  split at h
  ·rename_i v hv
   simp only [ym,yt] at h
   obtain ⟨y',hy,rfl,rfl⟩:=h
   obtain ⟨rfl,_⟩:=hp
   refine OpWp.of_value fun β S a w hs=>?_
   have hc:a.eval c=.bool v:=by have:=Z0p hs hv; simpa only [AV.Rep,A1.Rep,AC.Rep,C.Rep] using this
   refine ⟨β,S,a.eval (bif v then x else z),w, ?_,Z0p hs hy,hs⟩
   unfold execOp
   rw [ho]
   simp only [hc,asBool]
   cases v <;> rfl
  ·cases h
 ·cases h
def qCall (P:Program) (st:St) (o:Oper) (fres:List PV):Option (AV × List Prop) :=
 match o.op with
 |.call c=>match c.callee with
  |.value g=>match oneA st g with
   |some (.fn f caps)=>(Zje st c.args.toList).bind fun xs=>(P.funcs[f]?).bind fun fn=>(Zjj st.obs (xs++caps.map Cap.av)).bind fun l =>
    (onlyV (PVs.enter fres 0).1).bind fun ys =>
    bif !(fn.name == "runtime.NumGoroutine") && !fn.body.isNone && l.2.1.isEmpty && (PVs.enter fres 0).2.1.isEmpty && (PVs.enter fres 0).2.2 == 0 && (Zjo (xs++caps.map Cap.av)).isEmpty then
     some (tupA ys,Ziz P f l.1 fres::l.2.2)
    else none
   |_=>none
  |_=>none
 |_=>none
theorem killp_id {p:Nat→Bool} (h:∀ s,p s=false):AV.killp p=id:=by
 have c0:∀ c:Cap,c.nm p=false:=by intro c; cases c <;> simp [Cap.nm,h]
 have c1:∀ x:AC,x.nm p=false:=by intro x; cases x <;> simp [AC.nm,h]; intro c _; exact c0 c
 have c2:∀ x:AC,x.killp p=x:=by intro x; unfold AC.killp; rw [c1]; rfl
 have c3:AC.killp p=id:=by funext x; exact c2 x
 have c4:A1.killp p=id:=by funext x; cases x <;> simp [A1.killp,c3]
 funext x
 cases x <;> simp [AV.killp,c4]
theorem restObs_id {p:Nat→Bool} (h:∀ s,p s=false):∀ l:List (Nat × Ob),Zju p [] l=l
 |[]=>rfl
 |(s,o)::r=>by
  have c0:∀ c:Cap,c.nm p=false:=by intro c; cases c <;> simp [Cap.nm,h]
  have c1:∀ x:AC,x.nm p=false:=by intro x; cases x <;> simp [AC.nm,h]; intro c _; exact c0 c
  have c3:AC.killp p=id:=by funext x; unfold AC.killp; rw [c1]; rfl
  unfold Zju
  rw [h s]
  simp only [List.contains_nil,Bool.or_self,cond_false,restObs_id h r]
  cases o <;> simp [Ob.killp,c3]
theorem qCall_wp {P:Program} {G:Gh} {o:Oper} {st:St} {fres:List PV} {y:AV} {ps:List Prop} (h:qCall P st o fres=some (y,ps)) (hp:AllP ps):OpWp P G o st y st:=by
 unfold qCall at h
 split at h
 ·rename_i c ho
  split at h
  ·rename_i g hc
   split at h
   ·rename_i f caps hg
    simp only [yo] at h
    obtain ⟨xs,hxs,fn,hfn,⟨pargs,ss,qs⟩,hl,ys,hys,h⟩:=h
    generalize hcc : (!(fn.name == "runtime.NumGoroutine") && !fn.body.isNone && ss.isEmpty && (PVs.enter fres 0).2.1.isEmpty && (PVs.enter fres 0).2.2 == 0 && (Zjo (xs++caps.map Cap.av)).isEmpty) = bb at h
    cases bb with
    |false=>cases h
    |true =>
     simp only [yx,qj,beq_iff_eq,List.isEmpty_iff] at hcc
     obtain ⟨⟨⟨⟨⟨c1,c2⟩,c3⟩,c4⟩,c5⟩,c6⟩:=hcc
     simp only [cond_true,yn,yt] at h
     obtain ⟨rfl,rfl⟩:=h
     subst c3
     have:=op_call (G:=G) (fobjs:=[]) 0 ho hc (Z2t hg) hxs hfn c1 c2 hl hp.2 wh (by simpa using hp.1) (fun p hp=>by cases hp) (by rw [c6]; rfl) (by simp [Zjq,c5]) (by rw [c5]; exact wh) hys
     have e:callSt st [] (Zjo (xs++caps.map Cap.av)) 0 fres []=st:=by
      have hgone:∀ s,gone [] [] 0 0 s=false:=by intro s; unfold gone; simp only [List.contains_nil,qm,Bool.false_or]; rw [show Nat.blt s 0=false from by cases h:Nat.blt s 0 with | false=>rfl | true=>(rw [zh] at h; omega)]; simp
      unfold callSt
      simp only [c6,c4,c5,Zjq,uo]
      rw [killp_id hgone,restObs_id hgone]
      simp
     rw [e] at this
     exact this
   ·cases h
  ·cases h
 ·cases h
def flatO:OC→Option AC
 |.dat c=>bif c.flat then some (.d c) else none
 |_=>none
def flatP:PV→Option A1
 |.v (.one a)=>(flatO a).map .one
 |.v (.agg cs)=>(Zj6 flatO cs).map .agg
 |_=>none
theorem flatO_rep {w w':World} {F S:Nat→Prop} {β:Nat→Option Nat} {c:OC} {x:AC} {v:Value} {bs:List (Option Nat)} (h:flatO c=some x) (hr:c.Rep w F v bs):x.Rep w' S β v∧bs=[]:=by
 cases c with
 |dat c =>
  simp only [flatO] at h
  cases hf:c.flat with
  |false=>rw [hf] at h; cases h
  |true =>
   rw [hf] at h
   simp only [cond_true,yn] at h
   subst h
   exact ⟨C.Rep.flat hf hr.2,hr.1⟩
 |_=>simp [flatO] at h
theorem flatOs_rep {w w':World} {F S:Nat→Prop} {β:Nat→Option Nat}:∀ {cs:List OC} {xs:List AC} {vs:List Value} {bs:List (Option Nat)},Zj6 flatO cs=some xs→OCs.Rep w F cs vs bs→All2 (AC.Rep w' S β) xs vs∧bs=[]
 |[],_,[],_,h,hr=>by simp only [Zj6,yn] at h; subst h; exact ⟨trivial,hr⟩
 |c::cs,_,v::vs,_,h,hr=>by
  simp only [Zj6] at h
  split at h
  ·rename_i x xs h1 h2
   injection h with h
   subst h
   obtain ⟨b1,b2,rfl,k1,k2⟩:=hr
   obtain ⟨m1,m2⟩:=flatO_rep (w':=w') (S:=S) (β:=β) h1 k1
   obtain ⟨n1,n2⟩:=flatOs_rep h2 k2
   exact ⟨⟨m1,n1⟩,by rw [m2,n2]; rfl⟩
  ·cases h
 |[],_,_::_,_,_,hr=>hr.elim
 |_::_,_,[],_,_,hr=>hr.elim
theorem flatP_rep {w w':World} {F S:Nat→Prop} {β:Nat→Option Nat} {c:PV} {x:A1} {v:Value} {bs:List (Option Nat)} (h:flatP c=some x) (hr:c.Rep w F v bs):x.Rep w' S β v∧bs=[]:=by
 unfold flatP at h
 split at h
 ·simp only [ym] at h
  obtain ⟨x',h1,rfl⟩:=h
  exact flatO_rep (w':=w') (S:=S) (β:=β) h1 hr
 ·simp only [ym] at h
  obtain ⟨x',h1,rfl⟩:=h
  obtain ⟨vs,hv,hr⟩:=hr
  obtain ⟨k1,k2⟩:=flatOs_rep (w':=w') (S:=S) (β:=β) h1 hr
  exact ⟨⟨vs,hv,k1⟩,k2⟩
 ·cases h
theorem flatPs_rep {w w':World} {F S:Nat→Prop} {β:Nat→Option Nat}:∀ {cs:List PV} {xs:List A1} {vs:List Value} {bs:List (Option Nat)},Zj6 flatP cs=some xs→PVs.Rep w F cs vs bs→All2 (A1.Rep w' S β) xs vs
 |[],_,[],_,h,hr=>by simp only [Zj6,yn] at h; subst h; trivial
 |c::cs,_,v::vs,_,h,hr=>by
  simp only [Zj6] at h
  split at h
  ·rename_i x xs h1 h2
   injection h with h
   subst h
   obtain ⟨b1,b2,rfl,k1,k2⟩:=hr
   exact ⟨(flatP_rep (w':=w') (S:=S) (β:=β) h1 k1).1,flatPs_rep h2 k2⟩
  ·cases h
 |[],_,_::_,_,_,hr=>hr.elim
 |_::_,_,[],_,_,hr=>hr.elim
def qLend (P:Program) (st:St) (o:Oper) (fres:List PV):Option (AV × List Prop) :=
 match o.op with
 |.call c=>match c.callee with
  |.value g=>match oneA st g with
   |some (.fn f caps)=>(Zje st c.args.toList).bind fun xs=>(P.funcs[f]?).bind fun fn=>(lendVs st.obs (xs++caps.map Cap.av)).bind fun l=>(Zj6 flatP fres).bind fun ys =>
    bif !(fn.name == "runtime.NumGoroutine") && !fn.body.isNone then some (tupA ys,Ziz P f l.1 fres :: l.2) else none
   |_=>none
  |_=>none
 |_=>none
theorem qLend_wp {P:Program} {G:Gh} {o:Oper} {st:St} {fres:List PV} {y:AV} {ps:List Prop} (h:qLend P st o fres=some (y,ps)) (hp:AllP ps):OpWp P G o st y st:=by
 unfold qLend at h
 split at h
 ·rename_i c ho
  split at h
  ·rename_i g hc
   split at h
   ·rename_i f caps hg
    simp only [yo] at h
    obtain ⟨xs,hxs,fn,hfn,⟨pargs,qs⟩,hl,ys,hys,h⟩:=h
    generalize hcc : (!(fn.name == "runtime.NumGoroutine") && !fn.body.isNone) = bb at h
    cases bb with
    |false=>cases h
    |true =>
     simp only [yx,qj] at hcc
     simp only [cond_true,yn,yt] at h
     obtain ⟨rfl,rfl⟩:=h
     intro β S a w hs next Q k
     obtain ⟨cv,hcv,hcaps⟩:∃ vs:Array Value,a.eval g=.func (.func f) #[] vs∧All2 (Cap.Rep w S β) caps vs.toList:=Z0p hs (Z2t hg)
     have hargs:All2 (AV.Rep w S β) (xs++caps.map Cap.av) (c.args.toList.map a.eval++cv.toList):=by
      refine (Z96 hs hxs).append (All2.map _ (hcaps.imp fun cc v h=>?_))
      cases cc <;> exact h
     have hrun:=Zd6 (w:=w) ho hc hcv hfn hcc.1 hcc.2
     unfold Oper.wp
     rw [hrun,Oper.upon_enter]
     obtain ⟨hrep,hptr⟩:=Zfs hs hl hp.2 hargs
     have hcall:=hp.1 w _ (fun b=>S b∨∃ s o,(s,o) ∈ st.obs∧β s=some b) [] (fun b hb=>by
      rcases hb with hb | ⟨s,o',hm,hb⟩
      ·exact hs.lt b hb
      ·exact (hs.ob s o' b hm hb).1.lt) hrep trivial (fun b hb=>by cases hb)
     have hvs:c.args.map a.eval++cv=(c.args.toList.map a.eval++cv.toList).toArray:=by
      apply zi
      simp
     rw [hvs]
     refine Z3j hcall fun e w' post=>?_
     rw [hptr] at post
     obtain ⟨vres,F',bs',rfl,hfin,_,_,_,_,hold,hsize,hos,htape,hout,hsh⟩:=post
     rw [xm] at hfin
     show next (a.put o.dst (Zk0 vres)) w'
     refine k β S _ w' (Zfu (flatPs_rep (w':=w') (S:=S) (β:=β) hys hfin)) (hs.grow (fun b hb=>hold b hb (by simp)) hsize hos htape hout hsh)
   ·cases h
  ·cases h
 ·cases h
def Ziy (P:Program) (f:FuncId) (args:Array Value) (v:Value):Prop:=∀ w,(callFunc f args).run P w=.ok (.value v) w
def qExt (P:Program) (st:St) (o:Oper) (v:Value):Option (AV × List Prop) :=
 match o.op with
 |.call c=>match c.callee with
  |.value g=>match oneA st g with
   |some (.fn f [])=>(Zj6 (flatV st) c.args.toList).bind fun vs=>(AV.ofV v).map fun y=>(y,[Ziy P f vs.toArray v])
   |_=>none
  |_=>none
 |_=>none
theorem qExt_wp {P:Program} {G:Gh} {o:Oper} {st:St} {v:Value} {y:AV} {ps:List Prop} (h:qExt P st o v=some (y,ps)) (hp:AllP ps):OpWp P G o st y st:=by
 unfold qExt at h
 split at h
 ·rename_i c ho
  split at h
  ·rename_i g hc
   split at h
   ·rename_i f hg
    simp only [yo,ym,yt] at h
    obtain ⟨vs,hvs,y',hy,rfl,rfl⟩:=h
    refine OpWp.of_value fun β S a w hs=>?_
    obtain ⟨caps,hgv,hcaps⟩:∃ caps:Array Value,a.eval g=.func (.func f) #[] caps∧caps=#[]:=by
     have:=Z0p hs (Z2t hg)
     simp only [AV.Rep,A1.Rep,AC.Rep] at this
     obtain ⟨caps,h1,h2⟩:=this
     refine ⟨caps,h1, ?_⟩
     have:caps.toList=[]:=by
      cases hl:caps.toList with
      |nil=>rfl
      |cons x xs=>rw [hl] at h2; exact h2.elim
     exact zi this
    subst hcaps
    have hargs:=Z8i hs hvs
    refine ⟨β,S,v,w, ?_,AV.ofV_rep hy w S β,hs⟩
    unfold execOp
    rw [ho]
    simp only [resolve,hc,hgv,Deferred.ofValue,pure_bind,invoke,Array.empty_append,hargs,Array.append_empty]
    exact hp.1 w
   ·cases h
  ·cases h
 ·cases h
def eqScal (P:Program) (cs ds:List AC):List Field→Option Bool
 |[]=>some true
 |f :: fs => bif f.name == "_" then eqScal P cs ds fs else
  match rowT P f.type,P.underlying f.type,cs[f.offset]?,ds[f.offset]? with
  |some false,some (.int _),some (.d (.int k a)),some (.d (.int k' b))=>bif k == k' then (eqScal P cs ds fs).map fun r=>(a == b) && r else none
  |some false,some .bool,some (.d (.bool a)),some (.d (.bool b))=>(eqScal P cs ds fs).map fun r=>(a == b) && r
  |some false,some .string,some (.d (.str a)),some (.d (.str b))=>(eqScal P cs ds fs).map fun r=>(a.toList == b.toList) && r
  |_,_,_,_=>none
theorem Z97 {P:Program} {t:TypeId} {xs:Array Value} {off:Nat} {v:Value} (hr:rowT P t=some false) (hv:xs[off]? = some v) (w:World):(part t xs off).run P w=.ok v w:=by
 unfold part
 rw [Sem.run_bind,Zfm hr w]
 simp only [Result.andThen_ok,xh,if_false,hv,Sem.run_pure]
theorem Zd5 {P:Program} {S:Nat→Prop} {β:Nat→Option Nat} {w:World} {cs ds:List AC} {xs ys:Array Value} (hx:All2 (AC.Rep w S β) cs xs.toList) (hy:All2 (AC.Rep w S β) ds ys.toList) (d:Nat):∀ {fs:List Field} {r:Bool},eqScal P cs ds fs=some r→(Op.eqFields (d+1) xs ys fs).run P w=.ok r w
 |[],r,h=>by
  simp only [eqScal,yn] at h
  subst h
  simp [Op.eqFields]
 |f::fs,r,h=>by
  unfold eqScal at h
  unfold Op.eqFields
  cases hn : f.name == "_" with
  |true =>
   rw [hn] at h
   have : f.name = "_" := by simpa using hn
   rw [if_neg (by simpa using this)]
   exact Zd5 hx hy d h
  |false =>
   rw [hn] at h
   have : f.name ≠ "_" := by simpa using hn
   rw [if_pos this]
   simp only [cond_false] at h
   split at h
   ·rename_i k0 k a k' b hrow hu hc hd
    cases hk:k == k' with
    |false=>rw [hk] at h; cases h
    |true =>
     rw [hk] at h
     obtain rfl:k=k':=by simpa using hk
     simp only [cond_true,ym] at h
     obtain ⟨r',h1,rfl⟩:=h
     obtain ⟨u,hu1,hr1⟩:=hx.get _ _ hc
     obtain ⟨v,hv1,hr2⟩:=hy.get _ _ hd
     simp only [AC.Rep,C.Rep] at hr1 hr2
     subst hr1 hr2
     rw [yz] at hu1 hv1
     simp only [Sem.run_bind,Z97 hrow hu1 w,Z97 hrow hv1 w,Result.andThen_ok,run_equalIn_int w d f.type k _ a b hu]
     cases hab:(a == b) with
     |true=>simpa using Zd5 hx hy d h1
     |false=>simp
   ·rename_i a b hrow hu hc hd
    simp only [ym] at h
    obtain ⟨r',h1,rfl⟩:=h
    obtain ⟨u,hu1,hr1⟩:=hx.get _ _ hc
    obtain ⟨v,hv1,hr2⟩:=hy.get _ _ hd
    simp only [AC.Rep,C.Rep] at hr1 hr2
    subst hr1 hr2
    rw [yz] at hu1 hv1
    simp only [Sem.run_bind,Z97 hrow hu1 w,Z97 hrow hv1 w,Result.andThen_ok,run_equalIn_bool w d f.type a b hu]
    cases hab:(a == b) with
    |true=>simpa using Zd5 hx hy d h1
    |false=>simp
   ·rename_i a b hrow hu hc hd
    simp only [ym] at h
    obtain ⟨r',h1,rfl⟩:=h
    obtain ⟨u,hu1,hr1⟩:=hx.get _ _ hc
    obtain ⟨v,hv1,hr2⟩:=hy.get _ _ hd
    simp only [AC.Rep,C.Rep] at hr1 hr2
    subst hr1 hr2
    rw [yz] at hu1 hv1
    simp only [Sem.run_bind,Z97 hrow hu1 w,Z97 hrow hv1 w,Result.andThen_ok,run_equalIn_string w d f.type a b hu]
    cases hab:(a.toList == b.toList) with
    |true=>simpa using Zd5 hx hy d h1
    |false=>simp
   ·cases h
def qSeq (P:Program) (st:St) (o:Oper):Option (AV × List Prop) :=
 match o.op with
 |.binOp op t x y _=>match Zjd st x,Zjd st y with
  |some (.v (.agg cs)),some (.v (.agg ds))=>match P.underlying t with
   |some (.struct fs)=>bif P.stoodInHeld t || P.eqGuardType P.depth t then none else
    match op with
    |.eql=>(eqScal P cs ds fs.toList).map fun r=>(.v (.one (.d (.bool r))),[])
    |.neq=>(eqScal P cs ds fs.toList).map fun r=>(.v (.one (.d (.bool !r))),[])
    |_=>none
   |_=>none
  |_,_=>none
 |_=>none
theorem qSeq_wp {P:Program} {G:Gh} {o:Oper} {st:St} {y:AV} {ps:List Prop} (h:qSeq P st o=some (y,ps)):OpWp P G o st y st:=by
 unfold qSeq at h
 split at h
 ·rename_i op t x z t' ho
  split at h
  ·rename_i cs ds hcs hds
   split at h
   ·rename_i fs hu
    cases hb:(P.stoodInHeld t || P.eqGuardType P.depth t) with
    |true=>rw [hb] at h; cases h
    |false =>
     rw [hb] at h
     simp only [Bool.or_eq_false_iff] at hb
     simp only [cond_false] at h
     have hf:P.fieldsOf t=fs:=by unfold Program.fieldsOf; rw [hu]
     refine OpWp.of_value fun β S a w hs=>?_
     obtain ⟨xs,hxv,hx⟩:=Z0p hs hcs
     obtain ⟨ys,hyv,hy⟩:=Z0p hs hds
     have key:∀ r,eqScal P cs ds fs.toList=some r→(Op.equalIn 10000 t (.agg xs) (.agg ys)).run P w=.ok r w:=fun r hr=>by
      rw [show (10000:Nat)=9999+1 from rfl,run_equalIn_struct w 9999 t xs ys (by rw [hf]; exact hu) hb.1,hf]
      exact Zd5 hx hy 9998 hr
     split at h
     ·simp only [ym,yt] at h
      obtain ⟨r,hr,rfl,rfl⟩:=h
      refine ⟨β,S,.bool r,w, ?_,rfl,hs⟩
      unfold execOp
      rw [ho]
      simp only [hxv,hyv,Sem.run_bind,run_eqGuard_agg w _ t x z xs ys hb.2,Result.andThen_ok,run_eql_struct,key r hr,Sem.run_pure]
     ·simp only [ym,yt] at h
      obtain ⟨r,hr,rfl,rfl⟩:=h
      refine ⟨β,S,.bool (!r),w, ?_,rfl,hs⟩
      unfold execOp
      rw [ho]
      simp only [hxv,hyv,Sem.run_bind,run_eqGuard_agg w _ t x z xs ys hb.2,Result.andThen_ok,run_neq_struct,key r hr,Sem.run_pure]
     ·cases h
   ·cases h
  ·cases h
 ·cases h
def bstr (ns:List Int):ByteArray:=ns.foldl (fun r n=>r.push (UInt8.ofNat n.toNat)) ByteArray.empty
def qBstr (P:Program) (st:St) (o:Oper) (ns:List Int):Option (AV × List Prop) :=
 match o.op with
 |.convert s d x=>match P.underlying s,P.underlying d with
  |some (.slice e),some .string=>match P.underlying e with
   |some (.int .u8)=>(oneA st x).bind fun q=>(rowsOf st q).bind fun r=>bif r.1 == 1 then some (.v (.one (.d (.str (bstr ns)))),[r.2.2,r.2.1=ns.map fun n=>[C.int .u8 n]]) else none
   |_=>none
  |_,_=>none
 |_=>none
theorem bytes_vals {w:World} {S:Nat→Prop}:∀ {ns:List Int} {us:List Value},All2 (C.Rep w S) (ns.map fun n=>[C.int .u8 n]).flatten us→us=ns.map (Value.int .u8)
 |[],[],_=>rfl
 |n::ns,u::us,h=>by
  have h1:u=.int .u8 n:=by simpa only [C.Rep] using h.1
  rw [h1,qh,bytes_vals (ns:=ns) (us:=us) h.2]
 |[],_::_,h=>h.elim
 |_::_,[],h=>h.elim
theorem qBstr_wp {P:Program} {G:Gh} {o:Oper} {st:St} {ns:List Int} {y:AV} {ps:List Prop} (h:qBstr P st o ns=some (y,ps)) (hp:AllP ps):OpWp P G o st y st:=by
 unfold qBstr at h
 split at h
 ·rename_i s d x ho
  split at h
  ·rename_i e hs hd
   split at h
   ·rename_i he
    simp only [yo] at h
    obtain ⟨q,hq,⟨sz,rows,pr⟩,hr,h⟩:=h
    cases hb:(sz == 1) with
    |false=>simp only at h; rw [hb] at h; cases h
    |true =>
     simp only at h
     rw [hb] at h
     simp only [cond_true,yn,yt] at h
     obtain ⟨rfl,rfl⟩:=h
     have h1:sz=1:=by simpa using hb
     subst h1
     obtain ⟨hpr,hrows,_⟩:=hp
     refine OpWp.of_value fun β S a w hsim=>?_
     obtain ⟨ad,cap,hv,hne⟩:=rowsOf_rep hsim hr hpr (Z0p hsim (Z2t hq))
     obtain ⟨us,k1,k2,_,_,k5⟩:=Z9z (P:=P) (cap:=cap) hne
     have hus:us=ns.map (Value.int .u8):=by
      have h2:rows=ns.map fun n=>[C.int .u8 n]:=hrows
      rw [h2] at k2
      exact bytes_vals k2
     refine ⟨β,S,.string (bstr ns),w, ?_,rfl,hsim⟩
     have hrun:=k5 w (fun _=>rfl)
     have hconv:(convert s d (.slice ad rows.length cap)).run P w=.ok (.string (bstr ns)) w:=by
      rw [run_convert_bytes_string w s d e ad rows.length cap hs he hd]
      cases ad with
      |none =>
       have hl:rows=[]:=by
        apply j3
        intro hn
        obtain ⟨b,off,hb2,_⟩:=hne hn
        cases hb2
       have hn:ns=[]:=by
        have h2:rows=ns.map fun n=>[C.int .u8 n]:=hrows
        rw [hl] at h2
        simpa using h2.symm
       subst hn
       rfl
      |some a0 =>
       refine run_bytesToString w a0 rows.length cap ns ?_
       rw [hus] at hrun
       simpa [Builtin.firstCells] using hrun
     unfold execOp
     rw [ho]
     simp only [hv,Sem.run_bind,hconv]
     rfl
   ·cases h
  ·cases h
 ·cases h
def qNan (P:Program) (st:St) (o:Oper):Option (AV × List Prop):=none
theorem qNan_wp {P:Program} {G:Gh} {o:Oper} {st:St} {y:AV} {ps:List Prop} (h:qNan P st o=some (y,ps)) (hp:AllP ps):OpWp P G o st y st:=by
 cases h
def stepT (P:Program) (st:St) (o:Oper):Hint→Option (AV × List Prop)
 |.bstr ns=>qBstr P st o ns
 |.nan=>qNan P st o
 |.lcall fres=>qLend P st o fres
 |.flat v=>qTold P st o v
 |.pick b=>qPick st o b
 |.pcall fres=>qCall P st o fres
 |.ext v=>qExt P st o v
 |.seq=>qSeq P st o
 |_=>stepQ P st o
theorem stepT_wp {P:Program} {G:Gh} {o:Oper} {st:St} {h:Hint} {y:AV} {ps:List Prop} (hh:stepT P st o h=some (y,ps)) (hp:AllP ps):OpWp P G o st y st:=by
 cases h with
 |flat v=>exact qTold_wp hh hp
 |pick b=>exact qPick_wp hh hp
 |pcall fres=>exact qCall_wp hh hp
 |lcall fres=>exact qLend_wp hh hp
 |ext v=>exact qExt_wp hh hp
 |seq=>exact qSeq_wp hh
 |bstr ns=>exact qBstr_wp hh hp
 |nan=>exact qNan_wp hh hp
 |_=>exact stepQ_wp hh hp
def isEff (o:Oper) (h:Hint):Bool :=
 match o.op with
 |.store .. | .box .. | .alloc .. | .buildSlice .. | .makeSlice ..=>true
 |.call c=>match c.callee with
  |.builtin .append=>true
  |.value _=>match h with
   |.pcall _=>false
   |.lcall _=>false
   |.ext _=>false
   |.nan=>false
   |_=>true
  |_=>false
 |_=>false
def stepO (P:Program) (n0:Nat) (st:St) (o:Oper) (h:OpH):Option (AV × St × List Prop) :=
 bif isEff o h.h then (stepE P n0 st o h.h).map fun e=>((castV e.y h.cast).1,e.st st,e.ps++(castV e.y h.cast).2)
 else (stepT P st o h.h).map fun r=>((castV r.1 h.cast).1,st,r.2++(castV r.1 h.cast).2)
theorem stepO_wp {P:Program} {G:Gh} {o:Oper} {st st':St} {h:OpH} {y:AV} {ps:List Prop} (hh:stepO P G.n0 st o h=some (y,st',ps)) (hp:AllP ps):OpWp P G o st y st':=by
 unfold stepO at hh
 cases he:isEff o h.h with
 |true =>
  rw [he] at hh
  simp only [cond_true,ym,yt] at hh
  obtain ⟨e,he,rfl,rfl,rfl⟩:=hh
  rw [AllP.append] at hp
  exact (stepE_wp he hp.1).cast (Z99 (c:=h.cast) rfl hp.2)
 |false =>
  rw [he] at hh
  simp only [cond_false,ym,yt] at hh
  obtain ⟨⟨y',qs⟩,h1,rfl,rfl,rfl⟩:=hh
  rw [AllP.append] at hp
  exact (stepT_wp h1 hp.1).cast (Z99 (c:=h.cast) rfl hp.2)
def guardA (ops:Array Oper) (st:St) (o:Oper) (want:Bool):Option (List Prop) :=
 match o.guard with
 |none=>bif want then some [] else none
 |some (j,b)=>match (ops[j]?).bind (·.dst) with
  |some d=>match st.fr[d]? with
   |some (.v (.one (.d (.bool c))))=>some [c=bif want then b else !b]
   |some (.tup _)=>bif want then none else some []
   |_=>none
  |none=>none
theorem Z3f {G:Gh} {β:Nat→Option Nat} {S:Nat→Prop} {st:St} {a:Act} {w:World} (hs:Sim G β S st a w) {ops:Array Oper} {o:Oper} {want:Bool} {ps:List Prop} (h:guardA ops st o want=some ps) (hp:AllP ps):Region.wanted o (yielded ops a.tmps)=want:=by
 unfold guardA at h
 unfold Region.wanted
 cases hg:o.guard with
 |none =>
  rw [hg] at h
  cases want with
  |true=>rfl
  |false=>cases h
 |some jb =>
  obtain ⟨j,b⟩:=jb
  rw [hg] at h
  simp only at h ⊢
  split at h
  ·rename_i d hd
   split at h
   ·rename_i c hc
    simp only [yn] at h
    subst h
    have hv:∃ v,a.tmps.toList[d]? = some v∧AV.Rep w S β (.v (.one (.d (.bool c)))) v:=hs.fr.get d _ hc
    obtain ⟨v,hv,hr⟩:=hv
    have hvb:v=.bool c:=by simpa only [AV.Rep,A1.Rep,AC.Rep,C.Rep] using hr
    subst hvb
    rw [yz] at hv
    have:yielded ops a.tmps j=some c:=by
     unfold yielded
     rw [hd]
     simp only [vo,hv]
    rw [this]
    have hc':c=bif want then b else !b:=hp.1
    subst hc'
    cases want <;> cases b <;> rfl
   ·rename_i l hc
    cases want with
    |true=>cases h
    |false =>
     obtain ⟨v,hv,vs,rfl,_⟩:=hs.fr.get d _ hc
     rw [yz] at hv
     have:yielded ops a.tmps j=none:=by
      unfold yielded
      rw [hd]
      simp only [vo,hv]
     rw [this]
     rfl
   ·cases h
  ·cases h
def stepR (P:Program) (n0:Nat) (ops:Array Oper) (st:St) (o:Oper) (h:OpH):Option (St × List Prop) :=
 (adjs n0 h.pre st).bind fun f=>(guardA ops f.1 o h.want).bind fun g =>
  bif h.want then (stepO P n0 f.1 o h).bind fun r=>(adjs n0 h.post (r.2.1.put o.dst r.1)).map fun t=>(t.1,f.2++(g++(r.2.2++t.2)))
  else (adjs n0 h.post (f.1.put o.dst (.tup []))).map fun t=>(t.1,f.2++(g++t.2))
def runOps (P:Program) (n0:Nat) (ops:Array Oper):List Oper→List OpH→St→Option (St × List Prop)
 |[],_,st=>some (st,[])
 |o::r,[],st=>(stepR P n0 ops st o {}).bind fun q=>(runOps P n0 ops r [] q.1).map fun z=>(z.1,q.2++z.2)
 |o::r,h::hs,st=>(stepR P n0 ops st o h).bind fun q=>(runOps P n0 ops r hs q.1).map fun z=>(z.1,q.2++z.2)
theorem stepR_wp {P:Program} {G:Gh} {ops:Array Oper} {st st':St} {o:Oper} {h:OpH} {ps:List Prop} (hh:stepR P G.n0 ops st o h=some (st',ps)) (hp:AllP ps) {β:Nat→Option Nat} {S:Nat→Prop} {a:Act} {w:World} (hs:Sim G β S st a w)
  {Q:Exit→Act→World→Prop} {K:Act→World→Prop} (k:∀ β' S' a' w',Sim G β' S' st' a' w'→K a' w') :
  if Region.wanted o (yielded ops a.tmps) then o.wp P a w K Q∨(o.asks P a w∧LetsOut Q) else K (a.put o.dst undef) w:=by
 simp only [stepR,yo] at hh
 obtain ⟨⟨st1,fs⟩,hf,gs,hg,hh⟩:=hh
 cases hw:h.want with
 |true =>
  rw [hw] at hh hg
  simp only [cond_true,yo,ym,yt] at hh
  obtain ⟨⟨y,st2,rs⟩,hr,⟨st3,ts⟩,ht,rfl,rfl⟩:=hh
  simp only [AllP.append] at hp
  obtain ⟨hp1,hp2,hp3,hp4⟩:=hp
  obtain ⟨β1,S1,hs1⟩:=Z5w hs hf hp1
  rw [Z3f hs1 hg hp2]
  simp only [if_true]
  refine .inl (stepO_wp hr hp3 β1 S1 a w hs1 K Q fun β' S' v w' hv hs'=>?_)
  obtain ⟨β2,S2,hs2⟩:=Z5w (hs'.put o.dst y v hv) ht hp4
  exact k β2 S2 _ w' hs2
 |false =>
  rw [hw] at hh hg
  simp only [cond_false,ym,yt] at hh
  obtain ⟨⟨st3,ts⟩,ht,rfl,rfl⟩:=hh
  simp only [AllP.append] at hp
  obtain ⟨hp1,hp2,hp3⟩:=hp
  obtain ⟨β1,S1,hs1⟩:=Z5w hs hf hp1
  rw [Z3f hs1 hg hp2]
  simp only [xh,if_false]
  obtain ⟨β2,S2,hs2⟩:=Z5w (hs1.put o.dst (.tup []) undef ⟨#[],rfl,trivial⟩) ht hp3
  exact k β2 S2 _ w hs2
theorem runOps_wp {P:Program} {G:Gh} {ops:Array Oper} {Q:Exit→Act→World→Prop}:∀ {l:List Oper} {i:Nat} {hs:List OpH} {st st':St} {ps:List Prop},runOps P G.n0 ops l hs st=some (st',ps)→AllP ps→(∀ j,j < l.length→l[j]? = ops[i+j]?) →
  ∀ {β:Nat→Option Nat} {S:Nat→Prop} {a:Act} {w:World},Sim G β S st a w→(∀ β' S' a' w',Sim G β' S' st' a' w'→Q .normal a' w')→wpOps P ops Q (List.range' i l.length) a w
 |[],i,hs,st,st',ps,h,hp,hl,β,S,a,w,hsim,k=>by
  simp only [runOps,yn,yt] at h
  obtain ⟨rfl,rfl⟩:=h
  exact k β S a w hsim
 |o::r,i,hs,st,st',ps,h,hp,hl,β,S,a,w,hsim,k=>by
  have ho:ops[i]? = some o:=by have:=hl 0 (by simp); simpa using this.symm
  have hr:∀ j,j < r.length→r[j]? = ops[i+1+j]? := fun j hj=>by have:=hl (j+1) (by simp; omega); rw [uk] at this; rw [this]; congr 1; omega
  have main:∀ (hd:OpH) (tl:List OpH),((stepR P G.n0 ops st o hd).bind fun q=>(runOps P G.n0 ops r tl q.1).map fun z=>(z.1,q.2++z.2))=some (st',ps)→wpOps P ops Q (List.range' i (o::r).length) a w:=by
   intro hd tl h
   simp only [yo,ym,yt] at h
   obtain ⟨⟨st1,qs⟩,h1,⟨st2,rs⟩,h2,rfl,rfl⟩:=h
   rw [AllP.append] at hp
   rw [xu,List.range'_succ]
   show (match ops[i]? with | none=>_ | some o=>_)
   rw [ho]
   exact stepR_wp h1 hp.1 hsim fun β' S' a' w' hs'=>runOps_wp h2 hp.2 hr hs' k
  cases hs with
  |nil=>exact main {} [] h
  |cons hd tl=>exact main hd tl h
theorem Zix.region {P:Program} {G:Gh} {id:Nat} {ops:Array Oper} {hs:List OpH} {st st':St} {ps:List Prop} {R:Ex→St→Prop} (h:runOps P G.n0 ops ops.toList hs st=some (st',ps)) (hp:AllP ps) (k:R .normal st'):Zix P G (.region id ops false) st R :=
 fun β S a w hsim=>wp_region (by
  rw [List.range_eq_range']
  have:=runOps_wp (i:=0) h hp (fun j _=>by rw [xk,yz]) hsim (Q:=fun ex a' w'=>∃ ex' st' β' S',ExIs ex ex'∧R ex' st'∧Sim G β' S' st' a' w') fun β' S' a' w' hs'=>⟨.normal,st',β',S',trivial,k,hs'⟩
  simpa using this)
structure Alike (st st':St) (xs:List Operand):Prop where
 obs:st.obs=st'.obs
 ev:∀ x ∈ xs,Zjd st x=Zjd st' x
theorem Z7y {α β:Type} {f g:α→Option β}:∀ {l:List α},(∀ x ∈ l,f x=g x)→Zj6 f l=Zj6 g l
 |[],_=>rfl
 |x::l,h=>by
  simp only [Zj6]
  rw [h x (by simp),Z7y fun y hy=>h y (by simp [hy])]
theorem Ziq {P:Program} {st st':St} {o:Oper} (h:∀ x ∈ o.op.operands.toList,Zjd st x=Zjd st' x):flatSem P st o=flatSem P st' o:=by
 obtain ⟨dst,op,type,pos,after,guard⟩:=o
 have flat:∀ {x:Operand},Zjd st x=Zjd st' x→flatV st x=flatV st' x:=by intro x e; unfold flatV; rw [e]
 cases op <;> simp only [Op.operands] at h <;> try rfl
 case binOp op t x y t'=>simp only [flatSem]; rw [flat (h x (by simp)),flat (h y (by simp))]
 case unOp op t x=>simp only [flatSem]; rw [flat (h x (by simp))]
 case index t x y=>simp only [flatSem]; rw [flat (h x (by simp)),flat (h y (by simp))]
 case convert s d x=>simp only [flatSem]; rw [flat (h x (by simp))]
 case makeInterface t x=>simp only [flatSem]; rw [flat (h x (by simp))]
 case typeAssert x t t' ok=>simp only [flatSem]; rw [flat (h x (by simp))]
 case call c =>
  obtain ⟨callee,args,argTypes⟩:=c
  cases callee with
  |builtin b =>
   have ha:Zj6 (flatV st) args.toList=Zj6 (flatV st') args.toList:=Z7y fun x hx=>flat (h x (by simpa [Call.operands] using hx))
   cases b <;> first | rfl | (simp only [flatSem,ha])
  |_=>rfl
theorem Zak {P:Program} {st st':St} {o:Oper} (h:Alike st st' o.op.operands.toList):stepQ P st o=stepQ P st' o:=by
 have hflat:qFlat P st o=qFlat P st' o:=by unfold qFlat flatOp; rw [Ziq h.ev]
 obtain ⟨hobs,h⟩:=h
 obtain ⟨dst,op,type,pos,after,guard⟩:=o
 have one:∀ {x:Operand},Zjd st x=Zjd st' x→oneA st x=oneA st' x:=by intro x e; unfold oneA; rw [e]
 have int:∀ {x:Operand},Zjd st x=Zjd st' x→intA st x=intA st' x:=by intro x e; unfold intA; rw [e]
 have cells:∀ p,cellsAt st p=cellsAt st' p:=by intro p; cases p <;> simp only [cellsAt,hobs]
 cases op <;> simp only [Op.operands] at h <;> try (first | rfl | exact hflat)
 case move x=>simp only [stepQ,qMove]; rw [h x (by simp)]
 case assign x=>simp only [stepQ,qMove]; rw [h x (by simp)]
 case extract x i=>simp only [stepQ,qExtract]; rw [h x (by simp)]
 case load t x=>simp only [stepQ,qLoad]; rw [one (h x (by simp))]; simp only [cells]
 case nilCheck x=>simp only [stepQ,qNilCheck]; rw [one (h x (by simp))]
 case fieldAddr t x f=>simp only [stepQ,qFieldAddr]; rw [one (h x (by simp))]
 case field t x f=>simp only [stepQ,qField]; rw [h x (by simp)]
 case indexAddr t x y=>simp only [stepQ,qIndexAddr]; rw [one (h x (by simp)),one (h y (by simp))]
 case build t ps =>
  have hp:Zj6 (partA st) ps.toList=Zj6 (partA st') ps.toList:=Z7y fun p hp=>by
   unfold partA
   rw [h p.2 (List.mem_map.2 ⟨p,hp,rfl⟩)]
  simp only [stepQ,buildA,hp]
 case makeFunc f xs ys =>
  have hc:ys.toList.all (fun _=>true)=true:=by simp
  have key:Zj6 (capA st) ys.toList=Zj6 (capA st') ys.toList:=Z7y fun x hx=>by
   unfold capA
   rw [h x (by simp; exact .inr (by simpa using hx))]
  unfold stepQ
  split <;> first | rfl | exact hflat | (simp_all; done)
 case slice t x lo hi mx =>
  have hl:∀ d,bndA st lo d=bndA st' lo d:=by
   intro d; cases lo with
   |none=>rfl
   |some y=>exact int (h y (by simp))
  have hh:∀ d,bndA st hi d=bndA st' hi d:=by
   intro d; cases hi with
   |none=>rfl
   |some y=>exact int (h y (by simp))
  cases mx with
  |none=>simp only [stepQ,qSlice]; rw [one (h x (by simp))]; simp only [hl,hh,hobs]
  |some m =>
   have hx:=h x (by simp)
   unfold stepQ
   split <;> first | rfl | exact hflat | skip
   all_goals (rename_i heq; simp only [Op.slice.injEq,reduceCtorEq,and_false] at heq)
   obtain ⟨rfl,rfl,rfl,rfl,_⟩:=heq
   simp only [qCap0]
   rw [one hx]
 case binOp op t x y t' =>
  simp only [stepQ,hflat]
  congr 1
  simp only [qNilcmp]; rw [one (h x (by simp)),one (h y (by simp))]
 case call c =>
  unfold stepQ
  split <;> first | rfl | exact hflat | skip
  all_goals (rename_i heq; simp only [Op.call.injEq,reduceCtorEq] at heq)
  subst heq
  rw [hflat]
  congr 1
  simp only [qLen]
  rw [one (h _ (by simp [Call.operands]))]
theorem stepE_congr {P:Program} {n0:Nat} {st st':St} {o:Oper} {hh:Hint} (h:Alike st st' o.op.operands.toList):stepE P n0 st o hh=stepE P n0 st' o hh:=by
 obtain ⟨hobs,h⟩:=h
 obtain ⟨dst,op,type,pos,after,guard⟩:=o
 have one:∀ {x:Operand},Zjd st x=Zjd st' x→oneA st x=oneA st' x:=by intro x e; unfold oneA; rw [e]
 have good:∀ {x:Operand},Zjd st x=Zjd st' x→goodV st x=goodV st' x:=by intro x e; unfold goodV; rw [e]
 have int:∀ {x:Operand},Zjd st x=Zjd st' x→intA st x=intA st' x:=by intro x e; unfold intA; rw [e]
 have new:∀ d y ob ps,Eff.new st d y ob ps=Eff.new st' d y ob ps:=by intro d y ob ps; unfold Eff.new; rw [hobs]
 have sto:∀ p cs,storeTo st p cs=storeTo st' p cs:=by intro p cs; cases p <;> simp only [storeTo,hobs]
 have rows:∀ q,rowsOf st q=rowsOf st' q:=by intro q; cases q with | d c=>cases c <;> rfl | vw=>simp only [rowsOf,hobs] | _=>rfl
 cases op <;> simp only [Op.operands] at h <;> try (first | rfl)
 case store t x y =>
  have e:eStore P st t x y=eStore P st' t x y:=by
   unfold eStore; rw [one (h x (by simp)),good (h y (by simp))]; simp only [sto]
  simp only [stepE,e]
 case box t x =>
  have e:∀ d,eBox st d x=eBox st' d x:=by intro d; unfold eBox; rw [good (h x (by simp))]; simp only [new]
  cases dst <;> simp only [stepE,e]
 case alloc t =>
  have e:∀ d,eAlloc P st d t=eAlloc P st' d t:=by intro d; unfold eAlloc; simp only [new]
  cases dst <;> simp only [stepE,e]
 case makeSlice t x y =>
  have e:∀ d,eMakeSlice P st d t x y=eMakeSlice P st' d t x y:=by intro d; unfold eMakeSlice; rw [int (h x (by simp)),int (h y (by simp))]; simp only [new]
  cases dst <;> simp only [stepE,e]
 case buildSlice t n ps =>
  have hp:Zj6 (partA st) ps.toList=Zj6 (partA st') ps.toList:=Z7y fun p hp=>by
   unfold partA
   rw [h p.2 (List.mem_map.2 ⟨p,hp,rfl⟩)]
  have e:∀ d,Zja P st d t n ps=Zja P st' d t n ps:=by intro d; unfold Zja buildSliceA; simp only [hp,new]
  cases dst <;> simp only [stepE,e]
 case call c =>
  have hall:∀ {l:List Operand},(∀ x ∈ l,Zjd st x=Zjd st' x)→Zje st l=Zje st' l:=by
   intro l
   induction l with
   |nil=>intro _; rfl
   |cons x l ih=>intro hl; simp only [Zje]; rw [hl x (by simp),ih fun y hy=>hl y (by simp [hy])]
  have ha:Zje st c.args.toList=Zje st' c.args.toList:=hall fun x hx=>h x (by simp [Call.operands]; exact .inr (by simpa using hx))
  have e1:∀ g,c.callee=.value g→eCall P n0 st c g hh=eCall P n0 st' c g hh:=by
   intro g hg
   cases hh with
   |call m fres fobjs=>unfold eCall; rw [one (h g (by simp [Call.operands,hg])),ha]; simp only [hobs]
   |lnew m fres=>unfold eCall; rw [one (h g (by simp [Call.operands,hg])),ha]; simp only [hobs]
   |lapt m fres=>unfold eCall; rw [one (h g (by simp [Call.operands,hg])),ha]; simp only [hobs]
   |kcall s rows'=>unfold eCall; rw [one (h g (by simp [Call.operands,hg])),ha]; simp only [hobs]
   |inl y ob'=>rfl
   |_=>rfl
  have src:∀ t t2 q,srcOf P t t2 st q=srcOf P t t2 st' q:=by intro t t2 q; unfold srcOf; simp only [rows]
  have e2:∀ d t t2 x y,Zjd st x=Zjd st' x→Zjd st y=Zjd st' y→eAppend P st d t t2 x y=eAppend P st' d t t2 x y:=by
   intro d t t2 x y hx hy
   unfold eAppend
   rw [one hx,one hy]
   simp only [src,hobs,new]
  have e3:∀ d t tn x y,Zjd st x=Zjd st' x→Zjd st y=Zjd st' y→Zj9 P st d t tn x y=Zj9 P st' d t tn x y:=by
   intro d t tn x y hx hy
   unfold Zj9
   rw [one hx,int hy]
   simp only [new]
  unfold stepE
  split <;> first | rfl | skip
  all_goals first
   |(rename_i heq _; simp only [reduceCtorEq] at heq; done)
   |(rename_i heq; simp only [reduceCtorEq] at heq; done)
   |skip
  ·rename_i heq _
   simp only [Op.call.injEq] at heq
   subst heq
   rw [e2 _ _ _ _ _ (h _ (by simp [Call.operands])) (h _ (by simp [Call.operands])),e3 _ _ _ _ _ (h _ (by simp [Call.operands])) (h _ (by simp [Call.operands]))]
  ·rename_i heq _
   simp only [Op.call.injEq] at heq
   subst heq
   split
   ·rename_i g hg
    exact e1 g hg
   ·rfl
theorem Zbk {st st':St}:∀ {l:List Operand},(∀ x ∈ l,Zjd st x=Zjd st' x)→Zje st l=Zje st' l
 |[],_=>rfl
 |x::l,hl=>by simp only [Zje]; rw [hl x (by simp),Zbk fun y hy=>hl y (by simp [hy])]
theorem stepT_congr {P:Program} {st st':St} {o:Oper} {hh:Hint} (h:Alike st st' o.op.operands.toList):stepT P st o hh=stepT P st' o hh:=by
 cases hh with
 |flat v=>simp only [stepT,qTold]; rw [Ziq h.ev]
 |pick b =>
  simp only [stepT,qPick]
  obtain ⟨hobs,h⟩:=h
  split
  ·rename_i c x y ho
   rw [ho] at h
   simp only [Op.operands] at h
   rw [h c (by simp)]
   cases b
   ·simp only [cond_false]; rw [h y (by simp)]
   ·simp only [cond_true]; rw [h x (by simp)]
  ·rfl
 |pcall fres =>
  simp only [stepT,qCall]
  obtain ⟨hobs,h⟩:=h
  split
  ·rename_i c ho
   rw [ho] at h
   simp only [Op.operands] at h
   split
   ·rename_i g hc
    have h1:oneA st g=oneA st' g:=by unfold oneA; rw [h g (by simp [Call.operands,hc])]
    have h2:Zje st c.args.toList=Zje st' c.args.toList:=Zbk fun x hx=>h x (by simp [Call.operands]; exact .inr (by simpa using hx))
    rw [h1,h2,hobs]
   ·rfl
  ·rfl
 |lcall fres =>
  simp only [stepT,qLend]
  obtain ⟨hobs,h⟩:=h
  split
  ·rename_i c ho
   rw [ho] at h
   simp only [Op.operands] at h
   split
   ·rename_i g hc
    have h1:oneA st g=oneA st' g:=by unfold oneA; rw [h g (by simp [Call.operands,hc])]
    have h2:Zje st c.args.toList=Zje st' c.args.toList:=Zbk fun x hx=>h x (by simp [Call.operands]; exact .inr (by simpa using hx))
    rw [h1,h2,hobs]
   ·rfl
  ·rfl
 |ext v =>
  simp only [stepT,qExt]
  obtain ⟨hobs,h⟩:=h
  split
  ·rename_i c ho
   rw [ho] at h
   simp only [Op.operands] at h
   split
   ·rename_i g hc
    have h1:oneA st g=oneA st' g:=by unfold oneA; rw [h g (by simp [Call.operands,hc])]
    have h2:Zj6 (flatV st) c.args.toList=Zj6 (flatV st') c.args.toList:=Z7y fun x hx=>by
     unfold flatV
     rw [h x (by simp [Call.operands]; exact .inr (by simpa using hx))]
    rw [h1,h2]
   ·rfl
  ·rfl
 |seq =>
  simp only [stepT,qSeq]
  obtain ⟨hobs,h⟩:=h
  split
  ·rename_i op t x z t' ho
   rw [ho] at h
   simp only [Op.operands] at h
   rw [h x (by simp),h z (by simp)]
  ·rfl
 |bstr ns =>
  simp only [stepT,qBstr]
  obtain ⟨hobs,h⟩:=h
  have rows:∀ q,rowsOf st q=rowsOf st' q:=by intro q; cases q with | d c=>cases c <;> rfl | vw=>simp only [rowsOf,hobs] | _=>rfl
  split
  ·rename_i s d x ho
   rw [ho] at h
   simp only [Op.operands] at h
   have h1:oneA st x=oneA st' x:=by unfold oneA; rw [h x (by simp)]
   rw [h1]
   simp only [rows]
  ·rfl
 |nan=>rfl
 |none=>exact Zak h
 |call m fres fobjs=>exact Zak h
 |lnew m fres=>exact Zak h
 |lapt m fres=>exact Zak h
 |kcall s rows'=>exact Zak h
 |inl y ob'=>exact Zak h
end Lift
