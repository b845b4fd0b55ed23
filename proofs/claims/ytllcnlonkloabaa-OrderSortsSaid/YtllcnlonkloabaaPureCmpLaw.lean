import Derived.Test.YtllcnlonkloabaaPureCmp
set_option linter.unusedVariables false
set_option linter.unusedSimpArgs false
namespace Go.Proofs.Ytllcnlonkloabaa.Sh
open Go Lift Go.Proofs
def lex (p q:Int):Int:=if p ≠ 0 then p else q
def B3 (p:Int):Prop:=p=0∨p=-1∨p=1
theorem lex_b3 {p q:Int} (h1:B3 p) (h2:B3 q):B3 (lex p q):=by unfold lex; split <;> assumption
theorem lex_neg (p q:Int):lex (-p) (-q)=-(lex p q):=by unfold lex; split <;> split <;> omega
theorem sgn_tr (x y z:Int):Tr (sgn (x - y)) (sgn (y - z)) (sgn (x - z)):=by
  unfold sgn
  refine ⟨?_, ?_, ?_, ?_⟩ <;> (repeat' split) <;> omega
theorem lex_tr {p q r p' q' r':Int} (h1:Tr p q r) (b1:B3 p) (b2:B3 q) (b3:B3 r) (h2:p=0→q=0→Tr p' q' r'):Tr (lex p p') (lex q q') (lex r r'):=by
  obtain ⟨z1,z2,lo,hi⟩:=h1
  unfold B3 at b1 b2 b3
  unfold lex
  by_cases hp:p=0
  · by_cases hq:q=0
    · have hr:r=0:=by rw [z1 hp,hq]
      rw [if_neg (by simpa using hp),if_neg (by simpa using hq),if_neg (by simpa using hr)]
      exact h2 hp hq
    · have hr:=z1 hp
      rw [if_neg (by simpa using hp),if_pos hq,if_pos (by rw [hr]; exact hq),hr]
      exact ⟨fun _=>rfl,fun h=>absurd h hq,fun h1 h2=>h2,fun h1 h2=>h2⟩
  · by_cases hq:q=0
    · have hr:=z2 hq
      rw [if_pos hp,if_neg (by simpa using hq),if_pos (by rw [hr]; exact hp),hr]
      exact ⟨fun h=>absurd h hp,fun _=>rfl,fun h _=>h,fun h _=>h⟩
    · rw [if_pos hp,if_pos hq]
      refine ⟨fun h=>absurd h hp,fun h=>absurd h hq,fun h k=>?_,fun h k=>?_⟩
      · have:=lo h k; rw [if_pos (by omega)]; exact this
      · have:=hi h k; rw [if_pos (by omega)]; exact this
def restT (a b:Z01):Int:=if a.fKind=1∨a.fKind=2∨a.fKind=3 then sgn (numKey a - numKey b) else if a.fKind=6 then lex (sgn ((a.fArgs.length:Int) - (b.fArgs.length:Int))) (cmpA a.fArgs b.fArgs) else if a.fKind=8 then cmpA a.fArgs b.fArgs else if a.fKind=9 then lexB a.fBytes.data.toList b.fBytes.data.toList else sgn (a.fN - b.fN)
theorem restT_n {a:Z01} (b:Z01) (h:a.fKind=1∨a.fKind=2∨a.fKind=3):restT a b=sgn (numKey a - numKey b):=by unfold restT; rw [if_pos h]
theorem restT_6 {a:Z01} (b:Z01) (h:a.fKind=6):restT a b=lex (sgn ((a.fArgs.length:Int) - (b.fArgs.length:Int))) (cmpA a.fArgs b.fArgs):=by unfold restT; rw [if_neg (by omega),if_pos h]
theorem restT_8 {a:Z01} (b:Z01) (h:a.fKind=8):restT a b=cmpA a.fArgs b.fArgs:=by unfold restT; rw [if_neg (by omega),if_neg (by omega),if_pos h]
theorem restT_9 {a:Z01} (b:Z01) (h:a.fKind=9):restT a b=lexB a.fBytes.data.toList b.fBytes.data.toList:=by unfold restT; rw [if_neg (by omega),if_neg (by omega),if_neg (by omega),if_pos h]
theorem restT_o {a:Z01} (b:Z01) (h:a.fKind=4∨a.fKind=5∨a.fKind=7):restT a b=sgn (a.fN - b.fN):=by unfold restT; rw [if_neg (by omega),if_neg (by omega),if_neg (by omega),if_neg (by omega)]
theorem kinds_of {k:Int} (h:1≤k∧k≤9):(k=1∨k=2∨k=3)∨k=6∨k=8∨k=9∨(k=4∨k=5∨k=7):=by omega
theorem Zch (a b:Z01):cmpT a b=lex (sgn (cls a.fKind - cls b.fKind)) (restT a b):=cmpT_eq a b
theorem Zat (x y:Z01) (xs ys:List Z01):cmpA (x::xs) (y::ys)=lex (cmpT x y) (cmpA xs ys):=by rw [cmpA]; rfl
mutual
theorem Zd2:∀ (a b:Z01),B3 (cmpT a b)
  | ⟨k,n,m,f,s,args⟩,b=>by
    have ih:=cmpA_b3 args b.fArgs
    rw [Zch]
    refine lex_b3 (Z99 _) ?_
    unfold restT
    repeat' split
    · exact Z99 _
    · exact lex_b3 (Z99 _) ih
    · exact ih
    · exact Zdx _ _
    · exact Z99 _
theorem cmpA_b3:∀ (xs ys:List Z01),B3 (cmpA xs ys)
  | [],[]=>by rw [cmpA]; exact .inl rfl
  | [],_::_=>by rw [cmpA]; exact .inr (.inl rfl)
  | _::_,[]=>by rw [cmpA]; exact .inr (.inr rfl)
  | x::xs,y::ys=>by rw [Zat]; exact lex_b3 (Zd2 x y) (cmpA_b3 xs ys)
end
mutual
theorem Zda:∀ (a:Z01),Fine a→∀ b,Fine b→cmpT b a=-(cmpT a b)
  | ⟨k,n,m,f,s,args⟩,ha,b,hb=>by
    have ih:=cmpA_turn args ha.arg b.fArgs hb.arg
    have ka:=ha.kind
    have kb:=hb.kind
    rw [Zch,Zch,Zbu]
    by_cases hc:sgn (cls k - cls b.fKind)=0
    · rw [← lex_neg]
      congr 1
      have hcl:=cls_num ka kb hc
      generalize hA:(⟨k,n,m,f,s,args⟩:Z01)=a at *
      have hargs:a.fArgs=args:=by rw [← hA]
      rw [← hargs] at ih
      rcases kinds_of ka with h | h | h | h | h
      · rw [restT_n b h,restT_n a (by omega),Zbu]
      · rw [restT_6 b h,restT_6 a (by omega),Zbu,ih,lex_neg]
      · rw [restT_8 b h,restT_8 a (by omega),ih]
      · rw [restT_9 b h,restT_9 a (by omega),lexB_turn]
      · rw [restT_o b h,restT_o a (by omega),Zbu]
    · have e:∀ x y,lex (-(sgn (cls k - cls b.fKind))) x=-(lex (sgn (cls k - cls b.fKind)) y):=fun x y=>by
        unfold lex; rw [if_pos (by omega),if_pos hc]
      exact e _ _
theorem cmpA_turn:∀ (xs:List Z01),(∀ x ∈ xs,Fine x)→∀ ys,(∀ y ∈ ys,Fine y)→cmpA ys xs=-(cmpA xs ys)
  | [],_,[],_=>by rw [cmpA]; rfl
  | [],_,_::_,_=>by rw [cmpA,cmpA]; rfl
  | _::_,_,[],_=>by rw [cmpA,cmpA]
  | x::xs,hx,y::ys,hy=>by
    rw [Zat,Zat,Zda x (hx x (by simp)) y (hy y (by simp)),cmpA_turn xs (fun z hz=>hx z (by simp [hz])) ys (fun z hz=>hy z (by simp [hz])),lex_neg]
end
mutual
theorem cmpT_tr:∀ (a:Z01),Fine a→∀ b,Fine b→∀ c,Fine c→Tr (cmpT a b) (cmpT b c) (cmpT a c)
  | ⟨k,n,m,f,s,args⟩,ha,b,hb,c,hc=>by
    have ih:=cmpA_tr args ha.arg b.fArgs hb.arg c.fArgs hc.arg
    have ka:=ha.kind
    have kb:=hb.kind
    have kc:=hc.kind
    rw [Zch,Zch,Zch]
    refine lex_tr (sgn_tr _ _ _) (Z99 _) (Z99 _) (Z99 _) fun h1 h2=>?_
    have c1:=cls_num ka kb h1
    have c2:=cls_num kb kc h2
    generalize hA:(⟨k,n,m,f,s,args⟩:Z01)=a at *
    have hargs:a.fArgs=args:=by rw [← hA]
    rw [← hargs] at ih
    rcases kinds_of ka with h | h | h | h | h
    · rw [restT_n b h,restT_n c (by omega),restT_n c h]
      exact sgn_tr _ _ _
    · rw [restT_6 b h,restT_6 c (by omega),restT_6 c h]
      exact lex_tr (sgn_tr _ _ _) (Z99 _) (Z99 _) (Z99 _) fun _ _=>ih
    · rw [restT_8 b h,restT_8 c (by omega),restT_8 c h]
      exact ih
    · rw [restT_9 b h,restT_9 c (by omega),restT_9 c h]
      exact lexB_tr _ _ _
    · rw [restT_o b h,restT_o c (by omega),restT_o c h]
      exact sgn_tr _ _ _
theorem cmpA_tr:∀ (xs:List Z01),(∀ x ∈ xs,Fine x)→∀ ys,(∀ y ∈ ys,Fine y)→∀ zs,(∀ z ∈ zs,Fine z)→Tr (cmpA xs ys) (cmpA ys zs) (cmpA xs zs)
  | [],_,[],_,[],_=>by rw [cmpA]; exact ⟨fun _=>rfl,fun _=>rfl,fun h=>(by cases h),fun h=>(by cases h)⟩
  | [],_,[],_,_::_,_=>by rw [cmpA,cmpA]; exact ⟨fun _=>rfl,fun h=>(by cases h),fun h=>(by cases h),fun h=>(by cases h)⟩
  | [],_,_::_,_,[],_=>by rw [cmpA,cmpA,cmpA]; exact ⟨fun h=>(by cases h),fun h=>(by cases h),fun _ h=>(by cases h),fun h=>(by cases h)⟩
  | _::_,_,[],_,[],_=>by rw [cmpA,cmpA]; exact ⟨fun h=>(by cases h),fun _=>rfl,fun h=>(by cases h),fun _ h=>(by cases h)⟩
  | x::xs,_,[],_,z::zs,_=>by
    have:=cmpA_b3 (x::xs) (z::zs)
    rw [cmpA,cmpA]; exact ⟨fun h=>(by cases h),fun h=>(by cases h),fun h=>(by cases h),fun _ h=>(by cases h)⟩
  | [],_,y::ys,_,z::zs,_=>by
    rw [cmpA,cmpA]; exact ⟨fun h=>(by cases h),fun _=>rfl,fun _ _=>rfl,fun h=>(by cases h)⟩
  | x::xs,_,y::ys,_,[],_=>by
    rw [cmpA,cmpA]
    · exact ⟨fun _=>rfl,fun h=>(by cases h),fun _ h=>(by cases h),fun _ _=>rfl⟩
  | x::xs,hx,y::ys,hy,z::zs,hz=>by
    rw [Zat,Zat,Zat]
    exact lex_tr (cmpT_tr x (hx x (by simp)) y (hy y (by simp)) z (hz z (by simp))) (Zd2 _ _) (Zd2 _ _) (Zd2 _ _) fun _ _=>cmpA_tr xs (fun w hw=>hx w (by simp [hw])) ys (fun w hw=>hy w (by simp [hw])) zs (fun w hw=>hz w (by simp [hw]))
end
theorem Fine.nan {t:Z01} (h:Fine t) (hk:t.fKind=3):nanW t.fBits.toNat=true→t.fBits=9221120237041090561:=by
  intro hn
  have ho:=h.right.1
  unfold okT at ho
  rw [if_neg (by omega),if_neg (by omega),if_pos hk] at ho
  unfold realMay at ho
  rw [nan_words _ (inB h).1,hn] at ho
  simpa using ho
end Go.Proofs.Ytllcnlonkloabaa.Sh
