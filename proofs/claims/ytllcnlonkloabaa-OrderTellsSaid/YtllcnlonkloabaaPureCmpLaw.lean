import Derived.Test.YtllcnlonkloabaaPureCmp
set_option linter.unusedVariables false
set_option linter.unusedSimpArgs false
namespace Go.Proofs.Ytllcnlonkloabaa.Sh
open Go Lift Go.Proofs
def lex (p q:Int):Int:=if p ≠ 0 then p else q
def B3 (p:Int):Prop:=p=0∨p=-1∨p=1
theorem lex_b3 {p q:Int} (h1:B3 p) (h2:B3 q):B3 (lex p q):=by unfold lex; split <;> assumption
theorem lex_neg (p q:Int):lex (-p) (-q)=-(lex p q):=by unfold lex; split <;> split <;> omega
theorem sgn_tr (x y z:Int):Tr (sgn (x - y)) (sgn (y - z)) (sgn (x - z)):=by
 unfold sgn
 refine ⟨?_, ?_, ?_, ?_⟩ <;> (repeat' split) <;> omega
theorem lex_tr {p q r p' q' r':Int} (h1:Tr p q r) (b1:B3 p) (b2:B3 q) (b3:B3 r) (h2:p=0→q=0→Tr p' q' r'):Tr (lex p p') (lex q q') (lex r r'):=by
 obtain ⟨z1,z2,lo,hi⟩:=h1
 unfold B3 at b1 b2 b3
 unfold lex
 by_cases hp:p=0
 ·by_cases hq:q=0
  ·have hr:r=0:=by rw [z1 hp,hq]
   rw [if_neg (by simpa using hp),if_neg (by simpa using hq),if_neg (by simpa using hr)]
   exact h2 hp hq
  ·have hr:=z1 hp
   rw [if_neg (by simpa using hp),if_pos hq,if_pos (by rw [hr]; exact hq),hr]
   exact ⟨fun _=>rfl,fun h=>absurd h hq,fun h1 h2=>h2,fun h1 h2=>h2⟩
 ·by_cases hq:q=0
  ·have hr:=z2 hq
   rw [if_pos hp,if_neg (by simpa using hq),if_pos (by rw [hr]; exact hp),hr]
   exact ⟨fun h=>absurd h hp,fun _=>rfl,fun h _=>h,fun h _=>h⟩
  ·rw [if_pos hp,if_pos hq]
   refine ⟨fun h=>absurd h hp,fun h=>absurd h hq,fun h k=>?_,fun h k=>?_⟩
   ·have:=lo h k; rw [if_pos (by omega)]; exact this
   ·have:=hi h k; rw [if_pos (by omega)]; exact this
def restT (a b:Z00):Int:=if a.fKind=1∨a.fKind=2∨a.fKind=3 then sgn (numKey a - numKey b) else if a.fKind=6 then lex (sgn ((a.fArgs.length:Int) - (b.fArgs.length:Int))) (cmpA a.fArgs b.fArgs) else if a.fKind=8 then cmpA a.fArgs b.fArgs else if a.fKind=9 then lexB a.fBytes.data.toList b.fBytes.data.toList else sgn (a.fN - b.fN)
theorem Zhb {a:Z00} (b:Z00) (h:a.fKind=1∨a.fKind=2∨a.fKind=3):restT a b=sgn (numKey a - numKey b):=by unfold restT; rw [if_pos h]
theorem Zhs {a:Z00} (b:Z00) (h:a.fKind=6):restT a b=lex (sgn ((a.fArgs.length:Int) - (b.fArgs.length:Int))) (cmpA a.fArgs b.fArgs):=by unfold restT; rw [if_neg (by omega),if_pos h]
theorem Zhp {a:Z00} (b:Z00) (h:a.fKind=8):restT a b=cmpA a.fArgs b.fArgs:=by unfold restT; rw [if_neg (by omega),if_neg (by omega),if_pos h]
theorem Zhd {a:Z00} (b:Z00) (h:a.fKind=9):restT a b=lexB a.fBytes.data.toList b.fBytes.data.toList:=by unfold restT; rw [if_neg (by omega),if_neg (by omega),if_neg (by omega),if_pos h]
theorem Zhr {a:Z00} (b:Z00) (h:a.fKind=4∨a.fKind=5∨a.fKind=7):restT a b=sgn (a.fN - b.fN):=by unfold restT; rw [if_neg (by omega),if_neg (by omega),if_neg (by omega),if_neg (by omega)]
theorem kinds_of {k:Int} (h:1≤k∧k≤9):(k=1∨k=2∨k=3)∨k=6∨k=8∨k=9∨(k=4∨k=5∨k=7):=by omega
theorem Zcc (a b:Z00):cmpT a b=lex (sgn (cls a.fKind - cls b.fKind)) (restT a b):=cmpT_eq a b
theorem Zb3 (x y:Z00) (xs ys:List Z00):cmpA (x::xs) (y::ys)=lex (cmpT x y) (cmpA xs ys):=by rw [cmpA]; rfl
mutual
theorem Zhi:∀ (a b:Z00),B3 (cmpT a b)
 |⟨k,n,m,f,s,args⟩,b=>by
  have ih:=cmpA_b3 args b.fArgs
  rw [Zcc]
  refine lex_b3 (Zaq _) ?_
  unfold restT
  repeat' split
  ·exact Zaq _
  ·exact lex_b3 (Zaq _) ih
  ·exact ih
  ·exact Zg2 _ _
  ·exact Zaq _
theorem cmpA_b3:∀ (xs ys:List Z00),B3 (cmpA xs ys)
 |[],[]=>by rw [cmpA]; exact .inl rfl
 |[],_::_=>by rw [cmpA]; exact .inr (.inl rfl)
 |_::_,[]=>by rw [cmpA]; exact .inr (.inr rfl)
 |x::xs,y::ys=>by rw [Zb3]; exact lex_b3 (Zhi x y) (cmpA_b3 xs ys)
end
mutual
theorem Zf4:∀ (a:Z00),Fine a→∀ b,Fine b→cmpT b a=-(cmpT a b)
 |⟨k,n,m,f,s,args⟩,ha,b,hb=>by
  have ih:=cmpA_turn args ha.arg b.fArgs hb.arg
  have ka:=ha.kind
  have kb:=hb.kind
  rw [Zcc,Zcc,Zd1]
  by_cases hc:sgn (cls k - cls b.fKind)=0
  ·rw [← lex_neg]
   congr 1
   have hcl:=cls_num ka kb hc
   generalize hA:(⟨k,n,m,f,s,args⟩:Z00)=a at *
   have hargs:a.fArgs=args:=by rw [← hA]
   rw [← hargs] at ih
   rcases kinds_of ka with h | h | h | h | h
   ·rw [Zhb b h,Zhb a (by omega),Zd1]
   ·rw [Zhs b h,Zhs a (by omega),Zd1,ih,lex_neg]
   ·rw [Zhp b h,Zhp a (by omega),ih]
   ·rw [Zhd b h,Zhd a (by omega),lexB_turn]
   ·rw [Zhr b h,Zhr a (by omega),Zd1]
  ·have e:∀ x y,lex (-(sgn (cls k - cls b.fKind))) x=-(lex (sgn (cls k - cls b.fKind)) y):=fun x y=>by
    unfold lex; rw [if_pos (by omega),if_pos hc]
   exact e _ _
theorem cmpA_turn:∀ (xs:List Z00),(∀ x ∈ xs,Fine x)→∀ ys,(∀ y ∈ ys,Fine y)→cmpA ys xs=-(cmpA xs ys)
 |[],_,[],_=>by rw [cmpA]; rfl
 |[],_,_::_,_=>by rw [cmpA,cmpA]; rfl
 |_::_,_,[],_=>by rw [cmpA,cmpA]
 |x::xs,hx,y::ys,hy=>by
  rw [Zb3,Zb3,Zf4 x (hx x (by simp)) y (hy y (by simp)),cmpA_turn xs (fun z hz=>hx z (by simp [hz])) ys (fun z hz=>hy z (by simp [hz])),lex_neg]
end
mutual
theorem cmpT_tr:∀ (a:Z00),Fine a→∀ b,Fine b→∀ c,Fine c→Tr (cmpT a b) (cmpT b c) (cmpT a c)
 |⟨k,n,m,f,s,args⟩,ha,b,hb,c,hc=>by
  have ih:=cmpA_tr args ha.arg b.fArgs hb.arg c.fArgs hc.arg
  have ka:=ha.kind
  have kb:=hb.kind
  have kc:=hc.kind
  rw [Zcc,Zcc,Zcc]
  refine lex_tr (sgn_tr _ _ _) (Zaq _) (Zaq _) (Zaq _) fun h1 h2=>?_
  have c1:=cls_num ka kb h1
  have c2:=cls_num kb kc h2
  generalize hA:(⟨k,n,m,f,s,args⟩:Z00)=a at *
  have hargs:a.fArgs=args:=by rw [← hA]
  rw [← hargs] at ih
  rcases kinds_of ka with h | h | h | h | h
  ·rw [Zhb b h,Zhb c (by omega),Zhb c h]
   exact sgn_tr _ _ _
  ·rw [Zhs b h,Zhs c (by omega),Zhs c h]
   exact lex_tr (sgn_tr _ _ _) (Zaq _) (Zaq _) (Zaq _) fun _ _=>ih
  ·rw [Zhp b h,Zhp c (by omega),Zhp c h]
   exact ih
  ·rw [Zhd b h,Zhd c (by omega),Zhd c h]
   exact lexB_tr _ _ _
  ·rw [Zhr b h,Zhr c (by omega),Zhr c h]
   exact sgn_tr _ _ _
theorem cmpA_tr:∀ (xs:List Z00),(∀ x ∈ xs,Fine x)→∀ ys,(∀ y ∈ ys,Fine y)→∀ zs,(∀ z ∈ zs,Fine z)→Tr (cmpA xs ys) (cmpA ys zs) (cmpA xs zs)
 |[],_,[],_,[],_=>by rw [cmpA]; exact ⟨fun _=>rfl,fun _=>rfl,fun h=>(by cases h),fun h=>(by cases h)⟩
 |[],_,[],_,_::_,_=>by rw [cmpA,cmpA]; exact ⟨fun _=>rfl,fun h=>(by cases h),fun h=>(by cases h),fun h=>(by cases h)⟩
 |[],_,_::_,_,[],_=>by rw [cmpA,cmpA,cmpA]; exact ⟨fun h=>(by cases h),fun h=>(by cases h),fun _ h=>(by cases h),fun h=>(by cases h)⟩
 |_::_,_,[],_,[],_=>by rw [cmpA,cmpA]; exact ⟨fun h=>(by cases h),fun _=>rfl,fun h=>(by cases h),fun _ h=>(by cases h)⟩
 |x::xs,_,[],_,z::zs,_=>by
  have:=cmpA_b3 (x::xs) (z::zs)
  rw [cmpA,cmpA]; exact ⟨fun h=>(by cases h),fun h=>(by cases h),fun h=>(by cases h),fun _ h=>(by cases h)⟩
 |[],_,y::ys,_,z::zs,_=>by
  rw [cmpA,cmpA]; exact ⟨fun h=>(by cases h),fun _=>rfl,fun _ _=>rfl,fun h=>(by cases h)⟩
 |x::xs,_,y::ys,_,[],_=>by
  rw [cmpA,cmpA]
  ·exact ⟨fun _=>rfl,fun h=>(by cases h),fun _ h=>(by cases h),fun _ _=>rfl⟩
 |x::xs,hx,y::ys,hy,z::zs,hz=>by
  rw [Zb3,Zb3,Zb3]
  exact lex_tr (cmpT_tr x (hx x (by simp)) y (hy y (by simp)) z (hz z (by simp))) (Zhi _ _) (Zhi _ _) (Zhi _ _) fun _ _=>cmpA_tr xs (fun w hw=>hx w (by simp [hw])) ys (fun w hw=>hy w (by simp [hw])) zs (fun w hw=>hz w (by simp [hw]))
end
theorem key_float {a:Nat} {b:Nat} (ha:a < 18446744073709551616) (hb:b < 18446744073709551616) (na:nanW a=true→a=9221120237041090561) (nb:nanW b=true→b=9221120237041090561):fkey a=fkey b ↔ a=b:=by
 constructor
 ·intro h
  have h1:=place_lt (a:=a) (b:=b)
  have h2:=place_lt (a:=b) (b:=a)
  have hp:place a=place b:=by omega
  have hra:rg a < 9223372036854775808:=zn _ (by decide)
  have hrb:rg b < 9223372036854775808:=zn _ (by decide)
  unfold place at hp
  cases ka:nanW a with
  |true =>
   cases kb:nanW b with
   |true=>rw [na ka,nb kb]
   |false=>rw [ka,kb] at hp; simp only [if_true,xh,if_false] at hp; split at hp <;> omega
  |false =>
   cases kb:nanW b with
   |true=>rw [ka,kb] at hp; simp only [if_true,xh,if_false] at hp; split at hp <;> omega
   |false =>
    rw [ka,kb] at hp
    simp only [xh,if_false] at hp
    have sa:sg a=decide (9223372036854775808≤a):=by
     unfold sg
     by_cases h:9223372036854775808≤a
     ·rw [decide_eq_true h,show a / 9223372036854775808=1 by omega]; rfl
     ·rw [decide_eq_false h,show a / 9223372036854775808=0 by omega]; rfl
    have sb:sg b=decide (9223372036854775808≤b):=by
     unfold sg
     by_cases h:9223372036854775808≤b
     ·rw [decide_eq_true h,show b / 9223372036854775808=1 by omega]; rfl
     ·rw [decide_eq_false h,show b / 9223372036854775808=0 by omega]; rfl
    rw [sa,sb] at hp
    unfold rg at hp
    simp only [decide_eq_true_eq] at hp
    split at hp <;> split at hp <;> omega
 ·intro h; rw [h]
theorem Fine.nan {t:Z00} (h:Fine t) (hk:t.fKind=3):nanW t.fBits.toNat=true→t.fBits=9221120237041090561:=by
 intro hn
 have ho:=h.right.1
 unfold okT at ho
 rw [if_neg (by omega),if_neg (by omega),if_pos hk] at ho
 unfold realMay at ho
 rw [nan_words _ (inB h).1,hn] at ho
 simpa using ho
theorem fkey_mod (b:Nat) (n:Int):3 * n ≠ fkey b∨nanW b=true:=by
 unfold fkey
 cases nanW b with
 |true=>exact .inr rfl
 |false=>left; simp only [xh,if_false]; split <;> omega
theorem key_zero {a b:Z00} (ha:Fine a) (hb:Fine b) (ka:a.fKind=1∨a.fKind=2∨a.fKind=3) (kb:b.fKind=1∨b.fKind=2∨b.fKind=3) :
  sgn (numKey a - numKey b)=0 ↔ a.fKind=b.fKind∧(a.fKind=1→a.fN=b.fN)∧(a.fKind=2→a.fNum=b.fNum)∧(a.fKind=3→a.fBits=b.fBits):=by
 have hfl:∀ (t u:Z00),Fine t→Fine u→(t.fKind=1∨t.fKind=2)→numKey t ≠ fkey u.fBits.toNat:=by
  intro t u ht hu hk
  unfold numKey
  rw [if_pos hk]
  rcases fkey_mod u.fBits.toNat (numV t * (UU:Int)) with h | h
  ·exact h
  ·unfold fkey
   rw [h]
   have:=int_topF (ht.numV_top hk)
   simp only [if_true]
   omega
 by_cases h1:a.fKind=1∨a.fKind=2
 ·by_cases h2:b.fKind=1∨b.fKind=2
  ·have e:sgn (numKey a - numKey b)=sgn (numV a - numV b):=by
    unfold numKey
    rw [if_pos h1,if_pos h2,sgn_scale]
   rw [e,Z80]
   unfold numV
   by_cases ka1:a.fKind=1
   ·have ia:=ha.int ka1
    rw [if_pos ka1]
    by_cases kb1:b.fKind=1
    ·rw [if_pos kb1]
     constructor
     ·intro h; exact ⟨by omega,fun _=>by omega,fun h=>by omega,fun h=>by omega⟩
     ·intro h; have:=h.2.1 ka1; omega
    ·rw [if_neg kb1]
     obtain ⟨x,hx,ex,hr⟩:=hb.big (by omega)
     rw [ex,Zcf]
     constructor
     ·intro h; omega
     ·intro h; omega
   ·rw [if_neg ka1]
    obtain ⟨x,hx,ex,hr⟩:=ha.big (by omega)
    rw [ex,Zcf]
    by_cases kb1:b.fKind=1
    ·have ib:=hb.int kb1
     rw [if_pos kb1]
     constructor
     ·intro h; omega
     ·intro h; omega
    ·rw [if_neg kb1]
     obtain ⟨y,hy,ey,hs⟩:=hb.big (by omega)
     rw [ey,Zcf]
     constructor
     ·intro h
      have:x=y:=by omega
      exact ⟨by omega,fun h=>absurd h ka1,fun _=>by rw [this],fun h=>by omega⟩
     ·intro h
      have:=numN_inj (h.2.2.1 (by omega))
      omega
  ·have hn:=hfl a b ha hb h1
   have e:numKey b=fkey b.fBits.toNat:=by unfold numKey; rw [if_neg h2]
   rw [e,Z80]
   constructor
   ·intro h; omega
   ·intro h; omega
 ·by_cases h2:b.fKind=1∨b.fKind=2
  ·have hn:=hfl b a hb ha h2
   have e:numKey a=fkey a.fBits.toNat:=by unfold numKey; rw [if_neg h1]
   rw [e,Z80]
   constructor
   ·intro h; omega
   ·intro h; omega
  ·have e1:numKey a=fkey a.fBits.toNat:=by unfold numKey; rw [if_neg h1]
   have e2:numKey b=fkey b.fBits.toNat:=by unfold numKey; rw [if_neg h2]
   have ia:=inB ha
   have ib:=inB hb
   have k:=key_float (a:=a.fBits.toNat) (b:=b.fBits.toNat) (by omega) (by omega) (fun h=>by rw [ha.nan (by omega) h]; rfl) (fun h=>by rw [hb.nan (by omega) h]; rfl)
   rw [e1,e2,Z80]
   constructor
   ·intro h
    have:=k.1 (by omega)
    exact ⟨by omega,fun h=>by omega,fun h=>by omega,fun _=>by omega⟩
   ·intro h
    have:=h.2.2.2 (by omega)
    rw [this]; omega
end Go.Proofs.Ytllcnlonkloabaa.Sh
