import Derived.Test.YtllcnlonkloabaaPureCmpLaw
set_option linter.unusedVariables false
set_option linter.unusedSimpArgs false
namespace Go.Proofs.Ytllcnlonkloabaa.Sh
open Go Lift Go.Proofs
open Go.IntKind (wrap)
def leT (a b:Z00):Prop:=cmpT a b≤0
def Srt (l:List Z00):Prop:=l.Pairwise leT
def AllF (l:List Z00):Prop:=∀ x ∈ l,Fine x
theorem leT_tr {a b c:Z00} (ha:Fine a) (hb:Fine b) (hc:Fine c) (h1:leT a b) (h2:leT b c):leT a c:=by
 have t:=cmpT_tr a ha b hb c hc
 have b1:=Zhi a b
 have b2:=Zhi b c
 have b3:=Zhi a c
 have z1:=t.z1
 have z2:=t.z2
 have lo:=t.lo
 unfold leT B3 at *
 omega
theorem Zfz {a b:Z00} (ha:Fine a) (hb:Fine b) (h:¬ cmpT a b < 0):leT b a:=by
 have:=Zf4 a ha b hb
 unfold leT; omega
theorem not_lt {a b:Z00} (ha:Fine a) (hb:Fine b) (h:leT b a):¬ cmpT a b < 0:=by
 have:=Zf4 a ha b hb
 unfold leT at h; omega
theorem Zi6 {a b:Z00} (h:cmpT a b < 0):leT a b:=by unfold leT; omega
theorem AllF.app {a b:List Z00} (ha:AllF a) (hb:AllF b):AllF (a++b):=fun x hx=>by
 rcases List.mem_append.1 hx with h | h
 ·exact ha x h
 ·exact hb x h
theorem AllF.left {a b:List Z00} (h:AllF (a++b)):AllF a:=fun x hx=>h x (List.mem_append_left _ hx)
theorem AllF.right {a b:List Z00} (h:AllF (a++b)):AllF b:=fun x hx=>h x (List.mem_append_right _ hx)
theorem AllF.perm {a b:List Z00} (h:AllF b) (p:a.Perm b):AllF a:=fun x hx=>h x (p.mem_iff.1 hx)
structure Sorts (y x:List Z00):Prop where
 perm:y.Perm x
 srt:Srt y
 stay:Srt x→y=x
section
variable {α:Type} (P Q T:List α) (x y z:α)
theorem g1:(P++x::T)[P.length]? = some x:=by simp
theorem s1:(P++x::T).set P.length z=P++z::T:=by simp [List.set_append]
theorem g2:(P++x::(Q++y::T))[P.length+1+Q.length]? = some y:=by
 have:=g1 (P++x::Q) T y
 rw [qb,uq,show (P++x::Q).length=P.length+1+Q.length by simp; omega] at this
 exact this
theorem s2:(P++x::(Q++y::T)).set (P.length+1+Q.length) z=P++x::(Q++z::T):=by
 have:=s1 (P++x::Q) T y z
 rw [qb,uq,show (P++x::Q).length=P.length+1+Q.length by simp; omega,qb,uq] at this
 exact this
end
theorem inL {p0:List Z00} {j:Nat} (h:j < p0.length):0≤(j:Int)∧(j:Int) < ((((p0.map Z02).length):Nat):Int):=⟨by omega,by rw [xg]; omega⟩
theorem wpred {j:Nat} (h:j < 1000000):wrap .i64 (((j+1:Nat):Int) - (1:Int))=(j:Int):=by rw [Zk1 _ (by omega) (by omega)]; omega
def insRr (x:Z00):List Z00→List Z00
 |[]=>[x]
 |y::ys=>if cmpT x y < 0 then y::insRr x ys else x::y::ys
def insR (x:Z00) (S:List Z00):List Z00:=(insRr x S.reverse).reverse
theorem insR_nil (x:Z00):insR x []=[x]:=rfl
theorem Zdf (x:Z00) (S:List Z00) (y:Z00):insR x (S++[y])=if cmpT x y < 0 then insR x S++[y] else S++[y]++[x]:=by
 unfold insR
 rw [List.reverse_append,List.reverse_singleton,List.singleton_append,insRr]
 split
 ·rw [List.reverse_cons]
 ·rw [List.reverse_cons,List.reverse_cons,List.reverse_reverse]
theorem snoc_of {α:Type} {l:List α} {k:Nat} (h:l.length=k+1):∃ l' y,l=l'++[y]∧l'.length=k:=by
 rcases zg l with rfl | ⟨l',y,rfl⟩
 ·simp at h
 ·exact ⟨l',y,by simp,by simpa using h⟩
theorem ins_loop (p0 c A:List Z00) (p2 v8:Int):∀ (k:Nat) (S:List Z00) (x:Z00) (R:List Z00),S.length=k→p0.length=A.length+S.length+1+R.length→p0.length≤100000→Fine x→AllF S →
  Ev (fun N=>Z0t N p0 (A.length:Int) p2 c v8 (A++S++x::R) ((A.length+S.length:Nat):Int)) (A++insR x S++R)
 |0,S,x,R,hk,hl,hm,hx,hS=>by
  have:S=[]:=List.length_eq_zero_iff.1 hk
  subst this
  rw [insR_nil]
  refine Ev.step ?_ (fun N=>by rw [Z0t])
  refine Ev.neg (by simp) ?_
  rw [show A++[]++x::R=A++[x]++R by simp]
  exact Ev.now _
 |k+1,S,x,R,hk,hl,hm,hx,hS=>by
  obtain ⟨S',y,rfl,hk'⟩:=snoc_of hk
  have hy:Fine y:=hS y (by simp)
  have hS':AllF S':=hS.left
  simp only [yw,zf] at hl
  have el:A++(S'++[y])++x::R=(A++S')++y::([]++x::R):=by simp
  have ej:((A.length+(S'++[y]).length:Nat):Int)=(((A++S').length+1:Nat):Int):=by simp; omega
  have hlen:(A++S').length=A.length+S'.length:=by simp
  have hw:wrap .i64 ((((A++S').length+1:Nat):Int) - (1:Int))=(((A++S').length:Nat):Int):=wpred (by omega)
  rw [el,ej]
  refine Ev.step ?_ (fun N=>by rw [Z0t,hw,xn,xn,uf,uf])
  have q1:=g1 (A++S') ([]++x::R) y
  have q2:((A++S')++y::([]++x::R))[(A++S').length+1]? = some x:=g2 (A++S') [] R y x
  have t2:((A++S')++y::([]++x::R)).set ((A++S').length+1) y=(A++S')++y::([]++y::R):=s2 (A++S') [] R y x y
  have b1:(A++S').length < p0.length:=by omega
  have b2:(A++S').length+1 < p0.length:=by omega
  have c1:(((A++S').length+1:Nat):Int) > (A.length:Int):=by omega
  refine Ev.pos c1 (Ev.pos (inL b2) (Ev.bindc q2 (Ev.pos (inL b1) (Ev.bindc q1 (Ev.bind (Z84 x hx y hy) ?_)))))
  rw [Zdf]
  by_cases hc:cmpT x y < 0
  ·rw [if_pos hc]
   refine Ev.pos hc (Ev.pos (inL b1) (Ev.bindc q1 (Ev.pos (inL b2) (Ev.bindc q2 (Ev.pos (inL b2) (Ev.bindc q2 (Ev.pos (inL b1) ?_)))))))
   rw [t2]
   refine Ev.bindc (g1 (A++S') ([]++y::R) y) ?_
   rw [uf,s1]
   have ih:=ins_loop p0 c A p2 v8 k S' x (y::R) hk' (by simp; omega) hm hx hS'
   rw [show A++(insR x S'++[y])++R=A++insR x S'++y::R by simp,hlen]
   exact ih
  ·rw [if_neg hc]
   refine Ev.neg hc ?_
   rw [show A++(S'++[y]++[x])++R=A++S'++y::([]++x::R) by simp]
   exact Ev.now _
theorem Zf9 (x:Z00):∀ (k:Nat) (S:List Z00),S.length=k→(insR x S).Perm (S++[x])
 |0,S,hk=>by rw [List.length_eq_zero_iff.1 hk]; exact jc _
 |k+1,S,hk=>by
  obtain ⟨S',y,rfl,hk'⟩:=snoc_of hk
  rw [Zdf]
  split
  ·refine ((Zf9 x k S' hk').append_right [y]).trans ?_
   rw [qb,qb]
   exact List.Perm.append_left _ (List.perm_append_comm)
  ·exact jc _
theorem Zfy {S:List Z00} {y:Z00}:Srt (S++[y]) ↔ Srt S∧∀ z ∈ S,leT z y:=by
 unfold Srt
 rw [List.pairwise_append]
 constructor
 ·rintro ⟨h1,_,h3⟩; exact ⟨h1,fun z hz=>h3 z hz y (by simp)⟩
 ·rintro ⟨h1,h3⟩; exact ⟨h1,List.pairwise_singleton _ _,fun z hz w hw=>by rw [List.mem_singleton.1 hw]; exact h3 z hz⟩
theorem insR_srt {x:Z00} (hx:Fine x):∀ (k:Nat) (S:List Z00),S.length=k→AllF S→Srt S→Srt (insR x S)
 |0,S,hk,_,_=>by rw [List.length_eq_zero_iff.1 hk]; exact List.pairwise_singleton _ _
 |k+1,S,hk,hF,hs=>by
  obtain ⟨S',y,rfl,hk'⟩:=snoc_of hk
  obtain ⟨h1,h2⟩:=Zfy.1 hs
  have hy:Fine y:=hF y (by simp)
  rw [Zdf]
  split
  ·rename_i hc
   refine Zfy.2 ⟨insR_srt hx k S' hk' hF.left h1,fun z hz=>?_⟩
   rcases List.mem_append.1 ((Zf9 x k S' hk').mem_iff.1 hz) with h | h
   ·exact h2 z h
   ·rw [List.mem_singleton.1 h]; exact Zi6 hc
  ·rename_i hc
   refine Zfy.2 ⟨hs,fun z hz=>?_⟩
   have hyx:=Zfz hx hy hc
   rcases List.mem_append.1 hz with h | h
   ·exact leT_tr (hF.left z h) hy hx (h2 z h) hyx
   ·rw [List.mem_singleton.1 h]; exact hyx
theorem insR_stay {x:Z00} (hx:Fine x) {S:List Z00} (hF:AllF S) (h:Srt (S++[x])):insR x S=S++[x]:=by
 rcases zg S with rfl | ⟨S',y,rfl⟩
 ·rfl
 ·rw [zu] at *
  rw [Zdf,if_neg (not_lt hx (hF y (by simp)) ((Zfy.1 h).2 y (by simp)))]
def isort:List Z00→List Z00→List Z00
 |S,[]=>S
 |S,x::R=>isort (insR x S) R
theorem Zho:∀ (R S:List Z00),AllF S→AllF R→Srt S→Sorts (isort S R) (S++R)
 |[],S,hS,_,hs=>by rw [xm]; exact ⟨jc _,hs,fun _=>rfl⟩
 |x::R,S,hS,hR,hs=>by
  have hx:Fine x:=hR x (by simp)
  have hp:=Zf9 x _ S rfl
  have ih:=Zho R (insR x S) ((hS.app (fun y hy=>by rw [List.mem_singleton.1 hy]; exact hx)).perm hp) (fun y hy=>hR y (by simp [hy])) (insR_srt hx _ S rfl hS hs)
  refine ⟨ih.perm.trans ?_,ih.srt,fun h=>?_⟩
  ·rw [show S++x::R=(S++[x])++R by simp]
   exact hp.append_right R
  ·rw [show S++x::R=(S++[x])++R by simp] at h ⊢
   have h1:insR x S=S++[x]:=insR_stay hx hS (List.pairwise_append.1 h).1
   show isort (insR x S) R=_
   rw [ih.stay (by rw [h1]; exact h),h1]
theorem isort_loop (p0 A Z:List Z00) (b:Nat):∀ (R S:List Z00),b=A.length+S.length+R.length→p0.length=A.length+S.length+R.length+Z.length→p0.length≤100000→AllF S→AllF R →
  Ev (fun N=>Z0g N p0 (A.length:Int) (b:Int) (A++S++(R++Z)) ((A.length+S.length:Nat):Int)) (A++isort S R++Z)
 |[],S,hb,hl,hm,hS,hR=>by
  refine Ev.step ?_ (fun N=>by rw [Z0g])
  refine Ev.neg (by simp at hb; omega) ?_
  exact Ev.now _
 |x::R,S,hb,hl,hm,hS,hR=>by
  simp only [xu] at hb hl
  have hx:Fine x:=hR x (by simp)
  have hp:=Zf9 x _ S rfl
  have hlen:(insR x S).length=S.length+1:=by rw [hp.length_eq]; simp
  have h1:=ins_loop p0 (A++S++(x::R++Z)) A (b:Int) ((A.length+S.length:Nat):Int) S.length S x (R++Z) rfl (by simp; omega) hm hx hS
  have ih:=isort_loop p0 A Z b R (insR x S) (by omega) (by omega) hm ((hS.app (fun y hy=>by rw [List.mem_singleton.1 hy]; exact hx)).perm hp) (fun y hy=>hR y (by simp [hy]))
  rw [hlen,show A.length+(S.length+1)=(A.length+S.length)+1 by omega] at ih
  have hw:wrap .i64 (((A.length+S.length:Nat):Int)+(1:Int))=(((A.length+S.length)+1:Nat):Int):=Z3a (by omega)
  refine Ev.step ?_ (fun N=>by rw [Z0g,hw])
  exact Ev.pos (by omega) (Ev.bind h1 ih)
theorem srt_one (x:Z00):Srt [x]:=List.pairwise_singleton _ _
theorem isort_ev (A X Z:List Z00) (hm:A.length+X.length+Z.length≤100000) (hX:AllF X):∃ Y,Ev (fun N=>Z0y N (A++X++Z) (A.length:Int) ((A.length+X.length:Nat):Int)) (A++Y++Z)∧Sorts Y X:=by
 have hw:wrap .i64 ((A.length:Int)+(1:Int))=((A.length+1:Nat):Int):=Z3a (by omega)
 cases X with
 |nil =>
  refine ⟨[], ?_,jc _,List.Pairwise.nil,fun _=>rfl⟩
  unfold Z0y
  rw [hw]
  have hl:Ev (fun N=>Z0g N (A++[]++Z) (A.length:Int) ((A.length+([]:List Z00).length:Nat):Int) (A++[]++Z) ((A.length+1:Nat):Int)) (A++[]++Z):=by
   refine Ev.step ?_ (fun N=>by rw [Z0g])
   exact Ev.neg (by simp; omega) (Ev.now _)
  exact Ev.bind hl (Ev.now _)
 |cons x X =>
  have hx:Fine x:=hX x (by simp)
  have hX':AllF X:=fun y hy=>hX y (by simp [hy])
  have h1:AllF [x]:=fun y hy=>by rw [List.mem_singleton.1 hy]; exact hx
  refine ⟨isort [x] X, ?_,Zho X [x] h1 hX' (srt_one x)⟩
  have:=isort_loop (A++(x::X)++Z) A Z (A.length+(x::X).length) X [x] (by simp; omega) (by simp; omega) (by simp at hm ⊢; omega) h1 hX'
  unfold Z0y
  rw [hw]
  have e:A++[x]++(X++Z)=A++(x::X)++Z:=by simp
  rw [e] at this
  exact Ev.bind this (Ev.now _)
end Go.Proofs.Ytllcnlonkloabaa.Sh
