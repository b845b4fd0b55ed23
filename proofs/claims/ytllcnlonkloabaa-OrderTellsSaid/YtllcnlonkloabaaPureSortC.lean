import Derived.Test.YtllcnlonkloabaaPureSortB
set_option linter.unusedVariables false
set_option linter.unusedSimpArgs false
namespace Go.Proofs.Ytllcnlonkloabaa.Sh
open Go Lift Go.Proofs
open Go.IntKind (wrap)
theorem whalf {a b:Nat} (h:a+b < 1000000000):wrap .i64 (Int.fdiv (wrap .u64 (wrap .i64 ((a:Int)+(b:Int)))) (yh 1))=(((a+b) / 2:Nat):Int):=by
 have p1:yh 1=2:=by decide
 rw [p1,wadd (by omega),wrapU _ (by omega) (by omega),um _ (by decide),Zk1 _ (by omega) (by omega)]; omega
def el (l:List Z00) (k:Nat):Z00:=l.getD k ⟨0,0,⟨false,[]⟩,0,ByteArray.mk #[],[]⟩
theorem el_get {l:List Z00} {k:Nat} (h:k < l.length):l[k]? = some (el l k):=by
 unfold el
 rw [xe,yu h]; rfl
theorem Zb7 {l:List Z00} {k:Nat} (hF:AllF l) (h:k < l.length):Fine (el l k):=hF _ (qw (el_get h))
theorem el_at (P T:List Z00) (z:Z00):el (P++z::T) P.length=z:=by
 unfold el
 rw [xe,g1]; rfl
theorem cmp_self {a:Z00} (h:Fine a):cmpT a a=0:=by have:=Zf4 a h a h; omega
theorem leT_refl {a:Z00} (h:Fine a):leT a a:=by unfold leT; rw [cmp_self h]; omega
theorem last_le {L:List Z00} {z u:Z00} (h:Srt (L++[z])) (hz:Fine z) (hu:u ∈ L++[z]):leT u z:=by
 rcases List.mem_append.1 hu with h1 | h1
 ·exact (Zfy.1 h).2 u h1
 ·rw [List.mem_singleton.1 h1]; exact leT_refl hz
theorem head_le {L:List Z00} {z u:Z00} (h:Srt (z::L)) (hz:Fine z) (hu:u ∈ z::L):leT z u:=by
 rcases List.mem_cons.1 hu with h1 | h1
 ·rw [h1]; exact leT_refl hz
 ·exact (List.pairwise_cons.1 h).1 u h1
def Cut (T:Nat→Prop) (i j s:Nat):Prop:=i≤s∧s≤j∧(i < s→T (s - 1))∧(s < j→¬ T s)
theorem Cut.right {T:Nat→Prop} {i j h s:Nat} (hi:i≤h) (hT:T h) (c:Cut T (h+1) j s):Cut T i j s:=by
 obtain ⟨c1,c2,c3,c4⟩:=c
 refine ⟨by omega,c2,fun hs=>?_,c4⟩
 by_cases e:h+1 < s
 ·exact c3 e
 ·rw [show s - 1=h by omega]; exact hT
theorem Cut.left {T:Nat→Prop} {i j h s:Nat} (hj:h < j) (hT:¬ T h) (c:Cut T i h s):Cut T i j s:=by
 obtain ⟨c1,c2,c3,c4⟩:=c
 refine ⟨c1,by omega,c3,fun hs=>?_⟩
 by_cases e:s < h
 ·exact c4 e
 ·rw [show s=h by omega]; exact hT
theorem find0 (p0:List Z00) (a:Nat) (hF:AllF p0) (hm:p0.length≤100000) (ha:a < p0.length):∀ (d i j:Nat),j - i≤d→i≤j→j≤p0.length →
  ∃ s,Ev (fun N=>slices_symMergeCmpFunc_api_Term_L0 N p0 (a:Int) (i:Int) (j:Int)) ((s:Nat):Int)∧Cut (fun k=>cmpT (el p0 k) (el p0 a) < 0) i j s
 |0,i,j,hd,hij,hj=>by
  refine ⟨i, ?_,xw _,hij,fun h=>by omega,fun h=>by omega⟩
  refine Ev.step ?_ (fun N=>by rw [slices_symMergeCmpFunc_api_Term_L0])
  exact Ev.neg (by omega) (Ev.now _)
 |d+1,i,j,hd,hij,hj=>by
  by_cases h:i < j
  ·have hw:=whalf (a:=i) (b:=j) (by omega)
   have hh1:i≤(i+j) / 2:=by omega
   have hh2:(i+j) / 2 < j:=by omega
   generalize (i+j) / 2=h' at *
   have hw2:wrap .i64 ((h':Int)+(1:Int))=((h'+1:Nat):Int):=Z3a (by omega)
   by_cases c:cmpT (el p0 h') (el p0 a) < 0
   ·obtain ⟨s,e,k⟩:=find0 p0 a hF hm ha d (h'+1) j (by omega) (by omega) hj
    refine ⟨s, ?_,k.right hh1 c⟩
    refine Ev.step ?_ (fun N=>by rw [slices_symMergeCmpFunc_api_Term_L0,hw,hw2,xn,xn])
    exact Ev.pos (by omega) (Ev.pos (inL (by omega)) (Ev.bindc (el_get (by omega)) (Ev.pos (inL ha) (Ev.bindc (el_get ha) (Ev.bind (Z84 _ (Zb7 hF (by omega)) _ (Zb7 hF ha)) (Ev.pos c e))))))
   ·obtain ⟨s,e,k⟩:=find0 p0 a hF hm ha d i h' (by omega) hh1 (by omega)
    refine ⟨s, ?_,k.left hh2 c⟩
    refine Ev.step ?_ (fun N=>by rw [slices_symMergeCmpFunc_api_Term_L0,hw,hw2,xn,xn])
    exact Ev.pos (by omega) (Ev.pos (inL (by omega)) (Ev.bindc (el_get (by omega)) (Ev.pos (inL ha) (Ev.bindc (el_get ha) (Ev.bind (Z84 _ (Zb7 hF (by omega)) _ (Zb7 hF ha)) (Ev.neg c e))))))
  ·refine ⟨i, ?_,xw _,hij,fun h=>by omega,fun h'=>absurd h' h⟩
   refine Ev.step ?_ (fun N=>by rw [slices_symMergeCmpFunc_api_Term_L0])
   exact Ev.neg (by omega) (Ev.now _)
theorem find2 (p0:List Z00) (a:Nat) (hF:AllF p0) (hm:p0.length≤100000) (ha:a < p0.length):∀ (d i j:Nat),j - i≤d→i≤j→j≤p0.length →
  ∃ s,Ev (fun N=>slices_symMergeCmpFunc_api_Term_L2 N p0 (a:Int) (i:Int) (j:Int)) ((s:Nat):Int)∧Cut (fun k=>¬ cmpT (el p0 a) (el p0 k) < 0) i j s
 |0,i,j,hd,hij,hj=>by
  refine ⟨i, ?_,xw _,hij,fun h=>by omega,fun h=>by omega⟩
  refine Ev.step ?_ (fun N=>by rw [slices_symMergeCmpFunc_api_Term_L2])
  exact Ev.neg (by omega) (Ev.now _)
 |d+1,i,j,hd,hij,hj=>by
  by_cases h:i < j
  ·have hw:=whalf (a:=i) (b:=j) (by omega)
   have hh1:i≤(i+j) / 2:=by omega
   have hh2:(i+j) / 2 < j:=by omega
   generalize (i+j) / 2=h' at *
   have hw2:wrap .i64 ((h':Int)+(1:Int))=((h'+1:Nat):Int):=Z3a (by omega)
   by_cases c:¬ cmpT (el p0 a) (el p0 h') < 0
   ·obtain ⟨s,e,k⟩:=find2 p0 a hF hm ha d (h'+1) j (by omega) (by omega) hj
    refine ⟨s, ?_,k.right hh1 c⟩
    refine Ev.step ?_ (fun N=>by rw [slices_symMergeCmpFunc_api_Term_L2,hw,hw2,xn,xn])
    exact Ev.pos (by omega) (Ev.pos (inL ha) (Ev.bindc (el_get ha) (Ev.pos (inL (by omega)) (Ev.bindc (el_get (by omega)) (Ev.bind (Z84 _ (Zb7 hF ha) _ (Zb7 hF (by omega))) (Ev.pos c e))))))
   ·obtain ⟨s,e,k⟩:=find2 p0 a hF hm ha d i h' (by omega) hh1 (by omega)
    refine ⟨s, ?_,k.left hh2 c⟩
    refine Ev.step ?_ (fun N=>by rw [slices_symMergeCmpFunc_api_Term_L2,hw,hw2,xn,xn])
    exact Ev.pos (by omega) (Ev.pos (inL ha) (Ev.bindc (el_get ha) (Ev.pos (inL (by omega)) (Ev.bindc (el_get (by omega)) (Ev.bind (Z84 _ (Zb7 hF ha) _ (Zb7 hF (by omega))) (Ev.neg c e))))))
  ·refine ⟨i, ?_,xw _,hij,fun h=>by omega,fun h'=>absurd h' h⟩
   refine Ev.step ?_ (fun N=>by rw [slices_symMergeCmpFunc_api_Term_L2])
   exact Ev.neg (by omega) (Ev.now _)
theorem find5 (p0:List Z00) (a m b:Nat) (hF:AllF p0) (hm:p0.length≤100000) (hb:b≤p0.length) (hmb:m < b) (ham:a < m):∀ (d i j:Nat),j - i≤d→i≤j→j≤m→(a+b) / 2+m < p0.length+i+1→j≤(a+b) / 2+m →
  ∃ s,Ev (fun N=>slices_symMergeCmpFunc_api_Term_L5 N p0 (a:Int) (m:Int) (b:Int) (i:Int) (j:Int)) ((s:Nat):Int)∧Cut (fun k=>¬ cmpT (el p0 ((a+b) / 2+m - 1 - k)) (el p0 k) < 0) i j s
 |0,i,j,hd,hij,hj,h6,h7=>by
  refine ⟨i, ?_,xw _,hij,fun h=>by omega,fun h=>by omega⟩
  refine Ev.step ?_ (fun N=>by rw [slices_symMergeCmpFunc_api_Term_L5])
  exact Ev.neg (by omega) (Ev.now _)
 |d+1,i,j,hd,hij,hj,h6,h7=>by
  by_cases h:i < j
  ·have hw:=whalf (a:=i) (b:=j) (by omega)
   have hmid:=whalf (a:=a) (b:=b) (by omega)
   have hh1:i≤(i+j) / 2:=by omega
   have hh2:(i+j) / 2 < j:=by omega
   generalize (i+j) / 2=h' at *
   have ih:=fun i j=>find5 p0 a m b hF hm hb hmb ham d i j
   have hmid1:(a+b) / 2 < 200000:=by omega
   generalize hM:(a+b) / 2=M at *
   have hw2:wrap .i64 ((h':Int)+(1:Int))=((h'+1:Nat):Int):=Z3a (by omega)
   have hw3:wrap .i64 ((M:Int)+(m:Int))=((M+m:Nat):Int):=wadd (by omega)
   have hw4:wrap .i64 (((M+m:Nat):Int) - (1:Int))=((M+m - 1:Nat):Int):=by rw [Zk1 _ (by omega) (by omega)]; omega
   have hw5:wrap .i64 (((M+m - 1:Nat):Int) - (h':Int))=((M+m - 1 - h':Nat):Int):=wsub (by omega) (by omega)
   have r1:M+m - 1 - h' < p0.length:=by omega
   have r2:h' < p0.length:=by omega
   by_cases c:¬ cmpT (el p0 (M+m - 1 - h')) (el p0 h') < 0
   ·obtain ⟨s,e,k⟩:=ih (h'+1) j (by omega) (by omega) hj (by omega) (by omega)
    refine ⟨s, ?_,k.right hh1 c⟩
    refine Ev.step ?_ (fun N=>by rw [slices_symMergeCmpFunc_api_Term_L5,hw,hw2,hmid,hw3,hw4,hw5,xn,xn])
    exact Ev.pos (by omega) (Ev.pos (inL r1) (Ev.bindc (el_get r1) (Ev.pos (inL r2) (Ev.bindc (el_get r2) (Ev.bind (Z84 _ (Zb7 hF r1) _ (Zb7 hF r2)) (Ev.pos c e))))))
   ·obtain ⟨s,e,k⟩:=ih i h' (by omega) hh1 (by omega) (by omega) (by omega)
    refine ⟨s, ?_,k.left hh2 c⟩
    refine Ev.step ?_ (fun N=>by rw [slices_symMergeCmpFunc_api_Term_L5,hw,hw2,hmid,hw3,hw4,hw5,xn,xn])
    exact Ev.pos (by omega) (Ev.pos (inL r1) (Ev.bindc (el_get r1) (Ev.pos (inL r2) (Ev.bindc (el_get r2) (Ev.bind (Z84 _ (Zb7 hF r1) _ (Zb7 hF r2)) (Ev.neg c e))))))
  ·refine ⟨i, ?_,xw _,hij,fun h=>by omega,fun h'=>absurd h' h⟩
   refine Ev.step ?_ (fun N=>by rw [slices_symMergeCmpFunc_api_Term_L5])
   exact Ev.neg (by omega) (Ev.now _)
theorem bub_r (p0:List Z00) (x:Z00) (Z:List Z00) (r:Nat) (hm:p0.length≤100000):∀ (Y P:List Z00),r=P.length+Y.length+1→p0.length=P.length+1+Y.length+Z.length →
  Ev (fun N=>slices_symMergeCmpFunc_api_Term_L1 N p0 ((r:Nat):Int) (P++x::(Y++Z)) ((P.length:Nat):Int)) (P++Y++x::Z)
 |[],P,hr,hl=>by
  have hw:wrap .i64 (((r:Nat):Int) - (1:Int))=((P.length:Nat):Int):=by simp only [xx] at hr; rw [Zk1 _ (by omega) (by omega)]; omega
  refine Ev.step ?_ (fun N=>by rw [slices_symMergeCmpFunc_api_Term_L1,hw])
  refine Ev.neg (by omega) ?_
  rw [show P++x::([]++Z)=P++[]++x::Z by simp]
  exact Ev.now _
 |y::Y,P,hr,hl=>by
  simp only [xu] at hr hl
  have hw:wrap .i64 (((r:Nat):Int) - (1:Int))=((r - 1:Nat):Int):=by rw [Zk1 _ (by omega) (by omega)]; omega
  have hw2:wrap .i64 (((P.length:Nat):Int)+(1:Int))=((P.length+1:Nat):Int):=Z3a (by omega)
  have b1:P.length < p0.length:=by omega
  have b2:P.length+1 < p0.length:=by omega
  have el:P++x::(y::Y++Z)=P++x::([]++y::(Y++Z)):=by simp
  have q1:=g1 P ([]++y::(Y++Z)) x
  have q2:(P++x::([]++y::(Y++Z)))[P.length+1]? = some y:=g2 P [] (Y++Z) x y
  have ih:=bub_r p0 x Z r hm Y (P++[y]) (by simp; omega) (by simp; omega)
  rw [el]
  refine Ev.step ?_ (fun N=>by rw [slices_symMergeCmpFunc_api_Term_L1,hw,hw2,xn,xn])
  refine Ev.pos (by omega) (Ev.pos (inL b2) (Ev.bindc q2 (Ev.pos (inL b1) (Ev.bindc q1 (Ev.pos (inL b1) (Ev.bindc q1 (Ev.pos (inL b2) ?_)))))))
  simp only [uf]
  rw [s1]
  refine Ev.bindc (show (P++y::([]++y::(Y++Z)))[P.length+1]? = some y from g2 P [] (Y++Z) y y) ?_
  rw [show (P++y::([]++y::(Y++Z))).set (P.length+1) x=P++y::([]++x::(Y++Z)) from s2 P [] (Y++Z) y y x]
  rw [show P++y::([]++x::(Y++Z))=(P++[y])++x::(Y++Z) by simp,show P++y::Y++x::Z=(P++[y])++Y++x::Z by simp,show P.length+1=(P++[y]).length by simp]
  exact ih
theorem bub_l (p0:List Z00) (y:Z00) (P:List Z00) (hm:p0.length≤100000):∀ (k:Nat) (X Z:List Z00),X.length=k→p0.length=P.length+1+X.length+Z.length →
  Ev (fun N=>slices_symMergeCmpFunc_api_Term_L3 N p0 ((P.length:Nat):Int) (P++X++y::Z) ((P.length+X.length:Nat):Int)) (P++y::(X++Z))
 |0,X,Z,hk,hl=>by
  have:X=[]:=List.length_eq_zero_iff.1 hk
  subst this
  refine Ev.step ?_ (fun N=>by rw [slices_symMergeCmpFunc_api_Term_L3])
  refine Ev.neg (by simp) ?_
  rw [show P++[]++y::Z=P++y::([]++Z) by simp]
  exact Ev.now _
 |k+1,X,Z,hk,hl=>by
  obtain ⟨X',x,rfl,hk'⟩:=snoc_of hk
  simp only [yw,zf] at hl
  have el:P++(X'++[x])++y::Z=(P++X')++x::([]++y::Z):=by simp
  have hlen:(P++X').length=P.length+X'.length:=by simp
  have ej:((P.length+(X'++[x]).length:Nat):Int)=(((P++X').length+1:Nat):Int):=by simp; omega
  have hw:wrap .i64 ((((P++X').length+1:Nat):Int) - (1:Int))=(((P++X').length:Nat):Int):=wpred (by omega)
  have b1:(P++X').length < p0.length:=by omega
  have b2:(P++X').length+1 < p0.length:=by omega
  have q1:=g1 (P++X') ([]++y::Z) x
  have q2:((P++X')++x::([]++y::Z))[(P++X').length+1]? = some y:=g2 (P++X') [] Z x y
  have ih:=bub_l p0 y P hm k X' (x::Z) hk' (by simp; omega)
  rw [el,ej]
  refine Ev.step ?_ (fun N=>by rw [slices_symMergeCmpFunc_api_Term_L3,hw,xn,xn])
  refine Ev.pos (by omega) (Ev.pos (inL b1) (Ev.bindc q1 (Ev.pos (inL b2) (Ev.bindc q2 (Ev.pos (inL b2) (Ev.bindc q2 (Ev.pos (inL b1) ?_)))))))
  simp only [uf]
  rw [show ((P++X')++x::([]++y::Z)).set ((P++X').length+1) x=(P++X')++x::([]++x::Z) from s2 (P++X') [] Z x y x]
  refine Ev.bindc (g1 (P++X') ([]++x::Z) x) ?_
  rw [s1,show (P++X')++y::([]++x::Z)=P++X'++y::(x::Z) by simp,show P++y::(X'++[x]++Z)=P++y::(X'++x::Z) by simp,hlen]
  exact ih
end Go.Proofs.Ytllcnlonkloabaa.Sh
