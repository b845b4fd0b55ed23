import Derived.Test.YtllcnlonkloabaaPureSortA
set_option linter.unusedVariables false
set_option linter.unusedSimpArgs false
namespace Go.Proofs.Ytllcnlonkloabaa.Sh
open Go Lift Go.Proofs
open Go.IntKind (wrap)
theorem wadd {a b:Nat} (h:a+b < 1000000000):wrap .i64 ((a:Int)+(b:Int))=((a+b:Nat):Int):=by rw [Zk1 _ (by omega) (by omega)]; omega
theorem wsub {a b:Nat} (h:a < 1000000000) (hb:b≤a):wrap .i64 ((a:Int) - (b:Int))=((a - b:Nat):Int):=by rw [Zk1 _ (by omega) (by omega)]; omega
theorem swap_loop (p0 A M Z:List Z00) (n:Nat):∀ (Xr Yr Yd Xd:List Z00),Xr.length=Yr.length→Yd.length=Xd.length→n=Yd.length+Xr.length→p0.length=A.length+n+M.length+n+Z.length→p0.length≤100000 →
  Ev (fun N=>Z11 N p0 (A.length:Int) ((A.length+n+M.length:Nat):Int) (n:Int) (A++Yd++(Xr++M++Xd++(Yr++Z))) ((Yd.length:Nat):Int)) (A++Yd++Yr++M++(Xd++Xr)++Z)
 |[],Yr,Yd,Xd,h1,h2,h3,h4,h5=>by
  have:Yr=[]:=List.length_eq_zero_iff.1 h1.symm
  subst this
  refine Ev.step ?_ (fun N=>by rw [Z11])
  refine Ev.neg (by simp at h3; omega) ?_
  rw [show A++Yd++([]++M++Xd++([]++Z))=A++Yd++[]++M++(Xd++[])++Z by simp]
  exact Ev.now _
 |x::Xr,[],Yd,Xd,h1,h2,h3,h4,h5=>by simp at h1
 |x::Xr,y::Yr,Yd,Xd,h1,h2,h3,h4,h5=>by
  simp only [xu] at h1 h3
  have el:A++Yd++(x::Xr++M++Xd++(y::Yr++Z))=(A++Yd)++x::((Xr++M++Xd)++y::(Yr++Z)):=by simp
  have hP:(A++Yd).length=A.length+Yd.length:=by simp
  have hQ:(Xr++M++Xd).length=Xr.length+M.length+Xd.length:=by simp; omega
  have w1:wrap .i64 ((A.length:Int)+((Yd.length:Nat):Int))=(((A++Yd).length:Nat):Int):=by rw [wadd (by omega),hP]
  have w2:wrap .i64 (((A.length+n+M.length:Nat):Int)+((Yd.length:Nat):Int))=(((A++Yd).length+1+(Xr++M++Xd).length:Nat):Int):=by rw [wadd (by omega),hP,hQ]; congr 1; omega
  have w3:wrap .i64 (((Yd.length:Nat):Int)+(1:Int))=((Yd.length+1:Nat):Int):=Z3a (by omega)
  have b1:(A++Yd).length < p0.length:=by omega
  have b2:(A++Yd).length+1+(Xr++M++Xd).length < p0.length:=by omega
  have ih:=swap_loop p0 A M Z n Xr Yr (Yd++[y]) (Xd++[x]) (by omega) (by simp; omega) (by simp; omega) h4 h5
  rw [el]
  refine Ev.step ?_ (fun N=>by rw [Z11,w1,w2,w3,xn,xn,uf,uf])
  refine Ev.pos (by omega) (Ev.pos (inL b2) (Ev.bindc (g2 _ _ _ x y) (Ev.pos (inL b1) (Ev.bindc (g1 _ _ x) (Ev.pos (inL b1) (Ev.bindc (g1 _ _ x) (Ev.pos (inL b2) ?_)))))))
  simp only [uf]
  rw [s1]
  refine Ev.bindc (g2 _ _ _ y y) ?_
  rw [s2]
  have e1:(A++Yd)++y::((Xr++M++Xd)++x::(Yr++Z))=A++(Yd++[y])++(Xr++M++(Xd++[x])++(Yr++Z)):=by simp
  have e2:(Yd++[y]).length=Yd.length+1:=by simp
  rw [e1, ← e2]
  rw [show A++Yd++y::Yr++M++(Xd++x::Xr)++Z=A++(Yd++[y])++Yr++M++((Xd++[x])++Xr)++Z by simp]
  exact ih
theorem swap_ev (A X M Y Z:List Z00) (h:X.length=Y.length) (hm:A.length+X.length+M.length+X.length+Z.length≤100000) :
  Ev (fun N=>Z1d N (A++X++M++Y++Z) (A.length:Int) ((A.length+X.length+M.length:Nat):Int) ((X.length:Nat):Int)) (A++Y++M++X++Z):=by
 have:=swap_loop (A++X++M++Y++Z) A M Z X.length X Y [] [] h rfl (by simp) (by simp; omega) (by simp; omega)
 rw [show A++[]++(X++M++[]++(Y++Z))=A++X++M++Y++Z by simp,show A++[]++Y++M++([]++X)++Z=A++Y++M++X++Z by simp] at this
 exact Ev.bind this (Ev.now _)
theorem rot_loop (p0:List Z00) (m:Nat) (hm:p0.length≤100000):∀ (k:Nat) (A P Q Z:List Z00),P.length+Q.length≤k→0 < P.length→0 < Q.length→m=A.length+P.length→p0.length=A.length+P.length+Q.length+Z.length →
    ∃ l i,Ev (fun N=>Z0r N p0 (m:Int) (A++P++Q++Z) ((P.length:Nat):Int) ((Q.length:Nat):Int)) (l,((i:Nat):Int))∧p0.length=l.length∧i≤m∧Ev (fun N=>Z1d N l ((m - i:Nat):Int) (m:Int) ((i:Nat):Int)) (A++Q++P++Z)
  | 0,A,P,Q,Z,hk,h1,h2,h3,h4=>by omega
  | k+1,A,P,Q,Z,hk,h1,h2,h3,h4=>by
    have hlen:(A++P++Q++Z).length=p0.length:=by simp; omega
    by_cases heq:P.length=Q.length
    · refine ⟨A++P++Q++Z,P.length, ?_,hlen.symm,by omega, ?_⟩
      · refine Ev.step ?_ (fun N=>by rw [Z0r])
        exact Ev.neg (by omega) (Ev.now _)
      · have:=swap_ev A P [] Q Z heq (by simp; omega)
        rw [xm,xm,xx,uf] at this
        rw [show m - P.length=A.length by omega,h3]
        exact this
    · by_cases hgt:Q.length < P.length
      · -- P's first part and Q
        obtain ⟨P1,P2,rfl,hP1⟩:∃ P1 P2,P=P1++P2∧P1.length=Q.length:=⟨P.take Q.length,P.drop Q.length,(ku ..).symm,by rw [qy]; omega⟩
        simp only [yw] at hk h1 h3 h4 hgt
        have hsw:=swap_ev A P1 P2 Q Z hP1 (by omega)
        obtain ⟨l,i,e1,e2,e3,e4⟩:=rot_loop p0 m hm k (A++Q) P2 P1 Z (by omega) (by omega) (by omega) (by simp; omega) (by simp; omega)
        refine ⟨l,i, ?_,e2,e3, ?_⟩
        · have w1:wrap .i64 ((m:Int) - (((P1++P2).length:Nat):Int))=(A.length:Int):=by rw [wsub (by omega) (by simp; omega)]; congr 1; simp; omega
          have w2:wrap .i64 ((((P1++P2).length:Nat):Int) - ((Q.length:Nat):Int))=((P2.length:Nat):Int):=by rw [wsub (by simp; omega) (by simp; omega)]; congr 1; simp; omega
          refine Ev.step ?_ (fun N=>by rw [Z0r,w1,w2])
          rw [show A++(P1++P2)++Q++Z=A++P1++P2++Q++Z by simp] at hlen ⊢
          have em:(m:Int)=((A.length+P1.length+P2.length:Nat):Int):=by omega
          refine Ev.pos (by simp; omega) (Ev.pos (by simp; omega) (Ev.pos hlen.symm (Ev.bind (by rw [← hP1,em]; exact hsw) ?_)))
          rw [← hP1]
          exact e1
        · rw [show A++Q++(P1++P2)++Z=A++Q++P1++P2++Z by simp]
          exact e4
      · -- P and Q's last part
        obtain ⟨Q1,Q2,rfl,hQ2⟩:∃ Q1 Q2,Q=Q1++Q2∧Q2.length=P.length:=⟨Q.take (Q.length - P.length),Q.drop (Q.length - P.length),(ku ..).symm,by rw [List.length_drop]; omega⟩
        simp only [yw] at hk h2 h4 hgt heq
        have hsw:=swap_ev A P Q1 Q2 Z hQ2.symm (by omega)
        obtain ⟨l,i,e1,e2,e3,e4⟩:=rot_loop p0 m hm k A Q2 Q1 (P++Z) (by omega) (by omega) (by omega) (by omega) (by simp; omega)
        refine ⟨l,i, ?_,e2,e3, ?_⟩
        · have w1:wrap .i64 ((m:Int) - ((P.length:Nat):Int))=(A.length:Int):=by rw [wsub (by omega) (by omega)]; congr 1; omega
          have w2:wrap .i64 ((((Q1++Q2).length:Nat):Int) - ((P.length:Nat):Int))=((Q1.length:Nat):Int):=by rw [wsub (by simp; omega) (by simp; omega)]; congr 1; simp; omega
          have w3:wrap .i64 ((m:Int)+(((Q1++Q2).length:Nat):Int))=((m+(Q1++Q2).length:Nat):Int):=wadd (by simp; omega)
          have w4:wrap .i64 (((m+(Q1++Q2).length:Nat):Int) - ((P.length:Nat):Int))=((A.length+P.length+Q1.length:Nat):Int):=by rw [wsub (by simp; omega) (by simp; omega)]; congr 1; simp; omega
          refine Ev.step ?_ (fun N=>by rw [Z0r,w1,w2,w3,w4])
          rw [show A++P++(Q1++Q2)++Z=A++P++Q1++Q2++Z by simp] at hlen ⊢
          refine Ev.pos (by simp; omega) (Ev.neg (by simp; omega) (Ev.pos hlen.symm (Ev.bind hsw ?_)))
          rw [show A++Q2++Q1++P++Z=A++Q2++Q1++(P++Z) by simp, ← hQ2]
          exact e1
        · rw [show A++(Q1++Q2)++P++Z=A++Q1++Q2++(P++Z) by simp]
          exact e4
theorem rotate_ev (A X Y Z:List Z00) (hX:0 < X.length) (hY:0 < Y.length) (hm:A.length+X.length+Y.length+Z.length≤100000) :
  Ev (fun N=>Z2i N (A++X++Y++Z) (A.length:Int) ((A.length+X.length:Nat):Int) ((A.length+X.length+Y.length:Nat):Int)) (A++Y++X++Z):=by
 obtain ⟨l,i,e1,e2,e3,e4⟩:=rot_loop (A++X++Y++Z) (A.length+X.length) (by simp; omega) (X.length+Y.length) A X Y Z (xw _) hX hY rfl (by simp; omega)
 have w1:wrap .i64 (((A.length+X.length:Nat):Int) - (A.length:Int))=((X.length:Nat):Int):=by rw [wsub (by omega) (by omega)]; congr 1; omega
 have w2:wrap .i64 (((A.length+X.length+Y.length:Nat):Int) - ((A.length+X.length:Nat):Int))=((Y.length:Nat):Int):=by rw [wsub (by omega) (by omega)]; congr 1; omega
 have w3:wrap .i64 (((A.length+X.length:Nat):Int) - ((i:Nat):Int))=((A.length+X.length - i:Nat):Int):=wsub (by omega) e3
 unfold Z2i
 rw [w1,w2]
 refine Ev.bind e1 (Ev.pos e2 ?_)
 rw [w3]
 exact Ev.bind e4 (Ev.now _)
end Go.Proofs.Ytllcnlonkloabaa.Sh
