import Derived.Test.YtllcnlonkloabaaPureSortC
set_option linter.unusedVariables false
set_option linter.unusedSimpArgs false
namespace Go.Proofs.Ytllcnlonkloabaa.Sh
open Go Lift Go.Proofs
open Go.IntKind (wrap)
theorem Zia {α:Type} (l:List α) (t:Nat) (h:t≤l.length):∃ l1 l2,l=l1++l2∧l1.length=t:=⟨l.take t,l.drop t,(ku ..).symm,by rw [qy]; omega⟩
theorem Zb9 {L M:List Z00}:Srt (L++M) ↔ Srt L∧Srt M∧∀ u ∈ L, ∀ v ∈ M,leT u v:=by unfold Srt; rw [List.pairwise_append]
theorem cut_le {L M:List Z00} (hL:Srt L) (hM:Srt M) (fL:AllF L) (fM:AllF M) (h:∀ L' z M' w,L=L'++[z]→M=w::M'→leT z w):∀ u ∈ L, ∀ v ∈ M,leT u v:=by
 intro u hu v hv
 rcases zg L with rfl | ⟨L',z,rfl⟩
 ·cases hu
 ·rw [zu] at *
  cases M with
  |nil=>cases hv
  |cons w M' =>
   have hz:Fine z:=fL z (by simp)
   have hw:Fine w:=fM w (by simp)
   have h1:=last_le hL hz hu
   have h2:=head_le hM hw hv
   exact leT_tr (fL u hu) hz (fM v hv) h1 (leT_tr hz hw (fM v hv) (h L' z M' w rfl rfl) h2)
theorem merge1 (A Z Y:List Z00) (x:Z00) (hF:AllF (A++[x]++Y++Z)) (hY:Srt Y) (hm:A.length+1+Y.length+Z.length≤100000) :
  ∃ W r,Ev (fun N=>slices_symMergeCmpFunc_api_Term_L0 N (A++[x]++Y++Z) ((A.length:Nat):Int) ((A.length+1:Nat):Int) ((A.length+1+Y.length:Nat):Int)) ((r:Nat):Int)∧Ev (fun N=>slices_symMergeCmpFunc_api_Term_L1 N (A++[x]++Y++Z) ((r:Nat):Int) (A++[x]++Y++Z) ((A.length:Nat):Int)) (A++W++Z)∧Sorts W ([x]++Y):=by
 have hl:(A++[x]++Y++Z).length=A.length+1+Y.length+Z.length:=by simp; omega
 obtain ⟨s,e,c1,c2,c3,c4⟩:=find0 (A++[x]++Y++Z) A.length hF (by omega) (by omega) Y.length (A.length+1) (A.length+1+Y.length) (by omega) (by omega) (by omega)
 obtain ⟨Y1,Y2,rfl,hY1⟩:=Zia Y (s - (A.length+1)) (by omega)
 simp only [yw] at hm hl c2
 have hx:Fine x:=hF x (by simp)
 have fY:AllF (Y1++Y2):=fun z hz=>hF z (by simp at hz ⊢; rcases hz with h | h <;> simp [h])
 obtain ⟨s1,s2,s3⟩:=Zb9.1 hY
 have ex:el (A++[x]++(Y1++Y2)++Z) A.length=x:=by
  have:=el_at A (Y1++Y2++Z) x
  rwa [show A++x::(Y1++Y2++Z)=A++[x]++(Y1++Y2)++Z by simp] at this
 have k1:∀ L' z,Y1=L'++[z]→cmpT z x < 0:=fun L' z hz=>by
  subst hz
  simp only [yw,zf] at hY1
  have:=c3 (by omega)
  rw [ex] at this
  have e2:=el_at (A++[x]++L') (Y2++Z) z
  rw [show A++[x]++L'++z::(Y2++Z)=A++[x]++(L'++[z]++Y2)++Z by simp,show (A++[x]++L').length=s - 1 by simp; omega] at e2
  rwa [e2] at this
 have k2:∀ M' w,Y2=w::M'→¬ cmpT w x < 0:=fun M' w hw=>by
  subst hw
  have:¬ cmpT (el (A++[x]++(Y1++w::M')++Z) s) (el (A++[x]++(Y1++w::M')++Z) A.length) < 0:=c4 (by simp; omega)
  rw [ex] at this
  have e2:=el_at (A++[x]++Y1) (M'++Z) w
  rw [show A++[x]++Y1++w::(M'++Z)=A++[x]++(Y1++w::M')++Z by simp,show (A++[x]++Y1).length=s by simp; omega] at e2
  rwa [e2] at this
 have f1:AllF [x]:=fun z hz=>by rw [List.mem_singleton.1 hz]; exact hx
 have le1:∀ u ∈ Y1, ∀ v ∈ [x],leT u v:=cut_le s1 (srt_one x) fY.left f1 fun L' z M' w h1 h2=>by
  injection h2 with h2; subst h2; exact Zi6 (k1 L' z h1)
 have le2:∀ u ∈ [x], ∀ v ∈ Y2,leT u v:=cut_le (srt_one x) s2 f1 fY.right fun L' z M' w h1 h2=>by
  have:z=x:=by
   have h:=congrArg List.getLast? h1
   simp at h
   exact h.symm
  subst this
  exact Zfz (hF w (by rw [h2]; simp)) hx (k2 M' w h2)
 refine ⟨Y1++x::Y2,s,e, ?_, ?_, ?_,fun h=>?_⟩
 ·have:=bub_r (A++[x]++(Y1++Y2)++Z) x (Y2++Z) s (by simp; omega) Y1 A (by omega) (by simp; omega)
  rw [show A++x::(Y1++(Y2++Z))=A++[x]++(Y1++Y2)++Z by simp,show A++Y1++x::(Y2++Z)=A++(Y1++x::Y2)++Z by simp] at this
  exact this
 ·rw [show [x]++(Y1++Y2)=x::(Y1++Y2) by rfl]
  exact List.perm_middle
 ·refine Zb9.2 ⟨s1, ?_,fun u hu v hv=>?_⟩
  ·exact List.pairwise_cons.2 ⟨fun v hv=>le2 x (by simp) v hv,s2⟩
  ·rcases List.mem_cons.1 hv with rfl | hv
   ·exact le1 u hu v (by simp)
   ·exact s3 u hu v hv
 ·rcases zg Y1 with rfl | ⟨L',z,rfl⟩
  ·rfl
  ·rw [zu] at *
   have:=(List.pairwise_cons.1 h).1 z (by simp)
   exact absurd (k1 L' z rfl) (not_lt (fY z (by simp)) hx this)
theorem merge2 (A Z X:List Z00) (y:Z00) (hF:AllF (A++X++[y]++Z)) (hX:Srt X) (hm:A.length+1+X.length+Z.length≤100000) :
  ∃ W r,Ev (fun N=>slices_symMergeCmpFunc_api_Term_L2 N (A++X++[y]++Z) ((A.length+X.length:Nat):Int) ((A.length:Nat):Int) ((A.length+X.length:Nat):Int)) ((r:Nat):Int)∧Ev (fun N=>slices_symMergeCmpFunc_api_Term_L3 N (A++X++[y]++Z) ((r:Nat):Int) (A++X++[y]++Z) ((A.length+X.length:Nat):Int)) (A++W++Z)∧Sorts W (X++[y]):=by
 have hl:(A++X++[y]++Z).length=A.length+X.length+1+Z.length:=by simp; omega
 obtain ⟨s,e,c1,c2,c3,c4⟩:=find2 (A++X++[y]++Z) (A.length+X.length) hF (by omega) (by omega) X.length A.length (A.length+X.length) (by omega) (by omega) (by omega)
 obtain ⟨X1,X2,rfl,hX1⟩:=Zia X (s - A.length) (by omega)
 simp only [yw] at hm hl c2
 have hy:Fine y:=hF y (by simp)
 have fX:AllF (X1++X2):=fun z hz=>hF z (by simp at hz ⊢; rcases hz with h | h <;> simp [h])
 obtain ⟨s1,s2,s3⟩:=Zb9.1 hX
 have ey:el (A++(X1++X2)++[y]++Z) (A.length+(X1++X2).length)=y:=by
  have:=el_at (A++(X1++X2)) Z y
  rwa [show A++(X1++X2)++y::Z=A++(X1++X2)++[y]++Z by simp,show (A++(X1++X2)).length=A.length+(X1++X2).length by simp] at this
 have k1:∀ L' z,X1=L'++[z]→¬ cmpT y z < 0:=fun L' z hz=>by
  subst hz
  simp only [yw,zf] at hX1
  have:=c3 (by omega)
  rw [ey] at this
  have e2:=el_at (A++L') (X2++[y]++Z) z
  rw [show A++L'++z::(X2++[y]++Z)=A++(L'++[z]++X2)++[y]++Z by simp,show (A++L').length=s - 1 by simp; omega] at e2
  rwa [e2] at this
 have k2:∀ M' w,X2=w::M'→cmpT y w < 0:=fun M' w hw=>by
  subst hw
  have:¬ ¬ cmpT (el (A++(X1++w::M')++[y]++Z) (A.length+(X1++w::M').length)) (el (A++(X1++w::M')++[y]++Z) s) < 0:=c4 (by simp; omega)
  rw [ey] at this
  have e2:=el_at (A++X1) (M'++[y]++Z) w
  rw [show A++X1++w::(M'++[y]++Z)=A++(X1++w::M')++[y]++Z by simp,show (A++X1).length=s by simp; omega] at e2
  rw [e2] at this
  exact Decidable.not_not.1 this
 have f1:AllF [y]:=fun z hz=>by rw [List.mem_singleton.1 hz]; exact hy
 have le1:∀ u ∈ X1, ∀ v ∈ [y],leT u v:=cut_le s1 (srt_one y) fX.left f1 fun L' z M' w h1 h2=>by
  injection h2 with h2; subst h2; exact Zfz hy (fX z (by rw [h1]; simp)) (k1 L' z h1)
 have le2:∀ u ∈ [y], ∀ v ∈ X2,leT u v:=cut_le (srt_one y) s2 f1 fX.right fun L' z M' w h1 h2=>by
  have:z=y:=by
   have h:=congrArg List.getLast? h1
   simp at h
   exact h.symm
  subst this
  exact Zi6 (k2 M' w h2)
 refine ⟨X1++y::X2,s,e, ?_, ?_, ?_,fun h=>?_⟩
 ·have:=bub_l (A++(X1++X2)++[y]++Z) y (A++X1) (by simp; omega) X2.length X2 Z rfl (by simp; omega)
  rw [show A++X1++X2++y::Z=A++(X1++X2)++[y]++Z by simp,show A++X1++y::(X2++Z)=A++(X1++y::X2)++Z by simp,show (A++X1).length=s by simp; omega,show s+X2.length=A.length+(X1++X2).length by simp; omega] at this
  exact this
 ·rw [qb]
  exact List.Perm.append_left _ (List.perm_append_comm (l₁:=[y]))
 ·refine Zb9.2 ⟨s1, ?_,fun u hu v hv=>?_⟩
  ·exact List.pairwise_cons.2 ⟨fun v hv=>le2 y (by simp) v hv,s2⟩
  ·rcases List.mem_cons.1 hv with rfl | hv
   ·exact le1 u hu v (by simp)
   ·exact s3 u hu v hv
 ·cases X2 with
  |nil=>simp
  |cons w M' =>
   have:=(Zfy.1 h).2 w (by simp)
   exact absurd (k2 M' w rfl) (not_lt hy (fX w (by simp)) this)
theorem Z95 {α:Type} (l:List α):l=[]∨0 < l.length:=by cases l with | nil=>exact .inl rfl | cons x l=>exact .inr (by simp)
set_option maxHeartbeats 1000000 in
theorem merge_ev:∀ (k:Nat) (A X Y Z:List Z00),X.length+Y.length≤k→0 < X.length→0 < Y.length→AllF (A++X++Y++Z)→Srt X→Srt Y→A.length+X.length+Y.length+Z.length≤100000 →
    ∃ W,Ev (fun N=>slices_symMergeCmpFunc_api_Term N (A++X++Y++Z) ((A.length:Nat):Int) ((A.length+X.length:Nat):Int) ((A.length+X.length+Y.length:Nat):Int)) (A++W++Z)∧Sorts W (X++Y)
  | 0,A,X,Y,Z,hk,h1,h2,hF,hX,hY,hm=>by omega
  | k+1,A,X,Y,Z,hk,h1,h2,hF,hX,hY,hm=>by
    have w1:wrap .i64 (((A.length+X.length:Nat):Int) - ((A.length:Nat):Int))=((X.length:Nat):Int):=by rw [wsub (by omega) (by omega)]; congr 1; omega
    have w2:wrap .i64 (((A.length+X.length+Y.length:Nat):Int) - ((A.length+X.length:Nat):Int))=((Y.length:Nat):Int):=by rw [wsub (by omega) (by omega)]; congr 1; omega
    by_cases cx:X.length=1
    · obtain ⟨x,rfl⟩:=List.length_eq_one_iff.1 cx
      obtain ⟨W,r,e1,e2,e3⟩:=merge1 A Z Y x hF hY (by simp at hm; omega)
      refine ⟨W, ?_,e3⟩
      refine Ev.step ?_ (fun N=>by rw [slices_symMergeCmpFunc_api_Term,w1])
      exact Ev.pos rfl (Ev.bind e1 (Ev.bind e2 (Ev.now _)))
    by_cases cy:Y.length=1
    · obtain ⟨y,rfl⟩:=List.length_eq_one_iff.1 cy
      obtain ⟨W,r,e1,e2,e3⟩:=merge2 A Z X y hF hX (by simp at hm; omega)
      refine ⟨W, ?_,e3⟩
      refine Ev.step ?_ (fun N=>by rw [slices_symMergeCmpFunc_api_Term,w1,w2])
      exact Ev.neg (by omega) (Ev.pos rfl (Ev.bind e1 (Ev.bind e2 (Ev.now _))))
    -- the general case
    have hl:(A++X++Y++Z).length=A.length+X.length+Y.length+Z.length:=by simp; omega
    have hmid:=whalf (a:=A.length) (b:=A.length+X.length+Y.length) (by omega)
    have find:=find5 (A++X++Y++Z) A.length (A.length+X.length) (A.length+X.length+Y.length) hF (by omega) (by omega) (by omega) (by omega)
    have m1:A.length+(A.length+X.length+Y.length) - 1≤2 * ((A.length+(A.length+X.length+Y.length)) / 2):=by omega
    have m2:2 * ((A.length+(A.length+X.length+Y.length)) / 2)≤A.length+(A.length+X.length+Y.length):=by omega
    generalize hM:(A.length+(A.length+X.length+Y.length)) / 2=M at *
    have hn:wrap .i64 ((M:Int)+((A.length+X.length:Nat):Int))=((M+(A.length+X.length):Nat):Int):=wadd (by omega)
    -- where it starts
    obtain ⟨i,j,e4,hij,b1,b2,b3,b4⟩:∃ i j:Nat,Ev (fun N=>slices_symMergeCmpFunc_api_Term_B4 N (A++X++Y++Z) ((A.length:Nat):Int) ((A.length+X.length:Nat):Int) ((A.length+X.length+Y.length:Nat):Int)) ((i:Int),(j:Int))∧i≤j∧A.length≤i∧j≤A.length+X.length∧M+X.length≤i+X.length+Y.length+0+X.length ∧
        ((i=A.length∧j=A.length+X.length∧A.length+X.length≤M)∨(M < A.length+X.length∧i+(A.length+X.length+Y.length)=M+(A.length+X.length)∧j=M)):=by
      by_cases c:M < A.length+X.length
      · refine ⟨M+(A.length+X.length) - (A.length+X.length+Y.length),M, ?_,by omega,by omega,by omega,by omega,.inr ⟨c,by omega,rfl⟩⟩
        have hw:wrap .i64 (((M+(A.length+X.length):Nat):Int) - ((A.length+X.length+Y.length:Nat):Int))=((M+(A.length+X.length) - (A.length+X.length+Y.length):Nat):Int):=wsub (by omega) (by omega)
        refine Ev.step ?_ (fun N=>by rw [slices_symMergeCmpFunc_api_Term_B4,hmid,hn,hw])
        exact Ev.pos (by omega) (Ev.now _)
      · refine ⟨A.length,A.length+X.length, ?_,by omega,by omega,by omega,by omega,.inl ⟨rfl,rfl,by omega⟩⟩
        refine Ev.step ?_ (fun N=>by rw [slices_symMergeCmpFunc_api_Term_B4,hmid])
        exact Ev.neg (by omega) (Ev.now _)
    obtain ⟨s,e5,c1,c2,c3,c4⟩:=find (j - i) i j (xw _) hij b2 (by omega) (by omega)
    have sa:A.length≤s:=by omega
    have sm:s≤A.length+X.length:=by omega
    have em:A.length+X.length≤M+(A.length+X.length) - s:=by omega
    have eb:M+(A.length+X.length) - s≤A.length+X.length+Y.length:=by omega
    obtain ⟨X1,X2,rfl,hX1⟩:=Zia X (s - A.length) (by omega)
    simp only [yw] at *
    obtain ⟨Y1,Y2,rfl,hY1⟩:=Zia Y (M+(A.length+(X1.length+X2.length)) - s - (A.length+(X1.length+X2.length))) (by omega)
    simp only [yw] at *
    have es:s=A.length+X1.length:=by omega
    have eM:M=A.length+X1.length+Y1.length:=by omega
    obtain ⟨sX1,sX2,sX3⟩:=Zb9.1 hX
    obtain ⟨sY1,sY2,sY3⟩:=Zb9.1 hY
    have fX1:AllF X1:=fun z hz=>hF z (by simp [hz])
    have fX2:AllF X2:=fun z hz=>hF z (by simp [hz])
    have fY1:AllF Y1:=fun z hz=>hF z (by simp [hz])
    have fY2:AllF Y2:=fun z hz=>hF z (by simp [hz])
    have le12:∀ u ∈ X1, ∀ v ∈ Y2,leT u v:=cut_le sX1 sY2 fX1 fY2 fun L' z M' w g1 g2=>by
      subst g1 g2
      simp only [yw,xu,xx,xk] at *
      have:¬ cmpT (el (A++(L'++[z]++X2)++(Y1++w::M')++Z) (M+(A.length+(L'.length+1+X2.length)) - 1 - (s - 1))) (el (A++(L'++[z]++X2)++(Y1++w::M')++Z) (s - 1)) < 0:=c3 (by omega)
      have d1:=el_at (A++L') (X2++(Y1++w::M')++Z) z
      have d2:=el_at (A++(L'++[z]++X2)++Y1) (M'++Z) w
      rw [show A++L'++z::(X2++(Y1++w::M')++Z)=A++(L'++[z]++X2)++(Y1++w::M')++Z by simp,show (A++L').length=s - 1 by simp; omega] at d1
      rw [show A++(L'++[z]++X2)++Y1++w::(M'++Z)=A++(L'++[z]++X2)++(Y1++w::M')++Z by simp,show (A++(L'++[z]++X2)++Y1).length=M+(A.length+(L'.length+1+X2.length)) - 1 - (s - 1) by simp; omega] at d2
      rw [d1,d2] at this
      exact Zfz (fY2 w (by simp)) (fX1 z (by simp)) this
    have lt21:∀ L' z M' w,Y1=L'++[z]→X2=w::M'→cmpT z w < 0:=fun L' z M' w g1 g2=>by
      subst g1 g2
      simp only [yw,xu,xx,xk] at *
      have:¬ ¬ cmpT (el (A++(X1++w::M')++(L'++[z]++Y2)++Z) (M+(A.length+(X1.length+(M'.length+1))) - 1 - s)) (el (A++(X1++w::M')++(L'++[z]++Y2)++Z) s) < 0:=c4 (by omega)
      have d1:=el_at (A++X1) (M'++(L'++[z]++Y2)++Z) w
      have d2:=el_at (A++(X1++w::M')++L') (Y2++Z) z
      rw [show A++X1++w::(M'++(L'++[z]++Y2)++Z)=A++(X1++w::M')++(L'++[z]++Y2)++Z by simp,show (A++X1).length=s by simp; omega] at d1
      rw [show A++(X1++w::M')++L'++z::(Y2++Z)=A++(X1++w::M')++(L'++[z]++Y2)++Z by simp,show (A++(X1++w::M')++L').length=M+(A.length+(X1.length+(M'.length+1))) - 1 - s by simp; omega] at d2
      rw [d1,d2] at this
      exact Decidable.not_not.1 this
    have le21:∀ u ∈ Y1, ∀ v ∈ X2,leT u v:=cut_le sY1 sX2 fY1 fX2 fun L' z M' w g1 g2=>Zi6 (lt21 L' z M' w g1 g2)
    have hend:wrap .i64 (((M+(A.length+(X1.length+X2.length)):Nat):Int) - ((s:Nat):Int))=((M+(A.length+(X1.length+X2.length)) - s:Nat):Int):=wsub (by omega) (by omega)
    have eend:M+(A.length+(X1.length+X2.length)) - s=A.length+X1.length+Y1.length+X2.length:=by omega
    rw [eend] at hend
    -- the rotation
    have e6:Ev (fun N=>slices_symMergeCmpFunc_api_Term_B6 N (A++(X1++X2)++(Y1++Y2)++Z) ((A.length:Nat):Int) ((A.length+(X1.length+X2.length):Nat):Int) ((A.length+(X1.length+X2.length)+(Y1.length+Y2.length):Nat):Int) ((s:Nat):Int)) (A++X1++Y1++X2++Y2++Z):=by
      refine Ev.step ?_ (fun N=>by rw [slices_symMergeCmpFunc_api_Term_B6,hmid,hn,hend])
      rcases Z95 X2 with rfl | hX2
      · rw [show A++X1++Y1++[]++Y2++Z=A++(X1++[])++(Y1++Y2)++Z by simp]
        exact Ev.neg (by simp; omega) (Ev.now _)
      · refine Ev.pos (by omega) ?_
        rcases Z95 Y1 with rfl | hY1'
        · rw [show A++X1++[]++X2++Y2++Z=A++(X1++X2)++([]++Y2)++Z by simp]
          exact Ev.neg (by simp; omega) (Ev.now _)
        · have:=rotate_ev (A++X1) X2 Y1 (Y2++Z) hX2 hY1' (by simp; omega)
          rw [show A++X1++X2++Y1++(Y2++Z)=A++(X1++X2)++(Y1++Y2)++Z by simp,show A++X1++Y1++X2++(Y2++Z)=A++X1++Y1++X2++Y2++Z by simp,show (A++X1).length=s by simp; omega,show s+X2.length=A.length+(X1.length+X2.length) by omega,show A.length+(X1.length+X2.length)+Y1.length=A.length+X1.length+Y1.length+X2.length by omega] at this
          exact Ev.pos (by omega) (Ev.bind this (Ev.now _))
    -- the first half
    have fAll:AllF (A++X1++Y1++X2++Y2++Z):=fun z hz=>hF z (by simp at hz ⊢; rcases hz with h | h | h | h | h | h <;> simp [h])
    obtain ⟨W1,e7,hW1⟩:∃ W1,Ev (fun N=>slices_symMergeCmpFunc_api_Term_B7 N (A++(X1++X2)++(Y1++Y2)++Z) ((A.length:Nat):Int) ((A.length+(X1.length+X2.length):Nat):Int) ((A.length+(X1.length+X2.length)+(Y1.length+Y2.length):Nat):Int) ((s:Nat):Int) (A++X1++Y1++X2++Y2++Z)) (A++W1++X2++Y2++Z)∧Sorts W1 (X1++Y1):=by
      rcases Z95 X1 with rfl | hX1'
      · refine ⟨[]++Y1, ?_,jc _,sY1,fun _=>rfl⟩
        refine Ev.step ?_ (fun N=>by rw [slices_symMergeCmpFunc_api_Term_B7])
        rw [show A++([]++Y1)++X2++Y2++Z=A++[]++Y1++X2++Y2++Z by simp]
        exact Ev.neg (by simp at es; omega) (Ev.now _)
      · rcases Z95 Y1 with rfl | hY1'
        · refine ⟨X1++[], ?_,jc _,by rw [xm]; exact sX1,fun _=>rfl⟩
          refine Ev.step ?_ (fun N=>by rw [slices_symMergeCmpFunc_api_Term_B7,hmid])
          rw [show A++(X1++[])++X2++Y2++Z=A++X1++[]++X2++Y2++Z by simp]
          exact Ev.pos (by omega) (Ev.neg (by simp at eM; omega) (Ev.now _))
        · obtain ⟨W1,e,hW⟩:=merge_ev k A X1 Y1 (X2++Y2++Z) (by omega) hX1' hY1' (by rw [show A++X1++Y1++(X2++Y2++Z)=A++X1++Y1++X2++Y2++Z by simp]; exact fAll) sX1 sY1 (by simp; omega)
          refine ⟨W1, ?_,hW⟩
          rw [show A++X1++Y1++(X2++Y2++Z)=A++X1++Y1++X2++Y2++Z by simp,show A++W1++(X2++Y2++Z)=A++W1++X2++Y2++Z by simp, ← es,show s+Y1.length=M by omega] at e
          refine Ev.step ?_ (fun N=>by rw [slices_symMergeCmpFunc_api_Term_B7,hmid])
          exact Ev.pos (by omega) (Ev.pos (by omega) (Ev.pos (by simp; omega) (Ev.bind e (Ev.now _))))
    have lW1:W1.length=X1.length+Y1.length:=by rw [hW1.perm.length_eq]; simp
    -- the second half
    obtain ⟨W2,e8,hW2⟩:∃ W2,Ev (fun N=>if (M:Int) < ((A.length+X1.length+Y1.length+X2.length:Nat):Int) then if ((A.length+X1.length+Y1.length+X2.length:Nat):Int) < ((A.length+(X1.length+X2.length)+(Y1.length+Y2.length):Nat):Int) then if (A++(X1++X2)++(Y1++Y2)++Z).length=(A++W1++X2++Y2++Z).length then (slices_symMergeCmpFunc_api_Term N (A++W1++X2++Y2++Z) (M:Int) ((A.length+X1.length+Y1.length+X2.length:Nat):Int) ((A.length+(X1.length+X2.length)+(Y1.length+Y2.length):Nat):Int)).bind fun r63=>some r63 else none else some (A++W1++X2++Y2++Z) else some (A++W1++X2++Y2++Z)) (A++W1++W2++Z)∧Sorts W2 (X2++Y2):=by
      rcases Z95 X2 with rfl | hX2'
      · refine ⟨[]++Y2, ?_,jc _,sY2,fun _=>rfl⟩
        rw [show A++W1++([]++Y2)++Z=A++W1++[]++Y2++Z by simp]
        exact Ev.neg (by simp; omega) (Ev.now _)
      · rcases Z95 Y2 with rfl | hY2'
        · refine ⟨X2++[], ?_,jc _,by rw [xm]; exact sX2,fun _=>rfl⟩
          rw [show A++W1++(X2++[])++Z=A++W1++X2++[]++Z by simp]
          exact Ev.pos (by omega) (Ev.neg (by simp; omega) (Ev.now _))
        · have f2:AllF (A++W1++X2++Y2++Z):=by
            refine fAll.perm ?_
            have:=hW1.perm
            refine zt _ (zt _ (zt _ ?_))
            rw [qb]
            exact this.append_left A
          obtain ⟨W2,e,hW⟩:=merge_ev k (A++W1) X2 Y2 Z (by omega) hX2' hY2' f2 sX2 sY2 (by simp; omega)
          refine ⟨W2, ?_,hW⟩
          rw [show (A++W1).length=M by simp; omega,show M+X2.length=A.length+X1.length+Y1.length+X2.length by omega,show A.length+X1.length+Y1.length+X2.length+Y2.length=A.length+(X1.length+X2.length)+(Y1.length+Y2.length) by omega] at e
          exact Ev.pos (by omega) (Ev.pos (by omega) (Ev.pos (by simp; omega) (Ev.bind e (Ev.now _))))
    refine ⟨W1++W2, ?_, ?_, ?_,fun h=>?_⟩
    · rw [show A++(W1++W2)++Z=A++W1++W2++Z by simp]
      refine Ev.step ?_ (fun N=>by rw [slices_symMergeCmpFunc_api_Term,w1,w2,hmid,hn])
      refine Ev.neg (by omega) (Ev.neg (by omega) (Ev.bind e4 (Ev.bind e5 (Ev.bind e6 (Ev.bind e7 ?_)))))
      rw [hend]
      exact e8
    · refine (hW1.perm.append hW2.perm).trans ?_
      rw [qb,qb]
      refine List.Perm.append_left _ ?_
      rw [← qb, ← qb]
      exact zt _ List.perm_append_comm
    · refine Zb9.2 ⟨hW1.srt,hW2.srt,fun u hu v hv=>?_⟩
      rcases List.mem_append.1 (hW1.perm.mem_iff.1 hu) with hu | hu <;> rcases List.mem_append.1 (hW2.perm.mem_iff.1 hv) with hv | hv
      · exact sX3 u hu v hv
      · exact le12 u hu v hv
      · exact le21 u hu v hv
      · exact sY3 u hu v hv
    · have h1':Srt (X1++Y1):=List.Pairwise.sublist (List.Sublist.append (List.sublist_append_left X1 X2) (List.sublist_append_left Y1 Y2)) h
      have h2':Srt (X2++Y2):=List.Pairwise.sublist (List.Sublist.append (List.sublist_append_right X1 X2) (List.sublist_append_right Y1 Y2)) h
      rw [hW1.stay h1',hW2.stay h2']
      rcases zg Y1 with rfl | ⟨L',z,rfl⟩
      · simp
      · cases X2 with
        | nil=>simp
        | cons w M' =>
          rw [zu] at *
          have:=(Zb9.1 h).2.2 w (by simp) z (by simp)
          exact absurd (lt21 L' z M' w rfl rfl) (not_lt (fY1 z (by simp)) (fX2 w (by simp)) this)
end Go.Proofs.Ytllcnlonkloabaa.Sh
