import Derived.Test.YtllcnlonkloabaaPureSortD
import Derived.Test.YtllcnlonkloabaaPureSame
set_option linter.unusedVariables false
set_option linter.unusedSimpArgs false
namespace Go.Proofs.Ytllcnlonkloabaa.Sh
open Go Lift Go.Proofs
open Go.IntKind (wrap)
def Blks (bs:Nat) (Bs:List (List Z00)):Prop:=∀ B ∈ Bs,B.length=bs∧Srt B
theorem blocks_loop (p0:List Z00) (n:Nat) (hn:p0.length=n) (hm:n≤50000):∀ (d:Nat) (Cs:List (List Z00)) (R:List Z00),R.length≤d→n=Cs.flatten.length+R.length→AllF R →
  ∃ Cs' R',Ev (fun N=>Z1e N p0 (n:Int) (Cs.flatten++R) ((Cs.flatten.length:Nat):Int) ((Cs.flatten.length+20:Nat):Int)) ((Cs++Cs').flatten++R',(((Cs++Cs').flatten.length:Nat):Int))∧Blks 20 Cs'∧R'.length < 20∧(Cs'.flatten++R').Perm R∧(Srt R→Cs'.flatten++R'=R)
 |d,Cs,R,hd,hl,hF=>by
  by_cases h:20≤R.length
  ·obtain ⟨X,Z,rfl,hX⟩:=Zia R 20 h
   simp only [yw] at hl hd
   obtain ⟨Y,e,hY⟩:=isort_ev Cs.flatten X Z (by omega) hF.left
   have lY:Y.length=20:=by rw [hY.perm.length_eq,hX]
   cases d with
   |zero=>omega
   |succ d =>
    obtain ⟨Cs',R',e2,k1,k2,k3,k4⟩:=blocks_loop p0 n hn hm d (Cs++[Y]) Z (by omega) (by (try simp only [yw,xm,xx,qf,q9,qo]); omega) hF.right
    refine ⟨Y::Cs',R', ?_, ?_,k2, ?_,fun hs=>?_⟩
    ·have hw:wrap .i64 (((Cs.flatten.length+20:Nat):Int)+(20:Int))=((Cs.flatten.length+20+20:Nat):Int):=wadd (b:=20) (by omega)
     have el:(Cs++[Y]).flatten=Cs.flatten++Y:=by simp
     have ell:(Cs++[Y]).flatten.length=Cs.flatten.length+20:=by rw [el]; (try simp only [yw,xm,xx,qf,q9,qo]); omega
     rw [ell,el] at e2
     rw [show Cs++[Y]++Cs'=Cs++(Y::Cs') by simp] at e2
     rw [hX] at e
     rw [show Cs.flatten++X++Z=Cs.flatten++(X++Z) by simp,show Cs.flatten++Y++Z=(Cs.flatten++Y)++Z by rfl] at e
     refine Ev.step ?_ (fun N=>by rw [Z1e,hw])
     exact Ev.pos (by omega) (Ev.pos (by (try simp only [yw,xm,xx,qf,q9,qo]); omega) (Ev.bind e e2))
    ·intro B hB
     rcases List.mem_cons.1 hB with rfl | hB
     ·exact ⟨lY,hY.srt⟩
     ·exact k1 B hB
    ·rw [q9,qb]
     exact hY.perm.append k3
    ·obtain ⟨s1,s2,_⟩:=Zb9.1 hs
     rw [q9,qb,k4 s2,hY.stay s1]
  ·refine ⟨[],R, ?_,fun B hB=>(by cases hB),by omega,jc _,fun _=>rfl⟩
   rw [xm]
   refine Ev.step ?_ (fun N=>by rw [Z1e])
   exact Ev.neg (by omega) (Ev.now _)
def Rest (bs:Nat) (r:List Z00):Prop:=(r.length≤bs∧Srt r)∨∃ B Y,r=B++Y∧B.length=bs∧Srt B∧Srt Y∧0 < Y.length∧Y.length < bs
theorem pass_loop (p0 c:List Z00) (n bs:Nat) (hn:p0.length=n) (hm:n≤50000) (hb:0 < bs) (hb2:bs≤100000) (Y:List Z00) (hY:Srt Y) (lY:Y.length < bs):∀ (d:Nat) (Bs Cs:List (List Z00)),Bs.length≤d→Blks bs Bs→n=Cs.flatten.length+(Bs.flatten++Y).length→AllF (Cs.flatten++(Bs.flatten++Y)) →
  ∃ Cs' r,Ev (fun N=>Z0z N p0 (n:Int) c ((bs:Nat):Int) (Cs.flatten++(Bs.flatten++Y)) ((Cs.flatten.length:Nat):Int) ((Cs.flatten.length+2 * bs:Nat):Int)) ((Cs++Cs').flatten++r,(((Cs++Cs').flatten.length:Nat):Int))∧Blks (2 * bs) Cs'∧Rest bs r∧(Cs'.flatten++r).Perm (Bs.flatten++Y)∧(Srt (Bs.flatten++Y)→Cs'.flatten++r=Bs.flatten++Y)
 |d,[],Cs,hd,hB,hl,hF=>by
  refine ⟨[],[].flatten++Y, ?_,fun B hB=>(by cases hB),.inl ⟨by (try simp only [yw,xm,xx,qf,q9,qo]); omega,by simpa using hY⟩,jc _,fun _=>rfl⟩
  rw [xm]
  simp only [qo,uo] at hl
  refine Ev.step ?_ (fun N=>by rw [Z0z])
  exact Ev.neg (by omega) (Ev.now _)
 |d,[B],Cs,hd,hB,hl,hF=>by
  obtain ⟨b1,b2⟩:=hB B (by simp)
  simp only [q9,qo,xm,yw] at hl
  refine ⟨[],[B].flatten++Y, ?_,fun B hB=>(by cases hB), ?_,jc _,fun _=>rfl⟩
  ·rw [xm]
   refine Ev.step ?_ (fun N=>by rw [Z0z])
   exact Ev.neg (by omega) (Ev.now _)
  ·rcases Z95 Y with rfl | hy
   ·exact .inl ⟨by (try simp only [yw,xm,xx,qf,q9,qo]); omega,by simpa using b2⟩
   ·exact .inr ⟨B,Y,by simp,b1,b2,hY,hy,lY⟩
 |0,B1::B2::Bs,Cs,hd,hB,hl,hF=>by simp at hd
 |d+1,B1::B2::Bs,Cs,hd,hB,hl,hF=>by
  obtain ⟨a1,a2⟩:=hB B1 (by simp)
  obtain ⟨b1,b2⟩:=hB B2 (by simp)
  have ef:(B1::B2::Bs).flatten++Y=B1++B2++(Bs.flatten++Y):=by simp
  rw [ef] at hl hF
  simp only [yw] at hl
  have hF2:AllF (Cs.flatten++B1++B2++(Bs.flatten++Y)):=by rw [show Cs.flatten++B1++B2++(Bs.flatten++Y)=Cs.flatten++(B1++B2++(Bs.flatten++Y)) by simp]; exact hF
  obtain ⟨W,e,hW⟩:=merge_ev (B1.length+B2.length) Cs.flatten B1 B2 (Bs.flatten++Y) (xw _) (by omega) (by omega) hF2 a2 b2 (by (try simp only [yw,xm,xx,qf,q9,qo]); omega)
  have lW:W.length=2 * bs:=by rw [hW.perm.length_eq,yw]; omega
  have el:(Cs++[W]).flatten=Cs.flatten++W:=by simp
  have ell:(Cs++[W]).flatten.length=Cs.flatten.length+2 * bs:=by rw [el]; (try simp only [yw,xm,xx,qf,q9,qo]); omega
  have hF3:AllF ((Cs++[W]).flatten++(Bs.flatten++Y)):=by
   rw [el]
   refine hF2.perm (zt _ ?_)
   rw [qb]
   exact hW.perm.append_left _
  obtain ⟨Cs',r,e2,k1,k2,k3,k4⟩:=pass_loop p0 c n bs hn hm hb hb2 Y hY lY d Bs (Cs++[W]) (by simp at hd; omega) (fun B h=>hB B (by simp [h])) (by rw [ell]; (try simp only [yw,xm,xx,qf,q9,qo]); omega) hF3
  refine ⟨W::Cs',r, ?_, ?_,k2, ?_,fun hs=>?_⟩
  ·have hw1:wrap .i64 (((Cs.flatten.length:Nat):Int)+((bs:Nat):Int))=((Cs.flatten.length+bs:Nat):Int):=wadd (by omega)
   have hw2:wrap .i64 ((2:Int) * ((bs:Nat):Int))=((2 * bs:Nat):Int):=by rw [Zk1 _ (by omega) (by omega)]; omega
   have hw3:wrap .i64 (((Cs.flatten.length+2 * bs:Nat):Int)+((2 * bs:Nat):Int))=((Cs.flatten.length+2 * bs+2 * bs:Nat):Int):=wadd (by omega)
   rw [ell,el,show Cs++[W]++Cs'=Cs++(W::Cs') by simp] at e2
   rw [a1,b1,show Cs.flatten.length+bs+bs=Cs.flatten.length+2 * bs by omega,show Cs.flatten++B1++B2++(Bs.flatten++Y)=Cs.flatten++((B1::B2::Bs).flatten++Y) by simp] at e
   refine Ev.step ?_ (fun N=>by rw [Z0z,hw1,hw2,hw3])
   exact Ev.pos (by omega) (Ev.pos (by (try simp only [yw,xm,xx,qf,q9,qo]); omega) (Ev.bind e e2))
  ·intro B hB
   rcases List.mem_cons.1 hB with rfl | hB
   ·exact ⟨lW,hW.srt⟩
   ·exact k1 B hB
  ·rw [ef,q9,qb]
   exact hW.perm.append k3
  ·rw [ef] at hs ⊢
   obtain ⟨s1,s2,_⟩:=Zb9.1 hs
   rw [q9,qb,k4 s2,hW.stay s1]
theorem flat_len {bs:Nat}:∀ {Bs:List (List Z00)},Blks bs Bs→Bs.flatten.length=Bs.length * bs
 |[],_=>by simp
 |B::Bs,h=>by rw [q9,yw,flat_len (fun X hX=>h X (by simp [hX])),(h B (by simp)).1,xu,ug]; omega
theorem sizes_loop (p0:List Z00) (n:Nat) (hn:p0.length=n) (hm:n≤50000):∀ (d bs:Nat) (Bs:List (List Z00)) (Y:List Z00),n - bs≤d→0 < bs→bs≤100000→Blks bs Bs→Srt Y→Y.length < bs→n=(Bs.flatten++Y).length→AllF (Bs.flatten++Y) →
    ∃ r,Ev (fun N=>Z10 N p0 (n:Int) (Bs.flatten++Y) ((bs:Nat):Int)) r∧Sorts r (Bs.flatten++Y)
  | d,bs,Bs,Y,hd,hb,hb2,hB,hY,lY,hl,hF=>by
    by_cases h:bs < n
    · cases d with
      | zero=>omega
      | succ d =>
        obtain ⟨Cs,r,e,k1,k2,k3,k4⟩:=pass_loop p0 (Bs.flatten++Y) n bs hn hm hb hb2 Y hY lY Bs.length Bs [] (xw _) hB (by simpa using hl) (by simpa using hF)
        rw [qo,uo,xx,xk,uo] at e
        have hFr:AllF (Cs.flatten++r):=hF.perm k3
        have hlr:n=(Cs.flatten++r).length:=by rw [k3.length_eq]; exact hl
        have hw2:wrap .i64 ((2:Int) * ((bs:Nat):Int))=((2 * bs:Nat):Int):=by rw [Zk1 _ (by omega) (by omega)]; omega
        have hw3:wrap .i64 (((bs:Nat):Int) * (2:Int))=((2 * bs:Nat):Int):=by rw [Zk1 _ (by omega) (by omega)]; omega
        have hw4:wrap .i64 (((Cs.flatten.length:Nat):Int)+((bs:Nat):Int))=((Cs.flatten.length+bs:Nat):Int):=wadd (by (try simp only [yw] at hlr); omega)
        -- the rest as one
        obtain ⟨Y',e2,hs',ly',hp',hst'⟩:∃ Y',Ev (fun N=>if ((Cs.flatten.length+bs:Nat):Int) < (n:Int) then if p0.length=(Cs.flatten++r).length then (slices_symMergeCmpFunc_api_Term N (Cs.flatten++r) ((Cs.flatten.length:Nat):Int) ((Cs.flatten.length+bs:Nat):Int) (n:Int)).bind fun r17=>some r17 else none else some (Cs.flatten++r)) (Cs.flatten++Y')∧Srt Y'∧Y'.length < 2 * bs∧Y'.Perm r∧(Srt r→Y'=r):=by
          simp only [yw] at hlr
          rcases k2 with ⟨q1,q2⟩ | ⟨B,Y2,rfl,q1,q2,q3,q4,q5⟩
          · exact ⟨r,Ev.neg (by omega) (Ev.now _),q2,by omega,jc _,fun _=>rfl⟩
          · simp only [yw] at hlr
            obtain ⟨W,e3,hW⟩:=merge_ev (B.length+Y2.length) Cs.flatten B Y2 [] (xw _) (by omega) q4 (by rw [xm,qb]; exact hFr) q2 q3 (by (try simp only [yw,xm,xx,qf,q9,qo]); omega)
            rw [q1,xm,xm,qb,show Cs.flatten.length+bs+Y2.length=n by omega] at e3
            exact ⟨W,Ev.pos (by omega) (Ev.pos (by (try simp only [yw,xm,xx,qf,q9,qo]); omega) (Ev.bind e3 (Ev.now _))),hW.srt,by rw [hW.perm.length_eq]; (try simp only [yw,xm,xx,qf,q9,qo]); omega,hW.perm,hW.stay⟩
        have hF':AllF (Cs.flatten++Y'):=hFr.perm (hp'.append_left _)
        have hl':n=(Cs.flatten++Y').length:=by rw [hlr,(hp'.append_left Cs.flatten).length_eq]
        obtain ⟨q,e4,hq⟩:=sizes_loop p0 n hn hm d (2 * bs) Cs Y' (by omega) (by omega) (by omega) k1 hs' ly' hl' hF'
        refine ⟨q, ?_, ?_,hq.srt,fun hs=>?_⟩
        · refine Ev.step ?_ (fun N=>by rw [Z10,hw2,hw3])
          refine Ev.pos (by omega) (Ev.bind e ?_)
          rw [hw4]
          by_cases c:((Cs.flatten.length+bs:Nat):Int) < (n:Int)
          · have e5:Ev (fun N=>if p0.length=(Cs.flatten++r).length then (slices_symMergeCmpFunc_api_Term N (Cs.flatten++r) ((Cs.flatten.length:Nat):Int) ((Cs.flatten.length+bs:Nat):Int) (n:Int)) else none) (Cs.flatten++Y'):=by
              refine Ev.of e2 fun N=>?_
              rw [if_pos c]
              split
              · cases slices_symMergeCmpFunc_api_Term N (Cs.flatten++r) ((Cs.flatten.length:Nat):Int) ((Cs.flatten.length+bs:Nat):Int) (n:Int) <;> rfl
              · rfl
            refine Ev.pos c (Ev.pos (hn.trans hlr) ?_)
            have e6:Ev (fun N=>slices_symMergeCmpFunc_api_Term N (Cs.flatten++r) ((Cs.flatten.length:Nat):Int) ((Cs.flatten.length+bs:Nat):Int) (n:Int)) (Cs.flatten++Y'):=Ev.of e5 fun N=>by rw [if_pos (hn.trans hlr)]
            exact Ev.bind e6 e4
          · have e5:Cs.flatten++r=Cs.flatten++Y':=Ev.det (f:=fun _=>some (Cs.flatten++r)) (Ev.now _) (Ev.of e2 fun N=>by rw [if_neg c])
            rw [e5]
            exact Ev.neg c e4
        · exact hq.perm.trans ((hp'.append_left _).trans k3)
        · have h1:=k4 hs
          have h2:Srt (Cs.flatten++r):=by rw [h1]; exact hs
          rw [hst' (Zb9.1 h2).2.1] at hq
          rw [hq.stay h2,h1]
    · have hone:Srt (Bs.flatten++Y):=by
        have:=flat_len hB
        rw [yw,this] at hl
        match Bs,hB with
        | [],_=>simpa using hY
        | [B],hB =>
          have:Y=[]:=by
            cases Y with
            | nil=>rfl
            | cons y Y=>simp at hl; omega
          subst this
          simpa using (hB B (by simp)).2
        | B1::B2::Bs,hB =>
          exfalso
          simp only [xu] at hl
          have:2 * bs≤(Bs.length+1+1) * bs:=ql _ (by omega)
          omega
      refine ⟨Bs.flatten++Y, ?_,jc _,hone,fun _=>rfl⟩
      refine Ev.step ?_ (fun N=>by rw [Z10])
      exact Ev.neg (by omega) (Ev.now _)
theorem stable_ev (l:List Z00) (hF:AllF l) (hm:l.length≤50000):∃ r,Ev (fun N=>Z1j N l) r∧Sorts r l:=by
 obtain ⟨Cs,R,e1,k1,k2,k3,k4⟩:=blocks_loop l l.length rfl hm l.length [] l (xw _) (by simp) hF
 rw [uo,qo,uo,xx] at e1
 have hFr:AllF (Cs.flatten++R):=hF.perm k3
 have hlr:l.length=Cs.flatten.length+R.length:=by rw [← k3.length_eq]; simp
 obtain ⟨Y,e2,hY⟩:=isort_ev Cs.flatten R [] (by (try simp only [yw,xm,xx,qf,q9,qo]); omega) hFr.right
 rw [xm,xm, ← hlr] at e2
 have lY:=hY.perm.length_eq
 obtain ⟨r,e3,hr⟩:=sizes_loop l l.length rfl hm l.length 20 Cs Y (by omega) (by omega) (by omega) k1 hY.srt (by omega) (by (try simp only [yw,xm,xx,qf,q9,qo]); omega) (hFr.perm (hY.perm.append_left _))
 refine ⟨r, ?_, ?_,hr.srt,fun hs=>?_⟩
 ·have el:((((l.map Z02).length):Nat):Int)=((l.length:Nat):Int):=by rw [xg]
  unfold Z1j
  rw [el]
  exact Ev.bind (Ev.bind e1 (Ev.pos (by (try simp only [yw,xm,xx,qf,q9,qo]); omega) (Ev.bind e2 (Ev.bind e3 (Ev.now _))))) (Ev.now _)
 ·exact hr.perm.trans ((hY.perm.append_left _).trans k3)
 ·have h1:=k4 hs
  have h2:Srt (Cs.flatten++R):=by rw [h1]; exact hs
  rw [hY.stay (Zb9.1 h2).2.1] at hr
  rw [hr.stay h2,h1]
theorem cloneT_ev (a:List Z00) (hl:a.length≤lim):Ev (fun N=>Z1t N a) a:=by
 cases a with
 |nil=>exact Ev.now _
 |cons x xs=>exact Ev.bindc (app_eq (by simpa using hl)) (Ev.now _)
mutual
theorem own_ev:∀ (t:Z00),Small t→cnt t≤100000→Ev (fun N=>order_own N t) t
 |⟨k,n,m,b,s,args⟩,hs,hc=>by
  have hm:m.fMag.length≤300:=hs.mag
  rw [cnt] at hc
  have hl:=Zdl args
  have h:=owns_loop args hs.args (by omega) ⟨k,n,m,b,s,args⟩ m.fMag args args 0 rfl rfl (by omega)
  refine Ev.step ?_ (fun N=>by rw [order_own])
  exact Ev.bind (clone32_ev m.fMag (by rw [lim_eq]; omega)) (Ev.bind (cloneT_ev args (by rw [lim_eq]; omega)) (Ev.bind h (Ev.now _)))
theorem owns_loop:∀ (ts:List Z00),(∀ x ∈ ts,Small x)→cnts ts≤100000→∀ (t:Z00) (r1:List Int) (l0 l:List Z00) (i:Nat),l.drop i=ts→l0.length=l.length→l.length≤100000→Ev (fun N=>order_own_L0 N t r1 l0 l i) l
 |[],hs,hc,t,r1,l0,l,i,hd,h0,hl=>by
  have:=Z6l hd
  refine Ev.step ?_ (fun N=>by rw [order_own_L0])
  exact Ev.neg (by omega) (Ev.now _)
 |x::xs,hs,hc,t,r1,l0,l,i,hd,h0,hl=>by
  have hlen:=Z5o hd
  rw [cnts] at hc
  have h:=owns_loop xs (fun y hy=>hs y (by simp [hy])) (by omega) t r1 l0 l (i+1) (Z50 hd) h0 hl
  have hx:=own_ev x (hs x (by simp)) (by omega)
  refine Ev.step ?_ (fun N=>by rw [order_own_L0,Z3a (by omega),xn])
  refine Ev.pos (by omega) (Ev.bindc (Zjg hd) (Ev.bind hx (Ev.bindc (Zjg hd) ?_)))
  have e:l.set i x=l:=by
   have:l[i]? = some x:=by
    have:=congrArg (fun z=>z[0]?) hd
    simpa using this
   have hi:=(List.getElem?_eq_some_iff.1 this)
   rw [← hi.2]; exact set_self l i hi.1
  rw [e]
  exact h
end
theorem owns_ev:∀ (ts:List Z00),(∀ x ∈ ts,Small x)→cnts ts≤100000→∀ (l0 l:List Z00) (i:Nat),l.drop i=ts→l0.length=l.length→l.length≤100000→Ev (fun N=>Z3d N l0 l i) l
 |[],hs,hc,l0,l,i,hd,h0,hl=>by
  have:=Z6l hd
  refine Ev.step ?_ (fun N=>by rw [Z3d])
  exact Ev.neg (by omega) (Ev.now _)
 |x::xs,hs,hc,l0,l,i,hd,h0,hl=>by
  have hlen:=Z5o hd
  rw [cnts] at hc
  have h:=owns_ev xs (fun y hy=>hs y (by simp [hy])) (by omega) l0 l (i+1) (Z50 hd) h0 hl
  have hx:=own_ev x (hs x (by simp)) (by omega)
  refine Ev.step ?_ (fun N=>by rw [Z3d,Z3a (by omega),xn])
  refine Ev.pos (by omega) (Ev.bindc (Zjg hd) (Ev.bind hx (Ev.bindc (Zjg hd) ?_)))
  have e:l.set i x=l:=by
   have:l[i]? = some x:=by
    have:=congrArg (fun z=>z[0]?) hd
    simpa using this
   have hi:=(List.getElem?_eq_some_iff.1 this)
   rw [← hi.2]; exact set_self l i hi.1
  rw [e]
  exact h
theorem nomay_ev (t:Z00) (hs:Small t) (w:Z0l t):Ev (fun N=>Zcj N t) (!mayT t):=Ev.bind (Zhn t hs w) (Ev.now _)
theorem nomay_loop:∀ (ts:List Z00),(∀ x ∈ ts,Small x)→(∀ x ∈ ts,Z0l x)→∀ (l:List Z00) (i:Nat),l.drop i=ts→l.length≤100000 →
  ∃ r,Ev (fun N=>Z0n N l i) r∧(match r with | .inl _=>ts.all mayT=true | .inr j=>ts.all mayT=false∧0≤j)
 |[],hs,hw,l,i,hd,hl=>by
  have:=Z6l hd
  refine ⟨.inl (), ?_,rfl⟩
  refine Ev.step ?_ (fun N=>by rw [Z0n])
  exact Ev.neg (by omega) (Ev.now _)
 |x::xs,hs,hw,l,i,hd,hl=>by
  have hlen:=Z5o hd
  have h1:=nomay_ev x (hs x (by simp)) (hw x (by simp))
  obtain ⟨r,e,hr⟩:=nomay_loop xs (fun y hy=>hs y (by simp [hy])) (fun y hy=>hw y (by simp [hy])) l (i+1) (Z50 hd) hl
  cases hx:mayT x with
  |true =>
   rw [hx] at h1
   refine ⟨r, ?_, ?_⟩
   ·refine Ev.step ?_ (fun N=>by rw [Z0n,Z3a (by omega)])
    exact Ev.pos (by omega) (Ev.bindc (Zjg hd) (Ev.bind h1 (Ev.neg (by simp) e)))
   ·rw [zm,hx,vg]; exact hr
  |false =>
   rw [hx] at h1
   refine ⟨.inr i, ?_,by rw [zm,hx,qm]; exact ⟨rfl,by omega⟩⟩
   refine Ev.step ?_ (fun N=>by rw [Z0n])
   exact Ev.pos (by omega) (Ev.bindc (Zjg hd) (Ev.bind h1 (Ev.pos (by simp) (Ev.now _))))
theorem anyNo_ev (l:List Z00) (hs:∀ x ∈ l,Small x) (hw:∀ x ∈ l,Z0l x) (hl:l.length≤100000):Ev (fun N=>Z1k N l) (!(l.all mayT)):=by
 obtain ⟨r,e,hr⟩:=nomay_loop l hs hw l 0 rfl hl
 cases r with
 |inl u =>
  rw [show l.all mayT=true from hr]
  exact Ev.bind (a:=-1) (Ev.bind e (Ev.now _)) (Ev.now _)
 |inr j =>
  obtain ⟨h1,h2⟩:l.all mayT=false∧0≤j:=hr
  rw [h1]
  refine Ev.bind (a:=j) (Ev.bind e (Ev.now _)) ?_
  rw [decide_eq_true (show j ≥ 0 from h2)]
  exact Ev.now _
theorem sort_ev (l:List Z00) (hF:AllF l) (hc:cnts l≤50000):∃ r,Ev (fun N=>Z86 N l) r∧Sorts r l:=by
 have hl:=Zdl l
 obtain ⟨r,e,hr⟩:=stable_ev l hF (by omega)
 have hn:=anyNo_ev l (fun x hx=>(hF x hx).s) (fun x hx=>(hF x hx).w) (by omega)
 rw [List.all_eq_true.2 (fun x hx=>(hF x hx).m)] at hn
 refine ⟨r,Ev.bind hn (Ev.neg (by simp) (Ev.bind (cloneT_ev l (by rw [lim_eq]; omega)) (Ev.bind (owns_ev l (fun x hx=>(hF x hx).s) (by omega) l l 0 rfl rfl (by omega)) (Ev.bind e (Ev.pos hr.perm.length_eq.symm (Ev.now _)))))),hr⟩
theorem sort_none (l:List Z00) (hs:∀ x ∈ l,Small x) (hw:∀ x ∈ l,Z0l x) (hl:l.length≤100000) (h:l.all mayT=false):Ev (fun N=>Z86 N l) []:=by
 have hn:=anyNo_ev l hs hw hl
 rw [h] at hn
 exact Ev.bind hn (Ev.pos rfl (Ev.now _))
end Go.Proofs.Ytllcnlonkloabaa.Sh
