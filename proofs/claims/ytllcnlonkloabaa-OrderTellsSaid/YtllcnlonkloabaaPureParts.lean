import Derived.Test.YtllcnlonkloabaaInv
import Derived.Test.YtllcnlonkloabaaLift4
set_option linter.unusedVariables false
namespace Go.Proofs.Ytllcnlonkloabaa.Sh
open Go Lift Go.Proofs
inductive Small:Z00→Prop
 |mk {x:Z00} (h1:x.fNum.fMag.length≤300) (h2:x.fBytes.size≤5000) (h3:x.fArgs.length≤maxLen) (h4:∀ y ∈ x.fArgs,Small y):Small x
theorem Small.mag {x:Z00} (h:Small x):x.fNum.fMag.length≤300:=by cases h; assumption
theorem Small.bytes {x:Z00} (h:Small x):x.fBytes.size≤5000:=by cases h; assumption
theorem Small.len {x:Z00} (h:Small x):x.fArgs.length≤maxLen:=by cases h; assumption
theorem Small.args {x:Z00} (h:Small x):∀ y ∈ x.fArgs,Small y:=by cases h; assumption
mutual
def cnt:Z00→Nat
 |⟨_,_,_,_,_,args⟩=>1+cnts args
def cnts:List Z00→Nat
 |[]=>0
 |x::xs=>cnt x+cnts xs
end
theorem cnt_eq (x:Z00):cnt x=1+cnts x.fArgs:=by cases x; rw [cnt]
def PartsR (ts:List Z00) (p v:Int) (r:Int ⊕ Unit):Prop :=
 match r with
 |.inl r=>v≤r∧r≤p+1∧(r≤p→(∀ x ∈ ts,Small x)∧(cnts ts:Int)=r - v)
 |.inr _=>True
mutual
theorem parts_ev:∀ (x:Z00),Z0l x→∀ p:Int, -1≤p→p≤100000→∃ r,Ev (fun N=>beehivelaw0_parts N x.fArgs p) r∧0≤r∧r≤p+1∧(r≤p→(∀ y ∈ x.fArgs,Small y)∧(cnts x.fArgs:Int)=r)
 |⟨k,n,m,b,s,args⟩,hw,p,h1,h2=>by
  obtain ⟨r,hr,ho⟩:=parts_loop args hw.Args p h1 h2 args 0 rfl hw.ArgsLen 0 (by omega) (by omega)
  have hr':Ev (fun N=>beehivelaw0_parts_L0 N args p 0 0) r:=hr
  cases r with
  |inl r =>
   refine ⟨r, ?_,ho.1,ho.2.1,fun h=>by simpa using ho.2.2 h⟩
   refine Ev.step ?_ (fun N=>by rw [beehivelaw0_parts])
   exact Ev.bind hr' (Ev.now _)
  |inr u =>
   refine ⟨p+1, ?_,by omega,by omega,fun h=>by omega⟩
   refine Ev.step ?_ (fun N=>by rw [beehivelaw0_parts])
   refine Ev.bind hr' ?_
   have e:IntKind.i64.wrap (p+1)=p+1:=Zk1 _ (by omega) (by omega)
   show Ev (fun _=>some (IntKind.i64.wrap (p+1))) (p+1)
   rw [e]
   exact Ev.now _
theorem parts_loop:∀ (ts:List Z00),(∀ x ∈ ts,Z0l x)→∀ p:Int, -1≤p→p≤100000→∀ (l:List Z00) (i:Nat),l.drop i=ts→l.length≤maxLen→∀ v:Int,0≤v→v≤p+1 →
  ∃ r,Ev (fun N=>beehivelaw0_parts_L0 N l p v i) r∧PartsR ts p v r
 |[],hw,p,h1,h2,l,i,hd,hl,v,h3,h4=>by
  have:=Z6l hd
  refine ⟨.inl v, ?_,by omega,h4,fun _=>⟨fun x hx=>(by cases hx),by simp [cnts]⟩⟩
  refine Ev.step ?_ (fun N=>by rw [beehivelaw0_parts_L0])
  exact Ev.neg (by omega) (Ev.now _)
 |x::xs,hw,p,h1,h2,l,i,hd,hl,v,h3,h4=>by
  have hlen:=Z5o hd
  rw [Z4k] at hl
  by_cases hv:v≤p
  ·by_cases hb:((x.fBytes.size:Nat):Int) > 1000
   ·refine ⟨.inr (), ?_,trivial⟩
    refine Ev.step ?_ (fun N=>by rw [beehivelaw0_parts_L0])
    exact Ev.pos (by omega) (Ev.pos hv (Ev.bindc (Zjg hd) (Ev.pos hb (Ev.now _))))
   ·by_cases hm:((x.fNum.fMag.length:Nat):Int) > 40
    ·refine ⟨.inr (), ?_,trivial⟩
     refine Ev.step ?_ (fun N=>by rw [beehivelaw0_parts_L0])
     exact Ev.pos (by omega) (Ev.pos hv (Ev.bindc (Zjg hd) (Ev.neg hb (Ev.pos hm (Ev.now _)))))
    ·obtain ⟨q,hq,q0,q1,q2⟩:=parts_ev x (hw x (by simp)) (p - v - 1) (by omega) (by omega)
     obtain ⟨r,hr,ho⟩:=parts_loop xs (fun y hy=>hw y (by simp [hy])) p h1 h2 l (i+1) (Z50 hd) (by rw [Z4k]; exact hl) (v+1+q) (by omega) (by omega)
     refine ⟨r, ?_, ?_⟩
     ·refine Ev.step ?_ (fun N=>by rw [beehivelaw0_parts_L0])
      have e1:IntKind.i64.wrap (IntKind.i64.wrap (p - v) - 1)=p - v - 1:=by rw [Zk1 (p - v) (by omega) (by omega),Zk1 _ (by omega) (by omega)]
      have e2:IntKind.i64.wrap (IntKind.i64.wrap (v+1)+q)=v+1+q:=by rw [Zk1 (v+1) (by omega) (by omega),Zk1 _ (by omega) (by omega)]
      have e3:IntKind.i64.wrap ((i:Int)+1)=((i+1:Nat):Int):=by rw [Zk1 _ (by omega) (by omega)]; rfl
      rw [e1]
      refine Ev.pos (by omega) (Ev.pos hv (Ev.bindc (Zjg hd) (Ev.neg hb (Ev.neg hm (Ev.bind hq ?_)))))
      rw [e2,e3]
      exact hr
     ·cases r with
      |inr u=>trivial
      |inl r =>
       obtain ⟨o1,o2,o3⟩:=ho
       refine ⟨by omega,o2,fun h=>?_⟩
       obtain ⟨s1,s2⟩:=o3 h
       obtain ⟨s3,s4⟩:=q2 (by omega)
       have hwx:=hw x (by simp)
       refine ⟨fun y hy=>?_, ?_⟩
       ·rcases List.mem_cons.1 hy with rfl | hy
        ·exact Small.mk (by omega) (by omega) hwx.ArgsLen s3
        ·exact s1 y hy
       ·rw [cnts,cnt_eq]
        omega
  ·refine ⟨.inl v, ?_,by omega,h4,fun h=>by omega⟩
   refine Ev.step ?_ (fun N=>by rw [beehivelaw0_parts_L0])
   exact Ev.pos (by omega) (Ev.neg hv (Ev.now _))
end
theorem parts_top (ts:List Z00) (hw:∀ x ∈ ts,Z0l x) (hl:ts.length≤maxLen) (p:Int) (h1:-1≤p) (h2:p≤100000) :
  ∃ r,Ev (fun N=>beehivelaw0_parts N ts p) r∧0≤r∧r≤p+1∧(r≤p→(∀ y ∈ ts,Small y)∧(cnts ts:Int)=r):=by
 obtain ⟨r,hr,ho⟩:=parts_loop ts hw p h1 h2 ts 0 rfl hl 0 (by omega) (by omega)
 have hr':Ev (fun N=>beehivelaw0_parts_L0 N ts p 0 0) r:=hr
 cases r with
 |inl r =>
  refine ⟨r, ?_,ho.1,ho.2.1,fun h=>by simpa using ho.2.2 h⟩
  refine Ev.step ?_ (fun N=>by rw [beehivelaw0_parts])
  exact Ev.bind hr' (Ev.now _)
 |inr u =>
  refine ⟨p+1, ?_,by omega,by omega,fun h=>by omega⟩
  refine Ev.step ?_ (fun N=>by rw [beehivelaw0_parts])
  refine Ev.bind hr' ?_
  have e:IntKind.i64.wrap (p+1)=p+1:=Zk1 _ (by omega) (by omega)
  show Ev (fun _=>some (IntKind.i64.wrap (p+1))) (p+1)
  rw [e]
  exact Ev.now _
end Go.Proofs.Ytllcnlonkloabaa.Sh
