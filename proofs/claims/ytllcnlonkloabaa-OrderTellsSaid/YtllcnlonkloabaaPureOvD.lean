import Derived.Test.YtllcnlonkloabaaInv
import Derived.Test.YtllcnlonkloabaaPureOvC
set_option linter.unusedVariables false
set_option linter.unusedSimpArgs false
set_option maxRecDepth 100000
namespace Go.Proofs.Ytllcnlonkloabaa.Sh
open Go Lift Go.Proofs
mutual
def fitsT:Z00→Bool
 |⟨_,_,Num,_,_,Args⟩=>decide (Num.fMag.length≤1000000000000) && (decide (Args.length≤1000000000000) && fitsTs Args)
def fitsTs:List Z00→Bool
 |[]=>true
 |x::xs=>fitsT x && fitsTs xs
end
theorem Zex:∀ xs:List Z00,fitsTs xs=true ↔ ∀ x ∈ xs,fitsT x=true
 |[]=>by simp [fitsTs]
 |x::xs=>by rw [fitsTs,yx,Zex xs]; simp
theorem fitsT_eq (x:Z00):fitsT x=true ↔ x.fNum.fMag.length≤1000000000000∧x.fArgs.length≤1000000000000∧∀ y ∈ x.fArgs,fitsT y=true:=by
 cases x
 rw [fitsT,yx,yx,Zex,decide_eq_true_eq,decide_eq_true_eq]
theorem term_cells {w:World} {F:Nat→Prop} [Thr] {x:Z00} {b off:Nat} (h:Zj1 w F b (Z05 x) off):∃ mag args,(∀ j,j < 7→w.cell? ⟨b,off+j,none⟩=(Zjz x.fKind x.fN x.fNum.fNeg mag x.fBits x.fBytes args)[j]?)∧C.Rep w F (.pr Thr.n 1 (x.fNum.fMag.map (rI .u32))) mag∧C.Rep w F (.pr Thr.n 7 (x.fArgs.map Z05)) args:=by
 rw [Z0c] at h
 obtain ⟨u0,h0,c0⟩:=h.at 0 _ rfl
 obtain ⟨u1,h1,c1⟩:=h.at 1 _ rfl
 obtain ⟨u2,h2,c2⟩:=h.at 2 _ rfl
 obtain ⟨u3,h3,c3⟩:=h.at 3 _ rfl
 obtain ⟨u4,h4,c4⟩:=h.at 4 _ rfl
 obtain ⟨u5,h5,c5⟩:=h.at 5 _ rfl
 obtain ⟨u6,h6,c6⟩:=h.at 6 _ rfl
 have c0:u0=.int .i64 x.fKind:=by simpa only [C.Rep] using c0
 have c1:u1=.int .i64 x.fN:=by simpa only [C.Rep] using c1
 have c2:u2=.bool x.fNum.fNeg:=by simpa only [C.Rep] using c2
 have c4:u4=.int .u64 x.fBits:=by simpa only [C.Rep] using c4
 have c5:u5=.string x.fBytes:=by simpa only [C.Rep] using c5
 subst c0 c1 c2 c4 c5
 refine ⟨u3,u6,fun j hj=>?_,c3,c6⟩
 match j,hj with
 |0,_=>exact h0
 |1,_=>exact h1
 |2,_=>exact h2
 |3,_=>exact h3
 |4,_=>exact h4
 |5,_=>exact h5
 |6,_=>exact h6
 |j+7,hj=>omega
theorem goodA_rows {w:World} {F:Nat→Prop} [Thr] {k:Nat} {xs:List Z00} {v:Value} (hl:xs.length≤1000000000000) (hf:∀ x ∈ xs,fitsT x=true) (hk:∀ x ∈ xs, ∀ v,C.Rep w F (.pr Thr.n 7 (x.fArgs.map Z05)) v→GoodA w (fun b=>F b∧Thr.n≤b) k v) (h:C.Rep w F (.pr Thr.n 7 (xs.map Z05)) v):GoodA w (fun b=>F b∧Thr.n≤b) (k+1) v:=by
 by_cases hne:xs=[]
 ·subst hne
  simp only [C.Rep] at h
  rcases h with ⟨_,h⟩ | ⟨b,cap,vs,t,h1,h2,_⟩
  ·exact .inl h
  ·exact (h2 rfl).elim
 ·obtain ⟨b,cap,vs,t,rfl,h1,h2,h3,h4,h5,h6⟩:=C.Rep.pr_mem (by simpa using hne) h
  rw [xg] at h1 ⊢
  refine .inr ⟨b,xs.length,cap,vs,t,rfl,List.length_pos_iff.2 hne,⟨h1,hl⟩,h2,h3,⟨h4,h5⟩,fun i hi=>?_⟩
  obtain ⟨_,q⟩:=h6.at i (Z05 xs[i]) (by rw [qa,yu hi]; rfl)
  rw [xk] at q
  obtain ⟨mag,args,g1,g2,g3⟩:=term_cells q
  have hm:xs[i] ∈ xs:=List.getElem_mem hi
  refine ⟨xs[i].fKind,xs[i].fN,xs[i].fNum.fNeg,mag,xs[i].fBits,xs[i].fBytes,args,fun j hj=>?_,goodL_of ((fitsT_eq _).1 (hf _ hm)).1 g2,hk _ hm _ g3⟩
  rw [← g1 j hj,Z0w h2]
mutual
theorem goodT {w:World} {F:Nat→Prop} [Thr]:∀ x:Z00,fitsT x=true→∃ k, ∀ v,C.Rep w F (.pr Thr.n 7 (x.fArgs.map Z05)) v→GoodA w (fun b=>F b∧Thr.n≤b) k v
 |⟨Kind,N,Num,Bits,Bytes,Args⟩,hf=>by
  obtain ⟨_,h1,h2⟩:=(fitsT_eq _).1 hf
  obtain ⟨K,hK⟩:=goodTs Args h2
  exact ⟨K+1,fun v hv=>goodA_rows h1 h2 hK hv⟩
theorem goodTs {w:World} {F:Nat→Prop} [Thr]:∀ xs:List Z00,(∀ x ∈ xs,fitsT x=true)→∃ k, ∀ x ∈ xs, ∀ v,C.Rep w F (.pr Thr.n 7 (x.fArgs.map Z05)) v→GoodA w (fun b=>F b∧Thr.n≤b) k v
 |[],_=>⟨0,fun x hx=>by cases hx⟩
 |x::xs,hf=>by
  obtain ⟨k1,h1⟩:=goodT x (hf x (by simp))
  obtain ⟨k2,h2⟩:=goodTs xs fun y hy=>hf y (by simp [hy])
  refine ⟨k1+k2,fun y hy v hv=>?_⟩
  rcases List.mem_cons.1 hy with e | hy
  ·subst e; exact (h1 v hv).mono (by omega)
  ·exact (h2 y hy v hv).mono (by omega)
end
theorem pr_up {w:World} {F F':Nat→Prop} {n sz:Nat} {rows:List (List C)} {v:Value} (hF:∀ b,F b→n≤b→F' b) (hc:∀ r ∈ rows, ∀ c ∈ r, ∀ u,C.Rep w F c u→C.Rep w F' c u) (h:C.Rep w F (.pr n sz rows) v):C.Rep w F' (.pr n sz rows) v:=by
 simp only [C.Rep] at h ⊢
 rcases h with h | ⟨b,cap,vs,t,h1,h2,h3,h4,h5,h6,h7,h8⟩
 ·exact .inl h
 ·refine .inr ⟨b,cap,vs,t,h1,h2,h3,h4,h5,hF b h6 h7,h7,Zj2.mk fun i r hi=>?_⟩
  obtain ⟨q1,q2⟩:=h8.at i r hi
  refine ⟨q1,Zj1.mk fun j c hj=>?_⟩
  obtain ⟨u,hu,hcu⟩:=q2.at j c hj
  exact ⟨u,hu,hc r (qw hi) c (qw hj) u hcu⟩
mutual
theorem newT {w:World} {F F':Nat→Prop} [Thr] (hF:∀ b,F b→Thr.n≤b→F' b):∀ (x:Z00), ∀ c ∈ Z05 x, ∀ v,C.Rep w F c v→C.Rep w F' c v
 |⟨Kind,N,Num,Bits,Bytes,Args⟩,c,hc,v,h=>by
  rw [Z05] at hc
  simp only [xc,List.not_mem_nil,or_false] at hc
  rcases hc with rfl | rfl | rfl | rfl | rfl | rfl | rfl
  ·exact C.Rep.flat rfl h
  ·exact C.Rep.flat rfl h
  ·exact C.Rep.flat rfl h
  ·refine pr_up hF (fun r hr c hc u hu=>?_) h
   obtain ⟨i,_,rfl⟩:=List.mem_map.1 hr
   obtain rfl:=List.mem_singleton.1 hc
   exact C.Rep.flat rfl hu
  ·exact C.Rep.flat rfl h
  ·exact C.Rep.flat rfl h
  ·exact pr_up hF (newTs hF Args) h
theorem newTs {w:World} {F F':Nat→Prop} [Thr] (hF:∀ b,F b→Thr.n≤b→F' b):∀ (xs:List Z00), ∀ r ∈ Z5u xs, ∀ c ∈ r, ∀ v,C.Rep w F c v→C.Rep w F' c v
 |[],r,hr,_,_,_,_=>by rw [Z5u] at hr; cases hr
 |x::xs,r,hr,c,hc,v,h=>by
  rw [Z5u] at hr
  rcases List.mem_cons.1 hr with e | hr
  ·subst e; exact newT hF x c hc v h
  ·exact newTs hF xs r hr c hc v h
end
theorem sQ_new {w:World} {F F':Nat→Prop} [Thr] (hF:∀ b,F b→Thr.n≤b→F' b) (r:List Z00) (v:Value) (h:C.Rep w F (sQ r) v):C.Rep w F' (.sl 7 (r.map Z02)) v:=by
 cases r with
 |nil =>
  have h:C.Rep w F (.sl 7 []) v:=h
  simp only [C.Rep,uw] at h ⊢
  rcases h with h | ⟨b,off,cap,e,h1,_⟩
  ·exact .inl h
  ·exact .inr ⟨b,off,cap,e,h1,fun hne=>(hne rfl).elim,by simp only [Zj2]⟩
 |cons x r =>
  refine sQ_le (x::r) w F' v ?_
  have h:C.Rep w F (.pr Thr.n 7 ((x::r).map Z05)) v:=h
  rw [← Z8k] at h
  show C.Rep w F' (.pr Thr.n 7 ((x::r).map Z05)) v
  rw [← Z8k]
  exact pr_up hF (newTs hF (x::r)) h
theorem sQ_good {w:World} {F:Nat→Prop} [Thr] (r:List Z00) (hl:r.length≤1000000000000) (hf:fitsTs r=true) (v:Value) (h:C.Rep w F (sQ r) v):∃ ad len cap k,v=.slice ad len cap∧(0 < len→GoodA w (fun b=>F b∧Thr.n≤b) k v):=by
 cases r with
 |nil =>
  have h:C.Rep w F (.sl 7 []) v:=h
  simp only [C.Rep] at h
  rcases h with ⟨_,a,rfl⟩ | ⟨b,off,cap,rfl,_⟩
  ·exact ⟨a,0,0,0,rfl,fun h=>by omega⟩
  ·exact ⟨_,_,cap,0,rfl,fun h=>by simp at h⟩
 |cons x r =>
  obtain ⟨K,hK⟩:=goodTs (w:=w) (F:=F) (x::r) ((Zex _).1 hf)
  have g:=goodA_rows hl ((Zex _).1 hf) hK h
  rcases g with ⟨a,rfl⟩ | ⟨b,len,cap,vs,t,rfl,g⟩
  ·exact ⟨a,0,0,0,rfl,fun h=>by omega⟩
  ·exact ⟨_,len,cap,K+1,rfl,fun _=>.inr ⟨b,len,cap,vs,t,rfl,g⟩⟩
theorem over_loop' {D:Nat→Prop} {k:Nat} {w:World} {a:Act} {ad:Option Addr} {len cap:Nat} (hD:∀ b,D b→b < w.heap.size) (h:0 < len→GoodA w D k (.slice ad len cap)) (hsz:a.tmps.size=67) (h7:a.tmps[7]? = some (.slice ad len cap)) :
  (partOf Try.f6 [1,1,1,1,0]).wp Try.prog (fun e a' w'=>e=.normal∧(a'.defers=a.defers∧a'.tmps.size=67∧a'.tmps[2]? = a.tmps[2]? ∧ a'.tmps[8]? = a.tmps[8]?)∧Ov D w w') a w:=by
 obtain ⟨tm,df⟩:=a
 have hsz:tm.size=67:=hsz
 obtain ⟨ts,hts⟩:∃ ts:Fin 67→Value, ∀ i,ts i=tm[i.val]'(by have:=i.isLt; omega):=⟨fun i=>tm[i.val]'(by have:=i.isLt; omega),fun _=>rfl⟩
 have e7:Value.slice ad len cap=ts 7:=by
  have h7:tm[7]? = some (Value.slice ad len cap):=h7
  rw [xq (by omega)] at h7
  injection h7 with h7
  rw [hts]; exact h7.symm
 have lit:tm=#[ts 0,ts 1,ts 2,ts 3,ts 4,ts 5,ts 6,ts 7,ts 8,ts 9,ts 10,ts 11,ts 12,ts 13,ts 14,ts 15,ts 16,ts 17,ts 18,ts 19,ts 20,ts 21,ts 22,ts 23,ts 24,ts 25,ts 26,ts 27,ts 28,ts 29,ts 30,ts 31,ts 32,ts 33,ts 34,ts 35,ts 36,ts 37,ts 38,ts 39,ts 40,ts 41,ts 42,ts 43,ts 44,ts 45,ts 46,ts 47,ts 48,ts 49,ts 50,ts 51,ts 52,ts 53,ts 54,ts 55,ts 56,ts 57,ts 58,ts 59,ts 60,ts 61,ts 62,ts 63,ts 64,ts 65,ts 66]:=by
  have e:List.ofFn ts=[ts 0,ts 1,ts 2,ts 3,ts 4,ts 5,ts 6,ts 7,ts 8,ts 9,ts 10,ts 11,ts 12,ts 13,ts 14,ts 15,ts 16,ts 17,ts 18,ts 19,ts 20,ts 21,ts 22,ts 23,ts 24,ts 25,ts 26,ts 27,ts 28,ts 29,ts 30,ts 31,ts 32,ts 33,ts 34,ts 35,ts 36,ts 37,ts 38,ts 39,ts 40,ts 41,ts 42,ts 43,ts 44,ts 45,ts 46,ts 47,ts 48,ts 49,ts 50,ts 51,ts 52,ts 53,ts 54,ts 55,ts 56,ts 57,ts 58,ts 59,ts 60,ts 61,ts 62,ts 63,ts 64,ts 65,ts 66]:=rfl
  rw [show #[ts 0,ts 1,ts 2,ts 3,ts 4,ts 5,ts 6,ts 7,ts 8,ts 9,ts 10,ts 11,ts 12,ts 13,ts 14,ts 15,ts 16,ts 17,ts 18,ts 19,ts 20,ts 21,ts 22,ts 23,ts 24,ts 25,ts 26,ts 27,ts 28,ts 29,ts 30,ts 31,ts 32,ts 33,ts 34,ts 35,ts 36,ts 37,ts 38,ts 39,ts 40,ts 41,ts 42,ts 43,ts 44,ts 45,ts 46,ts 47,ts 48,ts 49,ts 50,ts 51,ts 52,ts 53,ts 54,ts 55,ts 56,ts 57,ts 58,ts 59,ts 60,ts 61,ts 62,ts 63,ts 64,ts 65,ts 66]=(List.ofFn ts).toArray by rw [e]]
  apply Array.ext
  ·simp [hsz]
  ·intro i h1 h2
   clear e
   have k2:(List.ofFn ts).toArray[i]=tm[i]:=by rw [List.getElem_toArray,List.getElem_ofFn,hts]
   exact k2.symm
 have key:=over_loop (k:=k) ts df hD h
 rw [e7] at key
 rw [lit]
 refine wp_mono key ?_
 rintro e a w' ⟨rfl,⟨i,y,rfl⟩,ho⟩
 exact ⟨rfl,⟨rfl,rfl,rfl,rfl⟩,ho⟩
def tells_S3 [Thr] (p2:List Z00):St:={ fr:=([.bad,.bad,(.v (.one (.d (.mk false Thr.n (.sl 7 (p2.map Z02))))))]++bads 64),obs:=[] }
def tells_S4 [Thr] (p2 r13:List Z00):St:={ fr:=([.bad,.bad,(.v (.one (.d (.mk false Thr.n (.sl 7 (p2.map Z02)))))),.bad,.bad,.bad,.bad,(.v (.one (.d (sQ r13))))]++bads 13++[(.v (.one (.d (.mk false Thr.n (.sl 7 (p2.map Z02)))))),(.v (.one (.d (sQ r13))))]++bads 44),obs:=[] }
theorem bads_get {n i:Nat} {z:AV} (h:(bads n)[i]? = some z):z=.bad:=by
 unfold bads at h
 exact List.eq_of_mem_replicate (qw h)
theorem tells_slots:(2 ∉ regDsts (partOf Try.f6 [1,1,0])∧3 ∉ regDsts (partOf Try.f6 [1,1,0])∧4 ∉ regDsts (partOf Try.f6 [1,1,0]))∧2 ∉ regDsts (partOf Try.f6 [1,1,1,0])∧7 ∉ regDsts (partOf Try.f6 [1,1,1,0]):=by
 rw [show regDsts (partOf Try.f6 [1,1,0])=[21,22,7] by kernel_rfl,show regDsts (partOf Try.f6 [1,1,1,0])=[23,24,25,26,27,28,29,30,31,32,33,34,35,36,37,38,39,40,41,42,43,44,8] by kernel_rfl]
 decide
theorem tells_tail {N:Nat} {p0 p1:Z00} {p2 r13:List Z00} {r22 r:Bool} (h13:Z86 N p2=some r13) (hl:r13.length≤1000000000000) (hf:fitsTs r13=true) (hB:LookTo Try.prog 491 (partOf Try.f6 [1,1,1,0]) (Z2p p0 p1 p2 r13) 8 (.bool r22))
  (hrest:Ziw Try.prog 491 (partOf Try.f6 [1,1,1,1,1]) (Z2n p0 p1 p2 r13 r22) .ret (Z0q p0 p1 p2 r)):Ziw Try.prog 491 (partOf Try.f6 [1,1]) (Z1o p0 p1 p2 ()) .ret (Z0q p0 p1 p2 r):=by
 intro G hG β S a1 w1 hs1
 have hsz1:a1.tmps.size=67:=by
  have:=hs1.fr.length
  rw [j4] at this
  exact this.symm
 letI:Thr:=⟨w1.heap.size⟩
 have hn:Thr.n=w1.heap.size:=rfl
 have slot1:∀ (j:Nat) (x:AV),(Z1o p0 p1 p2 ()).fr[j]? = some x→∃ v,a1.tmps[j]? = some v∧x.Rep w1 S β v:=fun j x hx=>by
  obtain ⟨v,hv,hr⟩:=hs1.fr.get j x hx
  exact ⟨v,by rw [← hv,yz],hr⟩
 obtain ⟨v2,hv2,hr2⟩:=slot1 2 _ rfl
 obtain ⟨v3,hv3,hr3⟩:=slot1 3 _ rfl
 obtain ⟨v4,hv4,hr4⟩:=slot1 4 _ rfl
 have pos:0 < w1.heap.size:=by
  obtain ⟨b,hb,_⟩:=hr3
  have:=(hs1.ob 3 (.var (Z0d p0)) b (by simp [Z1o]) hb).1.lt
  omega
 have hfr3:All2 (AV.Rep w1 (fun b=>b < w1.heap.size) β) (tells_S3 p2).fr a1.tmps.toList:=by
  refine All2.mk (by rw [j4,hsz1]; rfl) fun i z v hz hv=>?_
  match i with
  |0 | 1=>injection hz with hz; subst hz; trivial
  |2 =>
   injection hz with hz
   subst hz
   rw [yz,hv2] at hv
   injection hv with hv
   subst hv
   show C.Rep w1 (fun b=>b < w1.heap.size) (.mk false Thr.n (.sl 7 (p2.map Z02))) v2
   simp only [C.Rep]
   exact ⟨.inr (by rw [hn]; omega),C.Rep.mono (fun b hb=>⟨hs1.lt b hb,fun e=>by cases e⟩) (Zj3.refl _ _) _ _ hr2⟩
  |i+3 =>
   have:z=.bad:=bads_get (n:=64) (i:=i) hz
   subst this
   trivial
 have e0:partOf Try.f6 [1,1]=.seq (partOf Try.f6 [1,1,0]) (.seq (partOf Try.f6 [1,1,1,0]) (.seq (partOf Try.f6 [1,1,1,1,0]) (partOf Try.f6 [1,1,1,1,1]))):=by kernel_rfl
 rw [e0]
 refine wp_seq (wp_mono (own_look (β:=β) (by kernel_rfl:runReg Try.prog 491 (partOf Try.f6 [1,1,0]) [{}, { h:=.pcall [.v (.one (.dat (sQ r13)))] }, {}] (tells_S3 p2)=some (tells_S4 p2 r13,[Ziz Try.prog 23 [.v (.one (.dat (.mk false Thr.n (.sl 7 (p2.map Z02)))))] [.v (.one (.dat (sQ r13)))]])) (.cons (order_Sort_q N p2 r13 h13) AllP.nil) rfl (fun _ h=>h) hfr3 rfl) ?_)
 rintro e a2 w2 ⟨rfl,look2,β2,S2,hfr2,hS2,hlt2⟩
 simp only
 obtain ⟨⟨n2,n3,n4⟩,m2,m7⟩:=tells_slots
 obtain ⟨v7,hv7,hr7⟩:=hfr2.get 7 _ (rfl:(tells_S4 p2 r13).fr[7]? = some (.v (.one (.d (sQ r13)))))
 have hr7:C.Rep w2 S2 (sQ r13) v7:=hr7
 rw [yz] at hv7
 have sub4:∀ b,S b→(S b∨(S2 b∧w1.heap.size≤b)):=fun b hb=>.inl hb
 have same12:Zj3 S w1 w2:=fun b hb=>look2.old b (hs1.lt b hb)
 let G4:Gh:={ w0:=w2,own0:=fun b=>β 3=some b∨β 4=some b,S0:=fun b=>S b∨(S2 b∧w1.heap.size≤b),n0:=491,par:=fun _ _=>False,dfs:=a2.defers }
 have hs4:Sim G4 β (fun b=>S b∨(S2 b∧w1.heap.size≤b)) (Z2p p0 p1 p2 r13) a2 w2:=by
  refine ⟨rfl, ?_, ?_, ?_, ?_, ?_,fun _ h=>h,xw _,fun _ _ _=>rfl,rfl,rfl,rfl,fun _ _ h=>h.elim,fun b hb=>.inl hb,Zj4.refl _⟩
  ·refine All2.mk (by rw [j4,look2.len,hsz1]; rfl) fun i z v hz hv=>?_
   rw [yz] at hv
   match i with
   |0 | 1 | 5 | 6=>injection hz with hz; subst hz; trivial
   |2 =>
    injection hz with hz
    subst hz
    rw [look2.slots 2 n2,hv2] at hv
    injection hv with hv
    subst hv
    exact AV.Rep.mono sub4 same12 look2.sh (.v (.one (.d (.sl 7 (p2.map Z02))))) _ (fun _ _=>rfl) hr2
   |3 =>
    injection hz with hz
    subst hz
    rw [look2.slots 3 n3,hv3] at hv
    injection hv with hv
    subst hv
    exact hr3
   |4 =>
    injection hz with hz
    subst hz
    rw [look2.slots 4 n4,hv4] at hv
    injection hv with hv
    subst hv
    exact hr4
   |7 =>
    injection hz with hz
    subst hz
    rw [hv7] at hv
    injection hv with hv
    subst hv
    exact sQ_new (fun b hb hb'=>.inr ⟨hb,hb'⟩) r13 v7 hr7
   |i+8 =>
    have:z=.bad:=bads_get (n:=59) (i:=i) hz
    subst this
    trivial
  ·intro s o b hm hb
   obtain ⟨k1,k2,k3⟩:=hs1.ob s o b hm hb
   have hlt:=k1.lt
   refine ⟨?_,fun h=>h.elim k2 fun h=>by omega,.inl ?_⟩
   ·cases o with
    |var cells =>
     obtain ⟨vs,t,g1,g2⟩:=k1
     exact ⟨vs,t,(look2.old b hlt).trans g1,g2.imp fun c u hr=>AC.Rep.mono sub4 same12 look2.sh c u (fun _ _=>rfl) hr⟩
    |arr sz rows more=>simp [Z2p] at hm
   ·simp only [Z2p,xc,yt,List.not_mem_nil,or_false] at hm
    rcases hm with ⟨rfl,_⟩ | ⟨rfl,_⟩
    ·exact .inr hb
    ·exact .inl hb
  ·exact hs1.out
  ·exact hs1.inj
  ·intro b hb
   rcases hb with hb | hb
   ·exact qc (hs1.lt b hb) look2.size
   ·exact hlt2 b hb.1
 refine wp_seq (wp_mono (hB G4 rfl β _ a2 w2 hs4) ?_)
 rintro e a3 w3 ⟨rfl,hv8,look3⟩
 obtain ⟨ad,len,cap,k,rfl,hgood⟩:=sQ_good r13 hl hf v7 hr7
 have hov:Ov (fun b=>S2 b∧w1.heap.size≤b) w2 w3:=Ov.same look3.old look3.size look3.os look3.tape look3.output look3.sh
 have hD:∀ b,(S2 b∧w1.heap.size≤b)→b < w3.heap.size:=fun b hb=>qc (hlt2 b hb.1) look3.size
 refine wp_seq (wp_mono (over_loop' (k:=k) hD (fun h0=>hov.trm _ _ (hgood h0)) (by rw [look3.len,look2.len,hsz1]) (by rw [look3.slots 7 m7]; exact hv7)) ?_)
 rintro e a5 w5 ⟨rfl,⟨hdf,hsz5,s2,s8⟩,ho⟩
 have old5:∀ b,b < w1.heap.size→w5.heap[b]? = w1.heap[b]? := fun b hb =>
  (ho.out b (qc hb (u7 look2.size look3.size)) fun h=>by omega).trans ((look3.old b (qc hb look2.size)).trans (look2.old b hb))
 have size5:w1.heap.size≤w5.heap.size:=u7 look2.size (u7 look3.size ho.size)
 have sh5:Zj4 w1 w5:=look2.sh.trans (look3.sh.trans ho.sh)
 have same5:Zj3 S w1 w5:=fun b hb=>old5 b (hs1.lt b hb)
 refine hrest G hG β S a5 w5 ?_
 refine ⟨hdf.trans (look3.defers.trans (look2.defers.trans hs1.defers)), ?_,fun s o b hm=>(by cases hm),fun s o hm=>(by cases hm),fun s o s' o' b hm=>(by cases hm),fun b hb=>qc (hs1.lt b hb) size5,hs1.s0,u7 hs1.size size5,fun b k1 k2=>(old5 b (qc k1 hs1.size)).trans (hs1.old b k1 k2),ho.os.trans (look3.os.trans (look2.os.trans hs1.os)),ho.tape.trans (look3.tape.trans (look2.tape.trans hs1.tape)),ho.output.trans (look3.output.trans (look2.output.trans hs1.output)),hs1.par,hs1.src,hs1.sh.trans sh5⟩
 refine All2.mk (by rw [j4,hsz5]; rfl) fun i z v hz hv=>?_
 rw [yz] at hv
 match i with
 |0 | 1 | 3 | 4 | 5 | 6 | 7=>injection hz with hz; subst hz; trivial
 |2 =>
  injection hz with hz
  subst hz
  rw [s2,look3.slots 2 m2,look2.slots 2 n2,hv2] at hv
  injection hv with hv
  subst hv
  exact AV.Rep.mono (fun _ h=>h) same5 sh5 (.v (.one (.d (.sl 7 (p2.map Z02))))) _ (fun _ _=>rfl) hr2
 |8 =>
  injection hz with hz
  subst hz
  rw [s8,hv8] at hv
  injection hv with hv
  subst hv
  show C.Rep w5 S (.bool r22) (.bool r22)
  simp only [C.Rep]
 |i+9 =>
  have:z=.bad:=bads_get (n:=58) (i:=i) hz
  subst this
  trivial
def Z3s (N:Nat) (p0:Z00) (p1:Z00) (p2:(List Z00)):Option Bool:=(Z1h N p0 p1 p2).bind fun r10=>match r10 with
 |.inl r11=>(Z86 N p2).bind fun r13=>(Z2x N p0 p1 p2 r13).bind fun r22=>if r13.length≤1000000000000∧fitsTs r13=true then (if r22=true then (Z4f N p2).bind fun r25=>(beehivelaw0_SameTerms N r13 r25).bind fun r26=>if r26=true then (Z35 N).bind fun r28=>some r28 else some false else some false) else none
 |.inr r12=>some r12
theorem tells_rest {N:Nat} {p0 p1:Z00} {p2 r13:List Z00} {r22 r:Bool} (hr13:Z86 N p2=some r13) (h:(if r22=true then (Z4f N p2).bind fun r25=>(beehivelaw0_SameTerms N r13 r25).bind fun r26=>if r26=true then (Z35 N).bind fun r28=>some r28 else some false else some false)=some r) :
  Ziw Try.prog 491 (partOf Try.f6 [1,1,1,1,1]) (Z2n p0 p1 p2 r13 r22) .ret (Z0q p0 p1 p2 r):=by
 rcases Z07 h with ⟨hb23,h⟩ | ⟨hb23,h⟩
 ·obtain ⟨r25,hr25,h⟩:=yj h
  obtain ⟨r26,hr26,h⟩:=yj h
  rcases Z07 h with ⟨hb27,h⟩ | ⟨hb27,h⟩
  ·obtain ⟨r28,hr28,h⟩:=yj h
   injection h with h; subst h
   exact Ziw.of_run _ (by kernel_rfl:runTo Try.prog 491 (partOf Try.f6 [1,1,1,1,1]) [.adj [.keep [2,8] []],.cut .normal { fr:=([.bad,.bad,(.v (.one (.d (.sl 7 (p2.map Z02))))),.bad,.bad,.bad,(.v (.one (.d (.bool r28)))),.bad,(.v (.one (.d (.bool r22))))]++bads 47++[(.v (.one (.d (.bool r22)))),(.v (.one (.d (.bool r22))))]++bads 4++[(.v (.one (.d (.bool r26)))),(.v (.one (.d (.bool r26)))),(.v (.one (.d (.bool r26)))),(.v (.one (.d (.bool r28)))),(.v (.one (.d (.bool r28))))]),obs:=[] },.adj [.keep [6] []]] (Z2n p0 p1 p2 r13 r22)=some (.ret,(Z0q p0 p1 p2 r28),[Ziw Try.prog 491 (partOf Try.f6 [1,1,1,1,1,0]) { fr:=([.bad,.bad,(.v (.one (.d (.sl 7 (p2.map Z02)))))]++bads 5++[(.v (.one (.d (.bool r22))))]++bads 58),obs:=[] } .normal { fr:=([.bad,.bad,(.v (.one (.d (.sl 7 (p2.map Z02))))),.bad,.bad,.bad,(.v (.one (.d (.bool r28)))),.bad,(.v (.one (.d (.bool r22))))]++bads 47++[(.v (.one (.d (.bool r22)))),(.v (.one (.d (.bool r22))))]++bads 4++[(.v (.one (.d (.bool r26)))),(.v (.one (.d (.bool r26)))),(.v (.one (.d (.bool r26)))),(.v (.one (.d (.bool r28)))),(.v (.one (.d (.bool r28))))]),obs:=[] }])) (.cons (Ziw.of_bor [] [] [{}, {}, {}, { h:=.pcall [.v (.one (.dat (.sl 7 (r13.map Z02))))] }, {}, { h:=.call 349 [.v (.one (.own 7 (r25.map Z02)))] [] }, { h:=.lcall [.v (.one (.dat (.bool r26)))] }, { h:=.pick true }, {}, { h:=.pcall [.v (.one (.dat (.bool r28)))] }, { h:=.pick true }, {}] (by kernel_rfl:runBor Try.prog 491 (partOf Try.f6 [1,1,1,1,1,0]) [] [] [{}, {}, {}, { h:=.pcall [.v (.one (.dat (.sl 7 (r13.map Z02))))] }, {}, { h:=.call 349 [.v (.one (.own 7 (r25.map Z02)))] [] }, { h:=.lcall [.v (.one (.dat (.bool r26)))] }, { h:=.pick true }, {}, { h:=.pcall [.v (.one (.dat (.bool r28)))] }, { h:=.pick true }, {}] { fr:=([.bad,.bad,(.v (.one (.d (.sl 7 (p2.map Z02)))))]++bads 5++[(.v (.one (.d (.bool r22))))]++bads 58),obs:=[] }=some ({ fr:=([.bad,.bad,(.v (.one (.d (.sl 7 (p2.map Z02))))),.bad,.bad,.bad,(.v (.one (.d (.bool r28)))),.bad,(.v (.one (.d (.bool r22))))]++bads 47++[(.v (.one (.d (.bool r22)))),(.v (.one (.d (.bool r22))))]++bads 4++[(.v (.one (.d (.bool r26)))),(.v (.one (.d (.bool r26)))),(.v (.one (.d (.bool r26)))),(.v (.one (.d (.bool r28)))),(.v (.one (.d (.bool r28))))]),obs:=[] },[r22=true,r22=true,Ziz Try.prog 23 [.v (.one (.dat (.sl 7 (p2.map Z02))))] [.v (.one (.dat (.sl 7 (r13.map Z02))))],r22=true,r22=true,Ziz Try.prog 27 [.v (.one (.dat (.sl 7 (p2.map Z02))))] [.v (.one (.own 7 (r25.map Z02)))],r22=true,Ziz Try.prog 26 [.v (.one (.dat (.sl 7 (r13.map Z02)))),.v (.one (.dat (.sl 7 (r25.map Z02))))] [.v (.one (.dat (.bool r26)))],(r25.map Z02).length=(r25.map Z02).length,r22=true,r26=true,Ziz Try.prog 11 [] [.v (.one (.dat (.bool r28)))],r26=true])) (.cons ((Zj8 Z04 hb23)) (.cons ((Zj8 Z04 hb23)) (.cons ((Zfr N p2 r13 hr13)) (.cons ((Zj8 Z04 hb23)) (.cons ((Zj8 Z04 hb23)) (.cons ((Z7l N p2 r25 hr25)) (.cons ((Zj8 Z04 hb23)) (.cons ((Z5b N r13 r25 r26 hr26)) (.cons (rfl) (.cons ((Zj8 Z04 hb23)) (.cons ((Zj8 Z04 hb27)) (.cons ((Z58 N r28 hr28)) (.cons ((Zj8 Z04 hb27)) (AllP.nil))))))))))))))) (AllP.nil))
  ·injection h with h; subst h
   exact Ziw.of_run _ (by kernel_rfl:runTo Try.prog 491 (partOf Try.f6 [1,1,1,1,1]) [.adj [.keep [2,8] []],.cut .normal { fr:=([.bad,.bad,(.v (.one (.d (.sl 7 (p2.map Z02))))),.bad,.bad,.bad,(.v (.one (.d (.bool false)))),.bad,(.v (.one (.d (.bool r22))))]++bads 47++[(.v (.one (.d (.bool r22)))),(.v (.one (.d (.bool r22))))]++bads 4++[(.v (.one (.d (.bool r26)))),(.v (.one (.d (.bool r26)))),(.v (.one (.d (.bool r26)))),.bad,(.v (.one (.d (.bool false))))]),obs:=[] },.adj [.keep [6] []]] (Z2n p0 p1 p2 r13 r22)=some (.ret,(Z0q p0 p1 p2 false),[Ziw Try.prog 491 (partOf Try.f6 [1,1,1,1,1,0]) { fr:=([.bad,.bad,(.v (.one (.d (.sl 7 (p2.map Z02)))))]++bads 5++[(.v (.one (.d (.bool r22))))]++bads 58),obs:=[] } .normal { fr:=([.bad,.bad,(.v (.one (.d (.sl 7 (p2.map Z02))))),.bad,.bad,.bad,(.v (.one (.d (.bool false)))),.bad,(.v (.one (.d (.bool r22))))]++bads 47++[(.v (.one (.d (.bool r22)))),(.v (.one (.d (.bool r22))))]++bads 4++[(.v (.one (.d (.bool r26)))),(.v (.one (.d (.bool r26)))),(.v (.one (.d (.bool r26)))),.bad,(.v (.one (.d (.bool false))))]),obs:=[] }])) (.cons (Ziw.of_bor [] [] [{}, {}, {}, { h:=.pcall [.v (.one (.dat (.sl 7 (r13.map Z02))))] }, {}, { h:=.call 349 [.v (.one (.own 7 (r25.map Z02)))] [] }, { h:=.lcall [.v (.one (.dat (.bool r26)))] }, { h:=.pick true }, {}, { want:=false }, { h:=.pick false }, {}] (by kernel_rfl:runBor Try.prog 491 (partOf Try.f6 [1,1,1,1,1,0]) [] [] [{}, {}, {}, { h:=.pcall [.v (.one (.dat (.sl 7 (r13.map Z02))))] }, {}, { h:=.call 349 [.v (.one (.own 7 (r25.map Z02)))] [] }, { h:=.lcall [.v (.one (.dat (.bool r26)))] }, { h:=.pick true }, {}, { want:=false }, { h:=.pick false }, {}] { fr:=([.bad,.bad,(.v (.one (.d (.sl 7 (p2.map Z02)))))]++bads 5++[(.v (.one (.d (.bool r22))))]++bads 58),obs:=[] }=some ({ fr:=([.bad,.bad,(.v (.one (.d (.sl 7 (p2.map Z02))))),.bad,.bad,.bad,(.v (.one (.d (.bool false)))),.bad,(.v (.one (.d (.bool r22))))]++bads 47++[(.v (.one (.d (.bool r22)))),(.v (.one (.d (.bool r22))))]++bads 4++[(.v (.one (.d (.bool r26)))),(.v (.one (.d (.bool r26)))),(.v (.one (.d (.bool r26)))),.bad,(.v (.one (.d (.bool false))))]),obs:=[] },[r22=true,r22=true,Ziz Try.prog 23 [.v (.one (.dat (.sl 7 (p2.map Z02))))] [.v (.one (.dat (.sl 7 (r13.map Z02))))],r22=true,r22=true,Ziz Try.prog 27 [.v (.one (.dat (.sl 7 (p2.map Z02))))] [.v (.one (.own 7 (r25.map Z02)))],r22=true,Ziz Try.prog 26 [.v (.one (.dat (.sl 7 (r13.map Z02)))),.v (.one (.dat (.sl 7 (r25.map Z02))))] [.v (.one (.dat (.bool r26)))],(r25.map Z02).length=(r25.map Z02).length,r22=true,r26=false,r26=false])) (.cons ((Zj8 Z04 hb23)) (.cons ((Zj8 Z04 hb23)) (.cons ((Zfr N p2 r13 hr13)) (.cons ((Zj8 Z04 hb23)) (.cons ((Zj8 Z04 hb23)) (.cons ((Z7l N p2 r25 hr25)) (.cons ((Zj8 Z04 hb23)) (.cons ((Z5b N r13 r25 r26 hr26)) (.cons (rfl) (.cons ((Zj8 Z04 hb23)) (.cons ((Z01 Z04 hb27)) (.cons ((Z01 Z04 hb27)) (AllP.nil)))))))))))))) (AllP.nil))
 ·injection h with h; subst h
  exact Ziw.of_run _ (by kernel_rfl:runTo Try.prog 491 (partOf Try.f6 [1,1,1,1,1]) [.adj [.keep [2,8] []],.cut .normal { fr:=([.bad,.bad,(.v (.one (.d (.sl 7 (p2.map Z02))))),.bad,.bad,.bad,(.v (.one (.d (.bool false)))),.bad,(.v (.one (.d (.bool r22))))]++bads 47++[(.v (.one (.d (.bool r22)))),(.v (.one (.d (.bool r22))))]++bads 5++[(.v (.one (.d (.bool false)))),(.v (.one (.d (.bool false)))),.bad,(.v (.one (.d (.bool false))))]),obs:=[] },.adj [.keep [6] []]] (Z2n p0 p1 p2 r13 r22)=some (.ret,(Z0q p0 p1 p2 false),[Ziw Try.prog 491 (partOf Try.f6 [1,1,1,1,1,0]) { fr:=([.bad,.bad,(.v (.one (.d (.sl 7 (p2.map Z02)))))]++bads 5++[(.v (.one (.d (.bool r22))))]++bads 58),obs:=[] } .normal { fr:=([.bad,.bad,(.v (.one (.d (.sl 7 (p2.map Z02))))),.bad,.bad,.bad,(.v (.one (.d (.bool false)))),.bad,(.v (.one (.d (.bool r22))))]++bads 47++[(.v (.one (.d (.bool r22)))),(.v (.one (.d (.bool r22))))]++bads 5++[(.v (.one (.d (.bool false)))),(.v (.one (.d (.bool false)))),.bad,(.v (.one (.d (.bool false))))]),obs:=[] }])) (.cons (Ziw.of_bor [] [] [{}, {}, { want:=false }, { want:=false }, { want:=false }, { want:=false }, { want:=false }, { h:=.pick false }, {}, { want:=false }, { h:=.pick false }, {}] (by kernel_rfl:runBor Try.prog 491 (partOf Try.f6 [1,1,1,1,1,0]) [] [] [{}, {}, { want:=false }, { want:=false }, { want:=false }, { want:=false }, { want:=false }, { h:=.pick false }, {}, { want:=false }, { h:=.pick false }, {}] { fr:=([.bad,.bad,(.v (.one (.d (.sl 7 (p2.map Z02)))))]++bads 5++[(.v (.one (.d (.bool r22))))]++bads 58),obs:=[] }=some ({ fr:=([.bad,.bad,(.v (.one (.d (.sl 7 (p2.map Z02))))),.bad,.bad,.bad,(.v (.one (.d (.bool false)))),.bad,(.v (.one (.d (.bool r22))))]++bads 47++[(.v (.one (.d (.bool r22)))),(.v (.one (.d (.bool r22))))]++bads 5++[(.v (.one (.d (.bool false)))),(.v (.one (.d (.bool false)))),.bad,(.v (.one (.d (.bool false))))]),obs:=[] },[r22=false,r22=false,r22=false,r22=false,r22=false,r22=false,false=false,false=false])) (.cons ((Z01 Z04 hb23)) (.cons ((Z01 Z04 hb23)) (.cons ((Z01 Z04 hb23)) (.cons ((Z01 Z04 hb23)) (.cons ((Z01 Z04 hb23)) (.cons ((Z01 Z04 hb23)) (.cons (rfl) (.cons (rfl) (AllP.nil)))))))))) (AllP.nil))
theorem Zbw (N:Nat) (p0:Z00) (p1:Z00) (p2:(List Z00)) (r:Bool) (h:Z3s N p0 p1 p2=some r):Ziz Try.prog 6 [.v (.agg (Z0a p0)),.v (.agg (Z0a p1)),.v (.one (.dat (.sl 7 (p2.map Z02))))] (Z5c r):=by
 unfold Z3s at h
 obtain ⟨r10,hr10,h⟩:=yj h
 rcases r10 with r11 | r12
 ·obtain ⟨r13,hr13,h⟩:=yj h
  obtain ⟨r22,hr22,h⟩:=yj h
  rcases Z07 h with ⟨hb,h⟩ | ⟨hb,h⟩
  ·have tail:=tells_tail (p0:=p0) (p1:=p1) hr13 hb.1 hb.2 (Zb0 N p0 p1 p2 r13 r22 hr22) (tells_rest hr13 h)
   exact Ziz.of_run 491 _ Try.func6 (by kernel_rfl:runF Try.prog Try.f6 [.v (.agg (Z0a p0)),.v (.agg (Z0a p1)),.v (.one (.dat (.sl 7 (p2.map Z02))))] 491 [.reg [{}, {}, {}],.deep 1 [.keep [2,3,4] [4,3]] .normal (Z1o p0 p1 p2 r11),.deep 0 [] .ret (Z0q p0 p1 p2 r)]=some ((Z5c r),[Ziw Try.prog 491 (partOf Try.f6 [1,0]) (Z39 p0 p1 p2) .normal (Z1o p0 p1 p2 r11),Ziw Try.prog 491 (partOf Try.f6 [1,1]) (Z1o p0 p1 p2 r11) .ret (Z0q p0 p1 p2 r)])) (.cons (Z6k N p0 p1 p2 (.inl r11) hr10) (.cons tail (AllP.nil)))
  ·cases h
 ·injection h with h; subst h
  exact Ziz.of_run 491 _ Try.func6 (by kernel_rfl:runF Try.prog Try.f6 [.v (.agg (Z0a p0)),.v (.agg (Z0a p1)),.v (.one (.dat (.sl 7 (p2.map Z02))))] 491 [.reg [{}, {}, {}],.deep 1 [.keep [2,3,4] [4,3]] .ret (Z0q p0 p1 p2 r12)]=some ((Z5c r12),[Ziw Try.prog 491 (partOf Try.f6 [1,0]) (Z39 p0 p1 p2) .ret (Z0q p0 p1 p2 r12)])) (.cons (Z6k N p0 p1 p2 (.inr r12) hr10) (AllP.nil))
end Go.Proofs.Ytllcnlonkloabaa.Sh
