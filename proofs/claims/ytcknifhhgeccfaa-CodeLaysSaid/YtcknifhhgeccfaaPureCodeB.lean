import Derived.Test.YtcknifhhgeccfaaPureCodeA
set_option linter.unusedVariables false
set_option linter.unusedSimpArgs false
namespace Go.Proofs.Ytcknifhhgeccfaa.Sh
open Go Lift Go.Proofs
def mayO (o:Z0k):Bool:=decide (0≤o.fK∧o.fK≤255∧0≤o.fA∧o.fA≤255∧0≤o.fB∧o.fB≤255∧0≤o.fC∧o.fC≤255)
def opB (o:Z0k):List Int:=[IntKind.u8.wrap o.fK,IntKind.u8.wrap o.fA,IntKind.u8.wrap o.fB,IntKind.u8.wrap o.fC]
def opsB:List Z0k→List Int
  | []=>[]
  | o::os=>opB o++opsB os
theorem opsB_len:∀ l:List Z0k,(opsB l).length=4 * l.length
  | []=>rfl
  | o::os=>by rw [opsB,List.length_append,opsB_len os,List.length_cons]; show 4+_=_; omega
def headP (n:Nat):List Int:=[((n / 256:Nat):Int),((n % 256:Nat):Int)]
def bodyP (p:Z08):List Int:=headP p.fOps.length++opsB p.fOps++[((p.fConsts.length:Nat):Int)]++layTs p.fConsts
def laidP (p:Z08):List Int × Int :=
  if p.fOps.length > 120∨p.fConsts.length > 16 then ([],3)
  else if p.fOps.all mayO=true∧p.fConsts.all mayT=true then (bodyP p,0) else ([],2)
theorem may_ev (o:Z0k):Ev (fun N=>code_may N o) (mayO o):=by
  have h0:imin (imin (imin o.fK o.fA) o.fB) o.fC ≥ 0 ↔ 0≤o.fK∧0≤o.fA∧0≤o.fB∧0≤o.fC:=by
    unfold imin
    repeat' split
    all_goals omega
  have h1:imax (imax (imax o.fK o.fA) o.fB) o.fC≤255 ↔ o.fK≤255∧o.fA≤255∧o.fB≤255∧o.fC≤255:=by
    unfold imax
    repeat' split
    all_goals omega
  unfold mayO
  by_cases c:imin (imin (imin o.fK o.fA) o.fB) o.fC ≥ 0
  · have c':=h0.1 c
    rw [show decide (0≤o.fK∧o.fK≤255∧0≤o.fA∧o.fA≤255∧0≤o.fB∧o.fB≤255∧0≤o.fC∧o.fC≤255)=decide (imax (imax (imax o.fK o.fA) o.fB) o.fC≤255) from decide_eq_decide.2 (by rw [h1]; omega)]
    exact Ev.pos c (Ev.now _)
  · have c':=fun h=>c (h0.2 h)
    rw [decide_eq_false (fun h=>c' ⟨h.1,h.2.2.1,h.2.2.2.2.1,h.2.2.2.2.2.2.1⟩)]
    exact Ev.neg c (Ev.now _)
theorem rmay_ev (p:Z08) (a:List Int) (v:Int) (o:Z0k):Ev (fun N=>Z63 N p a v o) (!mayO o):=by
  have hb:∀ n:Int,Ev (fun N=>Z4d N n) (decide (0≤n∧n≤255)):=fun n=>by
    by_cases h:n ≥ 0
    · rw [show decide (0≤n∧n≤255)=decide (n≤255) from decide_eq_decide.2 (by omega)]; exact Ev.pos h (Ev.now _)
    · rw [decide_eq_false (fun e=>h e.1)]; exact Ev.neg h (Ev.now _)
  refine Ev.step ?_ (fun N=>by rw [Z63])
  have e:mayO o=(decide (0≤o.fK∧o.fK≤255) && (decide (0≤o.fA∧o.fA≤255) && (decide (0≤o.fB∧o.fB≤255) && decide (0≤o.fC∧o.fC≤255)))):=by
    unfold mayO
    rw [Bool.eq_iff_iff]
    simp only [Bool.and_eq_true,decide_eq_true_eq]
    omega
  rw [e]
  have h1:=hb o.fK
  have h2:=hb o.fA
  have h3:=hb o.fB
  have h4:=hb o.fC
  cases c1:decide (0≤o.fK∧o.fK≤255) with
  | false=>rw [c1] at h1; exact Ev.bind h1 (Ev.pos Bool.false_ne_true (Ev.now _))
  | true =>
    rw [c1] at h1
    cases c2:decide (0≤o.fA∧o.fA≤255) with
    | false=>rw [c2] at h2; exact Ev.bind h1 (Ev.neg (fun h=>h rfl) (Ev.bind h2 (Ev.pos Bool.false_ne_true (Ev.now _))))
    | true =>
      rw [c2] at h2
      cases c3:decide (0≤o.fB∧o.fB≤255) with
      | false=>rw [c3] at h3; exact Ev.bind h1 (Ev.neg (fun h=>h rfl) (Ev.bind h2 (Ev.neg (fun h=>h rfl) (Ev.bind h3 (Ev.pos Bool.false_ne_true (Ev.now _))))))
      | true =>
        rw [c3] at h3
        exact Ev.bind h1 (Ev.neg (fun h=>h rfl) (Ev.bind h2 (Ev.neg (fun h=>h rfl) (Ev.bind h3 (Ev.neg (fun h=>h rfl) (Ev.bind h4 (Ev.now _)))))))
theorem ops_loop (p:Z08) (hl:p.fOps.length≤120):∀ (ts:List Z0k) (i:Nat),p.fOps.drop i=ts→∀ a:List Int,a.length+4 * ts.length≤800000→Ev (fun N=>Z8w N p a (i:Int)) (if ts.all mayO=true then .inl (a++opsB ts) else .inr ())
  | [],i,hd,a,ha=>by
    have:=Z7h hd
    refine Ev.step ?_ (fun N=>by rw [Z8w])
    rw [opsB,List.append_nil,List.all_nil,if_pos rfl]
    exact Ev.neg (by omega) (Ev.now _)
  | o::os,i,hd,a,ha=>by
    have hlen:=Z7c hd
    have hm:=may_ev o
    rw [List.length_cons] at ha
    have ih:=ops_loop p hl os (i+1) (Z5r hd) (a++opB o) (by rw [List.length_append]; show a.length+4+_≤_; omega)
    refine Ev.step ?_ (fun N=>by rw [Z8w,Z4p (by omega)])
    rw [List.all_cons]
    cases c:mayO o with
    | false =>
      rw [c] at hm
      rw [Bool.false_and,if_neg Bool.false_ne_true]
      exact Ev.pos (by omega) (Ev.bindc (idx_at hd) (Ev.bind hm (Ev.pos Bool.false_ne_true (Ev.now _))))
    | true =>
      rw [c] at hm
      rw [Bool.true_and,opsB, ← List.append_assoc]
      exact Ev.pos (by omega) (Ev.bindc (idx_at hd) (Ev.bind hm (Ev.neg (fun h=>h rfl) (Ev.bindc (app9 (by show a.length+4≤_; omega)) ih))))
theorem rops_loop (p:Z08) (hl:p.fOps.length≤120):∀ (ts:List Z0k) (i:Nat),p.fOps.drop i=ts→∀ a:List Int,a.length+4 * ts.length≤800000→Ev (fun N=>Z4f N p a (i:Int)) (if ts.all mayO=true then .inl (a++opsB ts) else .inr ())
  | [],i,hd,a,ha=>by
    have:=Z7h hd
    refine Ev.step ?_ (fun N=>by rw [Z4f])
    rw [opsB,List.append_nil,List.all_nil,if_pos rfl]
    exact Ev.neg (by omega) (Ev.now _)
  | o::os,i,hd,a,ha=>by
    have hlen:=Z7c hd
    have hm:=rmay_ev p a (i:Int) o
    rw [List.length_cons] at ha
    have ih:=rops_loop p hl os (i+1) (Z5r hd) (a++opB o) (by rw [List.length_append]; show a.length+4+_≤_; omega)
    refine Ev.step ?_ (fun N=>by rw [Z4f,Z4p (by omega)])
    rw [List.all_cons]
    cases c:mayO o with
    | false =>
      rw [c] at hm
      rw [Bool.false_and,if_neg Bool.false_ne_true]
      exact Ev.pos (by omega) (Ev.bindc (idx_at hd) (Ev.bind hm (Ev.pos rfl (Ev.now _))))
    | true =>
      rw [c] at hm
      rw [Bool.true_and,opsB, ← List.append_assoc]
      exact Ev.pos (by omega) (Ev.bindc (idx_at hd) (Ev.bind hm (Ev.neg Bool.false_ne_true (Ev.bindc (app9 (by show a.length+4≤_; omega)) ih))))
theorem laid_yes {t:Z03} (h:mayT t=true):laid t=(layT t,0):=by unfold laid; rw [if_pos h]
theorem laid_no {t:Z03} (h:¬ mayT t=true):laid t=([],2):=by unfold laid; rw [if_neg h]
theorem may_len {t:Z03} (h:mayT t=true):(layT t).length≤3000:=by have:=laid_len t; rw [laid_yes h] at this; exact this
theorem lays_len:∀ ts:List Z03,ts.all mayT=true→(layTs ts).length≤3000 * ts.length
  | [],_=>by rw [layTs]; exact Nat.zero_le _
  | x::xs,h=>by
    rw [List.all_cons,Bool.and_eq_true] at h
    have h1:=may_len h.1
    have h2:=lays_len xs h.2
    rw [layTs,List.length_append,List.length_cons]
    omega
theorem consts_loop (p:Z08) (hl:p.fConsts.length≤100) (hs:∀ x ∈ p.fConsts,Small x) (hw:∀ x ∈ p.fConsts,Z14 x):∀ (ts:List Z03) (i:Nat),p.fConsts.drop i=ts→∀ a:List Int,a.length+3000 * ts.length≤800000→Ev (fun N=>Z7t N p a (i:Int)) (if ts.all mayT=true then .inl (a++layTs ts) else .inr ())
  | [],i,hd,a,ha=>by
    have:=Z7h hd
    refine Ev.step ?_ (fun N=>by rw [Z7t])
    rw [layTs,List.append_nil,List.all_nil,if_pos rfl]
    exact Ev.neg (by omega) (Ev.now _)
  | x::xs,i,hd,a,ha=>by
    have hlen:=Z7c hd
    have mx:x ∈ p.fConsts:=List.mem_of_mem_drop (i:=i) (by rw [hd]; exact List.mem_cons_self)
    have hm:=Lay_ev x (hs x mx) (hw x mx)
    rw [List.length_cons] at ha
    refine Ev.step ?_ (fun N=>by rw [Z7t,Z4p (by omega)])
    rw [List.all_cons]
    cases c:mayT x with
    | false =>
      rw [laid_no (by rw [c]; exact Bool.false_ne_true)] at hm
      rw [Bool.false_and,if_neg Bool.false_ne_true]
      exact Ev.pos (by omega) (Ev.bindc (idx_at hd) (Ev.bind hm (Ev.pos (show (2:Int) ≠ 0 by decide) (Ev.now _))))
    | true =>
      rw [laid_yes c] at hm
      have h3:=may_len c
      have ih:=consts_loop p hl hs hw xs (i+1) (Z5r hd) (a++layT x) (by rw [List.length_append]; omega)
      rw [Bool.true_and,layTs, ← List.append_assoc]
      exact Ev.pos (by omega) (Ev.bindc (idx_at hd) (Ev.bind hm (Ev.neg (fun h=>h rfl) (Ev.bindc (app9 (by show a.length+(layT x).length≤_; omega)) ih))))
theorem rconsts_loop (p:Z08) (hl:p.fConsts.length≤100) (hs:∀ x ∈ p.fConsts,Small x) (hw:∀ x ∈ p.fConsts,Z14 x):∀ (ts:List Z03) (i:Nat),p.fConsts.drop i=ts→∀ a:List Int,a.length+3000 * ts.length≤800000→Ev (fun N=>Z3n N p a (i:Int)) (if ts.all mayT=true then .inl (a++layTs ts) else .inr 2)
  | [],i,hd,a,ha=>by
    have:=Z7h hd
    refine Ev.step ?_ (fun N=>by rw [Z3n])
    rw [layTs,List.append_nil,List.all_nil,if_pos rfl]
    exact Ev.neg (by omega) (Ev.now _)
  | x::xs,i,hd,a,ha=>by
    have hlen:=Z7c hd
    have mx:x ∈ p.fConsts:=List.mem_of_mem_drop (i:=i) (by rw [hd]; exact List.mem_cons_self)
    have hm:=rLay_ev x (hs x mx) (hw x mx)
    rw [List.length_cons] at ha
    refine Ev.step ?_ (fun N=>by rw [Z3n,Z4p (by omega)])
    rw [List.all_cons]
    cases c:mayT x with
    | false =>
      rw [laid_no (by rw [c]; exact Bool.false_ne_true)] at hm
      rw [Bool.false_and,if_neg Bool.false_ne_true]
      exact Ev.pos (by omega) (Ev.bindc (idx_at hd) (Ev.bind hm (Ev.pos (show (2:Int) ≠ 0 by decide) (Ev.now _))))
    | true =>
      rw [laid_yes c] at hm
      have h3:=may_len c
      have ih:=rconsts_loop p hl hs hw xs (i+1) (Z5r hd) (a++layT x) (by rw [List.length_append]; omega)
      rw [Bool.true_and,layTs, ← List.append_assoc]
      exact Ev.pos (by omega) (Ev.bindc (idx_at hd) (Ev.bind hm (Ev.neg (fun h=>h rfl) (Ev.bindc (app9 (by show a.length+(layT x).length≤_; omega)) ih))))
theorem pLay_ev (p:Z08) (hs:∀ x ∈ p.fConsts,Small x) (hw:∀ x ∈ p.fConsts,Z14 x):Ev (fun N=>Zc7 N p) (laidP p):=by
  unfold laidP
  by_cases h1:((p.fOps.length:Nat):Int) > 120
  · rw [if_pos (.inl (by omega))]; exact Ev.pos h1 (Ev.now _)
  by_cases h2:((p.fConsts.length:Nat):Int) > 16
  · rw [if_pos (.inr (by omega))]; exact Ev.neg h1 (Ev.pos h2 (Ev.now _))
  rw [if_neg (by omega)]
  refine Ev.neg h1 (Ev.neg h2 ?_)
  have e0:([IntKind.wrap .u8 (Int.fdiv ((p.fOps.length:Nat):Int) (2 ^ (min (Int.toNat (8:Int)) (IntKind.bits .i64)))),IntKind.wrap .u8 ((p.fOps.length:Nat):Int)]:List Int)=headP p.fOps.length:=by
    have:Int.fdiv ((p.fOps.length:Nat):Int) (2 ^ (min (Int.toNat (8:Int)) (IntKind.bits .i64)))=((p.fOps.length / 256:Nat):Int):=by
      rw [show (2:Int) ^ (min (Int.toNat (8:Int)) (IntKind.bits .i64))=256 by decide,Int.fdiv_eq_ediv_of_nonneg _ (by decide)]
      omega
    rw [this,wrapB,wrapB]
    unfold headP
    rw [show p.fOps.length / 256 % 256=p.fOps.length / 256 by omega]
  rw [e0]
  have h:=ops_loop p (by omega) p.fOps 0 rfl (headP p.fOps.length) (by show 2+_≤_; omega)
  cases c:p.fOps.all mayO with
  | false =>
    rw [c,if_neg Bool.false_ne_true] at h
    rw [if_neg (fun e=>Bool.false_ne_true e.1)]
    exact Ev.bind h (Ev.now _)
  | true =>
    rw [c,if_pos rfl] at h
    have ew:IntKind.u8.wrap ((p.fConsts.length:Nat):Int)=((p.fConsts.length:Nat):Int):=by rw [wrapU8]; omega
    have hl0:(headP p.fOps.length++opsB p.fOps).length=2+4 * p.fOps.length:=by rw [List.length_append,opsB_len]; rfl
    have k:=consts_loop p (by omega) hs hw p.fConsts 0 rfl (headP p.fOps.length++opsB p.fOps++[((p.fConsts.length:Nat):Int)]) (by rw [List.length_append,hl0]; show 2+_+1+_≤_; omega)
    refine Ev.bind h ?_
    show Ev (fun N=>(app (headP p.fOps.length++opsB p.fOps) ([IntKind.wrap .u8 ((p.fConsts.length:Nat):Int)]:List Int)).bind fun x11=>(Z7t N p x11 (0:Int)).bind fun r17=>(match r17 with | .inl r18=>some (r18,(0:Int)) | .inr r19=>some (([]:List Int),(2:Int)))) _
    rw [ew]
    refine Ev.bindc (app9 (by rw [hl0]; show 2+_+1≤_; omega)) ?_
    cases d:p.fConsts.all mayT with
    | false =>
      rw [d,if_neg Bool.false_ne_true] at k
      rw [if_neg (fun e=>Bool.false_ne_true e.2)]
      exact Ev.bind k (Ev.now _)
    | true =>
      rw [d,if_pos rfl] at k
      rw [if_pos ⟨rfl,rfl⟩]
      exact Ev.bind k (Ev.now _)
theorem rpLay_ev (p:Z08) (hs:∀ x ∈ p.fConsts,Small x) (hw:∀ x ∈ p.fConsts,Z14 x):Ev (fun N=>Z8n N p) (laidP p):=by
  unfold laidP
  by_cases h1:((p.fOps.length:Nat):Int) > 120
  · rw [if_pos (.inl (by omega))]; exact Ev.pos h1 (Ev.now _)
  by_cases h2:((p.fConsts.length:Nat):Int) > 16
  · rw [if_pos (.inr (by omega))]; exact Ev.neg h1 (Ev.pos h2 (Ev.now _))
  rw [if_neg (by omega)]
  refine Ev.neg h1 (Ev.neg h2 ?_)
  have e0:([IntKind.wrap .u8 (IntKind.wrap .i64 (Int.tdiv ((p.fOps.length:Nat):Int) (256:Int))),IntKind.wrap .u8 ((p.fOps.length:Nat):Int)]:List Int)=headP p.fOps.length:=by
    have:IntKind.i64.wrap (Int.tdiv ((p.fOps.length:Nat):Int) (256:Int))=((p.fOps.length / 256:Nat):Int):=by
      rw [Int.tdiv_eq_ediv_of_nonneg (by omega),wrapI _ (by omega) (by omega)]
      omega
    rw [this,wrapB,wrapB]
    unfold headP
    rw [show p.fOps.length / 256 % 256=p.fOps.length / 256 by omega]
  rw [e0]
  have h:=rops_loop p (by omega) p.fOps 0 rfl (headP p.fOps.length) (by show 2+_≤_; omega)
  cases c:p.fOps.all mayO with
  | false =>
    rw [c,if_neg Bool.false_ne_true] at h
    rw [if_neg (fun e=>Bool.false_ne_true e.1)]
    exact Ev.bind h (Ev.now _)
  | true =>
    rw [c,if_pos rfl] at h
    have ew:IntKind.u8.wrap ((p.fConsts.length:Nat):Int)=((p.fConsts.length:Nat):Int):=by rw [wrapU8]; omega
    have hl0:(headP p.fOps.length++opsB p.fOps).length=2+4 * p.fOps.length:=by rw [List.length_append,opsB_len]; rfl
    have k:=rconsts_loop p (by omega) hs hw p.fConsts 0 rfl (headP p.fOps.length++opsB p.fOps++[((p.fConsts.length:Nat):Int)]) (by rw [List.length_append,hl0]; show 2+_+1+_≤_; omega)
    refine Ev.bind h ?_
    show Ev (fun N=>(app (headP p.fOps.length++opsB p.fOps) ([IntKind.wrap .u8 ((p.fConsts.length:Nat):Int)]:List Int)).bind fun x11=>(Z3n N p x11 (0:Int)).bind fun r17=>(match r17 with | .inl r18=>some (r18,(0:Int)) | .inr r19=>some (([]:List Int),r19))) _
    rw [ew]
    refine Ev.bindc (app9 (by rw [hl0]; show 2+_+1≤_; omega)) ?_
    cases d:p.fConsts.all mayT with
    | false =>
      rw [d,if_neg Bool.false_ne_true] at k
      rw [if_neg (fun e=>Bool.false_ne_true e.2)]
      exact Ev.bind k (Ev.now _)
    | true =>
      rw [d,if_pos rfl] at k
      rw [if_pos ⟨rfl,rfl⟩]
      exact Ev.bind k (Ev.now _)
theorem bodyP_len (p:Z08):(bodyP p).length=3+4 * p.fOps.length+(layTs p.fConsts).length:=by
  unfold bodyP
  rw [List.length_append,List.length_append,List.length_append,opsB_len]
  show 2+_+1+_=_
  omega
theorem laidP_len (p:Z08):(laidP p).1.length≤60000:=by
  unfold laidP
  split
  · exact Nat.zero_le _
  split
  · rename_i h1 h2
    have:=lays_len p.fConsts h2.2
    show (bodyP p).length≤_
    rw [bodyP_len]
    omega
  · exact Nat.zero_le _
theorem eqOps_ev (l l':List Z0k) (hl:l.length≤maxLen):Ev (fun N=>Z56 N l l') (allP Z5a l l'):=by
  rw [Z57] at hl
  by_cases h:((l.length:Nat):Int) ≠ ((l'.length:Nat):Int)
  · rw [Zbh (by omega)]; exact Ev.pos h (Ev.now _)
  · have hh:=loop2 (fun N v=>Z1p N l l' v) l l' Z5a
      (fun i hi=>by
        refine Ev.step ?_ (fun N=>by rw [Z1p])
        exact Ev.neg (by omega) (Ev.now _))
      (fun i x y hi h1 h2 _ _ hp=>by
        refine Ev.step ?_ (fun N=>by rw [Z1p])
        exact Ev.pos (by omega) (Ev.bindc h1 (Ev.bindc h2 (Ev.pos (by rw [hp]; exact Bool.false_ne_true) (Ev.now _)))))
      (fun i x y r hi h1 h2 _ _ hp hr=>by
        refine Ev.step ?_ (fun N=>by rw [Z1p,Z4p (by omega)])
        exact Ev.pos (by omega) (Ev.bindc h1 (Ev.bindc h2 (Ev.neg (fun e=>e hp) hr))))
      l l' 0 rfl rfl (by omega)
    refine Ev.neg h (Ev.bind hh ?_)
    cases allP Z5a l l' <;> exact Ev.now _
def sameQ (p q:Z08):Bool:=allP Z5a p.fOps q.fOps && samePs p.fConsts q.fConsts
theorem pSame_ev (p q:Z08) (h1:p.fOps.length≤maxLen) (h2:p.fConsts.length≤maxLen) (hs:∀ x ∈ p.fConsts,Small x):Ev (fun N=>Zc0 N p q) (sameQ p q):=by
  unfold sameQ
  have ho:=eqOps_ev p.fOps q.fOps h1
  have hc:=sameTs_of p.fConsts q.fConsts h2 (fun x hx y _=>sameP_ev x (hs x hx) y)
  cases c:allP Z5a p.fOps q.fOps with
  | false=>rw [c] at ho; exact Ev.bind ho (Ev.neg Bool.false_ne_true (Ev.now _))
  | true=>rw [c] at ho; rw [Bool.true_and]; exact Ev.bind ho (Ev.pos rfl (Ev.bind hc (Ev.now _)))
theorem rpSame_ev (p q:Z08) (h1:p.fOps.length≤maxLen) (h2:p.fConsts.length≤maxLen) (hs:∀ x ∈ p.fConsts,Small x):Ev (fun N=>Z83 N p q) (sameQ p q):=by
  rw [Z57] at h1 h2
  unfold sameQ
  by_cases l1:((p.fOps.length:Nat):Int) ≠ ((q.fOps.length:Nat):Int)
  · rw [Zbh (by omega),Bool.false_and]; exact Ev.pos l1 (Ev.now _)
  by_cases l2:((p.fConsts.length:Nat):Int) ≠ ((q.fConsts.length:Nat):Int)
  · rw [Zaq,Zbh (l:=p.fConsts) (by omega),Bool.and_false]; exact Ev.neg l1 (Ev.pos l2 (Ev.now _))
  refine Ev.neg l1 (Ev.neg l2 ?_)
  have ho:=loop2 (fun N v=>Z3d N p q v) p.fOps q.fOps Z5a
      (fun i hi=>by
        refine Ev.step ?_ (fun N=>by rw [Z3d])
        exact Ev.neg (by omega) (Ev.now _))
      (fun i x y hi h1 h2 _ _ hp=>by
        refine Ev.step ?_ (fun N=>by rw [Z3d])
        exact Ev.pos (by omega) (Ev.bindc h1 (Ev.bindc h2 (Ev.pos (by rw [hp]; exact Bool.false_ne_true) (Ev.now _)))))
      (fun i x y r hi h1 h2 _ _ hp hr=>by
        refine Ev.step ?_ (fun N=>by rw [Z3d,Z4p (by omega)])
        exact Ev.pos (by omega) (Ev.bindc h1 (Ev.bindc h2 (Ev.neg (fun e=>e hp) hr))))
      p.fOps q.fOps 0 rfl rfl (by omega)
  have hc:=loop2 (fun N v=>Z3c N p q v) p.fConsts q.fConsts sameP
      (fun i hi=>by
        refine Ev.step ?_ (fun N=>by rw [Z3c])
        exact Ev.neg (by omega) (Ev.now _))
      (fun i x y hi h1 h2 mx my hp=>by
        have he:=rsameP_ev x (hs x mx) y
        rw [hp] at he
        refine Ev.step ?_ (fun N=>by rw [Z3c])
        exact Ev.pos (by omega) (Ev.bindc h1 (Ev.bindc h2 (Ev.bind he (Ev.pos Bool.false_ne_true (Ev.now _))))))
      (fun i x y r hi h1 h2 mx my hp hr=>by
        have he:=rsameP_ev x (hs x mx) y
        rw [hp] at he
        refine Ev.step ?_ (fun N=>by rw [Z3c,Z4p (by omega)])
        exact Ev.pos (by omega) (Ev.bindc h1 (Ev.bindc h2 (Ev.bind he (Ev.neg (fun e=>e rfl) hr)))))
      p.fConsts q.fConsts 0 rfl rfl (by omega)
  rw [Zaq]
  refine Ev.bind ho ?_
  cases c:allP Z5a p.fOps q.fOps with
  | false=>exact Ev.now _
  | true =>
    refine Ev.bind hc ?_
    cases allP sameP p.fConsts q.fConsts <;> exact Ev.now _
theorem sameQ_self (p:Z08):sameQ p p=true:=by
  unfold sameQ
  rw [allP_self (fun x _=>eq_Tapi_Op_iff.2 rfl),Zdu]
  rfl
theorem awake17_ev:Ev (fun N=>Z5k N) true:=Ev.from 80 (fun N=>by kernel_rfl)
theorem greatP_ev (p:Z08) (w:Z5b p):∃ b,Ev (fun N=>Z4l N p) b∧(b=false→p.fOps.length≤140∧p.fConsts.length≤20∧(∀ x ∈ p.fConsts,Small x)∧cnts p.fConsts≤700):=by
  by_cases h1:((p.fOps.length:Nat):Int) > 140
  · exact ⟨true,Ev.pos h1 (Ev.now _),fun h=>by cases h⟩
  by_cases h2:((p.fConsts.length:Nat):Int) > 20
  · exact ⟨true,Ev.neg h1 (Ev.pos h2 (Ev.now _)),fun h=>by cases h⟩
  obtain ⟨r,hr,r0,r1,r2⟩:=parts_top p.fConsts w.Consts.all w.Consts.len 700 (by omega) (by omega)
  have hg:Ev (fun N=>Z6b N p.fConsts 700) (decide (r > 700)):=Ev.bind hr (Ev.now _)
  refine ⟨decide (r > 700),Ev.neg h1 (Ev.neg h2 (Ev.bind hg (Ev.now _))),fun h=>?_⟩
  obtain ⟨s1,s2⟩:=r2 (by simpa using h)
  exact ⟨by omega,by omega,s1,by have:=of_decide_eq_false h; omega⟩
end Go.Proofs.Ytcknifhhgeccfaa.Sh
