import Derived.Test.YtcknifhhgeccfaaPureCodeA
import Derived.Test.YtcknifhhgeccfaaPureWireC
set_option linter.unusedVariables false
set_option linter.unusedSimpArgs false
namespace Go.Proofs.Ytcknifhhgeccfaa.Sh
open Go Lift Go.Proofs
def mayO (o:Z0d):Bool:=decide (0≤o.fK∧o.fK≤255∧0≤o.fA∧o.fA≤255∧0≤o.fB∧o.fB≤255∧0≤o.fC∧o.fC≤255)
def opB (o:Z0d):List Int:=[IntKind.u8.wrap o.fK,IntKind.u8.wrap o.fA,IntKind.u8.wrap o.fB,IntKind.u8.wrap o.fC]
def opsB:List Z0d→List Int
  | []=>[]
  | o::os=>opB o++opsB os
theorem opsB_len:∀ l:List Z0d,(opsB l).length=4 * l.length
  | []=>rfl
  | o::os=>by rw [opsB,List.length_append,opsB_len os,List.length_cons]; show 4+_=_; omega
def headP (n:Nat):List Int:=[((n / 256:Nat):Int),((n % 256:Nat):Int)]
def bodyP (p:Z0c):List Int:=headP p.fOps.length++opsB p.fOps++[((p.fConsts.length:Nat):Int)]++layTs p.fConsts
def laidP (p:Z0c):List Int × Int :=
  if p.fOps.length > 120∨p.fConsts.length > 16 then ([],3)
  else if p.fOps.all mayO=true∧p.fConsts.all mayT=true then (bodyP p,0) else ([],2)
theorem may_ev (o:Z0d):Ev (fun N=>code_may N o) (mayO o):=by
  have h0:imin (imin (imin o.fK o.fA) o.fB) o.fC ≥ 0 ↔ 0≤o.fK∧0≤o.fA∧0≤o.fB∧0≤o.fC:=by
    unfold imin
    repeat' split
    all_goals omega
  have h1:imax (imax (imax o.fK o.fA) o.fB) o.fC≤255 ↔ o.fK≤255∧o.fA≤255∧o.fB≤255∧o.fC≤255:=by
    unfold imax
    repeat' split
    all_goals omega
  unfold mayO
  by_cases c:imin (imin (imin o.fK o.fA) o.fB) o.fC ≥ 0
  · have c':=h0.1 c
    rw [show decide (0≤o.fK∧o.fK≤255∧0≤o.fA∧o.fA≤255∧0≤o.fB∧o.fB≤255∧0≤o.fC∧o.fC≤255)=decide (imax (imax (imax o.fK o.fA) o.fB) o.fC≤255) from decide_eq_decide.2 (by rw [h1]; omega)]
    exact Ev.pos c (Ev.now _)
  · have c':=fun h=>c (h0.2 h)
    rw [decide_eq_false (fun h=>c' ⟨h.1,h.2.2.1,h.2.2.2.2.1,h.2.2.2.2.2.2.1⟩)]
    exact Ev.neg c (Ev.now _)
theorem ops_loop (p:Z0c) (hl:p.fOps.length≤120):∀ (ts:List Z0d) (i:Nat),p.fOps.drop i=ts→∀ a:List Int,a.length+4 * ts.length≤800000→Ev (fun N=>Z93 N p a (i:Int)) (if ts.all mayO=true then .inl (a++opsB ts) else .inr ())
  | [],i,hd,a,ha=>by
    have:=Z84 hd
    refine Ev.step ?_ (fun N=>by rw [Z93])
    rw [opsB,List.append_nil,List.all_nil,if_pos rfl]
    exact Ev.neg (by omega) (Ev.now _)
  | o::os,i,hd,a,ha=>by
    have hlen:=Z8i hd
    have hm:=may_ev o
    rw [List.length_cons] at ha
    have ih:=ops_loop p hl os (i+1) (Z55 hd) (a++opB o) (by rw [List.length_append]; show a.length+4+_≤_; omega)
    refine Ev.step ?_ (fun N=>by rw [Z93,Z36 (by omega)])
    rw [List.all_cons]
    cases c:mayO o with
    | false =>
      rw [c] at hm
      rw [Bool.false_and,if_neg Bool.false_ne_true]
      exact Ev.pos (by omega) (Ev.bindc (Zfr hd) (Ev.bind hm (Ev.pos Bool.false_ne_true (Ev.now _))))
    | true =>
      rw [c] at hm
      rw [Bool.true_and,opsB, ← List.append_assoc]
      exact Ev.pos (by omega) (Ev.bindc (Zfr hd) (Ev.bind hm (Ev.neg (fun h=>h rfl) (Ev.bindc (app9 (by show a.length+4≤_; omega)) ih))))
theorem laid_yes {t:Z02} (h:mayT t=true):laid t=(layT t,0):=by unfold laid; rw [if_pos h]
theorem laid_no {t:Z02} (h:¬ mayT t=true):laid t=([],2):=by unfold laid; rw [if_neg h]
theorem may_len {t:Z02} (h:mayT t=true):(layT t).length≤3000:=by have:=laid_len t; rw [laid_yes h] at this; exact this
theorem lays_len:∀ ts:List Z02,ts.all mayT=true→(layTs ts).length≤3000 * ts.length
  | [],_=>by rw [layTs]; exact Nat.zero_le _
  | x::xs,h=>by
    rw [List.all_cons,Bool.and_eq_true] at h
    have h1:=may_len h.1
    have h2:=lays_len xs h.2
    rw [layTs,List.length_append,List.length_cons]
    omega
theorem consts_loop (p:Z0c) (hl:p.fConsts.length≤100) (hs:∀ x ∈ p.fConsts,Small x) (hw:∀ x ∈ p.fConsts,Z0t x):∀ (ts:List Z02) (i:Nat),p.fConsts.drop i=ts→∀ a:List Int,a.length+3000 * ts.length≤800000→Ev (fun N=>Z8c N p a (i:Int)) (if ts.all mayT=true then .inl (a++layTs ts) else .inr ())
  | [],i,hd,a,ha=>by
    have:=Z84 hd
    refine Ev.step ?_ (fun N=>by rw [Z8c])
    rw [layTs,List.append_nil,List.all_nil,if_pos rfl]
    exact Ev.neg (by omega) (Ev.now _)
  | x::xs,i,hd,a,ha=>by
    have hlen:=Z8i hd
    have mx:x ∈ p.fConsts:=List.mem_of_mem_drop (i:=i) (by rw [hd]; exact List.mem_cons_self)
    have hm:=Lay_ev x (hs x mx) (hw x mx)
    rw [List.length_cons] at ha
    refine Ev.step ?_ (fun N=>by rw [Z8c,Z36 (by omega)])
    rw [List.all_cons]
    cases c:mayT x with
    | false =>
      rw [laid_no (by rw [c]; exact Bool.false_ne_true)] at hm
      rw [Bool.false_and,if_neg Bool.false_ne_true]
      exact Ev.pos (by omega) (Ev.bindc (Zfr hd) (Ev.bind hm (Ev.pos (show (2:Int) ≠ 0 by decide) (Ev.now _))))
    | true =>
      rw [laid_yes c] at hm
      have h3:=may_len c
      have ih:=consts_loop p hl hs hw xs (i+1) (Z55 hd) (a++layT x) (by rw [List.length_append]; omega)
      rw [Bool.true_and,layTs, ← List.append_assoc]
      exact Ev.pos (by omega) (Ev.bindc (Zfr hd) (Ev.bind hm (Ev.neg (fun h=>h rfl) (Ev.bindc (app9 (by show a.length+(layT x).length≤_; omega)) ih))))
theorem pLay_ev (p:Z0c) (hs:∀ x ∈ p.fConsts,Small x) (hw:∀ x ∈ p.fConsts,Z0t x):Ev (fun N=>Zf3 N p) (laidP p):=by
  unfold laidP
  by_cases h1:((p.fOps.length:Nat):Int) > 120
  · rw [if_pos (.inl (by omega))]; exact Ev.pos h1 (Ev.now _)
  by_cases h2:((p.fConsts.length:Nat):Int) > 16
  · rw [if_pos (.inr (by omega))]; exact Ev.neg h1 (Ev.pos h2 (Ev.now _))
  rw [if_neg (by omega)]
  refine Ev.neg h1 (Ev.neg h2 ?_)
  have e0:([IntKind.wrap .u8 (Int.fdiv ((p.fOps.length:Nat):Int) (2 ^ (min (Int.toNat (8:Int)) (IntKind.bits .i64)))),IntKind.wrap .u8 ((p.fOps.length:Nat):Int)]:List Int)=headP p.fOps.length:=by
    have:Int.fdiv ((p.fOps.length:Nat):Int) (2 ^ (min (Int.toNat (8:Int)) (IntKind.bits .i64)))=((p.fOps.length / 256:Nat):Int):=by
      rw [show (2:Int) ^ (min (Int.toNat (8:Int)) (IntKind.bits .i64))=256 by decide,Int.fdiv_eq_ediv_of_nonneg _ (by decide)]
      omega
    rw [this,wrapB,wrapB]
    unfold headP
    rw [show p.fOps.length / 256 % 256=p.fOps.length / 256 by omega]
  rw [e0]
  have h:=ops_loop p (by omega) p.fOps 0 rfl (headP p.fOps.length) (by show 2+_≤_; omega)
  cases c:p.fOps.all mayO with
  | false =>
    rw [c,if_neg Bool.false_ne_true] at h
    rw [if_neg (fun e=>Bool.false_ne_true e.1)]
    exact Ev.bind h (Ev.now _)
  | true =>
    rw [c,if_pos rfl] at h
    have ew:IntKind.u8.wrap ((p.fConsts.length:Nat):Int)=((p.fConsts.length:Nat):Int):=by rw [Zg7]; omega
    have hl0:(headP p.fOps.length++opsB p.fOps).length=2+4 * p.fOps.length:=by rw [List.length_append,opsB_len]; rfl
    have k:=consts_loop p (by omega) hs hw p.fConsts 0 rfl (headP p.fOps.length++opsB p.fOps++[((p.fConsts.length:Nat):Int)]) (by rw [List.length_append,hl0]; show 2+_+1+_≤_; omega)
    refine Ev.bind h ?_
    show Ev (fun N=>(app (headP p.fOps.length++opsB p.fOps) ([IntKind.wrap .u8 ((p.fConsts.length:Nat):Int)]:List Int)).bind fun x11=>(Z8c N p x11 (0:Int)).bind fun r17=>(match r17 with | .inl r18=>some (r18,(0:Int)) | .inr r19=>some (([]:List Int),(2:Int)))) _
    rw [ew]
    refine Ev.bindc (app9 (by rw [hl0]; show 2+_+1≤_; omega)) ?_
    cases d:p.fConsts.all mayT with
    | false =>
      rw [d,if_neg Bool.false_ne_true] at k
      rw [if_neg (fun e=>Bool.false_ne_true e.2)]
      exact Ev.bind k (Ev.now _)
    | true =>
      rw [d,if_pos rfl] at k
      rw [if_pos ⟨rfl,rfl⟩]
      exact Ev.bind k (Ev.now _)
theorem bodyP_len (p:Z0c):(bodyP p).length=3+4 * p.fOps.length+(layTs p.fConsts).length:=by
  unfold bodyP
  rw [List.length_append,List.length_append,List.length_append,opsB_len]
  show 2+_+1+_=_
  omega
theorem laidP_len (p:Z0c):(laidP p).1.length≤60000:=by
  unfold laidP
  split
  · exact Nat.zero_le _
  split
  · rename_i h1 h2
    have:=lays_len p.fConsts h2.2
    show (bodyP p).length≤_
    rw [bodyP_len]
    omega
  · exact Nat.zero_le _
theorem awake17_ev:Ev (fun N=>Z6y N) true:=Ev.from 80 (fun N=>by kernel_rfl)
end Go.Proofs.Ytcknifhhgeccfaa.Sh
