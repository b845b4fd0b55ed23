import Derived.Test.YtcknifhhgeccfaaPureWireK
set_option linter.unusedVariables false
set_option linter.unusedSimpArgs false
namespace Go.Proofs.Ytcknifhhgeccfaa.Sh
open Go Lift Go.Proofs
theorem blend_loop (l:List Int) (hl:l.length < 1000000) (a b c:Int):Ev (fun N=>Z1r N l (l++[a,b,c]) 0) (l++[119,119,119]):=by
  have hw:IntKind.wrap .i64 (((l.length:Nat):Int)+3)=((l.length+3:Nat):Int):=by rw [Zg6 _ (by omega) (by omega)]; omega
  have e0:(Int.toNat (0:Int)+(Int.toNat ((l.length:Nat):Int)+0))=l.length:=by simp
  have e1:(Int.toNat (1:Int)+(Int.toNat ((l.length:Nat):Int)+0))=l.length+1:=by simp; omega
  have e2:(Int.toNat (2:Int)+(Int.toNat ((l.length:Nat):Int)+0))=l.length+2:=by simp; omega
  have gap:(((Int.toNat ((l.length+3:Nat):Int) - Int.toNat ((l.length:Nat):Int)):Nat):Int)=3:=by omega
  have g:∀ (t:List Int) (k:Nat),(l++t)[l.length+k]? = t[k]? := fun t k=>by rw [List.getElem?_append_right (by omega)]; congr 1; omega
  have s:∀ (t:List Int) (k:Nat) (v:Int),(l++t).set (l.length+k) v=l++t.set k v:=fun t k v=>by rw [List.set_append_right _ _ (by omega)]; congr 2; omega
  have i1:IntKind.i64.wrap ((0:Int)+1)=1:=by decide
  have i2:IntKind.i64.wrap ((1:Int)+1)=2:=by decide
  have i3:IntKind.i64.wrap ((2:Int)+1)=3:=by decide
  have g0:=g [a,b,c] 0
  have s0:=s [a,b,c] 0 119
  rw [Nat.add_zero] at g0 s0
  refine Ev.step ?_ (fun N=>by rw [Z1r,hw,gap,e0,i1])
  refine Ev.pos (by decide) (Ev.pos (by decide) (Ev.bindc g0 ?_))
  rw [s0]
  refine Ev.step ?_ (fun N=>by rw [Z1r,hw,gap,e1,i2])
  refine Ev.pos (by decide) (Ev.pos (by decide) (Ev.bindc (g _ 1) ?_))
  rw [s _ 1]
  refine Ev.step ?_ (fun N=>by rw [Z1r,hw,gap,e2,i3])
  refine Ev.pos (by decide) (Ev.pos (by decide) (Ev.bindc (g _ 2) ?_))
  rw [s _ 2]
  refine Ev.step ?_ (fun N=>by rw [Z1r])
  exact Ev.neg (by decide) (Ev.now _)
theorem blend_ev (l:List Int) (hl:l.length < 1000000):Ev (fun N=>Z6z N l) (l++[119,119,119],l.length):=by
  have hw:IntKind.wrap .i64 (((l.length:Nat):Int)+3)=((l.length+3:Nat):Int):=by rw [Zg6 _ (by omega) (by omega)]; omega
  have ha:Lift.appIn (List.replicate (l.length+3) (0:Int)) (Int.toNat (0:Int)) l=some (l++[0,0,0]):=by
    unfold Lift.appIn
    rw [if_pos (by simp),Int.toNat_zero,List.take_zero,List.nil_append,Nat.zero_add,List.drop_replicate,show l.length+3 - l.length=3 by omega]
    rfl
  show Ev (fun N=>(mk (0:Int) (IntKind.wrap .i64 (((l.length:Nat):Int)+(3:Int)))).bind fun x1=>(Lift.appIn x1 (Int.toNat (0:Int)) l).bind fun x2=>if 0≤((l.length:Nat):Int)∧((l.length:Nat):Int) < IntKind.wrap .i64 (((l.length:Nat):Int)+(3:Int))∧IntKind.wrap .i64 (((l.length:Nat):Int)+(3:Int))≤((x2.length:Nat):Int) then (Z1r N l x2 (0:Int)).bind fun r7=>if ((Int.toNat (0:Int))+l.length)≤r7.length then some (r7,((Int.toNat (0:Int))+l.length)) else none else none) _
  rw [hw]
  refine Ev.bindc (mk_eq (by omega)) (Ev.bindc ha (Ev.pos ⟨by omega,by omega,by simp⟩ (Ev.bind (blend_loop l hl 0 0 0) (Ev.pos (by simp) ?_))))
  rw [Int.toNat_zero,Nat.zero_add]
  exact Ev.now _
mutual
theorem cnt_pt:∀ t:Z02,(cnt t:Int)=pt t
  | ⟨k,n,m,bi,s,args⟩=>by
    have h:=cnts_pts args
    rw [cnt_eq,pt]
    show ((1+cnts args:Nat):Int)=1+pts args
    omega
theorem cnts_pts:∀ ts:List Z02,(cnts ts:Int)=pts ts
  | []=>by rw [cnts,pts]; rfl
  | x::xs=>by have a:=cnt_pt x; have c:=cnts_pts xs; rw [cnts,pts]; omega
end
theorem may_cnt {t:Z02} (h:mayT t=true):cnt t≤300:=by
  obtain ⟨hw,hr⟩:=may_wt h
  have a:=pt_wt t hr
  have c:=cnt_pt t
  omega
end Go.Proofs.Ytcknifhhgeccfaa.Sh
