import Derived.Test.YtocgnoohfkpbhaaPureLendB
set_option linter.unusedVariables false
set_option linter.unusedSimpArgs false
namespace Go.Proofs.Ytocgnoohfkpbhaa.Sh
open Go Lift Go.Proofs
theorem bkeep_ev (l:List Int) (hl:l.length≤100000):Ev (fun N=>Z5c N (l++[119,119,119],l.length) l) true:=by
  have hw:IntKind.wrap .i64 (((l.length:Nat):Int)+3)=((l.length+3:Nat):Int):=by rw [wrapI _ (by omega) (by omega)]; omega
  have i1:IntKind.i64.wrap ((0:Int)+1)=1:=by decide
  have i2:IntKind.i64.wrap ((1:Int)+1)=2:=by decide
  have i3:IntKind.i64.wrap ((2:Int)+1)=3:=by decide
  have hcut:Lift.cut (l++[(119:Int),119,119]) ((l.length:Nat):Int) ((l.length+3:Nat):Int)=some [119,119,119]:=by
    rw [cut_eq (by omega) (by omega) (by simp),Int.toNat_natCast,Int.toNat_natCast,List.drop_left,show l.length+3 - l.length=3 by omega]
    rfl
  have hloop:Ev (fun N=>Z17 N (l++[119,119,119],l.length) l [119,119,119] 0) (.inl ()):=by
    refine Ev.step ?_ (fun N=>by rw [Z17,i1])
    refine Ev.pos (by decide) (Ev.bindc (a:=119) rfl (Ev.neg (by decide) ?_))
    refine Ev.step ?_ (fun N=>by rw [Z17,i2])
    refine Ev.pos (by decide) (Ev.bindc (a:=119) rfl (Ev.neg (by decide) ?_))
    refine Ev.step ?_ (fun N=>by rw [Z17,i3])
    refine Ev.pos (by decide) (Ev.bindc (a:=119) rfl (Ev.neg (by decide) ?_))
    refine Ev.step ?_ (fun N=>by rw [Z17])
    exact Ev.neg (by decide) (Ev.now _)
  show Ev (fun N=>(Lift.cut (l++[119,119,119]) ((l.length:Nat):Int) (IntKind.wrap .i64 (((l.length:Nat):Int)+(3:Int)))).bind fun x1=>(Z17 N (l++[119,119,119],l.length) l x1 (0:Int)).bind fun r5=>(match r5 with | .inl r6=>(Z3o N ((l++[119,119,119]).take l.length) l).bind fun r8=>some r8 | .inr r7=>some false)) true
  rw [hw,List.take_left]
  exact Ev.bindc hcut (Ev.bind hloop (Ev.bind (sameB_self l hl) (Ev.now _)))
mutual
theorem cnt_pt:∀ t:Z02,(cnt t:Int)=pt t
  | ⟨k,n,m,bi,s,args⟩=>by
    have h:=cnts_pts args
    rw [cnt_eq,pt]
    show ((1+cnts args:Nat):Int)=1+pts args
    omega
theorem cnts_pts:∀ ts:List Z02,(cnts ts:Int)=pts ts
  | []=>by rw [cnts,pts]; rfl
  | x::xs=>by have a:=cnt_pt x; have c:=cnts_pts xs; rw [cnts,pts]; omega
end
theorem may_cnt {t:Z02} (h:mayT t=true):cnt t≤300:=by
  obtain ⟨hw,hr⟩:=may_wt h
  have a:=pt_wt t hr
  have c:=cnt_pt t
  omega
namespace Pure
theorem WireReads (x0:(List Int)) (x1:Int) (w0:(ListR (InR .u8)) x0) (w1:(InR .i64) x1):∃ N,Z59 N x0 x1=some true:=by
  refine Ev.ex (f:=fun N=>Z59 N x0 x1) ?_
  by_cases hl:((x0.length:Nat):Int) > 2000
  · exact Ev.pos hl (Ev.bind awake7_ev (Ev.now _))
  have hbb:=bytes_of w0
  have w:=inI w1
  have key:∃ v:Z02 × Int × Bool,Ev (fun N=>Z7e N x0 x1) v∧Ev (fun N=>Z57 N x0 x1) v∧Ev (fun N=>beehivelaw0_SameTerm N v.1 v.1) true:=by
    have hz:Ev (fun N=>beehivelaw0_SameTerm N zT zT) true:=Za0 zT zT_small (by rw [cnt_eq]; show 1+cnts []≤100000; rw [cnts]; omega)
    by_cases hp:x1 < 0∨x1 > (x0.length:Int)
    · obtain ⟨h1,h2⟩:=out_Read x0 x1 (by omega) w.1 w.2 hp
      exact ⟨_,h1,h2,hz⟩
    · obtain ⟨p,rfl⟩:∃ p:Nat,x1=(p:Int):=⟨x1.toNat,by omega⟩
      obtain ⟨v,h1,h2,ho⟩:=both_Read x0 p (by omega) hbb (by omega)
      refine ⟨v,h1,h2, ?_⟩
      rcases ho with rfl | ⟨t,rest,rfl,_,hm,hs,_⟩
      · exact hz
      · exact Za0 t hs (by have:=may_cnt hm; omega)
  obtain ⟨v,h1,h2,h3⟩:=key
  have c0:x0.length≤(x0++[(119:Int),119,119]).length:=by simp
  have t0:(x0++[(119:Int),119,119]).take x0.length=x0:=List.take_left
  refine Ev.neg hl (Ev.bind (blend_ev x0 (by omega)) (Ev.pos c0 ?_))
  simp only [t0]
  exact Ev.bind h1 (Ev.bind h2 (Ev.pos c0 (Ev.bind (bkeep_ev x0 (by omega)) (Ev.pos c0 (Ev.bind (overB_ev x0 (by omega)) (Ev.bind h3 (Ev.pos (by trivial) (Ev.pos (by trivial) (Ev.pos (by trivial) (Ev.pos (by trivial) (Ev.bind awake7_ev (Ev.now _))))))))))))
end Pure
end Go.Proofs.Ytocgnoohfkpbhaa.Sh
