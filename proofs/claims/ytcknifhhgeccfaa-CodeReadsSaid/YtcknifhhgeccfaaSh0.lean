import Derived.Test.YtcknifhhgeccfaaChecked
import Derived.Test.YtcknifhhgeccfaaLift3
import Derived.KernelRfl
set_option linter.unusedVariables false
set_option linter.unusedSimpArgs false
set_option maxRecDepth 100000
namespace Go.Proofs.Ytcknifhhgeccfaa.Sh
open Go Lift Go.Proofs
structure Z0d where
  fK:Int
  fA:Int
  fB:Int
  fC:Int
  deriving Inhabited
def Z07 (x:Z0d):List C:=[.int .i64 x.fK,.int .i64 x.fA,.int .i64 x.fB,.int .i64 x.fC]
theorem Z2x (x:Z0d):Z07 x=[.int .i64 x.fK,.int .i64 x.fA,.int .i64 x.fB,.int .i64 x.fC]:=rfl
def Z61 (x:Z0d):List C:=[.int .i64 x.fK,.int .i64 x.fA,.int .i64 x.fB,.int .i64 x.fC]
def Zej (x:Z0d):List OC:=[di x.fK,di x.fA,di x.fB,di x.fC]
theorem apTapi_Op (x:Z0d):apartR (Z07 x):=by
  rw [Z2x]
  exact Z6k (ap_int) (Z6k (ap_int) (Z6k (ap_int) (Z6k (ap_int) (apR_nil))))
structure Z0m where
  fNeg:Bool
  fMag:(List Int)
  deriving Inhabited
structure Z02 where
  fKind:Int
  fN:Int
  fNum:Z0m
  fBits:Int
  fBytes:ByteArray
  fArgs:(List Z02)
mutual
def Z03:Z02→List C
  | ⟨Kind,N,Num,Bits,Bytes,Args⟩=>[.int .i64 Kind,.int .i64 N,.bool Num.fNeg,.sl 1 (Num.fMag.map (rI .u32)),.int .u64 Bits,.str Bytes,.sl 7 (Z7s Args)]
def Z7s:List Z02→List (List C)
  | []=>[]
  | x::xs=>Z03 x::Z7s xs
end
theorem Zcy:∀ xs:List Z02,Z7s xs=xs.map Z03
  | []=>rfl
  | x::xs=>by rw [Z7s,Zcy xs]; rfl
theorem Z0q (x:Z02):Z03 x=[.int .i64 x.fKind,.int .i64 x.fN,.bool x.fNum.fNeg,.sl 1 (x.fNum.fMag.map (rI .u32)),.int .u64 x.fBits,.str x.fBytes,.sl 7 (x.fArgs.map Z03)]:=by
  cases x
  rw [Z03,Zcy]
def Z1e (x:Z02):List C:=[.int .i64 x.fKind,.int .i64 x.fN,.bool x.fNum.fNeg,.sl 1 (x.fNum.fMag.map (rI .u32)),.int .u64 x.fBits,.str x.fBytes,.sl 7 (x.fArgs.map Z03)]
def Z1b (x:Z02):List AC:=[.d (.int .i64 x.fKind),.d (.int .i64 x.fN),.d (.bool x.fNum.fNeg),.d (.sl 1 (x.fNum.fMag.map (rI .u32))),.d (.int .u64 x.fBits),.d (.str x.fBytes),.d (.sl 7 (x.fArgs.map Z03))]
def Z09 (x:Z02):List OC:=[di x.fKind,di x.fN,.dat (.bool x.fNum.fNeg),.dat (.sl 1 (x.fNum.fMag.map (rI .u32))),.dat (.int .u64 x.fBits),.dat (.str x.fBytes),.dat (.sl 7 (x.fArgs.map Z03))]
mutual
theorem Zcp:∀ x:Z02,apartR (Z03 x)
  | ⟨Kind,N,Num,Bits,Bytes,Args⟩=>by
    rw [Z03]
    exact Z6k (ap_int) (Z6k (ap_int) (Z6k (ap_bool) (Z6k (ap_sl (Zbz (fun x=>⟨rfl,Z6k ap_int apR_nil⟩))) (Z6k (ap_int) (Z6k (ap_str) (Z6k (ap_sl (apsTapi_Term Args)) (apR_nil)))))))
theorem apsTapi_Term:∀ xs:List Z02,Zfe (Z7s xs)
  | []=>by rw [Z7s]; exact apRs_nil
  | x::xs=>by rw [Z7s]; exact apRs_cons (by rw [Z0q]; rfl) (Zcp x) (apsTapi_Term xs)
end
structure Z0c where
  fOps:(List Z0d)
  fConsts:(List Z02)
  deriving Inhabited
structure Z13 where
  fn:Int
  deriving Inhabited
structure Z0k where
  fb:(List Int)
  fat:Int
  deriving Inhabited
structure Z0a where
  fb:(List Int)
  fat:Int
  fleft:Int
  deriving Inhabited
def Z7t (x:Z0a):List AC:=[.d (.sl 1 (x.fb.map (rI .u8))),.d (.int .i64 x.fat),.d (.int .i64 x.fleft)]
structure Z06 where
  fB:(List Int)
  fAt:Int
  fBad:Bool
  fLeft:Int
  deriving Inhabited
def Z6b (x:Z06):List AC:=[.d (.sl 1 (x.fB.map (rI .u8))),.d (.int .i64 x.fAt),.d (.bool x.fBad),.d (.int .i64 x.fLeft)]
def Zdb (r:Bool):List PV:=[dv (.bool r)]
def code_may (N:Nat) (p0:Z0d):Option Bool:=if (Lift.imin (Lift.imin (Lift.imin p0.fK p0.fA) p0.fB) p0.fC) ≥ (0:Int) then some (decide ((Lift.imax (Lift.imax (Lift.imax p0.fK p0.fA) p0.fB) p0.fC)≤(255:Int))) else some false
theorem Zen (N:Nat) (p0:Z0d) (r:Bool) (h:code_may N p0=some r):Zf6 Try.prog 23 [.v (.agg (Zej p0))] (Zdb r):=by
  unfold code_may at h
  rcases Z08 h with ⟨hb1,h⟩ | ⟨hb1,h⟩
  · injection h with h; subst h
    exact Zf6.of_run 275 _ Try.func23 (by kernel_rfl:runF Try.prog Try.f23 [.v (.agg (Zej p0))] 275 [.reg (e 2),.reg [{}, {}, {}, {}, {}, {}, {}, {}, {}, {}, {}, {}, {}, {}, {}, {}, {}, {}, {}, {}, {}, { h:=.pick true }, {}]]=some ((Zdb (decide ((Lift.imax (Lift.imax (Lift.imax p0.fK p0.fA) p0.fB) p0.fC)≤(255:Int)))),[True,True,True,True,(decide ((Lift.imin (Lift.imin (Lift.imin p0.fK p0.fA) p0.fB) p0.fC) ≥ (0:Int)))=true,(decide ((Lift.imin (Lift.imin (Lift.imin p0.fK p0.fA) p0.fB) p0.fC) ≥ (0:Int)))=true,True,(decide ((Lift.imin (Lift.imin (Lift.imin p0.fK p0.fA) p0.fB) p0.fC) ≥ (0:Int)))=true,(decide ((Lift.imin (Lift.imin (Lift.imin p0.fK p0.fA) p0.fB) p0.fC) ≥ (0:Int)))=true,True,(decide ((Lift.imin (Lift.imin (Lift.imin p0.fK p0.fA) p0.fB) p0.fC) ≥ (0:Int)))=true,(decide ((Lift.imin (Lift.imin (Lift.imin p0.fK p0.fA) p0.fB) p0.fC) ≥ (0:Int)))=true,True,(decide ((Lift.imin (Lift.imin (Lift.imin p0.fK p0.fA) p0.fB) p0.fC) ≥ (0:Int)))=true,(decide ((Lift.imin (Lift.imin (Lift.imin p0.fK p0.fA) p0.fB) p0.fC) ≥ (0:Int)))=true,True,(decide ((Lift.imin (Lift.imin (Lift.imin p0.fK p0.fA) p0.fB) p0.fC) ≥ (0:Int)))=true,(decide ((Lift.imin (Lift.imin (Lift.imin p0.fK p0.fA) p0.fB) p0.fC) ≥ (0:Int)))=true,(decide ((Lift.imin (Lift.imin (Lift.imin p0.fK p0.fA) p0.fB) p0.fC) ≥ (0:Int)))=true])) (.c8 trivial trivial trivial trivial ((Zfj Z04 hb1)) ((Zfj Z04 hb1)) trivial ((Zfj Z04 hb1)) (.c8 ((Zfj Z04 hb1)) trivial ((Zfj Z04 hb1)) ((Zfj Z04 hb1)) trivial ((Zfj Z04 hb1)) ((Zfj Z04 hb1)) trivial (.c2 ((Zfj Z04 hb1)) ((Zfj Z04 hb1)) (.cons ((Zfj Z04 hb1)) AllP.nil))))
  · injection h with h; subst h
    exact Zf6.of_run 275 _ Try.func23 (by kernel_rfl:runF Try.prog Try.f23 [.v (.agg (Zej p0))] 275 [.reg (e 2),.reg [{}, {}, {}, {}, {}, {}, {}, {}, {}, {}, {},w0,w0,w0,w0,w0,w0,w0,w0,w0,w0, { h:=.pick false }, {}]]=some ((Zdb false),[True,True,True,True,(decide ((Lift.imin (Lift.imin (Lift.imin p0.fK p0.fA) p0.fB) p0.fC) ≥ (0:Int)))=false,(decide ((Lift.imin (Lift.imin (Lift.imin p0.fK p0.fA) p0.fB) p0.fC) ≥ (0:Int)))=false,(decide ((Lift.imin (Lift.imin (Lift.imin p0.fK p0.fA) p0.fB) p0.fC) ≥ (0:Int)))=false,(decide ((Lift.imin (Lift.imin (Lift.imin p0.fK p0.fA) p0.fB) p0.fC) ≥ (0:Int)))=false,(decide ((Lift.imin (Lift.imin (Lift.imin p0.fK p0.fA) p0.fB) p0.fC) ≥ (0:Int)))=false,(decide ((Lift.imin (Lift.imin (Lift.imin p0.fK p0.fA) p0.fB) p0.fC) ≥ (0:Int)))=false,(decide ((Lift.imin (Lift.imin (Lift.imin p0.fK p0.fA) p0.fB) p0.fC) ≥ (0:Int)))=false,(decide ((Lift.imin (Lift.imin (Lift.imin p0.fK p0.fA) p0.fB) p0.fC) ≥ (0:Int)))=false,(decide ((Lift.imin (Lift.imin (Lift.imin p0.fK p0.fA) p0.fB) p0.fC) ≥ (0:Int)))=false,(decide ((Lift.imin (Lift.imin (Lift.imin p0.fK p0.fA) p0.fB) p0.fC) ≥ (0:Int)))=false,(decide ((Lift.imin (Lift.imin (Lift.imin p0.fK p0.fA) p0.fB) p0.fC) ≥ (0:Int)))=false])) (.c8 trivial trivial trivial trivial ((Z00 Z04 hb1)) ((Z00 Z04 hb1)) ((Z00 Z04 hb1)) ((Z00 Z04 hb1)) (.c4 ((Z00 Z04 hb1)) ((Z00 Z04 hb1)) ((Z00 Z04 hb1)) ((Z00 Z04 hb1)) (.c2 ((Z00 Z04 hb1)) ((Z00 Z04 hb1)) (.cons ((Z00 Z04 hb1)) AllP.nil))))
def Z2s (p1:Z02) (o532_0:Int) (v47:Int):St:={ fr:=([(.v (.one (.ptr 532 0)))]++bads 44++[(da (.sl 7 (p1.fArgs.map Z03))),(ai ((p1.fArgs.length:Nat):Int)),(ai v47)]++bads 12),obs:=[(532,.var [.d (.int .i64 o532_0)])] }
def Z4y (p1:Z02) (o:Int):St:={ fr:=bads 60,obs:=[(532,.var [.d (.int .i64 o)])] }
def Z4x (p1:Z02) (o:Int):St:={ fr:=bads 60,obs:=[(532,.var [.d (.int .i64 o)])] }
def Z3g (r:Z13):List PV:=[.obj [di r.fn]]
mutual
def weigh_scale_add_L0:Nat→Z02→Int→Int→Option ((Int) ⊕ (Int))
  | 0,_,_,_=>none
  | N+1,p1,o532_0,v47=>if v47 < ((p1.fArgs.length:Nat):Int) then (idx p1.fArgs v47).bind fun x5=>if o532_0 > (300:Int) then some (.inr o532_0) else (weigh_scale_add N (Z13.mk o532_0) x5).bind fun r7=>weigh_scale_add_L0 N p1 r7.fn (IntKind.wrap .i64 (v47+(1:Int))) else some (.inl o532_0)
def weigh_scale_add:Nat→Z13→Z02→Option Z13
  | 0,_,_=>none
  | N+1,p0,p1=>if p1.fKind=(2:Int) then some (Z13.mk (IntKind.wrap .i64 ((IntKind.wrap .i64 (p0.fn+(1:Int)))+((p1.fNum.fMag.length:Nat):Int)))) else if p1.fKind=(9:Int) then some (Z13.mk (IntKind.wrap .i64 ((IntKind.wrap .i64 (p0.fn+(1:Int)))+(IntKind.wrap .i64 (Int.tdiv ((p1.fBytes.size:Nat):Int) (8:Int)))))) else if p1.fKind=(6:Int) then (weigh_scale_add_L0 N p1 (IntKind.wrap .i64 (p0.fn+(1:Int))) (0:Int)).bind fun r8=>(match r8 with | .inl r9=>some (Z13.mk r9) | .inr r10=>some (Z13.mk r10)) else if p1.fKind=(8:Int) then (weigh_scale_add_L0 N p1 (IntKind.wrap .i64 (p0.fn+(1:Int))) (0:Int)).bind fun r12=>(match r12 with | .inl r13=>some (Z13.mk r13) | .inr r14=>some (Z13.mk r14)) else some (Z13.mk (IntKind.wrap .i64 (p0.fn+(1:Int))))
end
structure Ze9 (N:Nat):Prop where
  weigh_scale_add_L0:∀ (p1:Z02) (o532_0:Int) (v47:Int) (r:((Int) ⊕ (Int))),weigh_scale_add_L0 N p1 o532_0 v47=some r→match r with | .inl o=>Zf7 Try.prog 532 (partOf Try.f58 [1,1,1,0,1,1,1,1,1,0,1,0,0]) (Z2s p1 o532_0 v47) (.exit 1) (Z4y p1 o) | .inr o=>Zf7 Try.prog 532 (partOf Try.f58 [1,1,1,0,1,1,1,1,1,0,1,0,0]) (Z2s p1 o532_0 v47) .ret (Z4x p1 o)
  weigh_scale_add:∀ (p0:Z13) (p1:Z02) (r:Z13),weigh_scale_add N p0 p1=some r→Zf6 Try.prog 58 [.obj [di p0.fn],.v (.agg (Z09 p1))] (Z3g r)
theorem Zc4:∀ N,Ze9 N:=by
  intro N
  induction N with
  | zero =>
    constructor
    · intro p1 o532_0 v47 r h; rw [weigh_scale_add_L0] at h; cases h
    · intro p0 p1 r h; rw [weigh_scale_add] at h; cases h
  | succ N ih =>
    constructor
    · intro p1 o532_0 v47 r h
      rw [weigh_scale_add_L0] at h
      rcases Z08 h with ⟨hb4,h⟩ | ⟨hb4,h⟩
      · obtain ⟨x5,hx5,h⟩:=bind_some h
        rcases Z08 h with ⟨hb6,h⟩ | ⟨hb6,h⟩
        · injection h with h; subst h
          exact Zf7.out (Zf4.of_run _ (by kernel_rfl:Zg4 Try.prog 532 (partOf Try.f58 [1,1,1,0,1,1,1,1,1,0,1,0,0]) [.reg [{}],.br true,.reg [{ cast:=some (.v (.one (.fptr (Z1e x5)))) }, {}, {}, {}],.reg (e 5),.br true,.adj [.keep [] [532]]] (Z2s p1 o532_0 v47)=some (.ret,(Z4x p1 o532_0),[(decide (v47 < ((p1.fArgs.length:Nat):Int)))=true,0≤v47∧v47 < (((p1.fArgs.map Z03).length:Nat):Int),AV.Le (.v (.one (.fptr ((List.range 7).map fun j=>((p1.fArgs.map Z03).getD (Int.toNat v47) []).getD j .nils)))) (.v (.one (.fptr (Z1e x5)))),True,True,True,(decide (o532_0 > (300:Int)))=true])) (.c4 ((Zfj Z04 hb4)) (Z23 hx5) (Z1f hx5 (Z0q x5)) trivial (.c2 trivial trivial (.cons ((Zfj Z04 hb6)) AllP.nil)))) (by simp)
        · obtain ⟨r7,hr7,h⟩:=bind_some h
          have hl:=ih.weigh_scale_add_L0 p1 r7.fn (IntKind.wrap .i64 (v47+(1:Int))) _ h
          have ha:=Zf4.of_run _ (by kernel_rfl:Zg4 Try.prog 532 (partOf Try.f58 [1,1,1,0,1,1,1,1,1,0,1,0,0]) [.reg [{}],.br true,.reg [{ cast:=some (.v (.one (.fptr (Z1e x5)))) }, {}, {}, {}],.reg (e 5),.br false,.reg [{}, {}, { h:=.call 414 [] [.obj [di r7.fn]] }],.reg (e 2),.adj [.keep [0,45,46,47] [532]]] (Z2s p1 o532_0 v47)=some (.normal,(Z2s p1 r7.fn (IntKind.wrap .i64 (v47+(1:Int)))),[(decide (v47 < ((p1.fArgs.length:Nat):Int)))=true,0≤v47∧v47 < (((p1.fArgs.map Z03).length:Nat):Int),AV.Le (.v (.one (.fptr ((List.range 7).map fun j=>((p1.fArgs.map Z03).getD (Int.toNat v47) []).getD j .nils)))) (.v (.one (.fptr (Z1e x5)))),True,True,True,(decide (o532_0 > (300:Int)))=false,True,Zf6 Try.prog 58 [.obj [di o532_0],.v (.agg (Z09 x5))] [.obj [di r7.fn]]])) (.c8 ((Zfj Z04 hb4)) (Z23 hx5) (Z1f hx5 (Z0q x5)) trivial trivial trivial ((Z00 Z04 hb6)) trivial (.cons (((ih.weigh_scale_add) (Z13.mk o532_0) x5 r7 hr7)) AllP.nil))
          rcases r with o | o <;> exact Zf7.again ha hl
      · injection h with h; subst h
        exact Zf7.out (Zf4.of_run _ (by kernel_rfl:Zg4 Try.prog 532 (partOf Try.f58 [1,1,1,0,1,1,1,1,1,0,1,0,0]) [.reg [{}],.br false,.adj [.keep [] [532]]] (Z2s p1 o532_0 v47)=some ((.exit 1),(Z4y p1 o532_0),[(decide (v47 < ((p1.fArgs.length:Nat):Int)))=false])) (.cons ((Z00 Z04 hb4)) AllP.nil)) (by simp)
    · intro p0 p1 r h
      rw [weigh_scale_add] at h
      rcases Z08 h with ⟨hb1,h⟩ | ⟨hb1,h⟩
      · injection h with h; subst h
        exact Zf6.of_run 532 _ Try.func58 (by kernel_rfl:runF Try.prog Try.f58 [.obj [di p0.fn],.v (.agg (Z09 p1))] 532 [.reg [{}],.reg (e 8),.reg (e 2),.reg (e 2),.br true,.reg [{}, {}, {}, {}, {}, {}, {}, { cast:=some (ai ((p1.fNum.fMag.length:Nat):Int)) }, {}, {}, {}, {}]]=some ((Z3g (Z13.mk (IntKind.wrap .i64 ((IntKind.wrap .i64 (p0.fn+(1:Int)))+((p1.fNum.fMag.length:Nat):Int))))),[True,True,True,(p1.fKind == (2:Int))=true,True,True,AV.Le (ai (((p1.fNum.fMag.map (rI .u32)).length:Nat):Int)) (ai ((p1.fNum.fMag.length:Nat):Int)),True])) (.c8 trivial trivial trivial ((Zfj Z01 hb1)) trivial trivial Zfv trivial AllP.nil)
      · rcases Z08 h with ⟨hb2,h⟩ | ⟨hb2,h⟩
        · injection h with h; subst h
          exact Zf6.of_run 532 _ Try.func58 (by kernel_rfl:runF Try.prog Try.f58 [.obj [di p0.fn],.v (.agg (Z09 p1))] 532 [.reg [{}],.reg (e 8),.reg (e 2),.reg (e 2),.br false,.reg (e 2),.br true,.reg (e 12)]=some ((Z3g (Z13.mk (IntKind.wrap .i64 ((IntKind.wrap .i64 (p0.fn+(1:Int)))+(IntKind.wrap .i64 (Int.tdiv ((p1.fBytes.size:Nat):Int) (8:Int))))))),[True,True,True,(p1.fKind == (2:Int))=false,(p1.fKind == (9:Int))=true,True,True,True])) (.c8 trivial trivial trivial ((Z00 Z01 hb1)) ((Zfj Z01 hb2)) trivial trivial trivial AllP.nil)
        · rcases Z08 h with ⟨hb3,h⟩ | ⟨hb3,h⟩
          · obtain ⟨r8,hr8,h⟩:=bind_some h
            rcases r8 with r9 | r10
            · injection h with h; subst h
              exact Zf6.of_run 532 _ Try.func58 (by kernel_rfl:runF Try.prog Try.f58 [.obj [di p0.fn],.v (.agg (Z09 p1))] 532 [.reg [{}],.reg (e 8),.reg (e 2),.reg (e 2),.br false,.reg (e 2),.br false,.reg (e 2),.br true,.br true,.reg [{}, {}, { cast:=some (ai ((p1.fArgs.length:Nat):Int)) }, {}],.adj [.keep [0,45,46,47] [532]],.cut (.exit 1) (Z4y p1 r9)]=some ((Z3g (Z13.mk r9)),[True,True,True,(p1.fKind == (2:Int))=false,(p1.fKind == (9:Int))=false,(p1.fKind == (6:Int))=true,(p1.fKind == (6:Int))=true,True,AV.Le (ai (((p1.fArgs.map Z03).length:Nat):Int)) (ai ((p1.fArgs.length:Nat):Int)),Zf4 Try.prog 532 (partOf Try.f58 [1,1,1,0,1,1,1,1,1,0,1,0]) (Z2s p1 (IntKind.wrap .i64 (p0.fn+(1:Int))) (0:Int)) (.exit 1) (Z4y p1 r9)])) (.c8 trivial trivial trivial ((Z00 Z01 hb1)) ((Z00 Z01 hb2)) ((Zfj Z01 hb3)) ((Zfj Z01 hb3)) trivial (.c2 Zfv (Zf4.of_loop ((ih.weigh_scale_add_L0) p1 (IntKind.wrap .i64 (p0.fn+(1:Int))) (0:Int) (.inl r9) hr8)) AllP.nil))
            · injection h with h; subst h
              exact Zf6.of_run 532 _ Try.func58 (by kernel_rfl:runF Try.prog Try.f58 [.obj [di p0.fn],.v (.agg (Z09 p1))] 532 [.reg [{}],.reg (e 8),.reg (e 2),.reg (e 2),.br false,.reg (e 2),.br false,.reg (e 2),.br true,.br true,.reg [{}, {}, { cast:=some (ai ((p1.fArgs.length:Nat):Int)) }, {}],.adj [.keep [0,45,46,47] [532]],.cut .ret (Z4x p1 r10)]=some ((Z3g (Z13.mk r10)),[True,True,True,(p1.fKind == (2:Int))=false,(p1.fKind == (9:Int))=false,(p1.fKind == (6:Int))=true,(p1.fKind == (6:Int))=true,True,AV.Le (ai (((p1.fArgs.map Z03).length:Nat):Int)) (ai ((p1.fArgs.length:Nat):Int)),Zf4 Try.prog 532 (partOf Try.f58 [1,1,1,0,1,1,1,1,1,0,1,0]) (Z2s p1 (IntKind.wrap .i64 (p0.fn+(1:Int))) (0:Int)) .ret (Z4x p1 r10)])) (.c8 trivial trivial trivial ((Z00 Z01 hb1)) ((Z00 Z01 hb2)) ((Zfj Z01 hb3)) ((Zfj Z01 hb3)) trivial (.c2 Zfv (Zf4.of_loop ((ih.weigh_scale_add_L0) p1 (IntKind.wrap .i64 (p0.fn+(1:Int))) (0:Int) (.inr r10) hr8)) AllP.nil))
          · rcases Z08 h with ⟨hb11,h⟩ | ⟨hb11,h⟩
            · obtain ⟨r12,hr12,h⟩:=bind_some h
              rcases r12 with r13 | r14
              · injection h with h; subst h
                exact Zf6.of_run 532 _ Try.func58 (by kernel_rfl:runF Try.prog Try.f58 [.obj [di p0.fn],.v (.agg (Z09 p1))] 532 [.reg [{}],.reg (e 8),.reg (e 2),.reg (e 2),.br false,.reg (e 2),.br false,.reg (e 2),.br false,.reg (e 2),.br true,.reg [{}, {}, { cast:=some (ai ((p1.fArgs.length:Nat):Int)) }, {}],.adj [.keep [0,45,46,47] [532]],.cut (.exit 1) (Z4y p1 r13)]=some ((Z3g (Z13.mk r13)),[True,True,True,(p1.fKind == (2:Int))=false,(p1.fKind == (9:Int))=false,(p1.fKind == (6:Int))=false,(p1.fKind == (8:Int))=true,True,AV.Le (ai (((p1.fArgs.map Z03).length:Nat):Int)) (ai ((p1.fArgs.length:Nat):Int)),Zf4 Try.prog 532 (partOf Try.f58 [1,1,1,0,1,1,1,1,1,0,1,0]) (Z2s p1 (IntKind.wrap .i64 (p0.fn+(1:Int))) (0:Int)) (.exit 1) (Z4y p1 r13)])) (.c8 trivial trivial trivial ((Z00 Z01 hb1)) ((Z00 Z01 hb2)) ((Z00 Z01 hb3)) ((Zfj Z01 hb11)) trivial (.c2 Zfv (Zf4.of_loop ((ih.weigh_scale_add_L0) p1 (IntKind.wrap .i64 (p0.fn+(1:Int))) (0:Int) (.inl r13) hr12)) AllP.nil))
              · injection h with h; subst h
                exact Zf6.of_run 532 _ Try.func58 (by kernel_rfl:runF Try.prog Try.f58 [.obj [di p0.fn],.v (.agg (Z09 p1))] 532 [.reg [{}],.reg (e 8),.reg (e 2),.reg (e 2),.br false,.reg (e 2),.br false,.reg (e 2),.br false,.reg (e 2),.br true,.reg [{}, {}, { cast:=some (ai ((p1.fArgs.length:Nat):Int)) }, {}],.adj [.keep [0,45,46,47] [532]],.cut .ret (Z4x p1 r14)]=some ((Z3g (Z13.mk r14)),[True,True,True,(p1.fKind == (2:Int))=false,(p1.fKind == (9:Int))=false,(p1.fKind == (6:Int))=false,(p1.fKind == (8:Int))=true,True,AV.Le (ai (((p1.fArgs.map Z03).length:Nat):Int)) (ai ((p1.fArgs.length:Nat):Int)),Zf4 Try.prog 532 (partOf Try.f58 [1,1,1,0,1,1,1,1,1,0,1,0]) (Z2s p1 (IntKind.wrap .i64 (p0.fn+(1:Int))) (0:Int)) .ret (Z4x p1 r14)])) (.c8 trivial trivial trivial ((Z00 Z01 hb1)) ((Z00 Z01 hb2)) ((Z00 Z01 hb3)) ((Zfj Z01 hb11)) trivial (.c2 Zfv (Zf4.of_loop ((ih.weigh_scale_add_L0) p1 (IntKind.wrap .i64 (p0.fn+(1:Int))) (0:Int) (.inr r14) hr12)) AllP.nil))
            · injection h with h; subst h
              exact Zf6.of_run 532 _ Try.func58 (by kernel_rfl:runF Try.prog Try.f58 [.obj [di p0.fn],.v (.agg (Z09 p1))] 532 [.reg [{}],.reg (e 8),.reg (e 2),.reg (e 2),.br false,.reg (e 2),.br false,.reg (e 2),.br false,.reg (e 2),.br false]=some ((Z3g (Z13.mk (IntKind.wrap .i64 (p0.fn+(1:Int))))),[True,True,True,(p1.fKind == (2:Int))=false,(p1.fKind == (9:Int))=false,(p1.fKind == (6:Int))=false,(p1.fKind == (8:Int))=false])) (.c4 trivial trivial trivial ((Z00 Z01 hb1)) (.c2 ((Z00 Z01 hb2)) ((Z00 Z01 hb3)) (.cons ((Z00 Z01 hb11)) AllP.nil)))
theorem Zdx (N:Nat) (p0:Z13) (p1:Z02) (r:Z13) (h:weigh_scale_add N p0 p1=some r):Zf6 Try.prog 58 [.obj [di p0.fn],.v (.agg (Z09 p1))] (Z3g r):=(Zc4 N).weigh_scale_add p0 p1 r h
def Zcz (r:Int):List PV:=[vi r]
def Zbt (N:Nat) (p0:Z02):Option Int:=(weigh_scale_add N (Z13.mk (0:Int)) p0).bind fun r1=>some (if (301:Int) < r1.fn then (301:Int) else r1.fn)
theorem Zce (N:Nat) (p0:Z02) (r:Int) (h:Zbt N p0=some r):Zf6 Try.prog 49 [.v (.agg (Z09 p0))] (Zcz r):=by
  unfold Zbt at h
  obtain ⟨r1,hr1,h⟩:=bind_some h
  injection h with h; subst h
  exact Zf6.of_run 198 _ Try.func49 (by kernel_rfl:runF Try.prog Try.f49 [.v (.agg (Z09 p0))] 198 [.reg (e 2),.reg (e 3),.reg [{}, {}, { h:=.call 56 [] [.obj [di r1.fn]] }],.reg (e 6)]=some ((Zcz (if (301:Int) < r1.fn then (301:Int) else r1.fn)),[True,Zf6 Try.prog 58 [.obj [di (0:Int)],.v (.agg (Z09 p0))] [.obj [di r1.fn]],True])) (.c2 trivial ((Zdx N (Z13.mk (0:Int)) p0 r1 hr1)) (.cons trivial AllP.nil))
def Z95 (r:Bool):List PV:=[dv (.bool r)]
def Zef (N:Nat) (p0:Z0m):Option Bool:=if ((p0.fMag.length:Nat):Int)≤(8:Int) then if ((p0.fMag.length:Nat):Int) > (0:Int) then (idx p0.fMag (IntKind.wrap .i64 (((p0.fMag.length:Nat):Int) - (1:Int)))).bind fun x3=>if x3 ≠ (0:Int) then some true else if ((p0.fMag.length:Nat):Int)=(0:Int) then some (!p0.fNeg) else some false else if ((p0.fMag.length:Nat):Int)=(0:Int) then some (!p0.fNeg) else some false else some false
theorem Z86 (N:Nat) (p0:Z0m) (r:Bool) (h:Zef N p0=some r):Zf6 Try.prog 60 [.v (.agg [.dat (.bool p0.fNeg),.dat (.sl 1 (p0.fMag.map (rI .u32)))])] (Z95 r):=by
  unfold Zef at h
  rcases Z08 h with ⟨hb1,h⟩ | ⟨hb1,h⟩
  · rcases Z08 h with ⟨hb2,h⟩ | ⟨hb2,h⟩
    · obtain ⟨x3,hx3,h⟩:=bind_some h
      rcases Z08 h with ⟨hb4,h⟩ | ⟨hb4,h⟩
      · injection h with h; subst h
        exact Zf6.of_run 317 _ Try.func60 (by kernel_rfl:runF Try.prog Try.f60 [.v (.agg [.dat (.bool p0.fNeg),.dat (.sl 1 (p0.fMag.map (rI .u32)))])] 317 [.reg (e 2),.reg [{}, {}, { cast:=some (ai ((p0.fMag.length:Nat):Int)) }, {}],.reg [{}, {}, {}, {}, {}, {}, {}, {}, {}, {}, { cast:=some (.v (.one (.fptr [.int .u32 x3]))) }, {}, {}, { h:=.pick true }, {},w0,w0,w0,w0,w0,w0,w0, { h:=.pick true }, { h:=.pick true }, {}]]=some ((Z95 true),[True,AV.Le (ai (((p0.fMag.map (rI .u32)).length:Nat):Int)) (ai ((p0.fMag.length:Nat):Int)),(decide (((p0.fMag.length:Nat):Int)≤(8:Int)))=true,(decide (((p0.fMag.length:Nat):Int)≤(8:Int)))=true,(decide (((p0.fMag.length:Nat):Int)≤(8:Int)))=true,(decide (((p0.fMag.length:Nat):Int) > (0:Int)))=true,(decide (((p0.fMag.length:Nat):Int) > (0:Int)))=true,True,(decide (((p0.fMag.length:Nat):Int) > (0:Int)))=true,(decide (((p0.fMag.length:Nat):Int) > (0:Int)))=true,(decide (((p0.fMag.length:Nat):Int) > (0:Int)))=true,0≤IntKind.wrap .i64 (((p0.fMag.length:Nat):Int) - (1:Int))∧IntKind.wrap .i64 (((p0.fMag.length:Nat):Int) - (1:Int)) < (((p0.fMag.map (rI .u32)).length:Nat):Int),AV.Le (.v (.one (.fptr ((List.range 1).map fun j=>((p0.fMag.map (rI .u32)).getD (Int.toNat (IntKind.wrap .i64 (((p0.fMag.length:Nat):Int) - (1:Int)))) []).getD j .nils)))) (.v (.one (.fptr [.int .u32 x3]))),(decide (((p0.fMag.length:Nat):Int) > (0:Int)))=true,True,(decide (((p0.fMag.length:Nat):Int) > (0:Int)))=true,(decide (((p0.fMag.length:Nat):Int)≤(8:Int)))=true,(decide (((p0.fMag.length:Nat):Int) > (0:Int)))=true,(decide (((p0.fMag.length:Nat):Int)≤(8:Int)))=true,(x3 != (0:Int))=true,(x3 != (0:Int))=true,(x3 != (0:Int))=true,(x3 != (0:Int))=true,(decide (((p0.fMag.length:Nat):Int)≤(8:Int)))=true,(x3 != (0:Int))=true,(decide (((p0.fMag.length:Nat):Int)≤(8:Int)))=true])) (.c8 trivial Zfv ((Zfj Z04 hb1)) ((Zfj Z04 hb1)) ((Zfj Z04 hb1)) ((Zfj Z04 hb2)) ((Zfj Z04 hb2)) trivial (.c8 ((Zfj Z04 hb2)) ((Zfj Z04 hb2)) ((Zfj Z04 hb2)) (Z23 hx3) (Z1f hx3 rfl) ((Zfj Z04 hb2)) trivial ((Zfj Z04 hb2)) (.c8 ((Zfj Z04 hb1)) ((Zfj Z04 hb2)) ((Zfj Z04 hb1)) ((Zfj Z24 hb4)) ((Zfj Z24 hb4)) ((Zfj Z24 hb4)) ((Zfj Z24 hb4)) ((Zfj Z04 hb1)) (.c2 ((Zfj Z24 hb4)) ((Zfj Z04 hb1)) AllP.nil))))
      · rcases Z08 h with ⟨hb5,h⟩ | ⟨hb5,h⟩
        · injection h with h; subst h
          exact Zf6.of_run 317 _ Try.func60 (by kernel_rfl:runF Try.prog Try.f60 [.v (.agg [.dat (.bool p0.fNeg),.dat (.sl 1 (p0.fMag.map (rI .u32)))])] 317 [.reg (e 2),.reg [{}, {}, { cast:=some (ai ((p0.fMag.length:Nat):Int)) }, {}],.reg [{}, {}, {}, {}, {}, {}, {}, {}, {}, {}, { cast:=some (.v (.one (.fptr [.int .u32 x3]))) }, {}, {}, { h:=.pick true }, {}, {}, {}, {}, {}, {}, {}, { h:=.pick true }, { h:=.pick false }, { h:=.pick true }, {}]]=some ((Z95 (!p0.fNeg)),[True,AV.Le (ai (((p0.fMag.map (rI .u32)).length:Nat):Int)) (ai ((p0.fMag.length:Nat):Int)),(decide (((p0.fMag.length:Nat):Int)≤(8:Int)))=true,(decide (((p0.fMag.length:Nat):Int)≤(8:Int)))=true,(decide (((p0.fMag.length:Nat):Int)≤(8:Int)))=true,(decide (((p0.fMag.length:Nat):Int) > (0:Int)))=true,(decide (((p0.fMag.length:Nat):Int) > (0:Int)))=true,True,(decide (((p0.fMag.length:Nat):Int) > (0:Int)))=true,(decide (((p0.fMag.length:Nat):Int) > (0:Int)))=true,(decide (((p0.fMag.length:Nat):Int) > (0:Int)))=true,0≤IntKind.wrap .i64 (((p0.fMag.length:Nat):Int) - (1:Int))∧IntKind.wrap .i64 (((p0.fMag.length:Nat):Int) - (1:Int)) < (((p0.fMag.map (rI .u32)).length:Nat):Int),AV.Le (.v (.one (.fptr ((List.range 1).map fun j=>((p0.fMag.map (rI .u32)).getD (Int.toNat (IntKind.wrap .i64 (((p0.fMag.length:Nat):Int) - (1:Int)))) []).getD j .nils)))) (.v (.one (.fptr [.int .u32 x3]))),(decide (((p0.fMag.length:Nat):Int) > (0:Int)))=true,True,(decide (((p0.fMag.length:Nat):Int) > (0:Int)))=true,(decide (((p0.fMag.length:Nat):Int)≤(8:Int)))=true,(decide (((p0.fMag.length:Nat):Int) > (0:Int)))=true,(decide (((p0.fMag.length:Nat):Int)≤(8:Int)))=true,(x3 != (0:Int))=false,(x3 != (0:Int))=false,(x3 != (0:Int))=false,(((p0.fMag.length:Nat):Int) == (0:Int))=true,(((p0.fMag.length:Nat):Int) == (0:Int))=true,True,(((p0.fMag.length:Nat):Int) == (0:Int))=true,(x3 != (0:Int))=false,(((p0.fMag.length:Nat):Int) == (0:Int))=true,(decide (((p0.fMag.length:Nat):Int)≤(8:Int)))=true,(x3 != (0:Int))=false,(decide (((p0.fMag.length:Nat):Int)≤(8:Int)))=true])) (.c8 trivial Zfv ((Zfj Z04 hb1)) ((Zfj Z04 hb1)) ((Zfj Z04 hb1)) ((Zfj Z04 hb2)) ((Zfj Z04 hb2)) trivial (.c8 ((Zfj Z04 hb2)) ((Zfj Z04 hb2)) ((Zfj Z04 hb2)) (Z23 hx3) (Z1f hx3 rfl) ((Zfj Z04 hb2)) trivial ((Zfj Z04 hb2)) (.c8 ((Zfj Z04 hb1)) ((Zfj Z04 hb2)) ((Zfj Z04 hb1)) ((Z00 Z24 hb4)) ((Z00 Z24 hb4)) ((Z00 Z24 hb4)) ((Zfj Z01 hb5)) ((Zfj Z01 hb5)) (.c4 trivial ((Zfj Z01 hb5)) ((Z00 Z24 hb4)) ((Zfj Z01 hb5)) (.c2 ((Zfj Z04 hb1)) ((Z00 Z24 hb4)) (.cons ((Zfj Z04 hb1)) AllP.nil))))))
        · injection h with h; subst h
          exact Zf6.of_run 317 _ Try.func60 (by kernel_rfl:runF Try.prog Try.f60 [.v (.agg [.dat (.bool p0.fNeg),.dat (.sl 1 (p0.fMag.map (rI .u32)))])] 317 [.reg (e 2),.reg [{}, {}, { cast:=some (ai ((p0.fMag.length:Nat):Int)) }, {}],.reg [{}, {}, {}, {}, {}, {}, {}, {}, {}, {}, { cast:=some (.v (.one (.fptr [.int .u32 x3]))) }, {}, {}, { h:=.pick true }, {}, {}, {}, {},w0,w0,w0, { h:=.pick false }, { h:=.pick false }, { h:=.pick true }, {}]]=some ((Z95 false),[True,AV.Le (ai (((p0.fMag.map (rI .u32)).length:Nat):Int)) (ai ((p0.fMag.length:Nat):Int)),(decide (((p0.fMag.length:Nat):Int)≤(8:Int)))=true,(decide (((p0.fMag.length:Nat):Int)≤(8:Int)))=true,(decide (((p0.fMag.length:Nat):Int)≤(8:Int)))=true,(decide (((p0.fMag.length:Nat):Int) > (0:Int)))=true,(decide (((p0.fMag.length:Nat):Int) > (0:Int)))=true,True,(decide (((p0.fMag.length:Nat):Int) > (0:Int)))=true,(decide (((p0.fMag.length:Nat):Int) > (0:Int)))=true,(decide (((p0.fMag.length:Nat):Int) > (0:Int)))=true,0≤IntKind.wrap .i64 (((p0.fMag.length:Nat):Int) - (1:Int))∧IntKind.wrap .i64 (((p0.fMag.length:Nat):Int) - (1:Int)) < (((p0.fMag.map (rI .u32)).length:Nat):Int),AV.Le (.v (.one (.fptr ((List.range 1).map fun j=>((p0.fMag.map (rI .u32)).getD (Int.toNat (IntKind.wrap .i64 (((p0.fMag.length:Nat):Int) - (1:Int)))) []).getD j .nils)))) (.v (.one (.fptr [.int .u32 x3]))),(decide (((p0.fMag.length:Nat):Int) > (0:Int)))=true,True,(decide (((p0.fMag.length:Nat):Int) > (0:Int)))=true,(decide (((p0.fMag.length:Nat):Int)≤(8:Int)))=true,(decide (((p0.fMag.length:Nat):Int) > (0:Int)))=true,(decide (((p0.fMag.length:Nat):Int)≤(8:Int)))=true,(x3 != (0:Int))=false,(x3 != (0:Int))=false,(x3 != (0:Int))=false,(((p0.fMag.length:Nat):Int) == (0:Int))=false,(((p0.fMag.length:Nat):Int) == (0:Int))=false,(((p0.fMag.length:Nat):Int) == (0:Int))=false,(x3 != (0:Int))=false,(((p0.fMag.length:Nat):Int) == (0:Int))=false,(decide (((p0.fMag.length:Nat):Int)≤(8:Int)))=true,(x3 != (0:Int))=false,(decide (((p0.fMag.length:Nat):Int)≤(8:Int)))=true])) (.c8 trivial Zfv ((Zfj Z04 hb1)) ((Zfj Z04 hb1)) ((Zfj Z04 hb1)) ((Zfj Z04 hb2)) ((Zfj Z04 hb2)) trivial (.c8 ((Zfj Z04 hb2)) ((Zfj Z04 hb2)) ((Zfj Z04 hb2)) (Z23 hx3) (Z1f hx3 rfl) ((Zfj Z04 hb2)) trivial ((Zfj Z04 hb2)) (.c8 ((Zfj Z04 hb1)) ((Zfj Z04 hb2)) ((Zfj Z04 hb1)) ((Z00 Z24 hb4)) ((Z00 Z24 hb4)) ((Z00 Z24 hb4)) ((Z00 Z01 hb5)) ((Z00 Z01 hb5)) (.c4 ((Z00 Z01 hb5)) ((Z00 Z24 hb4)) ((Z00 Z01 hb5)) ((Zfj Z04 hb1)) (.c2 ((Z00 Z24 hb4)) ((Zfj Z04 hb1)) AllP.nil)))))
    · rcases Z08 h with ⟨hb6,h⟩ | ⟨hb6,h⟩
      · injection h with h; subst h
        exact Zf6.of_run 317 _ Try.func60 (by kernel_rfl:runF Try.prog Try.f60 [.v (.agg [.dat (.bool p0.fNeg),.dat (.sl 1 (p0.fMag.map (rI .u32)))])] 317 [.reg (e 2),.reg [{}, {}, { cast:=some (ai ((p0.fMag.length:Nat):Int)) }, {}],.reg [{}, {}, {}, {}, {}, {},w0,w0,w0,w0,w0,w0,w0, { h:=.pick false }, {}, {}, {}, {}, {}, {}, {}, { h:=.pick true }, { h:=.pick false }, { h:=.pick true }, {}]]=some ((Z95 (!p0.fNeg)),[True,AV.Le (ai (((p0.fMag.map (rI .u32)).length:Nat):Int)) (ai ((p0.fMag.length:Nat):Int)),(decide (((p0.fMag.length:Nat):Int)≤(8:Int)))=true,(decide (((p0.fMag.length:Nat):Int)≤(8:Int)))=true,(decide (((p0.fMag.length:Nat):Int)≤(8:Int)))=true,(decide (((p0.fMag.length:Nat):Int) > (0:Int)))=false,(decide (((p0.fMag.length:Nat):Int) > (0:Int)))=false,(decide (((p0.fMag.length:Nat):Int) > (0:Int)))=false,(decide (((p0.fMag.length:Nat):Int) > (0:Int)))=false,(decide (((p0.fMag.length:Nat):Int) > (0:Int)))=false,(decide (((p0.fMag.length:Nat):Int) > (0:Int)))=false,(decide (((p0.fMag.length:Nat):Int) > (0:Int)))=false,(decide (((p0.fMag.length:Nat):Int)≤(8:Int)))=true,(decide (((p0.fMag.length:Nat):Int) > (0:Int)))=false,(decide (((p0.fMag.length:Nat):Int)≤(8:Int)))=true,false=false,false=false,false=false,(((p0.fMag.length:Nat):Int) == (0:Int))=true,(((p0.fMag.length:Nat):Int) == (0:Int))=true,True,(((p0.fMag.length:Nat):Int) == (0:Int))=true,false=false,(((p0.fMag.length:Nat):Int) == (0:Int))=true,(decide (((p0.fMag.length:Nat):Int)≤(8:Int)))=true,false=false,(decide (((p0.fMag.length:Nat):Int)≤(8:Int)))=true])) (.c8 trivial Zfv ((Zfj Z04 hb1)) ((Zfj Z04 hb1)) ((Zfj Z04 hb1)) ((Z00 Z04 hb2)) ((Z00 Z04 hb2)) ((Z00 Z04 hb2)) (.c8 ((Z00 Z04 hb2)) ((Z00 Z04 hb2)) ((Z00 Z04 hb2)) ((Z00 Z04 hb2)) ((Zfj Z04 hb1)) ((Z00 Z04 hb2)) ((Zfj Z04 hb1)) rfl (.c8 rfl rfl ((Zfj Z01 hb6)) ((Zfj Z01 hb6)) trivial ((Zfj Z01 hb6)) rfl ((Zfj Z01 hb6)) (.c2 ((Zfj Z04 hb1)) rfl (.cons ((Zfj Z04 hb1)) AllP.nil)))))
      · injection h with h; subst h
        exact Zf6.of_run 317 _ Try.func60 (by kernel_rfl:runF Try.prog Try.f60 [.v (.agg [.dat (.bool p0.fNeg),.dat (.sl 1 (p0.fMag.map (rI .u32)))])] 317 [.reg (e 2),.reg [{}, {}, { cast:=some (ai ((p0.fMag.length:Nat):Int)) }, {}],.reg [{}, {}, {}, {}, {}, {},w0,w0,w0,w0,w0,w0,w0, { h:=.pick false }, {}, {}, {}, {},w0,w0,w0, { h:=.pick false }, { h:=.pick false }, { h:=.pick true }, {}]]=some ((Z95 false),[True,AV.Le (ai (((p0.fMag.map (rI .u32)).length:Nat):Int)) (ai ((p0.fMag.length:Nat):Int)),(decide (((p0.fMag.length:Nat):Int)≤(8:Int)))=true,(decide (((p0.fMag.length:Nat):Int)≤(8:Int)))=true,(decide (((p0.fMag.length:Nat):Int)≤(8:Int)))=true,(decide (((p0.fMag.length:Nat):Int) > (0:Int)))=false,(decide (((p0.fMag.length:Nat):Int) > (0:Int)))=false,(decide (((p0.fMag.length:Nat):Int) > (0:Int)))=false,(decide (((p0.fMag.length:Nat):Int) > (0:Int)))=false,(decide (((p0.fMag.length:Nat):Int) > (0:Int)))=false,(decide (((p0.fMag.length:Nat):Int) > (0:Int)))=false,(decide (((p0.fMag.length:Nat):Int) > (0:Int)))=false,(decide (((p0.fMag.length:Nat):Int)≤(8:Int)))=true,(decide (((p0.fMag.length:Nat):Int) > (0:Int)))=false,(decide (((p0.fMag.length:Nat):Int)≤(8:Int)))=true,false=false,false=false,false=false,(((p0.fMag.length:Nat):Int) == (0:Int))=false,(((p0.fMag.length:Nat):Int) == (0:Int))=false,(((p0.fMag.length:Nat):Int) == (0:Int))=false,false=false,(((p0.fMag.length:Nat):Int) == (0:Int))=false,(decide (((p0.fMag.length:Nat):Int)≤(8:Int)))=true,false=false,(decide (((p0.fMag.length:Nat):Int)≤(8:Int)))=true])) (.c8 trivial Zfv ((Zfj Z04 hb1)) ((Zfj Z04 hb1)) ((Zfj Z04 hb1)) ((Z00 Z04 hb2)) ((Z00 Z04 hb2)) ((Z00 Z04 hb2)) (.c8 ((Z00 Z04 hb2)) ((Z00 Z04 hb2)) ((Z00 Z04 hb2)) ((Z00 Z04 hb2)) ((Zfj Z04 hb1)) ((Z00 Z04 hb2)) ((Zfj Z04 hb1)) rfl (.c8 rfl rfl ((Z00 Z01 hb6)) ((Z00 Z01 hb6)) ((Z00 Z01 hb6)) rfl ((Z00 Z01 hb6)) ((Zfj Z04 hb1)) (.c2 rfl ((Zfj Z04 hb1)) AllP.nil))))
  · injection h with h; subst h
    exact Zf6.of_run 317 _ Try.func60 (by kernel_rfl:runF Try.prog Try.f60 [.v (.agg [.dat (.bool p0.fNeg),.dat (.sl 1 (p0.fMag.map (rI .u32)))])] 317 [.reg (e 2),.reg [{}, {}, { cast:=some (ai ((p0.fMag.length:Nat):Int)) }, {}],.reg [{}, {}, {},w0,w0,w0,w0,w0,w0,w0,w0,w0,w0,w0,w0,w0,w0,w0,w0,w0,w0,w0,w0, { h:=.pick false }, {}]]=some ((Z95 false),[True,AV.Le (ai (((p0.fMag.map (rI .u32)).length:Nat):Int)) (ai ((p0.fMag.length:Nat):Int)),(decide (((p0.fMag.length:Nat):Int)≤(8:Int)))=false,(decide (((p0.fMag.length:Nat):Int)≤(8:Int)))=false,(decide (((p0.fMag.length:Nat):Int)≤(8:Int)))=false,(decide (((p0.fMag.length:Nat):Int)≤(8:Int)))=false,(decide (((p0.fMag.length:Nat):Int)≤(8:Int)))=false,(decide (((p0.fMag.length:Nat):Int)≤(8:Int)))=false,(decide (((p0.fMag.length:Nat):Int)≤(8:Int)))=false])) (.c8 trivial Zfv ((Z00 Z04 hb1)) ((Z00 Z04 hb1)) ((Z00 Z04 hb1)) ((Z00 Z04 hb1)) ((Z00 Z04 hb1)) ((Z00 Z04 hb1)) (.cons ((Z00 Z04 hb1)) AllP.nil))
def Z51 (p0:Z0m):St:={ fr:=([.bad,(.v (.one (.ptr 1 0)))]++bads 50),obs:=[(1,.var [.d (.bool p0.fNeg),.d (.sl 1 (p0.fMag.map (rI .u32)))])] }
def Z4n (p0:Z0m) (o:Unit):St:={ fr:=([.bad,(.v (.one (.ptr 1 0)))]++bads 50),obs:=[(1,.var [.d (.bool p0.fNeg),.d (.sl 1 (p0.fMag.map (rI .u32)))])] }
def Z8f (p0:Z0m) (o:Unit):St:={ fr:=([.bad,.bad,(ai (0:Int)),(da (.bool false))]++bads 48),obs:=[] }
def Z9e:Nat→Z0m→Option ((Unit) ⊕ (Unit))
  | 0,_=>none
  | N+1,p0=>(Zef N p0).bind fun r1=>if ¬ (r1=true) then some (.inr ()) else if ((p0.fMag.length:Nat):Int) > (2:Int) then some (.inr ()) else some (.inl ())
theorem Z7d:∀ (N:Nat) (p0:Z0m) (r:((Unit) ⊕ (Unit))),Z9e N p0=some r→match r with | .inl o=>Zf4 Try.prog 518 (partOf Try.f59 [1,0]) (Z51 p0 ) .normal (Z4n p0 o) | .inr o=>Zf4 Try.prog 518 (partOf Try.f59 [1,0]) (Z51 p0 ) .ret (Z8f p0 o):=by
  intro N
  induction N with
  | zero=>intro p0 r h; cases h
  | succ N ih =>
    intro p0 r h
    rw [Z9e] at h
    obtain ⟨r1,hr1,h⟩:=bind_some h
    rcases Z08 h with ⟨hb2,h⟩ | ⟨hb2,h⟩
    · injection h with h; subst h
      exact Zf4.of_run _ (by kernel_rfl:Zg4 Try.prog 518 (partOf Try.f59 [1,0]) [.reg [{}, { h:=.pcall [dv (.bool r1)] }, {}, {},w0,w0,w0,w0, { h:=.pick true }],.br true,.reg (e 2),.adj [.keep [2,3] []]] (Z51 p0 )=some (.ret,(Z8f p0 ()),[True,Zf6 Try.prog 60 [.v (.agg [.dat (.bool p0.fNeg),.dat (.sl 1 (p0.fMag.map (rI .u32)))])] [dv (.bool r1)],(!r1)=true,(!r1)=true,(!r1)=true,(!r1)=true,(!r1)=true,true=true])) (.c8 trivial ((Z86 N p0 r1 hr1)) ((Zfj (Z0n Z05) hb2)) ((Zfj (Z0n Z05) hb2)) ((Zfj (Z0n Z05) hb2)) ((Zfj (Z0n Z05) hb2)) ((Zfj (Z0n Z05) hb2)) rfl AllP.nil)
    · rcases Z08 h with ⟨hb3,h⟩ | ⟨hb3,h⟩
      · injection h with h; subst h
        exact Zf4.of_run _ (by kernel_rfl:Zg4 Try.prog 518 (partOf Try.f59 [1,0]) [.reg [{}, { h:=.pcall [dv (.bool r1)] }, {}, {}, {}, {}, { cast:=some (ai ((p0.fMag.length:Nat):Int)) }, {}, { h:=.pick false }],.br true,.reg (e 2),.adj [.keep [2,3] []]] (Z51 p0 )=some (.ret,(Z8f p0 ()),[True,Zf6 Try.prog 60 [.v (.agg [.dat (.bool p0.fNeg),.dat (.sl 1 (p0.fMag.map (rI .u32)))])] [dv (.bool r1)],(!r1)=false,(!r1)=false,True,(!r1)=false,AV.Le (ai (((p0.fMag.map (rI .u32)).length:Nat):Int)) (ai ((p0.fMag.length:Nat):Int)),(!r1)=false,(!r1)=false,(decide (((p0.fMag.length:Nat):Int) > (2:Int)))=true])) (.c8 trivial ((Z86 N p0 r1 hr1)) ((Z00 (Z0n Z05) hb2)) ((Z00 (Z0n Z05) hb2)) trivial ((Z00 (Z0n Z05) hb2)) Zfv ((Z00 (Z0n Z05) hb2)) (.c2 ((Z00 (Z0n Z05) hb2)) ((Zfj Z04 hb3)) AllP.nil))
      · injection h with h; subst h
        exact Zf4.of_run _ (by kernel_rfl:Zg4 Try.prog 518 (partOf Try.f59 [1,0]) [.reg [{}, { h:=.pcall [dv (.bool r1)] }, {}, {}, {}, {}, { cast:=some (ai ((p0.fMag.length:Nat):Int)) }, {}, { h:=.pick false }],.br false,.adj [.keep [1] [1]]] (Z51 p0 )=some (.normal,(Z4n p0 ()),[True,Zf6 Try.prog 60 [.v (.agg [.dat (.bool p0.fNeg),.dat (.sl 1 (p0.fMag.map (rI .u32)))])] [dv (.bool r1)],(!r1)=false,(!r1)=false,True,(!r1)=false,AV.Le (ai (((p0.fMag.map (rI .u32)).length:Nat):Int)) (ai ((p0.fMag.length:Nat):Int)),(!r1)=false,(!r1)=false,(decide (((p0.fMag.length:Nat):Int) > (2:Int)))=false])) (.c8 trivial ((Z86 N p0 r1 hr1)) ((Z00 (Z0n Z05) hb2)) ((Z00 (Z0n Z05) hb2)) trivial ((Z00 (Z0n Z05) hb2)) Zfv ((Z00 (Z0n Z05) hb2)) (.c2 ((Z00 (Z0n Z05) hb2)) ((Z00 Z04 hb3)) AllP.nil))
def Z6e (p0:Z0m) (v19:Int) (v4:Int):St:={ fr:=([.bad,(.v (.one (.ptr 1 0))),.bad,.bad,(da (.int .u64 v4))]++bads 12++[(da (.sl 1 (p0.fMag.map (rI .u32)))),(ai ((p0.fMag.length:Nat):Int)),(ai v19)]++bads 32),obs:=[(1,.var [.d (.bool p0.fNeg),.d (.sl 1 (p0.fMag.map (rI .u32)))])] }
def Z4o (p0:Z0m) (o:Int):St:={ fr:=([.bad,(.v (.one (.ptr 1 0))),.bad,.bad,(da (.int .u64 o))]++bads 47),obs:=[(1,.var [.d (.bool p0.fNeg),.d (.sl 1 (p0.fMag.map (rI .u32)))])] }
def Z5y:Nat→Z0m→Int→Int→Option (Int)
  | 0,_,_,_=>none
  | N+1,p0,v19,v4=>if v19 < ((p0.fMag.length:Nat):Int) then (idx p0.fMag v19).bind fun x8=>(shl .u64 (IntKind.wrap .u64 x8) (IntKind.wrap .i64 ((32:Int) * v19))).bind fun x9=>Z5y N p0 (IntKind.wrap .i64 (v19+(1:Int))) (bor .u64 v4 x9) else some v4
theorem Z8n:∀ (N:Nat) (p0:Z0m) (v19:Int) (v4:Int) (r:(Int)),Z5y N p0 v19 v4=some r→Zf7 Try.prog 518 (partOf Try.f59 [1,1,1,0,1,0,0]) (Z6e p0 v19 v4) (.exit 0) (Z4o p0 r):=by
  intro N
  induction N with
  | zero=>intro p0 v19 v4 r h; cases h
  | succ N ih =>
    intro p0 v19 v4 r h
    rw [Z5y] at h
    rcases Z08 h with ⟨hb7,h⟩ | ⟨hb7,h⟩
    · obtain ⟨x8,hx8,h⟩:=bind_some h
      obtain ⟨x9,hx9,h⟩:=bind_some h
      exact Zf7.again (Zf4.of_run _ (by kernel_rfl:Zg4 Try.prog 518 (partOf Try.f59 [1,1,1,0,1,0,0]) [.reg [{}],.br true,.reg [{}, { cast:=some (.v (.one (.fptr [.int .u32 x8]))) }, {}, {}, {}],.reg [{}, {}, {}, {}, {}, { h:=.flat (.int .u64 x9) }, {}, {}],.reg (e 2),.adj [.keep [1,4,17,18,19] [1]]] (Z6e p0 v19 v4)=some (.normal,(Z6e p0 (IntKind.wrap .i64 (v19+(1:Int))) (bor .u64 v4 x9)),[(decide (v19 < ((p0.fMag.length:Nat):Int)))=true,0≤v19∧v19 < (((p0.fMag.map (rI .u32)).length:Nat):Int),AV.Le (.v (.one (.fptr ((List.range 1).map fun j=>((p0.fMag.map (rI .u32)).getD (Int.toNat v19) []).getD j .nils)))) (.v (.one (.fptr [.int .u32 x8]))),True,pureOf Try.prog (do eqGuard .shl 50 (.tmp 26) (.tmp 28) (.int .u64 (IntKind.wrap .u64 x8)) (.int .i64 (IntKind.wrap .i64 ((32:Int) * v19))); binOp .shl 50 (.int .u64 (IntKind.wrap .u64 x8)) (.int .i64 (IntKind.wrap .i64 ((32:Int) * v19))):Sem Value)=some (.int .u64 x9)])) (.c4 ((Zfj Z04 hb7)) (Z23 hx8) (Z1f hx8 rfl) trivial (.cons (shl_told hx9) AllP.nil))) (ih p0 (IntKind.wrap .i64 (v19+(1:Int))) (bor .u64 v4 x9) _ h)
    · injection h with h; subst h
      exact Zf7.out (Zf4.of_run _ (by kernel_rfl:Zg4 Try.prog 518 (partOf Try.f59 [1,1,1,0,1,0,0]) [.reg [{}],.br false,.adj [.keep [1,4] [1]]] (Z6e p0 v19 v4)=some ((.exit 0),(Z4o p0 v4),[(decide (v19 < ((p0.fMag.length:Nat):Int)))=false])) (.cons ((Z00 Z04 hb7)) AllP.nil)) (by simp)
def Z74 (p0:Z0m) (r10:(Int)):St:={ fr:=([.bad,(.v (.one (.ptr 1 0))),.bad,.bad,(da (.int .u64 r10))]++bads 47),obs:=[(1,.var [.d (.bool p0.fNeg),.d (.sl 1 (p0.fMag.map (rI .u32)))])] }
def Z41 (p0:Z0m) (r10:(Int)) (o:Bool):St:={ fr:=([.bad,(.v (.one (.ptr 1 0))),.bad,.bad,(da (.int .u64 r10))]++bads 27++[(da (.bool o))]++bads 19),obs:=[(1,.var [.d (.bool p0.fNeg),.d (.sl 1 (p0.fMag.map (rI .u32)))])] }
def Z89:Nat→Z0m→(Int)→Option (Bool)
  | 0,_,_=>none
  | N+1,p0,r10=>if ¬ (p0.fNeg=true) then some (decide (r10≤(1152921504606846975:Int))) else some false
theorem Z8k:∀ (N:Nat) (p0:Z0m) (r10:(Int)) (r:(Bool)),Z89 N p0 r10=some r→Zf4 Try.prog 518 (partOf Try.f59 [1,1,1,1,0,0,0]) (Z74 p0 r10 ) .normal (Z41 p0 r10 r):=by
  intro N
  induction N with
  | zero=>intro p0 r10 r h; cases h
  | succ N ih =>
    intro p0 r10 r h
    rw [Z89] at h
    rcases Z08 h with ⟨hb11,h⟩ | ⟨hb11,h⟩
    · injection h with h; subst h
      exact Zf4.of_run _ (by kernel_rfl:Zg4 Try.prog 518 (partOf Try.f59 [1,1,1,1,0,0,0]) [.reg [{}, {}, {}, {}, {}, {}, { h:=.pick true }, {}],.adj [.keep [1,4,32] [1]]] (Z74 p0 r10 )=some (.normal,(Z41 p0 r10 (decide (r10≤(1152921504606846975:Int)))),[True,(!p0.fNeg)=true,(!p0.fNeg)=true,(!p0.fNeg)=true])) (.c4 trivial ((Zfj (Z0n Z05) hb11)) ((Zfj (Z0n Z05) hb11)) ((Zfj (Z0n Z05) hb11)) AllP.nil)
    · injection h with h; subst h
      exact Zf4.of_run _ (by kernel_rfl:Zg4 Try.prog 518 (partOf Try.f59 [1,1,1,1,0,0,0]) [.reg [{}, {}, {}, {},w0,w0, { h:=.pick false }, {}],.adj [.keep [1,4,32] [1]]] (Z74 p0 r10 )=some (.normal,(Z41 p0 r10 false),[True,(!p0.fNeg)=false,(!p0.fNeg)=false,(!p0.fNeg)=false])) (.c4 trivial ((Z00 (Z0n Z05) hb11)) ((Z00 (Z0n Z05) hb11)) ((Z00 (Z0n Z05) hb11)) AllP.nil)
def Z8m (r:(Int × Bool)):List PV:=[vi r.1,dv (.bool r.2)]
def Zca (N:Nat) (p0:Z0m):Option (Int × Bool):=(Z9e N p0).bind fun r4=>(match r4 with | .inl r5=>(Z5y N p0 (0:Int) (0:Int)).bind fun r10=>(Z89 N p0 r10).bind fun r12=>if r12=true then some (IntKind.wrap .i64 r10,true) else if p0.fNeg=true then if r10≤(1152921504606846976:Int) then some (IntKind.wrap .i64 (0 - IntKind.wrap .i64 r10),true) else some ((0:Int),false) else some ((0:Int),false) | .inr r6=>some ((0:Int),false))
theorem Z8z (N:Nat) (p0:Z0m) (r:(Int × Bool)) (h:Zca N p0=some r):Zf6 Try.prog 59 [.v (.agg [.dat (.bool p0.fNeg),.dat (.sl 1 (p0.fMag.map (rI .u32)))])] (Z8m r):=by
  unfold Zca at h
  obtain ⟨r4,hr4,h⟩:=bind_some h
  rcases r4 with r5 | r6
  · obtain ⟨r10,hr10,h⟩:=bind_some h
    obtain ⟨r12,hr12,h⟩:=bind_some h
    rcases Z08 h with ⟨hb13,h⟩ | ⟨hb13,h⟩
    · injection h with h; subst h
      exact Zf6.of_run 518 _ Try.func59 (by kernel_rfl:runF Try.prog Try.f59 [.v (.agg [.dat (.bool p0.fNeg),.dat (.sl 1 (p0.fMag.map (rI .u32)))])] 518 [.reg (e 3),.deep 1 [.keep [1] [1]] .normal (Z4n p0 r5),.reg [{}],.reg [{}, {}, { cast:=some (ai ((p0.fMag.length:Nat):Int)) }, {}],.adj [.keep [1,4,17,18,19] [1]],.cut (.exit 0) (Z4o p0 r10),.adj [.keep [1,4] [1]],.cut .normal (Z41 p0 r10 r12),.br true,.reg (e 4)]=some ((Z8m (IntKind.wrap .i64 r10,true)),[Zf4 Try.prog 518 (partOf Try.f59 [1,0]) (Z51 p0) .normal (Z4n p0 r5),True,AV.Le (ai (((p0.fMag.map (rI .u32)).length:Nat):Int)) (ai ((p0.fMag.length:Nat):Int)),Zf4 Try.prog 518 (partOf Try.f59 [1,1,1,0,1,0]) (Z6e p0 (0:Int) (0:Int)) (.exit 0) (Z4o p0 r10),Zf4 Try.prog 518 (partOf Try.f59 [1,1,1,1,0,0,0]) (Z74 p0 r10) .normal (Z41 p0 r10 r12),r12=true])) (.c4 (Z7d N p0 (.inl r5) hr4) trivial Zfv (Zf4.of_loop (Z8n N p0 (0:Int) (0:Int) r10 hr10)) (.c2 (Z8k N p0 r10 r12 hr12) ((Zfj Z05 hb13)) AllP.nil))
    · rcases Z08 h with ⟨hb14,h⟩ | ⟨hb14,h⟩
      · rcases Z08 h with ⟨hb15,h⟩ | ⟨hb15,h⟩
        · injection h with h; subst h
          exact Zf6.of_run 518 _ Try.func59 (by kernel_rfl:runF Try.prog Try.f59 [.v (.agg [.dat (.bool p0.fNeg),.dat (.sl 1 (p0.fMag.map (rI .u32)))])] 518 [.reg (e 3),.deep 1 [.keep [1] [1]] .normal (Z4n p0 r5),.reg [{}],.reg [{}, {}, { cast:=some (ai ((p0.fMag.length:Nat):Int)) }, {}],.adj [.keep [1,4,17,18,19] [1]],.cut (.exit 0) (Z4o p0 r10),.adj [.keep [1,4] [1]],.cut .normal (Z41 p0 r10 r12),.br false,.reg [{}, {}, {}, {}, {}, { h:=.pick true }, {}],.br true,.reg (e 5)]=some ((Z8m (IntKind.wrap .i64 (0 - IntKind.wrap .i64 r10),true)),[Zf4 Try.prog 518 (partOf Try.f59 [1,0]) (Z51 p0) .normal (Z4n p0 r5),True,AV.Le (ai (((p0.fMag.map (rI .u32)).length:Nat):Int)) (ai ((p0.fMag.length:Nat):Int)),Zf4 Try.prog 518 (partOf Try.f59 [1,1,1,0,1,0]) (Z6e p0 (0:Int) (0:Int)) (.exit 0) (Z4o p0 r10),Zf4 Try.prog 518 (partOf Try.f59 [1,1,1,1,0,0,0]) (Z74 p0 r10) .normal (Z41 p0 r10 r12),r12=false,True,p0.fNeg=true,p0.fNeg=true,p0.fNeg=true,(decide (r10≤(1152921504606846976:Int)))=true])) (.c8 (Z7d N p0 (.inl r5) hr4) trivial Zfv (Zf4.of_loop (Z8n N p0 (0:Int) (0:Int) r10 hr10)) (Z8k N p0 r10 r12 hr12) ((Z00 Z05 hb13)) trivial ((Zfj Z05 hb14)) (.c2 ((Zfj Z05 hb14)) ((Zfj Z05 hb14)) (.cons ((Zfj Z04 hb15)) AllP.nil)))
        · injection h with h; subst h
          exact Zf6.of_run 518 _ Try.func59 (by kernel_rfl:runF Try.prog Try.f59 [.v (.agg [.dat (.bool p0.fNeg),.dat (.sl 1 (p0.fMag.map (rI .u32)))])] 518 [.reg (e 3),.deep 1 [.keep [1] [1]] .normal (Z4n p0 r5),.reg [{}],.reg [{}, {}, { cast:=some (ai ((p0.fMag.length:Nat):Int)) }, {}],.adj [.keep [1,4,17,18,19] [1]],.cut (.exit 0) (Z4o p0 r10),.adj [.keep [1,4] [1]],.cut .normal (Z41 p0 r10 r12),.br false,.reg [{}, {}, {}, {}, {}, { h:=.pick true }, {}],.br false,.reg (e 2)]=some ((Z8m ((0:Int),false)),[Zf4 Try.prog 518 (partOf Try.f59 [1,0]) (Z51 p0) .normal (Z4n p0 r5),True,AV.Le (ai (((p0.fMag.map (rI .u32)).length:Nat):Int)) (ai ((p0.fMag.length:Nat):Int)),Zf4 Try.prog 518 (partOf Try.f59 [1,1,1,0,1,0]) (Z6e p0 (0:Int) (0:Int)) (.exit 0) (Z4o p0 r10),Zf4 Try.prog 518 (partOf Try.f59 [1,1,1,1,0,0,0]) (Z74 p0 r10) .normal (Z41 p0 r10 r12),r12=false,True,p0.fNeg=true,p0.fNeg=true,p0.fNeg=true,(decide (r10≤(1152921504606846976:Int)))=false])) (.c8 (Z7d N p0 (.inl r5) hr4) trivial Zfv (Zf4.of_loop (Z8n N p0 (0:Int) (0:Int) r10 hr10)) (Z8k N p0 r10 r12 hr12) ((Z00 Z05 hb13)) trivial ((Zfj Z05 hb14)) (.c2 ((Zfj Z05 hb14)) ((Zfj Z05 hb14)) (.cons ((Z00 Z04 hb15)) AllP.nil)))
      · injection h with h; subst h
        exact Zf6.of_run 518 _ Try.func59 (by kernel_rfl:runF Try.prog Try.f59 [.v (.agg [.dat (.bool p0.fNeg),.dat (.sl 1 (p0.fMag.map (rI .u32)))])] 518 [.reg (e 3),.deep 1 [.keep [1] [1]] .normal (Z4n p0 r5),.reg [{}],.reg [{}, {}, { cast:=some (ai ((p0.fMag.length:Nat):Int)) }, {}],.adj [.keep [1,4,17,18,19] [1]],.cut (.exit 0) (Z4o p0 r10),.adj [.keep [1,4] [1]],.cut .normal (Z41 p0 r10 r12),.br false,.reg [{}, {}, {},w0,w0, { h:=.pick false }, {}],.br false,.reg (e 2)]=some ((Z8m ((0:Int),false)),[Zf4 Try.prog 518 (partOf Try.f59 [1,0]) (Z51 p0) .normal (Z4n p0 r5),True,AV.Le (ai (((p0.fMag.map (rI .u32)).length:Nat):Int)) (ai ((p0.fMag.length:Nat):Int)),Zf4 Try.prog 518 (partOf Try.f59 [1,1,1,0,1,0]) (Z6e p0 (0:Int) (0:Int)) (.exit 0) (Z4o p0 r10),Zf4 Try.prog 518 (partOf Try.f59 [1,1,1,1,0,0,0]) (Z74 p0 r10) .normal (Z41 p0 r10 r12),r12=false,True,p0.fNeg=false,p0.fNeg=false,p0.fNeg=false,false=false])) (.c8 (Z7d N p0 (.inl r5) hr4) trivial Zfv (Zf4.of_loop (Z8n N p0 (0:Int) (0:Int) r10 hr10)) (Z8k N p0 r10 r12 hr12) ((Z00 Z05 hb13)) trivial ((Z00 Z05 hb14)) (.c2 ((Z00 Z05 hb14)) ((Z00 Z05 hb14)) (.cons rfl AllP.nil)))
  · injection h with h; subst h
    exact Zf6.of_run 518 _ Try.func59 (by kernel_rfl:runF Try.prog Try.f59 [.v (.agg [.dat (.bool p0.fNeg),.dat (.sl 1 (p0.fMag.map (rI .u32)))])] 518 [.reg (e 3),.deep 1 [.keep [1] [1]] .ret (Z8f p0 r6)]=some ((Z8m ((0:Int),false)),[Zf4 Try.prog 518 (partOf Try.f59 [1,0]) (Z51 p0) .ret (Z8f p0 r6)])) (.cons (Z7d N p0 (.inr r6) hr4) AllP.nil)
def Ze5 (r:Bool):List PV:=[dv (.bool r)]
def math_IsNaN (N:Nat) (p0:Nat):Option Bool:=some (Lift.fne p0 p0)
theorem math_IsNaN_spec (N:Nat) (p0:Nat) (r:Bool) (h:math_IsNaN N p0=some r):Zf6 Try.prog 80 [dv (.flt .f64 p0)] (Ze5 r):=by
  unfold math_IsNaN at h
  injection h with h; subst h
  exact Zf6.of_run 136 _ Try.func80 (by kernel_rfl:runF Try.prog Try.f80 [dv (.flt .f64 p0)] 136 [.reg [{}],.reg (e 4)]=some ((Ze5 (Lift.fne p0 p0)),[])) (AllP.nil)
def Zer (r:Bool):List PV:=[dv (.bool r)]
def real_none (N:Nat) (p0:Int):Option Bool:=(math_IsNaN N (Int.toNat p0)).bind fun r1=>some r1
theorem real_none_spec (N:Nat) (p0:Int) (r:Bool) (h:real_none N p0=some r):Zf6 Try.prog 72 [dv (.int .u64 p0)] (Zer r):=by
  unfold real_none at h
  obtain ⟨r1,hr1,h⟩:=bind_some h
  injection h with h; subst h
  exact Zf6.of_run 136 _ Try.func72 (by kernel_rfl:runF Try.prog Try.f72 [dv (.int .u64 p0)] 136 [.reg [{}],.reg [{}, { h:=.ext (.float .f64 (Int.toNat p0)) }, { h:=.pcall [dv (.bool r1)] }, {}]]=some ((Zer r1),[ExtTo Try.prog 81 #[.int .u64 p0] (.float .f64 (Int.toNat p0)),Zf6 Try.prog 80 [dv (.flt .f64 (Int.toNat p0))] [dv (.bool r1)]])) (.c2 (ext_frombits Try.func81 (by kernel_rfl) (by kernel_rfl) (by kernel_rfl) (by kernel_rfl)) ((math_IsNaN_spec N (Int.toNat p0) r1 hr1)) AllP.nil)
def Zda (r:Bool):List PV:=[dv (.bool r)]
def real_May (N:Nat) (p0:Int):Option Bool:=if p0=(9221120237041090561:Int) then some true else (real_none N p0).bind fun r2=>some (!r2)
theorem real_May_spec (N:Nat) (p0:Int) (r:Bool) (h:real_May N p0=some r):Zf6 Try.prog 61 [dv (.int .u64 p0)] (Zda r):=by
  unfold real_May at h
  rcases Z08 h with ⟨hb1,h⟩ | ⟨hb1,h⟩
  · injection h with h; subst h
    exact Zf6.of_run 164 _ Try.func61 (by kernel_rfl:runF Try.prog Try.f61 [dv (.int .u64 p0)] 164 [.reg [{}],.reg [{}, {}, {},w0,w0,w0, { h:=.pick true }, {}]]=some ((Zda true),[(p0 == (9221120237041090561:Int))=true,(p0 == (9221120237041090561:Int))=true,(p0 == (9221120237041090561:Int))=true,(p0 == (9221120237041090561:Int))=true])) (.c4 ((Zfj Z01 hb1)) ((Zfj Z01 hb1)) ((Zfj Z01 hb1)) ((Zfj Z01 hb1)) AllP.nil)
  · obtain ⟨r2,hr2,h⟩:=bind_some h
    injection h with h; subst h
    exact Zf6.of_run 164 _ Try.func61 (by kernel_rfl:runF Try.prog Try.f61 [dv (.int .u64 p0)] 164 [.reg [{}],.reg [{}, {}, {}, {}, { h:=.pcall [dv (.bool r2)] }, {}, { h:=.pick false }, {}]]=some ((Zda (!r2)),[(p0 == (9221120237041090561:Int))=false,(p0 == (9221120237041090561:Int))=false,Zf6 Try.prog 72 [dv (.int .u64 p0)] [dv (.bool r2)],(p0 == (9221120237041090561:Int))=false,(p0 == (9221120237041090561:Int))=false])) (.c4 ((Z00 Z01 hb1)) ((Z00 Z01 hb1)) ((real_none_spec N p0 r2 hr2)) ((Z00 Z01 hb1)) (.cons ((Z00 Z01 hb1)) AllP.nil))
def Z5u (p0:Z02):St:={ fr:=([.bad,(.v (.one (.ptr 1 0)))]++bads 136),obs:=[(1,.var (Z1b p0))] }
def Z2m (p0:Z02) (o:Bool):St:={ fr:=([.bad,(.v (.one (.ptr 1 0))),.bad,(da (.bool o))]++bads 134),obs:=[(1,.var (Z1b p0))] }
def Zal:Nat→Z02→Option (Bool)
  | 0,_=>none
  | N+1,p0=>if ((p0.fNum.fMag.length:Nat):Int)=(0:Int) then some (!p0.fNum.fNeg) else some false
theorem Z6g:∀ (N:Nat) (p0:Z02) (r:(Bool)),Zal N p0=some r→Zf4 Try.prog 1114 (partOf Try.f62 [1,0]) (Z5u p0 ) .normal (Z2m p0 r):=by
  intro N
  induction N with
  | zero=>intro p0 r h; cases h
  | succ N ih =>
    intro p0 r h
    rw [Zal] at h
    rcases Z08 h with ⟨hb1,h⟩ | ⟨hb1,h⟩
    · injection h with h; subst h
      exact Zf4.of_run _ (by kernel_rfl:Zg4 Try.prog 1114 (partOf Try.f62 [1,0]) [.reg [{}, {}, {}, { cast:=some (ai ((p0.fNum.fMag.length:Nat):Int)) }, {}, {}, {}, {}, {}, {}, { h:=.pick true }, {}],.adj [.keep [1,3] [1]]] (Z5u p0 )=some (.normal,(Z2m p0 (!p0.fNum.fNeg)),[True,AV.Le (ai (((p0.fNum.fMag.map (rI .u32)).length:Nat):Int)) (ai ((p0.fNum.fMag.length:Nat):Int)),(((p0.fNum.fMag.length:Nat):Int) == (0:Int))=true,(((p0.fNum.fMag.length:Nat):Int) == (0:Int))=true,(((p0.fNum.fMag.length:Nat):Int) == (0:Int))=true,True,(((p0.fNum.fMag.length:Nat):Int) == (0:Int))=true,(((p0.fNum.fMag.length:Nat):Int) == (0:Int))=true])) (.c8 trivial Zfv ((Zfj Z01 hb1)) ((Zfj Z01 hb1)) ((Zfj Z01 hb1)) trivial ((Zfj Z01 hb1)) ((Zfj Z01 hb1)) AllP.nil)
    · injection h with h; subst h
      exact Zf4.of_run _ (by kernel_rfl:Zg4 Try.prog 1114 (partOf Try.f62 [1,0]) [.reg [{}, {}, {}, { cast:=some (ai ((p0.fNum.fMag.length:Nat):Int)) }, {}, {},w0,w0,w0,w0, { h:=.pick false }, {}],.adj [.keep [1,3] [1]]] (Z5u p0 )=some (.normal,(Z2m p0 false),[True,AV.Le (ai (((p0.fNum.fMag.map (rI .u32)).length:Nat):Int)) (ai ((p0.fNum.fMag.length:Nat):Int)),(((p0.fNum.fMag.length:Nat):Int) == (0:Int))=false,(((p0.fNum.fMag.length:Nat):Int) == (0:Int))=false,(((p0.fNum.fMag.length:Nat):Int) == (0:Int))=false,(((p0.fNum.fMag.length:Nat):Int) == (0:Int))=false,(((p0.fNum.fMag.length:Nat):Int) == (0:Int))=false])) (.c4 trivial Zfv ((Z00 Z01 hb1)) ((Z00 Z01 hb1)) (.c2 ((Z00 Z01 hb1)) ((Z00 Z01 hb1)) (.cons ((Z00 Z01 hb1)) AllP.nil)))
def Z17 (p0:Z02) (r2:(Bool)):St:={ fr:=([.bad,(.v (.one (.ptr 1 0))),.bad,(da (.bool r2))]++bads 12++[(ai p0.fKind)]++bads 121),obs:=[(1,.var (Z1b p0))] }
def Z0j (p0:Z02) (r2:(Bool)) (o:Bool):St:={ fr:=([.bad,(.v (.one (.ptr 1 0))),.bad,(da (.bool r2))]++bads 12++[(ai p0.fKind),(da (.bool o))]++bads 120),obs:=[(1,.var (Z1b p0))] }
def Zbv:Nat→Z02→(Bool)→Option (Bool)
  | 0,_,_=>none
  | N+1,p0,r2=>if p0.fKind=(1:Int) then some (p0.fKind == (1:Int)) else if p0.fKind=(4:Int) then some (p0.fKind == (4:Int)) else some (p0.fKind == (5:Int))
theorem Z11:∀ (N:Nat) (p0:Z02) (r2:(Bool)) (r:(Bool)),Zbv N p0 r2=some r→Zf4 Try.prog 1114 (partOf Try.f62 [1,1,0,1,0,0]) (Z17 p0 r2 ) .normal (Z0j p0 r2 r):=by
  intro N
  induction N with
  | zero=>intro p0 r2 r h; cases h
  | succ N ih =>
    intro p0 r2 r h
    rw [Zbv] at h
    rcases Z08 h with ⟨hb3,h⟩ | ⟨hb3,h⟩
    · injection h with h; subst h
      exact Zf4.of_run _ (by kernel_rfl:Zg4 Try.prog 1114 (partOf Try.f62 [1,1,0,1,0,0]) [.reg (e 2),.br true,.adj [.keep [1,3,16,17] [1]]] (Z17 p0 r2 )=some (.normal,(Z0j p0 r2 (p0.fKind == (1:Int))),[(p0.fKind == (1:Int))=true])) (.cons ((Zfj Z01 hb3)) AllP.nil)
    · rcases Z08 h with ⟨hb4,h⟩ | ⟨hb4,h⟩
      · injection h with h; subst h
        exact Zf4.of_run _ (by kernel_rfl:Zg4 Try.prog 1114 (partOf Try.f62 [1,1,0,1,0,0]) [.reg (e 2),.br false,.reg (e 2),.br true,.adj [.keep [1,3,16,17] [1]]] (Z17 p0 r2 )=some (.normal,(Z0j p0 r2 (p0.fKind == (4:Int))),[(p0.fKind == (1:Int))=false,(p0.fKind == (4:Int))=true])) (.c2 ((Z00 Z01 hb3)) ((Zfj Z01 hb4)) AllP.nil)
      · injection h with h; subst h
        exact Zf4.of_run _ (by kernel_rfl:Zg4 Try.prog 1114 (partOf Try.f62 [1,1,0,1,0,0]) [.reg (e 2),.br false,.reg (e 2),.br false,.reg (e 2),.adj [.keep [1,3,16,17] [1]]] (Z17 p0 r2 )=some (.normal,(Z0j p0 r2 (p0.fKind == (5:Int))),[(p0.fKind == (1:Int))=false,(p0.fKind == (4:Int))=false])) (.c2 ((Z00 Z01 hb3)) ((Z00 Z01 hb4)) AllP.nil)
def Z6d (p0:Z02) (r2:(Bool)):St:={ fr:=([.bad,(.v (.one (.ptr 1 0))),.bad,(da (.bool r2))]++bads 12++[(ai p0.fKind)]++bads 121),obs:=[(1,.var (Z1b p0))] }
def Z3c (p0:Z02) (r2:(Bool)) (o:Bool):St:={ fr:=([.bad,(.v (.one (.ptr 1 0))),.bad,(da (.bool r2))]++bads 93++[(da (.bool o))]++bads 40),obs:=[(1,.var (Z1b p0))] }
def Zbx:Nat→Z02→(Bool)→Option (Bool)
  | 0,_,_=>none
  | N+1,p0,r2=>if p0.fKind=(6:Int) then some (p0.fKind == (6:Int)) else some (p0.fKind == (8:Int))
theorem Z7i:∀ (N:Nat) (p0:Z02) (r2:(Bool)) (r:(Bool)),Zbx N p0 r2=some r→Zf4 Try.prog 1114 (partOf Try.f62 [1,1,0,1,0,1,1,1,1,1,1,1,1,0]) (Z6d p0 r2 ) .normal (Z3c p0 r2 r):=by
  intro N
  induction N with
  | zero=>intro p0 r2 r h; cases h
  | succ N ih =>
    intro p0 r2 r h
    rw [Zbx] at h
    rcases Z08 h with ⟨hb22,h⟩ | ⟨hb22,h⟩
    · injection h with h; subst h
      exact Zf4.of_run _ (by kernel_rfl:Zg4 Try.prog 1114 (partOf Try.f62 [1,1,0,1,0,1,1,1,1,1,1,1,1,0]) [.reg (e 2),.br true,.adj [.keep [1,3,97] [1]]] (Z6d p0 r2 )=some (.normal,(Z3c p0 r2 (p0.fKind == (6:Int))),[(p0.fKind == (6:Int))=true])) (.cons ((Zfj Z01 hb22)) AllP.nil)
    · injection h with h; subst h
      exact Zf4.of_run _ (by kernel_rfl:Zg4 Try.prog 1114 (partOf Try.f62 [1,1,0,1,0,1,1,1,1,1,1,1,1,0]) [.reg (e 2),.br false,.reg (e 2),.adj [.keep [1,3,97] [1]]] (Z6d p0 r2 )=some (.normal,(Z3c p0 r2 (p0.fKind == (8:Int))),[(p0.fKind == (6:Int))=false])) (.cons ((Z00 Z01 hb22)) AllP.nil)
def Z0x (p0:Z02) (r2:(Bool)):St:={ fr:=([.bad,(.v (.one (.ptr 1 0))),.bad,(da (.bool r2))]++bads 134),obs:=[(1,.var (Z1b p0))] }
def Z3n (p0:Z02) (r2:(Bool)) (o:Unit):St:={ fr:=([.bad,(.v (.one (.ptr 1 0))),.bad,(da (.bool r2))]++bads 134),obs:=[(1,.var (Z1b p0))] }
def Z15 (p0:Z02) (r2:(Bool)) (o:Bool):St:={ fr:=([.bad,.bad,(da (.bool o))]++bads 135),obs:=[] }
def Zbw:Nat→Z02→(Bool)→Option ((Unit) ⊕ (Bool))
  | 0,_,_=>none
  | N+1,p0,r2=>(Zbv N p0 r2).bind fun r5=>if r5=true then if r2=true then if p0.fBits=(0:Int) then if p0.fBytes=(ByteArray.mk #[]) then some (.inr (((p0.fArgs.length:Nat):Int) == (0:Int))) else some (.inr false) else some (.inr false) else some (.inr false) else if p0.fKind=(2:Int) then if p0.fN=(0:Int) then if p0.fBits=(0:Int) then if p0.fBytes=(ByteArray.mk #[]) then some (.inr (((p0.fArgs.length:Nat):Int) == (0:Int))) else some (.inr false) else some (.inr false) else some (.inr false) else if p0.fKind=(3:Int) then if p0.fN=(0:Int) then if r2=true then if p0.fBytes=(ByteArray.mk #[]) then some (.inr (((p0.fArgs.length:Nat):Int) == (0:Int))) else some (.inr false) else some (.inr false) else some (.inr false) else if p0.fKind=(9:Int) then if p0.fN=(0:Int) then if r2=true then if p0.fBits=(0:Int) then some (.inr (((p0.fArgs.length:Nat):Int) == (0:Int))) else some (.inr false) else some (.inr false) else some (.inr false) else (Zbx N p0 r2).bind fun r23=>if r23=true then if p0.fN=(0:Int) then if r2=true then if p0.fBits=(0:Int) then some (.inr (p0.fBytes.toList == (ByteArray.mk #[]).toList)) else some (.inr false) else some (.inr false) else some (.inr false) else some (.inl ())
theorem Z6f:∀ (N:Nat) (p0:Z02) (r2:(Bool)) (r:((Unit) ⊕ (Bool))),Zbw N p0 r2=some r→match r with | .inl o=>Zf4 Try.prog 1114 (partOf Try.f62 [1,1,0]) (Z0x p0 r2 ) .normal (Z3n p0 r2 o) | .inr o=>Zf4 Try.prog 1114 (partOf Try.f62 [1,1,0]) (Z0x p0 r2 ) .ret (Z15 p0 r2 o):=by
  intro N
  induction N with
  | zero=>intro p0 r2 r h; cases h
  | succ N ih =>
    intro p0 r2 r h
    rw [Zbw] at h
    obtain ⟨r5,hr5,h⟩:=bind_some h
    rcases Z08 h with ⟨hb6,h⟩ | ⟨hb6,h⟩
    · rcases Z08 h with ⟨hb7,h⟩ | ⟨hb7,h⟩
      · rcases Z08 h with ⟨hb8,h⟩ | ⟨hb8,h⟩
        · rcases Z08 h with ⟨hb9,h⟩ | ⟨hb9,h⟩
          · injection h with h; subst h
            exact Zf4.of_run _ (by kernel_rfl:Zg4 Try.prog 1114 (partOf Try.f62 [1,1,0]) [.reg (e 2),.deep 2 [.keep [1,3,16] [1]] .normal (Z0j p0 r2 r5),.br true,.reg [{}, {}, {}, {}, {}, { h:=.pick true }, {}, {}, {}, {}, { h:=.pick true }, {}, {}, {}, { cast:=some (ai ((p0.fArgs.length:Nat):Int)) }, {}, { h:=.pick true }, {}],.adj [.keep [2] []]] (Z0x p0 r2 )=some (.ret,(Z15 p0 r2 (((p0.fArgs.length:Nat):Int) == (0:Int))),[True,Zf4 Try.prog 1114 (partOf Try.f62 [1,1,0,1,0,0]) (Z17 p0 r2) .normal (Z0j p0 r2 r5),r5=true,r2=true,r2=true,True,r2=true,r2=true,(p0.fBits == (0:Int))=true,(p0.fBits == (0:Int))=true,True,(p0.fBits == (0:Int))=true,(p0.fBits == (0:Int))=true,(p0.fBytes.toList == (ByteArray.mk #[]).toList)=true,(p0.fBytes.toList == (ByteArray.mk #[]).toList)=true,True,(p0.fBytes.toList == (ByteArray.mk #[]).toList)=true,AV.Le (ai (((p0.fArgs.map Z03).length:Nat):Int)) (ai ((p0.fArgs.length:Nat):Int)),(p0.fBytes.toList == (ByteArray.mk #[]).toList)=true,(p0.fBytes.toList == (ByteArray.mk #[]).toList)=true])) (.c8 trivial (Z11 N p0 r2 r5 hr5) ((Zfj Z05 hb6)) ((Zfj Z05 hb7)) ((Zfj Z05 hb7)) trivial ((Zfj Z05 hb7)) ((Zfj Z05 hb7)) (.c8 ((Zfj Z01 hb8)) ((Zfj Z01 hb8)) trivial ((Zfj Z01 hb8)) ((Zfj Z01 hb8)) ((Zfj Z1a hb9)) ((Zfj Z1a hb9)) trivial (.c4 ((Zfj Z1a hb9)) Zfv ((Zfj Z1a hb9)) ((Zfj Z1a hb9)) AllP.nil)))
          · injection h with h; subst h
            exact Zf4.of_run _ (by kernel_rfl:Zg4 Try.prog 1114 (partOf Try.f62 [1,1,0]) [.reg (e 2),.deep 2 [.keep [1,3,16] [1]] .normal (Z0j p0 r2 r5),.br true,.reg [{}, {}, {}, {}, {}, { h:=.pick true }, {}, {}, {}, {}, { h:=.pick true }, {},w0,w0,w0,w0, { h:=.pick false }, {}],.adj [.keep [2] []]] (Z0x p0 r2 )=some (.ret,(Z15 p0 r2 false),[True,Zf4 Try.prog 1114 (partOf Try.f62 [1,1,0,1,0,0]) (Z17 p0 r2) .normal (Z0j p0 r2 r5),r5=true,r2=true,r2=true,True,r2=true,r2=true,(p0.fBits == (0:Int))=true,(p0.fBits == (0:Int))=true,True,(p0.fBits == (0:Int))=true,(p0.fBits == (0:Int))=true,(p0.fBytes.toList == (ByteArray.mk #[]).toList)=false,(p0.fBytes.toList == (ByteArray.mk #[]).toList)=false,(p0.fBytes.toList == (ByteArray.mk #[]).toList)=false,(p0.fBytes.toList == (ByteArray.mk #[]).toList)=false,(p0.fBytes.toList == (ByteArray.mk #[]).toList)=false])) (.c8 trivial (Z11 N p0 r2 r5 hr5) ((Zfj Z05 hb6)) ((Zfj Z05 hb7)) ((Zfj Z05 hb7)) trivial ((Zfj Z05 hb7)) ((Zfj Z05 hb7)) (.c8 ((Zfj Z01 hb8)) ((Zfj Z01 hb8)) trivial ((Zfj Z01 hb8)) ((Zfj Z01 hb8)) ((Z00 Z1a hb9)) ((Z00 Z1a hb9)) ((Z00 Z1a hb9)) (.c2 ((Z00 Z1a hb9)) ((Z00 Z1a hb9)) AllP.nil)))
        · injection h with h; subst h
          exact Zf4.of_run _ (by kernel_rfl:Zg4 Try.prog 1114 (partOf Try.f62 [1,1,0]) [.reg (e 2),.deep 2 [.keep [1,3,16] [1]] .normal (Z0j p0 r2 r5),.br true,.reg [{}, {}, {}, {}, {}, { h:=.pick true }, {},w0,w0,w0, { h:=.pick false }, {},w0,w0,w0,w0, { h:=.pick false }, {}],.adj [.keep [2] []]] (Z0x p0 r2 )=some (.ret,(Z15 p0 r2 false),[True,Zf4 Try.prog 1114 (partOf Try.f62 [1,1,0,1,0,0]) (Z17 p0 r2) .normal (Z0j p0 r2 r5),r5=true,r2=true,r2=true,True,r2=true,r2=true,(p0.fBits == (0:Int))=false,(p0.fBits == (0:Int))=false,(p0.fBits == (0:Int))=false,(p0.fBits == (0:Int))=false,false=false,false=false,false=false,false=false,false=false])) (.c8 trivial (Z11 N p0 r2 r5 hr5) ((Zfj Z05 hb6)) ((Zfj Z05 hb7)) ((Zfj Z05 hb7)) trivial ((Zfj Z05 hb7)) ((Zfj Z05 hb7)) (.c8 ((Z00 Z01 hb8)) ((Z00 Z01 hb8)) ((Z00 Z01 hb8)) ((Z00 Z01 hb8)) rfl rfl rfl rfl (.cons rfl AllP.nil)))
      · injection h with h; subst h
        exact Zf4.of_run _ (by kernel_rfl:Zg4 Try.prog 1114 (partOf Try.f62 [1,1,0]) [.reg (e 2),.deep 2 [.keep [1,3,16] [1]] .normal (Z0j p0 r2 r5),.br true,.reg [{}, {},w0,w0,w0, { h:=.pick false }, {},w0,w0,w0, { h:=.pick false }, {},w0,w0,w0,w0, { h:=.pick false }, {}],.adj [.keep [2] []]] (Z0x p0 r2 )=some (.ret,(Z15 p0 r2 false),[True,Zf4 Try.prog 1114 (partOf Try.f62 [1,1,0,1,0,0]) (Z17 p0 r2) .normal (Z0j p0 r2 r5),r5=true,r2=false,r2=false,r2=false,r2=false,false=false,false=false,false=false,false=false,false=false,false=false,false=false,false=false,false=false])) (.c8 trivial (Z11 N p0 r2 r5 hr5) ((Zfj Z05 hb6)) ((Z00 Z05 hb7)) ((Z00 Z05 hb7)) ((Z00 Z05 hb7)) ((Z00 Z05 hb7)) rfl (.c8 rfl rfl rfl rfl rfl rfl rfl rfl AllP.nil))
    · rcases Z08 h with ⟨hb10,h⟩ | ⟨hb10,h⟩
      · rcases Z08 h with ⟨hb11,h⟩ | ⟨hb11,h⟩
        · rcases Z08 h with ⟨hb12,h⟩ | ⟨hb12,h⟩
          · rcases Z08 h with ⟨hb13,h⟩ | ⟨hb13,h⟩
            · injection h with h; subst h
              exact Zf4.of_run _ (by kernel_rfl:Zg4 Try.prog 1114 (partOf Try.f62 [1,1,0]) [.reg (e 2),.deep 2 [.keep [1,3,16] [1]] .normal (Z0j p0 r2 r5),.br false,.reg (e 2),.br true,.reg [{}, {}, {}, {}, {}, {}, {}, { h:=.pick true }, {}, {}, {}, {}, { h:=.pick true }, {}, {}, {}, { cast:=some (ai ((p0.fArgs.length:Nat):Int)) }, {}, { h:=.pick true }, {}],.adj [.keep [2] []]] (Z0x p0 r2 )=some (.ret,(Z15 p0 r2 (((p0.fArgs.length:Nat):Int) == (0:Int))),[True,Zf4 Try.prog 1114 (partOf Try.f62 [1,1,0,1,0,0]) (Z17 p0 r2) .normal (Z0j p0 r2 r5),r5=false,(p0.fKind == (2:Int))=true,True,(p0.fN == (0:Int))=true,(p0.fN == (0:Int))=true,True,(p0.fN == (0:Int))=true,(p0.fN == (0:Int))=true,(p0.fBits == (0:Int))=true,(p0.fBits == (0:Int))=true,True,(p0.fBits == (0:Int))=true,(p0.fBits == (0:Int))=true,(p0.fBytes.toList == (ByteArray.mk #[]).toList)=true,(p0.fBytes.toList == (ByteArray.mk #[]).toList)=true,True,(p0.fBytes.toList == (ByteArray.mk #[]).toList)=true,AV.Le (ai (((p0.fArgs.map Z03).length:Nat):Int)) (ai ((p0.fArgs.length:Nat):Int)),(p0.fBytes.toList == (ByteArray.mk #[]).toList)=true,(p0.fBytes.toList == (ByteArray.mk #[]).toList)=true])) (.c8 trivial (Z11 N p0 r2 r5 hr5) ((Z00 Z05 hb6)) ((Zfj Z01 hb10)) trivial ((Zfj Z01 hb11)) ((Zfj Z01 hb11)) trivial (.c8 ((Zfj Z01 hb11)) ((Zfj Z01 hb11)) ((Zfj Z01 hb12)) ((Zfj Z01 hb12)) trivial ((Zfj Z01 hb12)) ((Zfj Z01 hb12)) ((Zfj Z1a hb13)) (.c4 ((Zfj Z1a hb13)) trivial ((Zfj Z1a hb13)) Zfv (.c2 ((Zfj Z1a hb13)) ((Zfj Z1a hb13)) AllP.nil))))
            · injection h with h; subst h
              exact Zf4.of_run _ (by kernel_rfl:Zg4 Try.prog 1114 (partOf Try.f62 [1,1,0]) [.reg (e 2),.deep 2 [.keep [1,3,16] [1]] .normal (Z0j p0 r2 r5),.br false,.reg (e 2),.br true,.reg [{}, {}, {}, {}, {}, {}, {}, { h:=.pick true }, {}, {}, {}, {}, { h:=.pick true }, {},w0,w0,w0,w0, { h:=.pick false }, {}],.adj [.keep [2] []]] (Z0x p0 r2 )=some (.ret,(Z15 p0 r2 false),[True,Zf4 Try.prog 1114 (partOf Try.f62 [1,1,0,1,0,0]) (Z17 p0 r2) .normal (Z0j p0 r2 r5),r5=false,(p0.fKind == (2:Int))=true,True,(p0.fN == (0:Int))=true,(p0.fN == (0:Int))=true,True,(p0.fN == (0:Int))=true,(p0.fN == (0:Int))=true,(p0.fBits == (0:Int))=true,(p0.fBits == (0:Int))=true,True,(p0.fBits == (0:Int))=true,(p0.fBits == (0:Int))=true,(p0.fBytes.toList == (ByteArray.mk #[]).toList)=false,(p0.fBytes.toList == (ByteArray.mk #[]).toList)=false,(p0.fBytes.toList == (ByteArray.mk #[]).toList)=false,(p0.fBytes.toList == (ByteArray.mk #[]).toList)=false,(p0.fBytes.toList == (ByteArray.mk #[]).toList)=false])) (.c8 trivial (Z11 N p0 r2 r5 hr5) ((Z00 Z05 hb6)) ((Zfj Z01 hb10)) trivial ((Zfj Z01 hb11)) ((Zfj Z01 hb11)) trivial (.c8 ((Zfj Z01 hb11)) ((Zfj Z01 hb11)) ((Zfj Z01 hb12)) ((Zfj Z01 hb12)) trivial ((Zfj Z01 hb12)) ((Zfj Z01 hb12)) ((Z00 Z1a hb13)) (.c4 ((Z00 Z1a hb13)) ((Z00 Z1a hb13)) ((Z00 Z1a hb13)) ((Z00 Z1a hb13)) AllP.nil)))
          · injection h with h; subst h
            exact Zf4.of_run _ (by kernel_rfl:Zg4 Try.prog 1114 (partOf Try.f62 [1,1,0]) [.reg (e 2),.deep 2 [.keep [1,3,16] [1]] .normal (Z0j p0 r2 r5),.br false,.reg (e 2),.br true,.reg [{}, {}, {}, {}, {}, {}, {}, { h:=.pick true }, {},w0,w0,w0, { h:=.pick false }, {},w0,w0,w0,w0, { h:=.pick false }, {}],.adj [.keep [2] []]] (Z0x p0 r2 )=some (.ret,(Z15 p0 r2 false),[True,Zf4 Try.prog 1114 (partOf Try.f62 [1,1,0,1,0,0]) (Z17 p0 r2) .normal (Z0j p0 r2 r5),r5=false,(p0.fKind == (2:Int))=true,True,(p0.fN == (0:Int))=true,(p0.fN == (0:Int))=true,True,(p0.fN == (0:Int))=true,(p0.fN == (0:Int))=true,(p0.fBits == (0:Int))=false,(p0.fBits == (0:Int))=false,(p0.fBits == (0:Int))=false,(p0.fBits == (0:Int))=false,false=false,false=false,false=false,false=false,false=false])) (.c8 trivial (Z11 N p0 r2 r5 hr5) ((Z00 Z05 hb6)) ((Zfj Z01 hb10)) trivial ((Zfj Z01 hb11)) ((Zfj Z01 hb11)) trivial (.c8 ((Zfj Z01 hb11)) ((Zfj Z01 hb11)) ((Z00 Z01 hb12)) ((Z00 Z01 hb12)) ((Z00 Z01 hb12)) ((Z00 Z01 hb12)) rfl rfl (.c2 rfl rfl (.cons rfl AllP.nil))))
        · injection h with h; subst h
          exact Zf4.of_run _ (by kernel_rfl:Zg4 Try.prog 1114 (partOf Try.f62 [1,1,0]) [.reg (e 2),.deep 2 [.keep [1,3,16] [1]] .normal (Z0j p0 r2 r5),.br false,.reg (e 2),.br true,.reg [{}, {}, {}, {},w0,w0,w0, { h:=.pick false }, {},w0,w0,w0, { h:=.pick false }, {},w0,w0,w0,w0, { h:=.pick false }, {}],.adj [.keep [2] []]] (Z0x p0 r2 )=some (.ret,(Z15 p0 r2 false),[True,Zf4 Try.prog 1114 (partOf Try.f62 [1,1,0,1,0,0]) (Z17 p0 r2) .normal (Z0j p0 r2 r5),r5=false,(p0.fKind == (2:Int))=true,True,(p0.fN == (0:Int))=false,(p0.fN == (0:Int))=false,(p0.fN == (0:Int))=false,(p0.fN == (0:Int))=false,false=false,false=false,false=false,false=false,false=false,false=false,false=false,false=false,false=false])) (.c8 trivial (Z11 N p0 r2 r5 hr5) ((Z00 Z05 hb6)) ((Zfj Z01 hb10)) trivial ((Z00 Z01 hb11)) ((Z00 Z01 hb11)) ((Z00 Z01 hb11)) (.c8 ((Z00 Z01 hb11)) rfl rfl rfl rfl rfl rfl rfl (.c2 rfl rfl AllP.nil)))
      · rcases Z08 h with ⟨hb14,h⟩ | ⟨hb14,h⟩
        · rcases Z08 h with ⟨hb15,h⟩ | ⟨hb15,h⟩
          · rcases Z08 h with ⟨hb16,h⟩ | ⟨hb16,h⟩
            · rcases Z08 h with ⟨hb17,h⟩ | ⟨hb17,h⟩
              · injection h with h; subst h
                exact Zf4.of_run _ (by kernel_rfl:Zg4 Try.prog 1114 (partOf Try.f62 [1,1,0]) [.reg (e 2),.deep 2 [.keep [1,3,16] [1]] .normal (Z0j p0 r2 r5),.br false,.reg (e 2),.br false,.reg (e 2),.br true,.reg [{}, {}, {}, {}, {}, { h:=.pick true }, {}, {}, {}, {}, { h:=.pick true }, {}, {}, {}, { cast:=some (ai ((p0.fArgs.length:Nat):Int)) }, {}, { h:=.pick true }, {}],.adj [.keep [2] []]] (Z0x p0 r2 )=some (.ret,(Z15 p0 r2 (((p0.fArgs.length:Nat):Int) == (0:Int))),[True,Zf4 Try.prog 1114 (partOf Try.f62 [1,1,0,1,0,0]) (Z17 p0 r2) .normal (Z0j p0 r2 r5),r5=false,(p0.fKind == (2:Int))=false,(p0.fKind == (3:Int))=true,True,(p0.fN == (0:Int))=true,(p0.fN == (0:Int))=true,r2=true,r2=true,True,r2=true,r2=true,(p0.fBytes.toList == (ByteArray.mk #[]).toList)=true,(p0.fBytes.toList == (ByteArray.mk #[]).toList)=true,True,(p0.fBytes.toList == (ByteArray.mk #[]).toList)=true,AV.Le (ai (((p0.fArgs.map Z03).length:Nat):Int)) (ai ((p0.fArgs.length:Nat):Int)),(p0.fBytes.toList == (ByteArray.mk #[]).toList)=true,(p0.fBytes.toList == (ByteArray.mk #[]).toList)=true])) (.c8 trivial (Z11 N p0 r2 r5 hr5) ((Z00 Z05 hb6)) ((Z00 Z01 hb10)) ((Zfj Z01 hb14)) trivial ((Zfj Z01 hb15)) ((Zfj Z01 hb15)) (.c8 ((Zfj Z05 hb16)) ((Zfj Z05 hb16)) trivial ((Zfj Z05 hb16)) ((Zfj Z05 hb16)) ((Zfj Z1a hb17)) ((Zfj Z1a hb17)) trivial (.c4 ((Zfj Z1a hb17)) Zfv ((Zfj Z1a hb17)) ((Zfj Z1a hb17)) AllP.nil)))
              · injection h with h; subst h
                exact Zf4.of_run _ (by kernel_rfl:Zg4 Try.prog 1114 (partOf Try.f62 [1,1,0]) [.reg (e 2),.deep 2 [.keep [1,3,16] [1]] .normal (Z0j p0 r2 r5),.br false,.reg (e 2),.br false,.reg (e 2),.br true,.reg [{}, {}, {}, {}, {}, { h:=.pick true }, {}, {}, {}, {}, { h:=.pick true }, {},w0,w0,w0,w0, { h:=.pick false }, {}],.adj [.keep [2] []]] (Z0x p0 r2 )=some (.ret,(Z15 p0 r2 false),[True,Zf4 Try.prog 1114 (partOf Try.f62 [1,1,0,1,0,0]) (Z17 p0 r2) .normal (Z0j p0 r2 r5),r5=false,(p0.fKind == (2:Int))=false,(p0.fKind == (3:Int))=true,True,(p0.fN == (0:Int))=true,(p0.fN == (0:Int))=true,r2=true,r2=true,True,r2=true,r2=true,(p0.fBytes.toList == (ByteArray.mk #[]).toList)=false,(p0.fBytes.toList == (ByteArray.mk #[]).toList)=false,(p0.fBytes.toList == (ByteArray.mk #[]).toList)=false,(p0.fBytes.toList == (ByteArray.mk #[]).toList)=false,(p0.fBytes.toList == (ByteArray.mk #[]).toList)=false])) (.c8 trivial (Z11 N p0 r2 r5 hr5) ((Z00 Z05 hb6)) ((Z00 Z01 hb10)) ((Zfj Z01 hb14)) trivial ((Zfj Z01 hb15)) ((Zfj Z01 hb15)) (.c8 ((Zfj Z05 hb16)) ((Zfj Z05 hb16)) trivial ((Zfj Z05 hb16)) ((Zfj Z05 hb16)) ((Z00 Z1a hb17)) ((Z00 Z1a hb17)) ((Z00 Z1a hb17)) (.c2 ((Z00 Z1a hb17)) ((Z00 Z1a hb17)) AllP.nil)))
            · injection h with h; subst h
              exact Zf4.of_run _ (by kernel_rfl:Zg4 Try.prog 1114 (partOf Try.f62 [1,1,0]) [.reg (e 2),.deep 2 [.keep [1,3,16] [1]] .normal (Z0j p0 r2 r5),.br false,.reg (e 2),.br false,.reg (e 2),.br true,.reg [{}, {}, {}, {}, {}, { h:=.pick true }, {},w0,w0,w0, { h:=.pick false }, {},w0,w0,w0,w0, { h:=.pick false }, {}],.adj [.keep [2] []]] (Z0x p0 r2 )=some (.ret,(Z15 p0 r2 false),[True,Zf4 Try.prog 1114 (partOf Try.f62 [1,1,0,1,0,0]) (Z17 p0 r2) .normal (Z0j p0 r2 r5),r5=false,(p0.fKind == (2:Int))=false,(p0.fKind == (3:Int))=true,True,(p0.fN == (0:Int))=true,(p0.fN == (0:Int))=true,r2=false,r2=false,r2=false,r2=false,false=false,false=false,false=false,false=false,false=false])) (.c8 trivial (Z11 N p0 r2 r5 hr5) ((Z00 Z05 hb6)) ((Z00 Z01 hb10)) ((Zfj Z01 hb14)) trivial ((Zfj Z01 hb15)) ((Zfj Z01 hb15)) (.c8 ((Z00 Z05 hb16)) ((Z00 Z05 hb16)) ((Z00 Z05 hb16)) ((Z00 Z05 hb16)) rfl rfl rfl rfl (.cons rfl AllP.nil)))
          · injection h with h; subst h
            exact Zf4.of_run _ (by kernel_rfl:Zg4 Try.prog 1114 (partOf Try.f62 [1,1,0]) [.reg (e 2),.deep 2 [.keep [1,3,16] [1]] .normal (Z0j p0 r2 r5),.br false,.reg (e 2),.br false,.reg (e 2),.br true,.reg [{}, {}, {}, {},w0, { h:=.pick false }, {},w0,w0,w0, { h:=.pick false }, {},w0,w0,w0,w0, { h:=.pick false }, {}],.adj [.keep [2] []]] (Z0x p0 r2 )=some (.ret,(Z15 p0 r2 false),[True,Zf4 Try.prog 1114 (partOf Try.f62 [1,1,0,1,0,0]) (Z17 p0 r2) .normal (Z0j p0 r2 r5),r5=false,(p0.fKind == (2:Int))=false,(p0.fKind == (3:Int))=true,True,(p0.fN == (0:Int))=false,(p0.fN == (0:Int))=false,false=false,false=false,false=false,false=false,false=false,false=false,false=false,false=false,false=false])) (.c8 trivial (Z11 N p0 r2 r5 hr5) ((Z00 Z05 hb6)) ((Z00 Z01 hb10)) ((Zfj Z01 hb14)) trivial ((Z00 Z01 hb15)) ((Z00 Z01 hb15)) (.c8 rfl rfl rfl rfl rfl rfl rfl rfl (.cons rfl AllP.nil)))
        · rcases Z08 h with ⟨hb18,h⟩ | ⟨hb18,h⟩
          · rcases Z08 h with ⟨hb19,h⟩ | ⟨hb19,h⟩
            · rcases Z08 h with ⟨hb20,h⟩ | ⟨hb20,h⟩
              · rcases Z08 h with ⟨hb21,h⟩ | ⟨hb21,h⟩
                · injection h with h; subst h
                  exact Zf4.of_run _ (by kernel_rfl:Zg4 Try.prog 1114 (partOf Try.f62 [1,1,0]) [.reg (e 2),.deep 2 [.keep [1,3,16] [1]] .normal (Z0j p0 r2 r5),.br false,.reg (e 2),.br false,.reg (e 2),.br false,.reg (e 2),.br true,.reg [{}, {}, {}, {}, {}, { h:=.pick true }, {}, {}, {}, {}, { h:=.pick true }, {}, {}, {}, { cast:=some (ai ((p0.fArgs.length:Nat):Int)) }, {}, { h:=.pick true }, {}],.adj [.keep [2] []]] (Z0x p0 r2 )=some (.ret,(Z15 p0 r2 (((p0.fArgs.length:Nat):Int) == (0:Int))),[True,Zf4 Try.prog 1114 (partOf Try.f62 [1,1,0,1,0,0]) (Z17 p0 r2) .normal (Z0j p0 r2 r5),r5=false,(p0.fKind == (2:Int))=false,(p0.fKind == (3:Int))=false,(p0.fKind == (9:Int))=true,True,(p0.fN == (0:Int))=true,(p0.fN == (0:Int))=true,r2=true,r2=true,True,r2=true,r2=true,(p0.fBits == (0:Int))=true,(p0.fBits == (0:Int))=true,True,(p0.fBits == (0:Int))=true,AV.Le (ai (((p0.fArgs.map Z03).length:Nat):Int)) (ai ((p0.fArgs.length:Nat):Int)),(p0.fBits == (0:Int))=true,(p0.fBits == (0:Int))=true])) (.c8 trivial (Z11 N p0 r2 r5 hr5) ((Z00 Z05 hb6)) ((Z00 Z01 hb10)) ((Z00 Z01 hb14)) ((Zfj Z01 hb18)) trivial ((Zfj Z01 hb19)) (.c8 ((Zfj Z01 hb19)) ((Zfj Z05 hb20)) ((Zfj Z05 hb20)) trivial ((Zfj Z05 hb20)) ((Zfj Z05 hb20)) ((Zfj Z01 hb21)) ((Zfj Z01 hb21)) (.c4 trivial ((Zfj Z01 hb21)) Zfv ((Zfj Z01 hb21)) (.cons ((Zfj Z01 hb21)) AllP.nil))))
                · injection h with h; subst h
                  exact Zf4.of_run _ (by kernel_rfl:Zg4 Try.prog 1114 (partOf Try.f62 [1,1,0]) [.reg (e 2),.deep 2 [.keep [1,3,16] [1]] .normal (Z0j p0 r2 r5),.br false,.reg (e 2),.br false,.reg (e 2),.br false,.reg (e 2),.br true,.reg [{}, {}, {}, {}, {}, { h:=.pick true }, {}, {}, {}, {}, { h:=.pick true }, {},w0,w0,w0,w0, { h:=.pick false }, {}],.adj [.keep [2] []]] (Z0x p0 r2 )=some (.ret,(Z15 p0 r2 false),[True,Zf4 Try.prog 1114 (partOf Try.f62 [1,1,0,1,0,0]) (Z17 p0 r2) .normal (Z0j p0 r2 r5),r5=false,(p0.fKind == (2:Int))=false,(p0.fKind == (3:Int))=false,(p0.fKind == (9:Int))=true,True,(p0.fN == (0:Int))=true,(p0.fN == (0:Int))=true,r2=true,r2=true,True,r2=true,r2=true,(p0.fBits == (0:Int))=false,(p0.fBits == (0:Int))=false,(p0.fBits == (0:Int))=false,(p0.fBits == (0:Int))=false,(p0.fBits == (0:Int))=false])) (.c8 trivial (Z11 N p0 r2 r5 hr5) ((Z00 Z05 hb6)) ((Z00 Z01 hb10)) ((Z00 Z01 hb14)) ((Zfj Z01 hb18)) trivial ((Zfj Z01 hb19)) (.c8 ((Zfj Z01 hb19)) ((Zfj Z05 hb20)) ((Zfj Z05 hb20)) trivial ((Zfj Z05 hb20)) ((Zfj Z05 hb20)) ((Z00 Z01 hb21)) ((Z00 Z01 hb21)) (.c2 ((Z00 Z01 hb21)) ((Z00 Z01 hb21)) (.cons ((Z00 Z01 hb21)) AllP.nil))))
              · injection h with h; subst h
                exact Zf4.of_run _ (by kernel_rfl:Zg4 Try.prog 1114 (partOf Try.f62 [1,1,0]) [.reg (e 2),.deep 2 [.keep [1,3,16] [1]] .normal (Z0j p0 r2 r5),.br false,.reg (e 2),.br false,.reg (e 2),.br false,.reg (e 2),.br true,.reg [{}, {}, {}, {}, {}, { h:=.pick true }, {},w0,w0,w0, { h:=.pick false }, {},w0,w0,w0,w0, { h:=.pick false }, {}],.adj [.keep [2] []]] (Z0x p0 r2 )=some (.ret,(Z15 p0 r2 false),[True,Zf4 Try.prog 1114 (partOf Try.f62 [1,1,0,1,0,0]) (Z17 p0 r2) .normal (Z0j p0 r2 r5),r5=false,(p0.fKind == (2:Int))=false,(p0.fKind == (3:Int))=false,(p0.fKind == (9:Int))=true,True,(p0.fN == (0:Int))=true,(p0.fN == (0:Int))=true,r2=false,r2=false,r2=false,r2=false,false=false,false=false,false=false,false=false,false=false])) (.c8 trivial (Z11 N p0 r2 r5 hr5) ((Z00 Z05 hb6)) ((Z00 Z01 hb10)) ((Z00 Z01 hb14)) ((Zfj Z01 hb18)) trivial ((Zfj Z01 hb19)) (.c8 ((Zfj Z01 hb19)) ((Z00 Z05 hb20)) ((Z00 Z05 hb20)) ((Z00 Z05 hb20)) ((Z00 Z05 hb20)) rfl rfl rfl (.c2 rfl rfl AllP.nil)))
            · injection h with h; subst h
              exact Zf4.of_run _ (by kernel_rfl:Zg4 Try.prog 1114 (partOf Try.f62 [1,1,0]) [.reg (e 2),.deep 2 [.keep [1,3,16] [1]] .normal (Z0j p0 r2 r5),.br false,.reg (e 2),.br false,.reg (e 2),.br false,.reg (e 2),.br true,.reg [{}, {}, {}, {},w0, { h:=.pick false }, {},w0,w0,w0, { h:=.pick false }, {},w0,w0,w0,w0, { h:=.pick false }, {}],.adj [.keep [2] []]] (Z0x p0 r2 )=some (.ret,(Z15 p0 r2 false),[True,Zf4 Try.prog 1114 (partOf Try.f62 [1,1,0,1,0,0]) (Z17 p0 r2) .normal (Z0j p0 r2 r5),r5=false,(p0.fKind == (2:Int))=false,(p0.fKind == (3:Int))=false,(p0.fKind == (9:Int))=true,True,(p0.fN == (0:Int))=false,(p0.fN == (0:Int))=false,false=false,false=false,false=false,false=false,false=false,false=false,false=false,false=false,false=false])) (.c8 trivial (Z11 N p0 r2 r5 hr5) ((Z00 Z05 hb6)) ((Z00 Z01 hb10)) ((Z00 Z01 hb14)) ((Zfj Z01 hb18)) trivial ((Z00 Z01 hb19)) (.c8 ((Z00 Z01 hb19)) rfl rfl rfl rfl rfl rfl rfl (.c2 rfl rfl AllP.nil)))
          · obtain ⟨r23,hr23,h⟩:=bind_some h
            rcases Z08 h with ⟨hb24,h⟩ | ⟨hb24,h⟩
            · rcases Z08 h with ⟨hb25,h⟩ | ⟨hb25,h⟩
              · rcases Z08 h with ⟨hb26,h⟩ | ⟨hb26,h⟩
                · rcases Z08 h with ⟨hb27,h⟩ | ⟨hb27,h⟩
                  · injection h with h; subst h
                    exact Zf4.of_run _ (by kernel_rfl:Zg4 Try.prog 1114 (partOf Try.f62 [1,1,0]) [.reg (e 2),.deep 2 [.keep [1,3,16] [1]] .normal (Z0j p0 r2 r5),.br false,.reg (e 2),.br false,.reg (e 2),.br false,.reg (e 2),.br false,.deep 1 [.keep [1,3,16] [1]] .normal (Z3c p0 r2 r23),.br true,.reg [{}, {}, {}, {}, {}, { h:=.pick true }, {}, {}, {}, {}, { h:=.pick true }, {}, {}, {}, {}, { h:=.pick true }, {}],.adj [.keep [2] []]] (Z0x p0 r2 )=some (.ret,(Z15 p0 r2 (p0.fBytes.toList == (ByteArray.mk #[]).toList)),[True,Zf4 Try.prog 1114 (partOf Try.f62 [1,1,0,1,0,0]) (Z17 p0 r2) .normal (Z0j p0 r2 r5),r5=false,(p0.fKind == (2:Int))=false,(p0.fKind == (3:Int))=false,(p0.fKind == (9:Int))=false,Zf4 Try.prog 1114 (partOf Try.f62 [1,1,0,1,0,1,1,1,1,1,1,1,1,0]) (Z6d p0 r2) .normal (Z3c p0 r2 r23),r23=true,True,(p0.fN == (0:Int))=true,(p0.fN == (0:Int))=true,r2=true,r2=true,True,r2=true,r2=true,(p0.fBits == (0:Int))=true,(p0.fBits == (0:Int))=true,True,(p0.fBits == (0:Int))=true,(p0.fBits == (0:Int))=true])) (.c8 trivial (Z11 N p0 r2 r5 hr5) ((Z00 Z05 hb6)) ((Z00 Z01 hb10)) ((Z00 Z01 hb14)) ((Z00 Z01 hb18)) (Z7i N p0 r2 r23 hr23) ((Zfj Z05 hb24)) (.c8 trivial ((Zfj Z01 hb25)) ((Zfj Z01 hb25)) ((Zfj Z05 hb26)) ((Zfj Z05 hb26)) trivial ((Zfj Z05 hb26)) ((Zfj Z05 hb26)) (.c4 ((Zfj Z01 hb27)) ((Zfj Z01 hb27)) trivial ((Zfj Z01 hb27)) (.cons ((Zfj Z01 hb27)) AllP.nil))))
                  · injection h with h; subst h
                    exact Zf4.of_run _ (by kernel_rfl:Zg4 Try.prog 1114 (partOf Try.f62 [1,1,0]) [.reg (e 2),.deep 2 [.keep [1,3,16] [1]] .normal (Z0j p0 r2 r5),.br false,.reg (e 2),.br false,.reg (e 2),.br false,.reg (e 2),.br false,.deep 1 [.keep [1,3,16] [1]] .normal (Z3c p0 r2 r23),.br true,.reg [{}, {}, {}, {}, {}, { h:=.pick true }, {}, {}, {}, {}, { h:=.pick true }, {},w0,w0,w0, { h:=.pick false }, {}],.adj [.keep [2] []]] (Z0x p0 r2 )=some (.ret,(Z15 p0 r2 false),[True,Zf4 Try.prog 1114 (partOf Try.f62 [1,1,0,1,0,0]) (Z17 p0 r2) .normal (Z0j p0 r2 r5),r5=false,(p0.fKind == (2:Int))=false,(p0.fKind == (3:Int))=false,(p0.fKind == (9:Int))=false,Zf4 Try.prog 1114 (partOf Try.f62 [1,1,0,1,0,1,1,1,1,1,1,1,1,0]) (Z6d p0 r2) .normal (Z3c p0 r2 r23),r23=true,True,(p0.fN == (0:Int))=true,(p0.fN == (0:Int))=true,r2=true,r2=true,True,r2=true,r2=true,(p0.fBits == (0:Int))=false,(p0.fBits == (0:Int))=false,(p0.fBits == (0:Int))=false,(p0.fBits == (0:Int))=false])) (.c8 trivial (Z11 N p0 r2 r5 hr5) ((Z00 Z05 hb6)) ((Z00 Z01 hb10)) ((Z00 Z01 hb14)) ((Z00 Z01 hb18)) (Z7i N p0 r2 r23 hr23) ((Zfj Z05 hb24)) (.c8 trivial ((Zfj Z01 hb25)) ((Zfj Z01 hb25)) ((Zfj Z05 hb26)) ((Zfj Z05 hb26)) trivial ((Zfj Z05 hb26)) ((Zfj Z05 hb26)) (.c4 ((Z00 Z01 hb27)) ((Z00 Z01 hb27)) ((Z00 Z01 hb27)) ((Z00 Z01 hb27)) AllP.nil)))
                · injection h with h; subst h
                  exact Zf4.of_run _ (by kernel_rfl:Zg4 Try.prog 1114 (partOf Try.f62 [1,1,0]) [.reg (e 2),.deep 2 [.keep [1,3,16] [1]] .normal (Z0j p0 r2 r5),.br false,.reg (e 2),.br false,.reg (e 2),.br false,.reg (e 2),.br false,.deep 1 [.keep [1,3,16] [1]] .normal (Z3c p0 r2 r23),.br true,.reg [{}, {}, {}, {}, {}, { h:=.pick true }, {},w0,w0,w0, { h:=.pick false }, {},w0,w0,w0, { h:=.pick false }, {}],.adj [.keep [2] []]] (Z0x p0 r2 )=some (.ret,(Z15 p0 r2 false),[True,Zf4 Try.prog 1114 (partOf Try.f62 [1,1,0,1,0,0]) (Z17 p0 r2) .normal (Z0j p0 r2 r5),r5=false,(p0.fKind == (2:Int))=false,(p0.fKind == (3:Int))=false,(p0.fKind == (9:Int))=false,Zf4 Try.prog 1114 (partOf Try.f62 [1,1,0,1,0,1,1,1,1,1,1,1,1,0]) (Z6d p0 r2) .normal (Z3c p0 r2 r23),r23=true,True,(p0.fN == (0:Int))=true,(p0.fN == (0:Int))=true,r2=false,r2=false,r2=false,r2=false,false=false,false=false,false=false,false=false])) (.c8 trivial (Z11 N p0 r2 r5 hr5) ((Z00 Z05 hb6)) ((Z00 Z01 hb10)) ((Z00 Z01 hb14)) ((Z00 Z01 hb18)) (Z7i N p0 r2 r23 hr23) ((Zfj Z05 hb24)) (.c8 trivial ((Zfj Z01 hb25)) ((Zfj Z01 hb25)) ((Z00 Z05 hb26)) ((Z00 Z05 hb26)) ((Z00 Z05 hb26)) ((Z00 Z05 hb26)) rfl (.c2 rfl rfl (.cons rfl AllP.nil))))
              · injection h with h; subst h
                exact Zf4.of_run _ (by kernel_rfl:Zg4 Try.prog 1114 (partOf Try.f62 [1,1,0]) [.reg (e 2),.deep 2 [.keep [1,3,16] [1]] .normal (Z0j p0 r2 r5),.br false,.reg (e 2),.br false,.reg (e 2),.br false,.reg (e 2),.br false,.deep 1 [.keep [1,3,16] [1]] .normal (Z3c p0 r2 r23),.br true,.reg [{}, {}, {}, {},w0, { h:=.pick false }, {},w0,w0,w0, { h:=.pick false }, {},w0,w0,w0, { h:=.pick false }, {}],.adj [.keep [2] []]] (Z0x p0 r2 )=some (.ret,(Z15 p0 r2 false),[True,Zf4 Try.prog 1114 (partOf Try.f62 [1,1,0,1,0,0]) (Z17 p0 r2) .normal (Z0j p0 r2 r5),r5=false,(p0.fKind == (2:Int))=false,(p0.fKind == (3:Int))=false,(p0.fKind == (9:Int))=false,Zf4 Try.prog 1114 (partOf Try.f62 [1,1,0,1,0,1,1,1,1,1,1,1,1,0]) (Z6d p0 r2) .normal (Z3c p0 r2 r23),r23=true,True,(p0.fN == (0:Int))=false,(p0.fN == (0:Int))=false,false=false,false=false,false=false,false=false,false=false,false=false,false=false,false=false])) (.c8 trivial (Z11 N p0 r2 r5 hr5) ((Z00 Z05 hb6)) ((Z00 Z01 hb10)) ((Z00 Z01 hb14)) ((Z00 Z01 hb18)) (Z7i N p0 r2 r23 hr23) ((Zfj Z05 hb24)) (.c8 trivial ((Z00 Z01 hb25)) ((Z00 Z01 hb25)) rfl rfl rfl rfl rfl (.c2 rfl rfl (.cons rfl AllP.nil))))
            · injection h with h; subst h
              exact Zf4.of_run _ (by kernel_rfl:Zg4 Try.prog 1114 (partOf Try.f62 [1,1,0]) [.reg (e 2),.deep 2 [.keep [1,3,16] [1]] .normal (Z0j p0 r2 r5),.br false,.reg (e 2),.br false,.reg (e 2),.br false,.reg (e 2),.br false,.deep 1 [.keep [1,3,16] [1]] .normal (Z3c p0 r2 r23),.br false,.adj [.keep [1,3] [1]]] (Z0x p0 r2 )=some (.normal,(Z3n p0 r2 ()),[True,Zf4 Try.prog 1114 (partOf Try.f62 [1,1,0,1,0,0]) (Z17 p0 r2) .normal (Z0j p0 r2 r5),r5=false,(p0.fKind == (2:Int))=false,(p0.fKind == (3:Int))=false,(p0.fKind == (9:Int))=false,Zf4 Try.prog 1114 (partOf Try.f62 [1,1,0,1,0,1,1,1,1,1,1,1,1,0]) (Z6d p0 r2) .normal (Z3c p0 r2 r23),r23=false])) (.c8 trivial (Z11 N p0 r2 r5 hr5) ((Z00 Z05 hb6)) ((Z00 Z01 hb10)) ((Z00 Z01 hb14)) ((Z00 Z01 hb18)) (Z7i N p0 r2 r23 hr23) ((Z00 Z05 hb24)) AllP.nil)
def Z7u (r:Bool):List PV:=[dv (.bool r)]
def Zey (N:Nat) (p0:Z02):Option Bool:=(Zal N p0).bind fun r2=>(Zbw N p0 r2).bind fun r28=>(match r28 with | .inl r29=>if p0.fN=(0:Int) then if r2=true then if p0.fBits=(0:Int) then if p0.fBytes=(ByteArray.mk #[]) then some (((p0.fArgs.length:Nat):Int) == (0:Int)) else some false else some false else some false else some false | .inr r30=>some r30)
theorem Ze3 (N:Nat) (p0:Z02) (r:Bool) (h:Zey N p0=some r):Zf6 Try.prog 62 [.v (.agg (Z09 p0))] (Z7u r):=by
  unfold Zey at h
  obtain ⟨r2,hr2,h⟩:=bind_some h
  obtain ⟨r28,hr28,h⟩:=bind_some h
  rcases r28 with r29 | r30
  · rcases Z08 h with ⟨hb31,h⟩ | ⟨hb31,h⟩
    · rcases Z08 h with ⟨hb32,h⟩ | ⟨hb32,h⟩
      · rcases Z08 h with ⟨hb33,h⟩ | ⟨hb33,h⟩
        · rcases Z08 h with ⟨hb34,h⟩ | ⟨hb34,h⟩
          · injection h with h; subst h
            exact Zf6.of_run 1114 _ Try.func62 (by kernel_rfl:runF Try.prog Try.f62 [.v (.agg (Z09 p0))] 1114 [.reg (e 2),.adj [.keep [1] [1]],.cut .normal (Z2m p0 r2),.deep 1 [.keep [1,3] [1]] .normal (Z3n p0 r2 r29),.reg [{}, {}, {}, {}, {}, { h:=.pick true }, {}, {}, {}, {}, { h:=.pick true }, {}, {}, {}, {}, { h:=.pick true }, {}, {}, {}, { cast:=some (ai ((p0.fArgs.length:Nat):Int)) }, {}, { h:=.pick true }, {}]]=some ((Z7u (((p0.fArgs.length:Nat):Int) == (0:Int))),[Zf4 Try.prog 1114 (partOf Try.f62 [1,0]) (Z5u p0) .normal (Z2m p0 r2),Zf4 Try.prog 1114 (partOf Try.f62 [1,1,0]) (Z0x p0 r2) .normal (Z3n p0 r2 r29),True,(p0.fN == (0:Int))=true,(p0.fN == (0:Int))=true,r2=true,r2=true,True,r2=true,r2=true,(p0.fBits == (0:Int))=true,(p0.fBits == (0:Int))=true,True,(p0.fBits == (0:Int))=true,(p0.fBits == (0:Int))=true,(p0.fBytes.toList == (ByteArray.mk #[]).toList)=true,(p0.fBytes.toList == (ByteArray.mk #[]).toList)=true,True,(p0.fBytes.toList == (ByteArray.mk #[]).toList)=true,AV.Le (ai (((p0.fArgs.map Z03).length:Nat):Int)) (ai ((p0.fArgs.length:Nat):Int)),(p0.fBytes.toList == (ByteArray.mk #[]).toList)=true,(p0.fBytes.toList == (ByteArray.mk #[]).toList)=true])) (.c8 (Z6g N p0 r2 hr2) (Z6f N p0 r2 (.inl r29) hr28) trivial ((Zfj Z01 hb31)) ((Zfj Z01 hb31)) ((Zfj Z05 hb32)) ((Zfj Z05 hb32)) trivial (.c8 ((Zfj Z05 hb32)) ((Zfj Z05 hb32)) ((Zfj Z01 hb33)) ((Zfj Z01 hb33)) trivial ((Zfj Z01 hb33)) ((Zfj Z01 hb33)) ((Zfj Z1a hb34)) (.c4 ((Zfj Z1a hb34)) trivial ((Zfj Z1a hb34)) Zfv (.c2 ((Zfj Z1a hb34)) ((Zfj Z1a hb34)) AllP.nil))))
          · injection h with h; subst h
            exact Zf6.of_run 1114 _ Try.func62 (by kernel_rfl:runF Try.prog Try.f62 [.v (.agg (Z09 p0))] 1114 [.reg (e 2),.adj [.keep [1] [1]],.cut .normal (Z2m p0 r2),.deep 1 [.keep [1,3] [1]] .normal (Z3n p0 r2 r29),.reg [{}, {}, {}, {}, {}, { h:=.pick true }, {}, {}, {}, {}, { h:=.pick true }, {}, {}, {}, {}, { h:=.pick true }, {},w0,w0,w0,w0, { h:=.pick false }, {}]]=some ((Z7u false),[Zf4 Try.prog 1114 (partOf Try.f62 [1,0]) (Z5u p0) .normal (Z2m p0 r2),Zf4 Try.prog 1114 (partOf Try.f62 [1,1,0]) (Z0x p0 r2) .normal (Z3n p0 r2 r29),True,(p0.fN == (0:Int))=true,(p0.fN == (0:Int))=true,r2=true,r2=true,True,r2=true,r2=true,(p0.fBits == (0:Int))=true,(p0.fBits == (0:Int))=true,True,(p0.fBits == (0:Int))=true,(p0.fBits == (0:Int))=true,(p0.fBytes.toList == (ByteArray.mk #[]).toList)=false,(p0.fBytes.toList == (ByteArray.mk #[]).toList)=false,(p0.fBytes.toList == (ByteArray.mk #[]).toList)=false,(p0.fBytes.toList == (ByteArray.mk #[]).toList)=false,(p0.fBytes.toList == (ByteArray.mk #[]).toList)=false])) (.c8 (Z6g N p0 r2 hr2) (Z6f N p0 r2 (.inl r29) hr28) trivial ((Zfj Z01 hb31)) ((Zfj Z01 hb31)) ((Zfj Z05 hb32)) ((Zfj Z05 hb32)) trivial (.c8 ((Zfj Z05 hb32)) ((Zfj Z05 hb32)) ((Zfj Z01 hb33)) ((Zfj Z01 hb33)) trivial ((Zfj Z01 hb33)) ((Zfj Z01 hb33)) ((Z00 Z1a hb34)) (.c4 ((Z00 Z1a hb34)) ((Z00 Z1a hb34)) ((Z00 Z1a hb34)) ((Z00 Z1a hb34)) AllP.nil)))
        · injection h with h; subst h
          exact Zf6.of_run 1114 _ Try.func62 (by kernel_rfl:runF Try.prog Try.f62 [.v (.agg (Z09 p0))] 1114 [.reg (e 2),.adj [.keep [1] [1]],.cut .normal (Z2m p0 r2),.deep 1 [.keep [1,3] [1]] .normal (Z3n p0 r2 r29),.reg [{}, {}, {}, {}, {}, { h:=.pick true }, {}, {}, {}, {}, { h:=.pick true }, {},w0,w0,w0, { h:=.pick false }, {},w0,w0,w0,w0, { h:=.pick false }, {}]]=some ((Z7u false),[Zf4 Try.prog 1114 (partOf Try.f62 [1,0]) (Z5u p0) .normal (Z2m p0 r2),Zf4 Try.prog 1114 (partOf Try.f62 [1,1,0]) (Z0x p0 r2) .normal (Z3n p0 r2 r29),True,(p0.fN == (0:Int))=true,(p0.fN == (0:Int))=true,r2=true,r2=true,True,r2=true,r2=true,(p0.fBits == (0:Int))=false,(p0.fBits == (0:Int))=false,(p0.fBits == (0:Int))=false,(p0.fBits == (0:Int))=false,false=false,false=false,false=false,false=false,false=false])) (.c8 (Z6g N p0 r2 hr2) (Z6f N p0 r2 (.inl r29) hr28) trivial ((Zfj Z01 hb31)) ((Zfj Z01 hb31)) ((Zfj Z05 hb32)) ((Zfj Z05 hb32)) trivial (.c8 ((Zfj Z05 hb32)) ((Zfj Z05 hb32)) ((Z00 Z01 hb33)) ((Z00 Z01 hb33)) ((Z00 Z01 hb33)) ((Z00 Z01 hb33)) rfl rfl (.c2 rfl rfl (.cons rfl AllP.nil))))
      · injection h with h; subst h
        exact Zf6.of_run 1114 _ Try.func62 (by kernel_rfl:runF Try.prog Try.f62 [.v (.agg (Z09 p0))] 1114 [.reg (e 2),.adj [.keep [1] [1]],.cut .normal (Z2m p0 r2),.deep 1 [.keep [1,3] [1]] .normal (Z3n p0 r2 r29),.reg [{}, {}, {}, {}, {}, { h:=.pick true }, {},w0,w0,w0, { h:=.pick false }, {},w0,w0,w0, { h:=.pick false }, {},w0,w0,w0,w0, { h:=.pick false }, {}]]=some ((Z7u false),[Zf4 Try.prog 1114 (partOf Try.f62 [1,0]) (Z5u p0) .normal (Z2m p0 r2),Zf4 Try.prog 1114 (partOf Try.f62 [1,1,0]) (Z0x p0 r2) .normal (Z3n p0 r2 r29),True,(p0.fN == (0:Int))=true,(p0.fN == (0:Int))=true,r2=false,r2=false,r2=false,r2=false,false=false,false=false,false=false,false=false,false=false,false=false,false=false,false=false,false=false])) (.c8 (Z6g N p0 r2 hr2) (Z6f N p0 r2 (.inl r29) hr28) trivial ((Zfj Z01 hb31)) ((Zfj Z01 hb31)) ((Z00 Z05 hb32)) ((Z00 Z05 hb32)) ((Z00 Z05 hb32)) (.c8 ((Z00 Z05 hb32)) rfl rfl rfl rfl rfl rfl rfl (.c2 rfl rfl AllP.nil)))
    · injection h with h; subst h
      exact Zf6.of_run 1114 _ Try.func62 (by kernel_rfl:runF Try.prog Try.f62 [.v (.agg (Z09 p0))] 1114 [.reg (e 2),.adj [.keep [1] [1]],.cut .normal (Z2m p0 r2),.deep 1 [.keep [1,3] [1]] .normal (Z3n p0 r2 r29),.reg [{}, {}, {}, {},w0, { h:=.pick false }, {},w0,w0,w0, { h:=.pick false }, {},w0,w0,w0, { h:=.pick false }, {},w0,w0,w0,w0, { h:=.pick false }, {}]]=some ((Z7u false),[Zf4 Try.prog 1114 (partOf Try.f62 [1,0]) (Z5u p0) .normal (Z2m p0 r2),Zf4 Try.prog 1114 (partOf Try.f62 [1,1,0]) (Z0x p0 r2) .normal (Z3n p0 r2 r29),True,(p0.fN == (0:Int))=false,(p0.fN == (0:Int))=false,false=false,false=false,false=false,false=false,false=false,false=false,false=false,false=false,false=false,false=false,false=false,false=false,false=false])) (.c8 (Z6g N p0 r2 hr2) (Z6f N p0 r2 (.inl r29) hr28) trivial ((Z00 Z01 hb31)) ((Z00 Z01 hb31)) rfl rfl rfl (.c8 rfl rfl rfl rfl rfl rfl rfl rfl (.c2 rfl rfl AllP.nil)))
  · injection h with h; subst h
    exact Zf6.of_run 1114 _ Try.func62 (by kernel_rfl:runF Try.prog Try.f62 [.v (.agg (Z09 p0))] 1114 [.reg (e 2),.adj [.keep [1] [1]],.cut .normal (Z2m p0 r2),.deep 1 [.keep [1,3] [1]] .ret (Z15 p0 r2 r30)]=some ((Z7u r30),[Zf4 Try.prog 1114 (partOf Try.f62 [1,0]) (Z5u p0) .normal (Z2m p0 r2),Zf4 Try.prog 1114 (partOf Try.f62 [1,1,0]) (Z0x p0 r2) .ret (Z15 p0 r2 r30)])) (.c2 (Z6g N p0 r2 hr2) (Z6f N p0 r2 (.inr r30) hr28) AllP.nil)
def Zd2 (r:Bool):List PV:=[dv (.bool r)]
def Z0y (p0:(List Z02)) (v8:Int):St:={ fr:=([(da (.sl 7 (p0.map Z03))),(.v (.one (.fn 64 [])))]++bads 5++[(ai ((p0.length:Nat):Int)),(ai v8)]++bads 10),obs:=[] }
def Z2v (p0:(List Z02)) (o:Unit):St:={ fr:=bads 19,obs:=[] }
def Z2w (p0:(List Z02)) (o:Int):St:={ fr:=(bads 4++[(ai o)]++bads 14),obs:=[] }
def Z48 (r:Int):List PV:=[vi r]
def Z5i (r:Bool):List PV:=[dv (.bool r)]
def Z1t (p0:Z02):St:={ fr:=([.bad,(.v (.one (.ptr 1 0))),.bad,(da (.bool false))]++bads 85),obs:=[(1,.var (Z1b p0))] }
def Z16 (p0:Z02) (o:Bool):St:={ fr:=([.bad,(.v (.one (.ptr 1 0))),.bad,(da (.bool o))]++bads 85),obs:=[(1,.var (Z1b p0))] }
def Z91 (r:Bool):List PV:=[dv (.bool r)]
mutual
def term_right_1:Nat→Z02→Option Bool
  | 0,_=>none
  | N+1,p0=>(term_right N p0).bind fun r1=>some (!r1)
def slices_IndexFunc_api_Term_api_Term_L0:Nat→(List Z02)→Int→Option ((Unit) ⊕ (Int))
  | 0,_,_=>none
  | N+1,p0,v8=>if v8 < ((p0.length:Nat):Int) then (idx p0 v8).bind fun x2=>(term_right_1 N x2).bind fun r3=>if r3=true then some (.inr v8) else slices_IndexFunc_api_Term_api_Term_L0 N p0 (IntKind.wrap .i64 (v8+(1:Int))) else some (.inl ())
def slices_IndexFunc_api_Term_api_Term:Nat→(List Z02)→Option Int
  | 0,_=>none
  | N+1,p0=>(slices_IndexFunc_api_Term_api_Term_L0 N p0 (0:Int)).bind fun r5=>(match r5 with | .inl r6=>some (-1:Int) | .inr r7=>some r7)
def slices_ContainsFunc_api_Term_api_Term:Nat→(List Z02)→Option Bool
  | 0,_=>none
  | N+1,p0=>(slices_IndexFunc_api_Term_api_Term N p0).bind fun r1=>some (decide (r1 ≥ (0:Int)))
def term_right_B0:Nat→Z02→Option (Bool)
  | 0,_=>none
  | N+1,p0=>if p0.fKind=(1:Int) then if p0.fN ≥ (-1152921504606846976:Int) then some (decide (p0.fN≤(1152921504606846975:Int))) else some false else if p0.fKind=(2:Int) then (Zca N p0.fNum).bind fun r4=>(Zef N p0.fNum).bind fun r5=>if r5=true then some (!r4.2) else some false else if p0.fKind=(3:Int) then (real_May N p0.fBits).bind fun r8=>some r8 else if p0.fKind=(4:Int) then if p0.fN ≥ (0:Int) then some (decide (p0.fN≤(255:Int))) else some false else if p0.fKind=(5:Int) then if p0.fN ≥ (0:Int) then some (decide (p0.fN≤(63:Int))) else some false else if p0.fKind=(6:Int) then some (decide (((p0.fArgs.length:Nat):Int)≤(8:Int))) else if p0.fKind=(8:Int) then some (((p0.fArgs.length:Nat):Int) == (2:Int)) else if p0.fKind=(7:Int) then some true else if p0.fKind=(9:Int) then some (decide (((p0.fBytes.size:Nat):Int)≤(400:Int))) else some false
def term_right:Nat→Z02→Option Bool
  | 0,_=>none
  | N+1,p0=>(term_right_B0 N p0).bind fun r17=>if r17=true then (Zey N p0).bind fun r19=>if r19=true then (slices_ContainsFunc_api_Term_api_Term N p0.fArgs).bind fun r21=>some (!r21) else some false else some false
end
structure term_right_1_all (N:Nat):Prop where
  term_right_1:∀ (p0:Z02) (r:Bool),term_right_1 N p0=some r→Zf6 Try.prog 64 [.v (.agg (Z09 p0))] (Zd2 r)
  slices_IndexFunc_api_Term_api_Term_L0:∀ (p0:(List Z02)) (v8:Int) (r:((Unit) ⊕ (Int))),slices_IndexFunc_api_Term_api_Term_L0 N p0 v8=some r→match r with | .inl o=>Zf7 Try.prog 227 (partOf Try.f73 [1,0,1,0,0]) (Z0y p0 v8) (.exit 0) (Z2v p0 o) | .inr o=>Zf7 Try.prog 227 (partOf Try.f73 [1,0,1,0,0]) (Z0y p0 v8) .ret (Z2w p0 o)
  slices_IndexFunc_api_Term_api_Term:∀ (p0:(List Z02)) (r:Int),slices_IndexFunc_api_Term_api_Term N p0=some r→Zf6 Try.prog 73 [dv (.sl 7 (p0.map Z03)),.v (.one (.fn 64 []))] (Z48 r)
  slices_ContainsFunc_api_Term_api_Term:∀ (p0:(List Z02)) (r:Bool),slices_ContainsFunc_api_Term_api_Term N p0=some r→Zf6 Try.prog 63 [dv (.sl 7 (p0.map Z03)),.v (.one (.fn 64 []))] (Z5i r)
  term_right_B0:∀ (p0:Z02) (r:(Bool)),term_right_B0 N p0=some r→Zf4 Try.prog 777 (partOf Try.f50 [1,1,0]) (Z1t p0 ) .normal (Z16 p0 r)
  term_right:∀ (p0:Z02) (r:Bool),term_right N p0=some r→Zf6 Try.prog 50 [.v (.agg (Z09 p0))] (Z91 r)
theorem Zd5:∀ N,term_right_1_all N:=by
  intro N
  induction N with
  | zero =>
    constructor
    · intro p0 r h; rw [term_right_1] at h; cases h
    · intro p0 v8 r h; rw [slices_IndexFunc_api_Term_api_Term_L0] at h; cases h
    · intro p0 r h; rw [slices_IndexFunc_api_Term_api_Term] at h; cases h
    · intro p0 r h; rw [slices_ContainsFunc_api_Term_api_Term] at h; cases h
    · intro p0 r h; rw [term_right_B0] at h; cases h
    · intro p0 r h; rw [term_right] at h; cases h
  | succ N ih =>
    constructor
    · intro p0 r h
      rw [term_right_1] at h
      obtain ⟨r1,hr1,h⟩:=bind_some h
      injection h with h; subst h
      exact Zf6.of_run 142 _ Try.func64 (by kernel_rfl:runF Try.prog Try.f64 [.v (.agg (Z09 p0))] 142 [.reg (e 2),.reg [{}, { h:=.pcall [dv (.bool r1)] }, {}, {}]]=some ((Zd2 (!r1)),[True,Zf6 Try.prog 50 [.v (.agg (Z09 p0))] [dv (.bool r1)]])) (.c2 trivial (((ih.term_right) p0 r1 hr1)) AllP.nil)
    · intro p0 v8 r h
      rw [slices_IndexFunc_api_Term_api_Term_L0] at h
      rcases Z08 h with ⟨hb1,h⟩ | ⟨hb1,h⟩
      · obtain ⟨x2,hx2,h⟩:=bind_some h
        obtain ⟨r3,hr3,h⟩:=bind_some h
        rcases Z08 h with ⟨hb4,h⟩ | ⟨hb4,h⟩
        · injection h with h; subst h
          exact Zf7.out (Zf4.of_run _ (by kernel_rfl:Zg4 Try.prog 227 (partOf Try.f73 [1,0,1,0,0]) [.reg [{}],.br true,.reg (e 2),.reg [{}, {}, {}, { cast:=some (.v (.one (.fptr (Z1e x2)))) }, {}, { h:=.pcall [dv (.bool r3)] }],.br true,.reg (e 2),.adj [.keep [4] []]] (Z0y p0 v8)=some (.ret,(Z2w p0 v8),[(decide (v8 < ((p0.length:Nat):Int)))=true,0≤v8∧v8 < (((p0.map Z03).length:Nat):Int),AV.Le (.v (.one (.fptr ((List.range 7).map fun j=>((p0.map Z03).getD (Int.toNat v8) []).getD j .nils)))) (.v (.one (.fptr (Z1e x2)))),True,Zf6 Try.prog 64 [.v (.agg (Z09 x2))] [dv (.bool r3)],r3=true])) (.c4 ((Zfj Z04 hb1)) (Z23 hx2) (Z1f hx2 (Z0q x2)) trivial (.c2 (((ih.term_right_1) x2 r3 hr3)) ((Zfj Z05 hb4)) AllP.nil))) (by simp)
        · have hl:=ih.slices_IndexFunc_api_Term_api_Term_L0 p0 (IntKind.wrap .i64 (v8+(1:Int))) _ h
          have ha:=Zf4.of_run _ (by kernel_rfl:Zg4 Try.prog 227 (partOf Try.f73 [1,0,1,0,0]) [.reg [{}],.br true,.reg (e 2),.reg [{}, {}, {}, { cast:=some (.v (.one (.fptr (Z1e x2)))) }, {}, { h:=.pcall [dv (.bool r3)] }],.br false,.reg (e 2),.adj [.keep [0,1,7,8] []]] (Z0y p0 v8)=some (.normal,(Z0y p0 (IntKind.wrap .i64 (v8+(1:Int)))),[(decide (v8 < ((p0.length:Nat):Int)))=true,0≤v8∧v8 < (((p0.map Z03).length:Nat):Int),AV.Le (.v (.one (.fptr ((List.range 7).map fun j=>((p0.map Z03).getD (Int.toNat v8) []).getD j .nils)))) (.v (.one (.fptr (Z1e x2)))),True,Zf6 Try.prog 64 [.v (.agg (Z09 x2))] [dv (.bool r3)],r3=false])) (.c4 ((Zfj Z04 hb1)) (Z23 hx2) (Z1f hx2 (Z0q x2)) trivial (.c2 (((ih.term_right_1) x2 r3 hr3)) ((Z00 Z05 hb4)) AllP.nil))
          rcases r with o | o <;> exact Zf7.again ha hl
      · injection h with h; subst h
        exact Zf7.out (Zf4.of_run _ (by kernel_rfl:Zg4 Try.prog 227 (partOf Try.f73 [1,0,1,0,0]) [.reg [{}],.br false,.adj [.keep [] []]] (Z0y p0 v8)=some ((.exit 0),(Z2v p0 ()),[(decide (v8 < ((p0.length:Nat):Int)))=false])) (.cons ((Z00 Z04 hb1)) AllP.nil)) (by simp)
    · intro p0 r h
      rw [slices_IndexFunc_api_Term_api_Term] at h
      obtain ⟨r5,hr5,h⟩:=bind_some h
      rcases r5 with r6 | r7
      · injection h with h; subst h
        exact Zf6.of_run 227 _ Try.func73 (by kernel_rfl:runF Try.prog Try.f73 [dv (.sl 7 (p0.map Z03)),.v (.one (.fn 64 []))] 227 [.reg [{}],.reg [{}, { cast:=some (ai ((p0.length:Nat):Int)) }, {}],.adj [.keep [0,1,7,8] []],.cut (.exit 0) (Z2v p0 r6),.reg [{}]]=some ((Z48 (-1:Int)),[AV.Le (ai (((p0.map Z03).length:Nat):Int)) (ai ((p0.length:Nat):Int)),Zf4 Try.prog 227 (partOf Try.f73 [1,0,1,0]) (Z0y p0 (0:Int)) (.exit 0) (Z2v p0 r6)])) (.c2 Zfv (Zf4.of_loop ((ih.slices_IndexFunc_api_Term_api_Term_L0) p0 (0:Int) (.inl r6) hr5)) AllP.nil)
      · injection h with h; subst h
        exact Zf6.of_run 227 _ Try.func73 (by kernel_rfl:runF Try.prog Try.f73 [dv (.sl 7 (p0.map Z03)),.v (.one (.fn 64 []))] 227 [.reg [{}],.reg [{}, { cast:=some (ai ((p0.length:Nat):Int)) }, {}],.adj [.keep [0,1,7,8] []],.cut .ret (Z2w p0 r7)]=some ((Z48 r7),[AV.Le (ai (((p0.map Z03).length:Nat):Int)) (ai ((p0.length:Nat):Int)),Zf4 Try.prog 227 (partOf Try.f73 [1,0,1,0]) (Z0y p0 (0:Int)) .ret (Z2w p0 r7)])) (.c2 Zfv (Zf4.of_loop ((ih.slices_IndexFunc_api_Term_api_Term_L0) p0 (0:Int) (.inr r7) hr5)) AllP.nil)
    · intro p0 r h
      rw [slices_ContainsFunc_api_Term_api_Term] at h
      obtain ⟨r1,hr1,h⟩:=bind_some h
      injection h with h; subst h
      exact Zf6.of_run 145 _ Try.func63 (by kernel_rfl:runF Try.prog Try.f63 [dv (.sl 7 (p0.map Z03)),.v (.one (.fn 64 []))] 145 [.reg [{}],.reg [{}, {}, { h:=.pcall [vi r1] }, {}, {}]]=some ((Z5i (decide (r1 ≥ (0:Int)))),[Zf6 Try.prog 73 [dv (.sl 7 (p0.map Z03)),.v (.one (.fn 64 []))] [vi r1]])) (.cons (((ih.slices_IndexFunc_api_Term_api_Term) p0 r1 hr1)) AllP.nil)
    · intro p0 r h
      rw [term_right_B0] at h
      rcases Z08 h with ⟨hb1,h⟩ | ⟨hb1,h⟩
      · rcases Z08 h with ⟨hb2,h⟩ | ⟨hb2,h⟩
        · injection h with h; subst h
          exact Zf4.of_run _ (by kernel_rfl:Zg4 Try.prog 777 (partOf Try.f50 [1,1,0]) [.reg (e 2),.reg (e 2),.br true,.reg [{}, {}, {}, {}, {}, {}, {}, { h:=.pick true }, {}],.adj [.keep [1,3] [1]]] (Z1t p0 )=some (.normal,(Z16 p0 (decide (p0.fN≤(1152921504606846975:Int)))),[True,(p0.fKind == (1:Int))=true,True,(decide (p0.fN ≥ (-1152921504606846976:Int)))=true,(decide (p0.fN ≥ (-1152921504606846976:Int)))=true,True,(decide (p0.fN ≥ (-1152921504606846976:Int)))=true,(decide (p0.fN ≥ (-1152921504606846976:Int)))=true])) (.c8 trivial ((Zfj Z01 hb1)) trivial ((Zfj Z04 hb2)) ((Zfj Z04 hb2)) trivial ((Zfj Z04 hb2)) ((Zfj Z04 hb2)) AllP.nil)
        · injection h with h; subst h
          exact Zf4.of_run _ (by kernel_rfl:Zg4 Try.prog 777 (partOf Try.f50 [1,1,0]) [.reg (e 2),.reg (e 2),.br true,.reg [{}, {}, {}, {},w0,w0,w0, { h:=.pick false }, {}],.adj [.keep [1,3] [1]]] (Z1t p0 )=some (.normal,(Z16 p0 false),[True,(p0.fKind == (1:Int))=true,True,(decide (p0.fN ≥ (-1152921504606846976:Int)))=false,(decide (p0.fN ≥ (-1152921504606846976:Int)))=false,(decide (p0.fN ≥ (-1152921504606846976:Int)))=false,(decide (p0.fN ≥ (-1152921504606846976:Int)))=false])) (.c4 trivial ((Zfj Z01 hb1)) trivial ((Z00 Z04 hb2)) (.c2 ((Z00 Z04 hb2)) ((Z00 Z04 hb2)) (.cons ((Z00 Z04 hb2)) AllP.nil)))
      · rcases Z08 h with ⟨hb3,h⟩ | ⟨hb3,h⟩
        · obtain ⟨r4,hr4,h⟩:=bind_some h
          obtain ⟨r5,hr5,h⟩:=bind_some h
          rcases Z08 h with ⟨hb6,h⟩ | ⟨hb6,h⟩
          · injection h with h; subst h
            exact Zf4.of_run _ (by kernel_rfl:Zg4 Try.prog 777 (partOf Try.f50 [1,1,0]) [.reg (e 2),.reg (e 2),.br false,.reg (e 2),.br true,.reg [{}, {}, { h:=.pcall [vi r4.1,dv (.bool r4.2)] }, {}, {}, {}, {}, {}],.reg [{}, {}, { h:=.pcall [dv (.bool r5)] }, {}, {}, {}, { h:=.pick true }, {}],.adj [.keep [1,3] [1]]] (Z1t p0 )=some (.normal,(Z16 p0 (!r4.2)),[True,(p0.fKind == (1:Int))=false,(p0.fKind == (2:Int))=true,True,Zf6 Try.prog 59 [.v (.agg [.dat (.bool p0.fNum.fNeg),.dat (.sl 1 (p0.fNum.fMag.map (rI .u32)))])] [vi r4.1,dv (.bool r4.2)],True,Zf6 Try.prog 60 [.v (.agg [.dat (.bool p0.fNum.fNeg),.dat (.sl 1 (p0.fNum.fMag.map (rI .u32)))])] [dv (.bool r5)],r5=true,r5=true,r5=true])) (.c8 trivial ((Z00 Z01 hb1)) ((Zfj Z01 hb3)) trivial ((Z8z N p0.fNum r4 hr4)) trivial ((Z86 N p0.fNum r5 hr5)) ((Zfj Z05 hb6)) (.c2 ((Zfj Z05 hb6)) ((Zfj Z05 hb6)) AllP.nil))
          · injection h with h; subst h
            exact Zf4.of_run _ (by kernel_rfl:Zg4 Try.prog 777 (partOf Try.f50 [1,1,0]) [.reg (e 2),.reg (e 2),.br false,.reg (e 2),.br true,.reg [{}, {}, { h:=.pcall [vi r4.1,dv (.bool r4.2)] }, {}, {}, {}, {}, {}],.reg [{}, {}, { h:=.pcall [dv (.bool r5)] }, {},w0,w0, { h:=.pick false }, {}],.adj [.keep [1,3] [1]]] (Z1t p0 )=some (.normal,(Z16 p0 false),[True,(p0.fKind == (1:Int))=false,(p0.fKind == (2:Int))=true,True,Zf6 Try.prog 59 [.v (.agg [.dat (.bool p0.fNum.fNeg),.dat (.sl 1 (p0.fNum.fMag.map (rI .u32)))])] [vi r4.1,dv (.bool r4.2)],True,Zf6 Try.prog 60 [.v (.agg [.dat (.bool p0.fNum.fNeg),.dat (.sl 1 (p0.fNum.fMag.map (rI .u32)))])] [dv (.bool r5)],r5=false,r5=false,r5=false])) (.c8 trivial ((Z00 Z01 hb1)) ((Zfj Z01 hb3)) trivial ((Z8z N p0.fNum r4 hr4)) trivial ((Z86 N p0.fNum r5 hr5)) ((Z00 Z05 hb6)) (.c2 ((Z00 Z05 hb6)) ((Z00 Z05 hb6)) AllP.nil))
        · rcases Z08 h with ⟨hb7,h⟩ | ⟨hb7,h⟩
          · obtain ⟨r8,hr8,h⟩:=bind_some h
            injection h with h; subst h
            exact Zf4.of_run _ (by kernel_rfl:Zg4 Try.prog 777 (partOf Try.f50 [1,1,0]) [.reg (e 2),.reg (e 2),.br false,.reg (e 2),.br false,.reg (e 2),.br true,.reg [{}, {}, { h:=.pcall [dv (.bool r8)] }, {}],.adj [.keep [1,3] [1]]] (Z1t p0 )=some (.normal,(Z16 p0 r8),[True,(p0.fKind == (1:Int))=false,(p0.fKind == (2:Int))=false,(p0.fKind == (3:Int))=true,True,Zf6 Try.prog 61 [dv (.int .u64 p0.fBits)] [dv (.bool r8)]])) (.c4 trivial ((Z00 Z01 hb1)) ((Z00 Z01 hb3)) ((Zfj Z01 hb7)) (.c2 trivial ((real_May_spec N p0.fBits r8 hr8)) AllP.nil))
          · rcases Z08 h with ⟨hb9,h⟩ | ⟨hb9,h⟩
            · rcases Z08 h with ⟨hb10,h⟩ | ⟨hb10,h⟩
              · injection h with h; subst h
                exact Zf4.of_run _ (by kernel_rfl:Zg4 Try.prog 777 (partOf Try.f50 [1,1,0]) [.reg (e 2),.reg (e 2),.br false,.reg (e 2),.br false,.reg (e 2),.br false,.reg (e 2),.br true,.reg [{}, {}, {}, {}, {}, {}, {}, { h:=.pick true }, {}],.adj [.keep [1,3] [1]]] (Z1t p0 )=some (.normal,(Z16 p0 (decide (p0.fN≤(255:Int)))),[True,(p0.fKind == (1:Int))=false,(p0.fKind == (2:Int))=false,(p0.fKind == (3:Int))=false,(p0.fKind == (4:Int))=true,True,(decide (p0.fN ≥ (0:Int)))=true,(decide (p0.fN ≥ (0:Int)))=true,True,(decide (p0.fN ≥ (0:Int)))=true,(decide (p0.fN ≥ (0:Int)))=true])) (.c8 trivial ((Z00 Z01 hb1)) ((Z00 Z01 hb3)) ((Z00 Z01 hb7)) ((Zfj Z01 hb9)) trivial ((Zfj Z04 hb10)) ((Zfj Z04 hb10)) (.c2 trivial ((Zfj Z04 hb10)) (.cons ((Zfj Z04 hb10)) AllP.nil)))
              · injection h with h; subst h
                exact Zf4.of_run _ (by kernel_rfl:Zg4 Try.prog 777 (partOf Try.f50 [1,1,0]) [.reg (e 2),.reg (e 2),.br false,.reg (e 2),.br false,.reg (e 2),.br false,.reg (e 2),.br true,.reg [{}, {}, {}, {},w0,w0,w0, { h:=.pick false }, {}],.adj [.keep [1,3] [1]]] (Z1t p0 )=some (.normal,(Z16 p0 false),[True,(p0.fKind == (1:Int))=false,(p0.fKind == (2:Int))=false,(p0.fKind == (3:Int))=false,(p0.fKind == (4:Int))=true,True,(decide (p0.fN ≥ (0:Int)))=false,(decide (p0.fN ≥ (0:Int)))=false,(decide (p0.fN ≥ (0:Int)))=false,(decide (p0.fN ≥ (0:Int)))=false])) (.c8 trivial ((Z00 Z01 hb1)) ((Z00 Z01 hb3)) ((Z00 Z01 hb7)) ((Zfj Z01 hb9)) trivial ((Z00 Z04 hb10)) ((Z00 Z04 hb10)) (.c2 ((Z00 Z04 hb10)) ((Z00 Z04 hb10)) AllP.nil))
            · rcases Z08 h with ⟨hb11,h⟩ | ⟨hb11,h⟩
              · rcases Z08 h with ⟨hb12,h⟩ | ⟨hb12,h⟩
                · injection h with h; subst h
                  exact Zf4.of_run _ (by kernel_rfl:Zg4 Try.prog 777 (partOf Try.f50 [1,1,0]) [.reg (e 2),.reg (e 2),.br false,.reg (e 2),.br false,.reg (e 2),.br false,.reg (e 2),.br false,.reg (e 2),.br true,.reg [{}, {}, {}, {}, {}, {}, {}, { h:=.pick true }, {}],.adj [.keep [1,3] [1]]] (Z1t p0 )=some (.normal,(Z16 p0 (decide (p0.fN≤(63:Int)))),[True,(p0.fKind == (1:Int))=false,(p0.fKind == (2:Int))=false,(p0.fKind == (3:Int))=false,(p0.fKind == (4:Int))=false,(p0.fKind == (5:Int))=true,True,(decide (p0.fN ≥ (0:Int)))=true,(decide (p0.fN ≥ (0:Int)))=true,True,(decide (p0.fN ≥ (0:Int)))=true,(decide (p0.fN ≥ (0:Int)))=true])) (.c8 trivial ((Z00 Z01 hb1)) ((Z00 Z01 hb3)) ((Z00 Z01 hb7)) ((Z00 Z01 hb9)) ((Zfj Z01 hb11)) trivial ((Zfj Z04 hb12)) (.c4 ((Zfj Z04 hb12)) trivial ((Zfj Z04 hb12)) ((Zfj Z04 hb12)) AllP.nil))
                · injection h with h; subst h
                  exact Zf4.of_run _ (by kernel_rfl:Zg4 Try.prog 777 (partOf Try.f50 [1,1,0]) [.reg (e 2),.reg (e 2),.br false,.reg (e 2),.br false,.reg (e 2),.br false,.reg (e 2),.br false,.reg (e 2),.br true,.reg [{}, {}, {}, {},w0,w0,w0, { h:=.pick false }, {}],.adj [.keep [1,3] [1]]] (Z1t p0 )=some (.normal,(Z16 p0 false),[True,(p0.fKind == (1:Int))=false,(p0.fKind == (2:Int))=false,(p0.fKind == (3:Int))=false,(p0.fKind == (4:Int))=false,(p0.fKind == (5:Int))=true,True,(decide (p0.fN ≥ (0:Int)))=false,(decide (p0.fN ≥ (0:Int)))=false,(decide (p0.fN ≥ (0:Int)))=false,(decide (p0.fN ≥ (0:Int)))=false])) (.c8 trivial ((Z00 Z01 hb1)) ((Z00 Z01 hb3)) ((Z00 Z01 hb7)) ((Z00 Z01 hb9)) ((Zfj Z01 hb11)) trivial ((Z00 Z04 hb12)) (.c2 ((Z00 Z04 hb12)) ((Z00 Z04 hb12)) (.cons ((Z00 Z04 hb12)) AllP.nil)))
              · rcases Z08 h with ⟨hb13,h⟩ | ⟨hb13,h⟩
                · injection h with h; subst h
                  exact Zf4.of_run _ (by kernel_rfl:Zg4 Try.prog 777 (partOf Try.f50 [1,1,0]) [.reg (e 2),.reg (e 2),.br false,.reg (e 2),.br false,.reg (e 2),.br false,.reg (e 2),.br false,.reg (e 2),.br false,.reg (e 2),.br true,.reg [{}, {}, { cast:=some (ai ((p0.fArgs.length:Nat):Int)) }, {}, {}],.adj [.keep [1,3] [1]]] (Z1t p0 )=some (.normal,(Z16 p0 (decide (((p0.fArgs.length:Nat):Int)≤(8:Int)))),[True,(p0.fKind == (1:Int))=false,(p0.fKind == (2:Int))=false,(p0.fKind == (3:Int))=false,(p0.fKind == (4:Int))=false,(p0.fKind == (5:Int))=false,(p0.fKind == (6:Int))=true,True,AV.Le (ai (((p0.fArgs.map Z03).length:Nat):Int)) (ai ((p0.fArgs.length:Nat):Int))])) (.c8 trivial ((Z00 Z01 hb1)) ((Z00 Z01 hb3)) ((Z00 Z01 hb7)) ((Z00 Z01 hb9)) ((Z00 Z01 hb11)) ((Zfj Z01 hb13)) trivial (.cons Zfv AllP.nil))
                · rcases Z08 h with ⟨hb14,h⟩ | ⟨hb14,h⟩
                  · injection h with h; subst h
                    exact Zf4.of_run _ (by kernel_rfl:Zg4 Try.prog 777 (partOf Try.f50 [1,1,0]) [.reg (e 2),.reg (e 2),.br false,.reg (e 2),.br false,.reg (e 2),.br false,.reg (e 2),.br false,.reg (e 2),.br false,.reg (e 2),.br false,.reg (e 2),.br true,.reg [{}, {}, { cast:=some (ai ((p0.fArgs.length:Nat):Int)) }, {}, {}],.adj [.keep [1,3] [1]]] (Z1t p0 )=some (.normal,(Z16 p0 (((p0.fArgs.length:Nat):Int) == (2:Int))),[True,(p0.fKind == (1:Int))=false,(p0.fKind == (2:Int))=false,(p0.fKind == (3:Int))=false,(p0.fKind == (4:Int))=false,(p0.fKind == (5:Int))=false,(p0.fKind == (6:Int))=false,(p0.fKind == (8:Int))=true,True,AV.Le (ai (((p0.fArgs.map Z03).length:Nat):Int)) (ai ((p0.fArgs.length:Nat):Int))])) (.c8 trivial ((Z00 Z01 hb1)) ((Z00 Z01 hb3)) ((Z00 Z01 hb7)) ((Z00 Z01 hb9)) ((Z00 Z01 hb11)) ((Z00 Z01 hb13)) ((Zfj Z01 hb14)) (.c2 trivial Zfv AllP.nil))
                  · rcases Z08 h with ⟨hb15,h⟩ | ⟨hb15,h⟩
                    · injection h with h; subst h
                      exact Zf4.of_run _ (by kernel_rfl:Zg4 Try.prog 777 (partOf Try.f50 [1,1,0]) [.reg (e 2),.reg (e 2),.br false,.reg (e 2),.br false,.reg (e 2),.br false,.reg (e 2),.br false,.reg (e 2),.br false,.reg (e 2),.br false,.reg (e 2),.br false,.reg (e 2),.br true,.reg [{}],.adj [.keep [1,3] [1]]] (Z1t p0 )=some (.normal,(Z16 p0 true),[True,(p0.fKind == (1:Int))=false,(p0.fKind == (2:Int))=false,(p0.fKind == (3:Int))=false,(p0.fKind == (4:Int))=false,(p0.fKind == (5:Int))=false,(p0.fKind == (6:Int))=false,(p0.fKind == (8:Int))=false,(p0.fKind == (7:Int))=true])) (.c8 trivial ((Z00 Z01 hb1)) ((Z00 Z01 hb3)) ((Z00 Z01 hb7)) ((Z00 Z01 hb9)) ((Z00 Z01 hb11)) ((Z00 Z01 hb13)) ((Z00 Z01 hb14)) (.cons ((Zfj Z01 hb15)) AllP.nil))
                    · rcases Z08 h with ⟨hb16,h⟩ | ⟨hb16,h⟩
                      · injection h with h; subst h
                        exact Zf4.of_run _ (by kernel_rfl:Zg4 Try.prog 777 (partOf Try.f50 [1,1,0]) [.reg (e 2),.reg (e 2),.br false,.reg (e 2),.br false,.reg (e 2),.br false,.reg (e 2),.br false,.reg (e 2),.br false,.reg (e 2),.br false,.reg (e 2),.br false,.reg (e 2),.br false,.reg (e 2),.br true,.reg (e 5),.adj [.keep [1,3] [1]]] (Z1t p0 )=some (.normal,(Z16 p0 (decide (((p0.fBytes.size:Nat):Int)≤(400:Int)))),[True,(p0.fKind == (1:Int))=false,(p0.fKind == (2:Int))=false,(p0.fKind == (3:Int))=false,(p0.fKind == (4:Int))=false,(p0.fKind == (5:Int))=false,(p0.fKind == (6:Int))=false,(p0.fKind == (8:Int))=false,(p0.fKind == (7:Int))=false,(p0.fKind == (9:Int))=true,True])) (.c8 trivial ((Z00 Z01 hb1)) ((Z00 Z01 hb3)) ((Z00 Z01 hb7)) ((Z00 Z01 hb9)) ((Z00 Z01 hb11)) ((Z00 Z01 hb13)) ((Z00 Z01 hb14)) (.c2 ((Z00 Z01 hb15)) ((Zfj Z01 hb16)) (.cons trivial AllP.nil)))
                      · injection h with h; subst h
                        exact Zf4.of_run _ (by kernel_rfl:Zg4 Try.prog 777 (partOf Try.f50 [1,1,0]) [.reg (e 2),.reg (e 2),.br false,.reg (e 2),.br false,.reg (e 2),.br false,.reg (e 2),.br false,.reg (e 2),.br false,.reg (e 2),.br false,.reg (e 2),.br false,.reg (e 2),.br false,.reg (e 2),.br false,.adj [.keep [1,3] [1]]] (Z1t p0 )=some (.normal,(Z16 p0 false),[True,(p0.fKind == (1:Int))=false,(p0.fKind == (2:Int))=false,(p0.fKind == (3:Int))=false,(p0.fKind == (4:Int))=false,(p0.fKind == (5:Int))=false,(p0.fKind == (6:Int))=false,(p0.fKind == (8:Int))=false,(p0.fKind == (7:Int))=false,(p0.fKind == (9:Int))=false])) (.c8 trivial ((Z00 Z01 hb1)) ((Z00 Z01 hb3)) ((Z00 Z01 hb7)) ((Z00 Z01 hb9)) ((Z00 Z01 hb11)) ((Z00 Z01 hb13)) ((Z00 Z01 hb14)) (.c2 ((Z00 Z01 hb15)) ((Z00 Z01 hb16)) AllP.nil))
    · intro p0 r h
      rw [term_right] at h
      obtain ⟨r17,hr17,h⟩:=bind_some h
      rcases Z08 h with ⟨hb18,h⟩ | ⟨hb18,h⟩
      · obtain ⟨r19,hr19,h⟩:=bind_some h
        rcases Z08 h with ⟨hb20,h⟩ | ⟨hb20,h⟩
        · obtain ⟨r21,hr21,h⟩:=bind_some h
          injection h with h; subst h
          exact Zf6.of_run 777 _ Try.func50 (by kernel_rfl:runF Try.prog Try.f50 [.v (.agg (Z09 p0))] 777 [.reg (e 2),.reg [{}],.deep 1 [.keep [1,3] [1]] .normal (Z16 p0 r17),.reg [{}, {}, {}, { h:=.pcall [dv (.bool r19)] }, { h:=.pick true }, {}, {}, {}, { h:=.pcall [dv (.bool r21)] }, {}, { h:=.pick true }, {}]]=some ((Z91 (!r21)),[Zf4 Try.prog 777 (partOf Try.f50 [1,1,0]) (Z1t p0) .normal (Z16 p0 r17),r17=true,True,r17=true,Zf6 Try.prog 62 [.v (.agg (Z09 p0))] [dv (.bool r19)],r17=true,r19=true,r19=true,True,r19=true,Zf6 Try.prog 63 [dv (.sl 7 (p0.fArgs.map Z03)),.v (.one (.fn 64 []))] [dv (.bool r21)],r19=true,r19=true])) (.c8 ((ih.term_right_B0) p0 r17 hr17) ((Zfj Z05 hb18)) trivial ((Zfj Z05 hb18)) ((Ze3 N p0 r19 hr19)) ((Zfj Z05 hb18)) ((Zfj Z05 hb20)) ((Zfj Z05 hb20)) (.c4 trivial ((Zfj Z05 hb20)) (((ih.slices_ContainsFunc_api_Term_api_Term) p0.fArgs r21 hr21)) ((Zfj Z05 hb20)) (.cons ((Zfj Z05 hb20)) AllP.nil)))
        · injection h with h; subst h
          exact Zf6.of_run 777 _ Try.func50 (by kernel_rfl:runF Try.prog Try.f50 [.v (.agg (Z09 p0))] 777 [.reg (e 2),.reg [{}],.deep 1 [.keep [1,3] [1]] .normal (Z16 p0 r17),.reg [{}, {}, {}, { h:=.pcall [dv (.bool r19)] }, { h:=.pick true }, {},w0,w0,w0,w0, { h:=.pick false }, {}]]=some ((Z91 false),[Zf4 Try.prog 777 (partOf Try.f50 [1,1,0]) (Z1t p0) .normal (Z16 p0 r17),r17=true,True,r17=true,Zf6 Try.prog 62 [.v (.agg (Z09 p0))] [dv (.bool r19)],r17=true,r19=false,r19=false,r19=false,r19=false,r19=false])) (.c8 ((ih.term_right_B0) p0 r17 hr17) ((Zfj Z05 hb18)) trivial ((Zfj Z05 hb18)) ((Ze3 N p0 r19 hr19)) ((Zfj Z05 hb18)) ((Z00 Z05 hb20)) ((Z00 Z05 hb20)) (.c2 ((Z00 Z05 hb20)) ((Z00 Z05 hb20)) (.cons ((Z00 Z05 hb20)) AllP.nil)))
      · injection h with h; subst h
        exact Zf6.of_run 777 _ Try.func50 (by kernel_rfl:runF Try.prog Try.f50 [.v (.agg (Z09 p0))] 777 [.reg (e 2),.reg [{}],.deep 1 [.keep [1,3] [1]] .normal (Z16 p0 r17),.reg [{}, {},w0,w0, { h:=.pick false }, {},w0,w0,w0,w0, { h:=.pick false }, {}]]=some ((Z91 false),[Zf4 Try.prog 777 (partOf Try.f50 [1,1,0]) (Z1t p0) .normal (Z16 p0 r17),r17=false,r17=false,r17=false,false=false,false=false,false=false,false=false,false=false])) (.c8 ((ih.term_right_B0) p0 r17 hr17) ((Z00 Z05 hb18)) ((Z00 Z05 hb18)) ((Z00 Z05 hb18)) rfl rfl rfl rfl (.cons rfl AllP.nil))
theorem term_right_spec (N:Nat) (p0:Z02) (r:Bool) (h:term_right N p0=some r):Zf6 Try.prog 50 [.v (.agg (Z09 p0))] (Z91 r):=(Zd5 N).term_right p0 r h
def Zdi (r:Bool):List PV:=[dv (.bool r)]
def Zek (N:Nat) (p0:Z02):Option Bool:=(Zbt N p0).bind fun r1=>if r1≤(300:Int) then (term_right N p0).bind fun r3=>some r3 else some false
theorem Zb3 (N:Nat) (p0:Z02) (r:Bool) (h:Zek N p0=some r):Zf6 Try.prog 37 [.v (.agg (Z09 p0))] (Zdi r):=by
  unfold Zek at h
  obtain ⟨r1,hr1,h⟩:=bind_some h
  rcases Z08 h with ⟨hb2,h⟩ | ⟨hb2,h⟩
  · obtain ⟨r3,hr3,h⟩:=bind_some h
    injection h with h; subst h
    exact Zf6.of_run 170 _ Try.func37 (by kernel_rfl:runF Try.prog Try.f37 [.v (.agg (Z09 p0))] 170 [.reg (e 2),.reg [{}, { h:=.pcall [vi r1] }, {}, {}, {}, { h:=.pcall [dv (.bool r3)] }, { h:=.pick true }, {}]]=some ((Zdi r3),[True,Zf6 Try.prog 49 [.v (.agg (Z09 p0))] [vi r1],(decide (r1≤(300:Int)))=true,True,(decide (r1≤(300:Int)))=true,Zf6 Try.prog 50 [.v (.agg (Z09 p0))] [dv (.bool r3)],(decide (r1≤(300:Int)))=true])) (.c4 trivial ((Zce N p0 r1 hr1)) ((Zfj Z04 hb2)) trivial (.c2 ((Zfj Z04 hb2)) ((term_right_spec N p0 r3 hr3)) (.cons ((Zfj Z04 hb2)) AllP.nil)))
  · injection h with h; subst h
    exact Zf6.of_run 170 _ Try.func37 (by kernel_rfl:runF Try.prog Try.f37 [.v (.agg (Z09 p0))] 170 [.reg (e 2),.reg [{}, { h:=.pcall [vi r1] }, {}, {},w0,w0, { h:=.pick false }, {}]]=some ((Zdi false),[True,Zf6 Try.prog 49 [.v (.agg (Z09 p0))] [vi r1],(decide (r1≤(300:Int)))=false,(decide (r1≤(300:Int)))=false,(decide (r1≤(300:Int)))=false])) (.c4 trivial ((Zce N p0 r1 hr1)) ((Z00 Z04 hb2)) ((Z00 Z04 hb2)) (.cons ((Z00 Z04 hb2)) AllP.nil))
def Z9l (p1:Int) (a223:(List Int)) (v7:Int):St:={ fr:=([(.v (.one (.vw 223 1 0 ((a223.map (rI .u8)).length)))),(da (.int .u64 p1))]++bads 5++[(ai v7)]++bads 15),obs:=[(223,.arr 1 (a223.map (rI .u8)) true)] }
def Zac (p1:Int) (o:(List Int)):St:={ fr:=([(.v (.one (.vw 223 1 0 ((o.map (rI .u8)).length))))]++bads 22),obs:=[(223,.arr 1 (o.map (rI .u8)) true)] }
def Z96:Nat→Int→(List Int)→Int→Option ((List Int))
  | 0,_,_,_=>none
  | N+1,p1,a223,v7=>if v7 ≥ (0:Int) then (shr .u64 p1 (IntKind.wrap .i64 ((8:Int) * v7))).bind fun x2=>(app a223 ([IntKind.wrap .u8 x2]:List Int)).bind fun x3=>Z96 N p1 x3 (IntKind.wrap .i64 (v7 - (1:Int))) else some a223
theorem wire_put_L0_spec:∀ (N:Nat) (p1:Int) (a223:(List Int)) (v7:Int) (r:((List Int))),Z96 N p1 a223 v7=some r→Zf7 Try.prog 243 (partOf Try.f51 [1,0,1,0,0]) (Z9l p1 a223 v7) (.exit 0) (Zac p1 r):=by
  intro N
  induction N with
  | zero=>intro p1 a223 v7 r h; cases h
  | succ N ih =>
    intro p1 a223 v7 r h
    rw [Z96] at h
    rcases Z08 h with ⟨hb1,h⟩ | ⟨hb1,h⟩
    · obtain ⟨x2,hx2,h⟩:=bind_some h
      obtain ⟨x3,hx3,h⟩:=bind_some h
      exact Zf7.again (Zf4.of_run _ (by kernel_rfl:Zg4 Try.prog 243 (partOf Try.f51 [1,0,1,0,0]) [.reg (e 2),.br true,.reg [{}, {}, {}, {}, { h:=.flat (.int .u64 x2) }, {}, { post:=[.ob 20 (.arr 1 (([IntKind.wrap .u8 x2]:List Int).map (rI .u8)) true)] }, { cast:=some (.v (.one (.vw 21 1 0 ((x3.map (rI .u8)).length)))),post:=[.ob 21 (.arr 1 (x3.map (rI .u8)) true)] }, {}],.reg (e 3),.adj [.ren 21 223,.keep [0,1,7] [223]]] (Z9l p1 a223 v7)=some (.normal,(Z9l p1 x3 (IntKind.wrap .i64 (v7 - (1:Int)))),[(decide (v7 ≥ (0:Int)))=true,pureOf Try.prog (do eqGuard .shr 50 (.tmp 15) (.tmp 17) (.int .u64 p1) (.int .i64 (IntKind.wrap .i64 ((8:Int) * v7))); binOp .shr 50 (.int .u64 p1) (.int .i64 (IntKind.wrap .i64 ((8:Int) * v7))):Sem Value)=some (.int .u64 x2),Ob.Le (.arr 1 [[.int .u8 (IntKind.wrap .u8 x2)]] true) (.arr 1 (([IntKind.wrap .u8 x2]:List Int).map (rI .u8)) true),0+(([IntKind.wrap .u8 x2]:List Int).map (rI .u8)).length≤(([IntKind.wrap .u8 x2]:List Int).map (rI .u8)).length,(a223.map (rI .u8)).length=(a223.map (rI .u8)).length,((a223.map (rI .u8)).length+(((([IntKind.wrap .u8 x2]:List Int).map (rI .u8)).drop 0).take (([IntKind.wrap .u8 x2]:List Int).map (rI .u8)).length).length) * 1≤140737488355328,(a223.map (rI .u8)).length+(((([IntKind.wrap .u8 x2]:List Int).map (rI .u8)).drop 0).take (([IntKind.wrap .u8 x2]:List Int).map (rI .u8)).length).length≤9223372036854775807,AV.Le (.v (.one (.vw 21 1 0 ((a223.map (rI .u8)).length+(((([IntKind.wrap .u8 x2]:List Int).map (rI .u8)).drop 0).take (([IntKind.wrap .u8 x2]:List Int).map (rI .u8)).length).length)))) (.v (.one (.vw 21 1 0 ((x3.map (rI .u8)).length)))),Ob.Le (.arr 1 ((a223.map (rI .u8))++(((([IntKind.wrap .u8 x2]:List Int).map (rI .u8)).drop 0).take (([IntKind.wrap .u8 x2]:List Int).map (rI .u8)).length)) true) (.arr 1 (x3.map (rI .u8)) true)])) (.c8 ((Zfj Z04 hb1)) (shr_told hx2) (Z3o (by rfl)) Z7h rfl (Zff hx3 (by decide)) (Zfg hx3) (Zfh hx3) (.cons (Z7g hx3) AllP.nil))) (ih p1 x3 (IntKind.wrap .i64 (v7 - (1:Int))) _ h)
    · injection h with h; subst h
      exact Zf7.out (Zf4.of_run _ (by kernel_rfl:Zg4 Try.prog 243 (partOf Try.f51 [1,0,1,0,0]) [.reg (e 2),.br false,.adj [.keep [0] [223]]] (Z9l p1 a223 v7)=some ((.exit 0),(Zac p1 a223),[(decide (v7 ≥ (0:Int)))=false])) (.cons ((Z00 Z04 hb1)) AllP.nil)) (by simp)
def wire_put_fin (r:(List Int)):List PV:=[.v (.one (.own 1 (r.map (rI .u8))))]
def Zcr (N:Nat) (p0:(List Int)) (p1:Int) (p2:Int):Option (List Int):=(Z96 N p1 p0 (IntKind.wrap .i64 (p2 - (1:Int)))).bind fun r4=>some r4
theorem Zb0 (N:Nat) (p0:(List Int)) (p1:Int) (p2:Int) (r:(List Int)) (h:Zcr N p0 p1 p2=some r):Zf6 Try.prog 51 [.v (.one (.own 1 (p0.map (rI .u8)))),dv (.int .u64 p1),vi p2] (wire_put_fin r):=by
  unfold Zcr at h
  obtain ⟨r4,hr4,h⟩:=bind_some h
  injection h with h; subst h
  exact Zf6.of_run 243 _ Try.func51 (by kernel_rfl:runF Try.prog Try.f51 [.v (.one (.own 1 (p0.map (rI .u8)))),dv (.int .u64 p1),vi p2] 243 [.reg [{}],.reg (e 3),.adj [.ren 243 223,.keep [0,1,7] [223]],.cut (.exit 0) (Zac p1 r4),.reg (e 2)]=some ((wire_put_fin r4),[Zf4 Try.prog 243 (partOf Try.f51 [1,0,1,0]) (Z9l p1 p0 (IntKind.wrap .i64 (p2 - (1:Int)))) (.exit 0) (Zac p1 r4),(r4.map (rI .u8)).length=(r4.map (rI .u8)).length])) (.c2 (Zf4.of_loop (wire_put_L0_spec N p1 p0 (IntKind.wrap .i64 (p2 - (1:Int))) r4 hr4)) rfl AllP.nil)
end Go.Proofs.Ytcknifhhgeccfaa.Sh
