import Derived.Test.YtllcnlonkloabaaSh1
import Derived.Tactics
set_option linter.unusedVariables false
set_option linter.unusedSimpArgs false
set_option maxRecDepth 100000
namespace Go.Proofs.Ytllcnlonkloabaa.Sh
open Go Lift Go.Proofs Go.Proofs.Try
open Go.IntKind (wrap)
def Ze1 (r:Int):List PV:=[vi r]
def Z92 (N:Nat) (p0:Nat) (p1:Nat):Option Int:=(Z6f N p0).bind fun r1=>(Z6f N p1).bind fun r2=>if r1=true then if r2=true then some (0:Int) else some (-1:Int) else if r2=true then some (1:Int) else if Lift.flt p0 p1=true then some (-1:Int) else if Lift.fgt p0 p1=true then some (1:Int) else some (0:Int)
theorem Zda (N:Nat) (p0:Nat) (p1:Nat) (r:Int) (h:Z92 N p0 p1=some r):Ziz prog 138 [dv (.flt .f64 p0),dv (.flt .f64 p1)] (Ze1 r):=by
 unfold Z92 at h
 obtain ⟨r1,hr1,h⟩:=yj h
 obtain ⟨r2,hr2,h⟩:=yj h
 rcases Z07 h with ⟨hb3,h⟩ | ⟨hb3,h⟩
 ·rcases Z07 h with ⟨hb4,h⟩ | ⟨hb4,h⟩
  ·obtain rfl:=yl h
   exact y9 252 [ak,.reg [aa, yg [dv (.bool r1)],aa],.reg [aa, yg [dv (.bool r2)],aa],ak,ah,ak,ah,ak] func138 (.c4 (Z15 N p0 r1 hr1) (Z15 N p1 r2 hr2) (Zj8 Z04 hb3) (Zj8 Z04 hb4) y5)
  ·obtain rfl:=yl h
   exact y9 252 [ak,.reg [aa, yg [dv (.bool r1)],aa],.reg [aa, yg [dv (.bool r2)],aa],ak,ah,ak,ae,ak] func138 (.c4 (Z15 N p0 r1 hr1) (Z15 N p1 r2 hr2) (Zj8 Z04 hb3) (Z01 Z04 hb4) y5)
 ·rcases Z07 h with ⟨hb5,h⟩ | ⟨hb5,h⟩
  ·obtain rfl:=yl h
   exact y9 252 [ak,.reg [aa, yg [dv (.bool r1)],aa],.reg [aa, yg [dv (.bool r2)],aa],ak,ae,ak,ah,ak] func138 (.c4 (Z15 N p0 r1 hr1) (Z15 N p1 r2 hr2) (Z01 Z04 hb3) (Zj8 Z04 hb5) y5)
  ·rcases Z07 h with ⟨hb6,h⟩ | ⟨hb6,h⟩
   ·obtain rfl:=yl h
    exact y9 252 [ak,.reg [aa, yg [dv (.bool r1)],aa],.reg [aa, yg [dv (.bool r2)],aa],ak,ae,ak,ae,ay,ah,ak] func138 (.c4 (Z15 N p0 r1 hr1) (Z15 N p1 r2 hr2) (Z01 Z04 hb3) (Z01 Z04 hb5) (.cons (Zj8 Z04 hb6) y5))
   ·rcases Z07 h with ⟨hb7,h⟩ | ⟨hb7,h⟩
    ·obtain rfl:=yl h
     exact y9 252 [ak,.reg [aa, yg [dv (.bool r1)],aa],.reg [aa, yg [dv (.bool r2)],aa],ak,ae,ak,ae,ay,ae,ay,ah,ak] func138 (.c4 (Z15 N p0 r1 hr1) (Z15 N p1 r2 hr2) (Z01 Z04 hb3) (Z01 Z04 hb5) (.c2 (Z01 Z04 hb6) (Zj8 Z04 hb7) y5))
    ·obtain rfl:=yl h
     exact y9 252 [ak,.reg [aa, yg [dv (.bool r1)],aa],.reg [aa, yg [dv (.bool r2)],aa],ak,ae,ak,ae,ay,ae,ay,ae,ak] func138 (.c4 (Z15 N p0 r1 hr1) (Z15 N p1 r2 hr2) (Z01 Z04 hb3) (Z01 Z04 hb5) (.c2 (Z01 Z04 hb6) (Z01 Z04 hb7) y5))
def real_Cmp_fin (r:Int):List PV:=[vi r]
def real_Cmp (N:Nat) (p0:Int) (p1:Int):Option Int:=(Z9o N p0).bind fun r1=>if r1=true then (Z9o N p1).bind fun r3=>if r3=true then some (0:Int) else some (1:Int) else (Z9o N p1).bind fun r7=>if r7=true then some (-1:Int) else if Lift.feq (Int.toNat p0) (Int.toNat p1)=true then (Za1 N (Int.fdiv p1 (yh 63)) (Int.fdiv p0 (yh 63))).bind fun r10=>some r10 else (Z92 N (Int.toNat p0) (Int.toNat p1)).bind fun r11=>some r11
theorem real_Cmp_spec (N:Nat) (p0:Int) (p1:Int) (r:Int) (h:real_Cmp N p0 p1=some r):Ziz prog 103 [dv (.int .u64 p0),dv (.int .u64 p1)] (real_Cmp_fin r):=by
 unfold real_Cmp at h
 obtain ⟨r1,hr1,h⟩:=yj h
 rcases Z07 h with ⟨hb2,h⟩ | ⟨hb2,h⟩
 ·obtain ⟨r3,hr3,h⟩:=yj h
  rcases Z07 h with ⟨hb4,h⟩ | ⟨hb4,h⟩
  ·obtain rfl:=yl h
   exact y9 351 [ak,.reg [aa, yg [dv (.bool r1)],aa,aa, yg [dv (.bool r3)], { h:=.pick true },aa],ah,ak] func103 (.c4 (Z18 N p0 r1 hr1) (Zj8 Z04 hb2) (Zj8 Z04 hb2) (Z18 N p1 r3 hr3) (.c2 (Zj8 Z04 hb2) (Zj8 Z04 hb4) y5))
  ·obtain rfl:=yl h
   exact y9 351 [ak,.reg [aa, yg [dv (.bool r1)],aa,aa, yg [dv (.bool r3)], { h:=.pick true },aa],ae,.reg [aa, yg [dv (.bool r1)],aa],ah,ak] func103 (.c8 (Z18 N p0 r1 hr1) (Zj8 Z04 hb2) (Zj8 Z04 hb2) (Z18 N p1 r3 hr3) (Zj8 Z04 hb2) (Z01 Z04 hb4) (Z18 N p0 r1 hr1) (Zj8 Z04 hb2) y5)
 ·obtain ⟨r7,hr7,h⟩:=yj h
  rcases Z07 h with ⟨hb8,h⟩ | ⟨hb8,h⟩
  ·obtain rfl:=yl h
   exact y9 351 [ak,.reg [aa, yg [dv (.bool r1)],aa,w0,w0, { h:=.pick false },aa],ae,.reg [aa, yg [dv (.bool r1)],aa],ae,.reg [aa, yg [dv (.bool r7)],aa],ah,ak] func103 (.c8 (Z18 N p0 r1 hr1) (Z01 Z04 hb2) (Z01 Z04 hb2) (Z01 Z04 hb2) yf (Z18 N p0 r1 hr1) (Z01 Z04 hb2) (Z18 N p1 r7 hr7) (.cons (Zj8 Z04 hb8) y5))
  ·rcases Z07 h with ⟨hb9,h⟩ | ⟨hb9,h⟩
   ·obtain ⟨r10,hr10,h⟩:=yj h
    obtain rfl:=yl h
    exact y9 351 [ak,.reg [aa, yg [dv (.bool r1)],aa,w0,w0, { h:=.pick false },aa],ae,.reg [aa, yg [dv (.bool r1)],aa],ae,.reg [aa, yg [dv (.bool r7)],aa],ae,.reg [aa, { h:=.ext (.float .f64 (Int.toNat p0)) },aa, { h:=.ext (.float .f64 (Int.toNat p1)) },aa,aa],ay,ah,.reg [aa,aa,aa,aa, yg [vi r10],aa]] func103 (.c8 (Z18 N p0 r1 hr1) (Z01 Z04 hb2) (Z01 Z04 hb2) (Z01 Z04 hb2) yf (Z18 N p0 r1 hr1) (Z01 Z04 hb2) (Z18 N p1 r7 hr7) (.c4 (Z01 Z04 hb8) (Z23 func132 (by kernel_rfl) (by kernel_rfl) (by kernel_rfl) (by kernel_rfl):Ziy prog 132 #[.int .u64 p0] (.float .f64 (Int.toNat p0))) (Z23 func132 (by kernel_rfl) (by kernel_rfl) (by kernel_rfl) (by kernel_rfl):Ziy prog 132 #[.int .u64 p1] (.float .f64 (Int.toNat p1))) (Zj8 Z04 hb9) (.cons (Ze6 N (Int.fdiv p1 (yh 63)) (Int.fdiv p0 (yh 63)) r10 hr10) y5)))
   ·obtain ⟨r11,hr11,h⟩:=yj h
    obtain rfl:=yl h
    exact y9 351 [ak,.reg [aa, yg [dv (.bool r1)],aa,w0,w0, { h:=.pick false },aa],ae,.reg [aa, yg [dv (.bool r1)],aa],ae,.reg [aa, yg [dv (.bool r7)],aa],ae,.reg [aa, { h:=.ext (.float .f64 (Int.toNat p0)) },aa, { h:=.ext (.float .f64 (Int.toNat p1)) },aa,aa],ay,ae,.reg [aa,aa, yg [vi r11],aa]] func103 (.c8 (Z18 N p0 r1 hr1) (Z01 Z04 hb2) (Z01 Z04 hb2) (Z01 Z04 hb2) yf (Z18 N p0 r1 hr1) (Z01 Z04 hb2) (Z18 N p1 r7 hr7) (.c4 (Z01 Z04 hb8) (Z23 func132 (by kernel_rfl) (by kernel_rfl) (by kernel_rfl) (by kernel_rfl):Ziy prog 132 #[.int .u64 p0] (.float .f64 (Int.toNat p0))) (Z23 func132 (by kernel_rfl) (by kernel_rfl) (by kernel_rfl) (by kernel_rfl):Ziy prog 132 #[.int .u64 p1] (.float .f64 (Int.toNat p1))) (Z01 Z04 hb9) (.cons (Zda N (Int.toNat p0) (Int.toNat p1) r11 hr11) y5)))
def order_numbers_fin (r:Int):List PV:=[vi r]
def Zbi (N:Nat) (p0:Z00) (p1:Z00):Option Int:=(Zfw N p0).bind fun r1=>(Zfw N p1).bind fun r2=>if r1.2=true then if r2.2=true then (num_Cmp N r1.1 r2.1).bind fun r5=>some r5 else (Zbv N r1.1 p1.fBits).bind fun r6=>some r6 else if r2.2=true then (Zbv N r2.1 p0.fBits).bind fun r8=>some (wrap .i64 (0 - r8)) else (real_Cmp N p0.fBits p1.fBits).bind fun r9=>some r9
theorem Zib (N:Nat) (p0:Z00) (p1:Z00) (r:Int) (h:Zbi N p0 p1=some r):Ziz prog 73 [.v (.agg (Z0a p0)),.v (.agg (Z0a p1))] (order_numbers_fin r):=by
 unfold Zbi at h
 obtain ⟨r1,hr1,h⟩:=yj h
 obtain ⟨r2,hr2,h⟩:=yj h
 rcases Z07 h with ⟨hb3,h⟩ | ⟨hb3,h⟩
 ·rcases Z07 h with ⟨hb4,h⟩ | ⟨hb4,h⟩
  ·obtain ⟨r5,hr5,h⟩:=yj h
   obtain rfl:=yl h
   exact y9 439 [ay,.reg [aa, yg [az r1.1.fNeg r1.1.fMag,dv (.bool r1.2)],aa,aa,aa,aa,aa,aa],.reg [aa, yg [az r2.1.fNeg r2.1.fMag,dv (.bool r2.2)],aa,aa,aa,aa,aa,aa],.reg [aa,aa,aa, { h:=.pick true },aa],ah,.reg [aa,aa, yg [vi r5],aa]] func73 (.c8 y7 (Z5m N p0 r1 hr1) y7 y7 (Z5m N p1 r2 hr2) y7 (Zj8 Z04 hb3) (Zj8 Z04 hb3) (.c4 (Zj8 Z04 hb4) y7 y7 (Zce N r1.1 r2.1 r5 hr5) y5))
  ·obtain ⟨r6,hr6,h⟩:=yj h
   obtain rfl:=yl h
   exact y9 439 [ay,.reg [aa, yg [az r1.1.fNeg r1.1.fMag,dv (.bool r1.2)],aa,aa,aa,aa,aa,aa],.reg [aa, yg [az r2.1.fNeg r2.1.fMag,dv (.bool r2.2)],aa,aa,aa,aa,aa,aa],.reg [aa,aa,aa, { h:=.pick true },aa],ae,af,ah,.reg [aa,aa,aa, yg [vi r6],aa]] func73 (.c8 y7 (Z5m N p0 r1 hr1) y7 y7 (Z5m N p1 r2 hr2) y7 (Zj8 Z04 hb3) (Zj8 Z04 hb3) (.c4 (Z01 Z04 hb4) (Zj8 Z04 hb3) y7 y7 (.cons (Zef N r1.1 p1.fBits r6 hr6) y5)))
 ·rcases Z07 h with ⟨hb7,h⟩ | ⟨hb7,h⟩
  ·obtain ⟨r8,hr8,h⟩:=yj h
   obtain rfl:=yl h
   exact y9 439 [ay,.reg [aa, yg [az r1.1.fNeg r1.1.fMag,dv (.bool r1.2)],aa,aa,aa,aa,aa,aa],.reg [aa, yg [az r2.1.fNeg r2.1.fMag,dv (.bool r2.2)],aa,aa,aa,aa,aa,aa],.reg [aa,aa,w0, { h:=.pick false },aa],ae,af,ae,af,ah,.reg [aa,aa,aa, yg [vi r8],aa,aa]] func73 (.c8 y7 (Z5m N p0 r1 hr1) y7 y7 (Z5m N p1 r2 hr2) y7 (Z01 Z04 hb3) (Z01 Z04 hb3) (.c4 yf (Z01 Z04 hb3) (Zj8 Z04 hb7) y7 (.c2 y7 (Zef N r2.1 p0.fBits r8 hr8) y5)))
  ·obtain ⟨r9,hr9,h⟩:=yj h
   obtain rfl:=yl h
   exact y9 439 [ay,.reg [aa, yg [az r1.1.fNeg r1.1.fMag,dv (.bool r1.2)],aa,aa,aa,aa,aa,aa],.reg [aa, yg [az r2.1.fNeg r2.1.fMag,dv (.bool r2.2)],aa,aa,aa,aa,aa,aa],.reg [aa,aa,w0, { h:=.pick false },aa],ae,af,ae,af,ae,.reg [aa,aa,aa,aa, yg [vi r9],aa]] func73 (.c8 y7 (Z5m N p0 r1 hr1) y7 y7 (Z5m N p1 r2 hr2) y7 (Z01 Z04 hb3) (Z01 Z04 hb3) (.c4 yf (Z01 Z04 hb3) (Z01 Z04 hb7) y7 (.c2 y7 (real_Cmp_spec N p0.fBits p1.fBits r9 hr9) y5)))
def Z9j (r:Int):List PV:=[vi r]
def Z49 (N:Nat) (p0:ByteArray) (p1:ByteArray):Option Int:=some (Lift.scmp p0 p1)
theorem Z90 (N:Nat) (p0:ByteArray) (p1:ByteArray) (r:Int) (h:Z49 N p0 p1=some r):Ziz prog 104 [dv (.str p0),dv (.str p1)] (Z9j r):=by
 unfold Z49 at h
 obtain rfl:=yl h
 exact y9 138 [ak,.reg [aa,aa, { h:=.ext (.int .i64 (Lift.scmp p0 p1)) },aa]] func104 (.cons (ext_cmpstr func139 (by kernel_rfl) (by kernel_rfl) (by kernel_rfl) (by kernel_rfl):Ziy prog 139 #[.string p0,.string p1] (.int .i64 (Lift.scmp p0 p1))) y5)
def Zhy (r:Int):List PV:=[vi r]
def Zbx (N:Nat) (p0:ByteArray) (p1:ByteArray):Option Int:=(Z49 N p0 p1).bind fun r1=>some r1
theorem Zgq (N:Nat) (p0:ByteArray) (p1:ByteArray) (r:Int) (h:Zbx N p0 p1=some r):Ziz prog 75 [dv (.str p0),dv (.str p1)] (Zhy r):=by
 unfold Zbx at h
 obtain ⟨r1,hr1,h⟩:=yj h
 obtain rfl:=yl h
 exact y9 138 [ak,.reg [aa,aa, yg [vi r1],aa]] func75 (.cons (Z90 N p0 p1 r1 hr1) y5)
def Z0v (p0:(List Z00)) (p1:(List Z00)) (v13:Int):St:={ fr:=([(da (.sl 7 (p0.map Z02))),(da (.sl 7 (p1.map Z02))),(.v (.one (.fn 38 [])))]++bads 8++[(da (.sl 7 (p0.map Z02))),(ai (p0.length:Int)),(ai v13)]++bads 25),obs:=[] }
def Z1f (p0:(List Z00)) (p1:(List Z00)) (o:Unit):St:={ fr:=([(da (.sl 7 (p0.map Z02))),(da (.sl 7 (p1.map Z02)))]++bads 37),obs:=[] }
def Z24 (p0:(List Z00)) (p1:(List Z00)) (o:Int):St:={ fr:=(bads 6++[(ai o)]++bads 32),obs:=[] }
def Z3z (r:Int):List PV:=[vi r]
def Zca (p0:Z00) (p1:Z00):St:={ fr:=([.bad,.bad,(.v (.one (.ptr 2 0))),(.v (.one (.ptr 3 0)))]++bads 14++[(ai p0.fKind)]++bads 38),obs:=[(3,.var (Z0d p1)),(2,.var (Z0d p0))] }
def Zc0 (p0:Z00) (p1:Z00) (o:Unit):St:={ fr:=([.bad,.bad,(.v (.one (.ptr 2 0))),(.v (.one (.ptr 3 0)))]++bads 53),obs:=[(3,.var (Z0d p1)),(2,.var (Z0d p0))] }
def Z3w (p0:Z00) (p1:Z00) (o:Unit):St:={ fr:=([.bad,.bad,(.v (.one (.ptr 2 0))),(.v (.one (.ptr 3 0)))]++bads 14++[(ai p0.fKind)]++bads 38),obs:=[(3,.var (Z0d p1)),(2,.var (Z0d p0))] }
def Zd4 (r:Int):List PV:=[vi r]
mutual
def slices_CompareFunc_api_Term_api_Term_api_Term_api_Term_L0:Nat→(List Z00)→(List Z00)→Int→Option ((Unit) ⊕ (Int))
 |0,_,_,_=>none
 |N+1,p0,p1,v13=>if v13 < (p0.length:Int) then (idx p0 v13).bind fun x2=>if v13 ≥ (p1.length:Int) then some (.inr (1:Int)) else (idx p1 v13).bind fun x4=>(order_compare N x2 x4).bind fun r5=>if r5 ≠ (0:Int) then some (.inr r5) else slices_CompareFunc_api_Term_api_Term_api_Term_api_Term_L0 N p0 p1 (wrap .i64 (v13+(1:Int))) else some (.inl ())
def slices_CompareFunc_api_Term_api_Term_api_Term_api_Term:Nat→(List Z00)→(List Z00)→Option Int
 |0,_,_=>none
 |N+1,p0,p1=>(slices_CompareFunc_api_Term_api_Term_api_Term_api_Term_L0 N p0 p1 (0:Int)).bind fun r7=>(match r7 with | .inl r8=>if (p0.length:Int) < (p1.length:Int) then some (-1:Int) else some (0:Int) | .inr r9=>some r9)
def order_compare_B0:Nat→Z00→Z00→Option ((Unit) ⊕ (Unit))
 |0,_,_=>none
 |N+1,p0,p1=>if p0.fKind=(1:Int) then some (.inl ()) else if p0.fKind=(2:Int) then some (.inl ()) else if p0.fKind=(3:Int) then some (.inl ()) else some (.inr ())
def order_compare:Nat→Z00→Z00→Option Int
 |0,_,_=>none
 |N+1,p0,p1=>(Zbs N p0.fKind).bind fun r1=>(Zbs N p1.fKind).bind fun r2=>(Z56 N r1 r2).bind fun r3=>if r3 ≠ (0:Int) then some r3 else (order_compare_B0 N p0 p1).bind fun r8=>(match r8 with | .inl r9=>(Zbi N p0 p1).bind fun r11=>some r11 | .inr r10=>if p0.fKind=(6:Int) then (Z56 N (p0.fArgs.length:Int) (p1.fArgs.length:Int)).bind fun r13=>if r13 ≠ (0:Int) then some r13 else (slices_CompareFunc_api_Term_api_Term_api_Term_api_Term N p0.fArgs p1.fArgs).bind fun r15=>some r15 else if p0.fKind=(8:Int) then (slices_CompareFunc_api_Term_api_Term_api_Term_api_Term N p0.fArgs p1.fArgs).bind fun r17=>some r17 else if p0.fKind=(9:Int) then (Zbx N p0.fBytes p1.fBytes).bind fun r19=>some r19 else (Z56 N p0.fN p1.fN).bind fun r20=>some r20)
end
structure Z43 (N:Nat):Prop where
 slices_CompareFunc_api_Term_api_Term_api_Term_api_Term_L0:∀ (p0:(List Z00)) (p1:(List Z00)) (v13:Int) (r:((Unit) ⊕ (Int))),slices_CompareFunc_api_Term_api_Term_api_Term_api_Term_L0 N p0 p1 v13=some r→match r with | .inl o=>Zj0 prog 379 (partOf f74 [1,0,1,0,0]) (Z0v p0 p1 v13) (.exit 0) (Z1f p0 p1 o) | .inr o=>Zj0 prog 379 (partOf f74 [1,0,1,0,0]) (Z0v p0 p1 v13) .ret (Z24 p0 p1 o)
 slices_CompareFunc_api_Term_api_Term_api_Term_api_Term:∀ (p0:(List Z00)) (p1:(List Z00)) (r:Int),slices_CompareFunc_api_Term_api_Term_api_Term_api_Term N p0 p1=some r→Ziz prog 74 [dv (.sl 7 (p0.map Z02)),dv (.sl 7 (p1.map Z02)),.v (.one (.fn 38 []))] (Z3z r)
 order_compare_B0:∀ (p0:Z00) (p1:Z00) (r:((Unit) ⊕ (Unit))),order_compare_B0 N p0 p1=some r→match r with | .inl o=>Ziw prog 535 (partOf f38 [1,1,0,1,0,0,0,0,0,0,0,0,0,0,0]) (Zca p0 p1 ) (.exit 1) (Zc0 p0 p1 o) | .inr o=>Ziw prog 535 (partOf f38 [1,1,0,1,0,0,0,0,0,0,0,0,0,0,0]) (Zca p0 p1 ) .normal (Z3w p0 p1 o)
 order_compare:∀ (p0:Z00) (p1:Z00) (r:Int),order_compare N p0 p1=some r→Ziz prog 38 [.v (.agg (Z0a p0)),.v (.agg (Z0a p1))] (Zd4 r)
theorem Z37:∀ N,Z43 N:=by
 intro N
 induction N with
 |zero =>
  constructor
  ·intro p0 p1 v13 r h; rw [slices_CompareFunc_api_Term_api_Term_api_Term_api_Term_L0] at h; cases h
  ·intro p0 p1 r h; rw [slices_CompareFunc_api_Term_api_Term_api_Term_api_Term] at h; cases h
  ·intro p0 p1 r h; rw [order_compare_B0] at h; cases h
  ·intro p0 p1 r h; rw [order_compare] at h; cases h
 |succ N ih =>
  constructor
  ·intro p0 p1 v13 r h
   rw [slices_CompareFunc_api_Term_api_Term_api_Term_api_Term_L0] at h
   rcases Z07 h with ⟨hb1,h⟩ | ⟨hb1,h⟩
   ·obtain ⟨x2,hx2,h⟩:=yj h
    rcases Z07 h with ⟨hb3,h⟩ | ⟨hb3,h⟩
    ·obtain rfl:=yl h
     exact Zj0.out (y8 [ak,ah,.reg [aa, { cast:=some (.v (.one (.fptr (Z13 x2)))) },aa,aa,aa,aa],.reg [aa,aa, { cast:=some (ai (p1.length:Int)) },aa],ah,ak,.adj [.keep [6] []]] (.c4 (Zj8 Z06 hb1) (Z0m (r:=Z02) hx2) (Z0i hx2 (Z0b x2)) y7 (.c2 y7 (Zjk (r:=Z02) (xs:=p1)) (.cons (Zj8 Z06 hb3) y5)))) (by simp)
    ·obtain ⟨x4,hx4,h⟩:=yj h
     obtain ⟨r5,hr5,h⟩:=yj h
     rcases Z07 h with ⟨hb6,h⟩ | ⟨hb6,h⟩
     ·obtain rfl:=yl h
      exact Zj0.out (y8 [ak,ah,.reg [aa, { cast:=some (.v (.one (.fptr (Z13 x2)))) },aa,aa,aa,aa],.reg [aa,aa, { cast:=some (ai (p1.length:Int)) },aa],ae,.reg [aa,aa, { cast:=some (.v (.one (.fptr (Z13 x4)))) },aa,aa,aa],.reg [aa,aa,aa, yg [vi r5],aa],af,ah,af,.adj [.keep [6] []]] (.c8 (Zj8 Z06 hb1) (Z0m (r:=Z02) hx2) (Z0i hx2 (Z0b x2)) y7 y7 (Zjk (r:=Z02) (xs:=p1)) (Z01 Z06 hb3) (Z0m (r:=Z02) hx4) (.c4 (Z0i hx4 (Z0b x4)) y7 y7 y7 (.c2 y7 ((ih.order_compare) x2 x4 r5 hr5) (.cons (Zj8 Z0h hb6) y5))))) (by simp)
     ·have hl:=ih.slices_CompareFunc_api_Term_api_Term_api_Term_api_Term_L0 p0 p1 (wrap .i64 (v13+(1:Int))) _ h
      have ha:=Ziw.of_run [ak,ah,.reg [aa, { cast:=some (.v (.one (.fptr (Z13 x2)))) },aa,aa,aa,aa],.reg [aa,aa, { cast:=some (ai (p1.length:Int)) },aa],ae,.reg [aa,aa, { cast:=some (.v (.one (.fptr (Z13 x4)))) },aa,aa,aa],.reg [aa,aa,aa, yg [vi r5],aa],af,ae,af,.adj [.keep [0,1,2,11,12,13] []]] (by kernel_rfl:runTo prog 379 (partOf f74 [1,0,1,0,0]) _ (Z0v p0 p1 v13)=some (.normal,(Z0v p0 p1 (wrap .i64 (v13+(1:Int)))),_)) (.c8 (Zj8 Z06 hb1) (Z0m (r:=Z02) hx2) (Z0i hx2 (Z0b x2)) y7 y7 (Zjk (r:=Z02) (xs:=p1)) (Z01 Z06 hb3) (Z0m (r:=Z02) hx4) (.c4 (Z0i hx4 (Z0b x4)) y7 y7 y7 (.c2 y7 ((ih.order_compare) x2 x4 r5 hr5) (.cons (Z01 Z0h hb6) y5))))
      rcases r with o | o <;> exact Zj0.again ha hl
   ·obtain rfl:=yl h
    exact Zj0.out (y8 [ak,ae,.adj [.keep [0,1] []]] (.cons (Z01 Z06 hb1) y5)) (by simp)
  ·intro p0 p1 r h
   rw [slices_CompareFunc_api_Term_api_Term_api_Term_api_Term] at h
   obtain ⟨r7,hr7,h⟩:=yj h
   rcases r7 with r8 | r9
   ·rcases Z07 h with ⟨hb10,h⟩ | ⟨hb10,h⟩
    ·obtain rfl:=yl h
     exact y9 379 [ak,.reg [aa, { cast:=some (ai (p0.length:Int)) },aa],.adj [.keep [0,1,2,11,12,13] []],.cut (.exit 0) (Z1f p0 p1 r8),.reg [aa, { cast:=some (ai (p0.length:Int)) },aa, { cast:=some (ai (p1.length:Int)) },aa],ah,ak] func74 (.c4 (Zjk (r:=Z02) (xs:=p0)) (Ziw.of_loop ((ih.slices_CompareFunc_api_Term_api_Term_api_Term_api_Term_L0) p0 p1 (0:Int) (.inl r8) hr7)) (Zjk (r:=Z02) (xs:=p0)) (Zjk (r:=Z02) (xs:=p1)) (.cons (Zj8 Z06 hb10) y5))
    ·obtain rfl:=yl h
     exact y9 379 [ak,.reg [aa, { cast:=some (ai (p0.length:Int)) },aa],.adj [.keep [0,1,2,11,12,13] []],.cut (.exit 0) (Z1f p0 p1 r8),.reg [aa, { cast:=some (ai (p0.length:Int)) },aa, { cast:=some (ai (p1.length:Int)) },aa],ae,ak] func74 (.c4 (Zjk (r:=Z02) (xs:=p0)) (Ziw.of_loop ((ih.slices_CompareFunc_api_Term_api_Term_api_Term_api_Term_L0) p0 p1 (0:Int) (.inl r8) hr7)) (Zjk (r:=Z02) (xs:=p0)) (Zjk (r:=Z02) (xs:=p1)) (.cons (Z01 Z06 hb10) y5))
   ·obtain rfl:=yl h
    exact y9 379 [ak,.reg [aa, { cast:=some (ai (p0.length:Int)) },aa],.adj [.keep [0,1,2,11,12,13] []],.cut .ret (Z24 p0 p1 r9)] func74 (.c2 (Zjk (r:=Z02) (xs:=p0)) (Ziw.of_loop ((ih.slices_CompareFunc_api_Term_api_Term_api_Term_api_Term_L0) p0 p1 (0:Int) (.inr r9) hr7)) y5)
  ·intro p0 p1 r h
   rw [order_compare_B0] at h
   rcases Z07 h with ⟨hb5,h⟩ | ⟨hb5,h⟩
   ·obtain rfl:=yl h
    exact y8 [af,ah,ah,.adj [.keep [2,3] [3,2]]] (.c2 (Zj8 Z03 hb5) (Zj8 Z03 hb5) y5)
   ·rcases Z07 h with ⟨hb6,h⟩ | ⟨hb6,h⟩
    ·obtain rfl:=yl h
     exact y8 [af,ae,af,ah,ah,.adj [.keep [2,3] [3,2]]] (.c2 (Z01 Z03 hb5) (Zj8 Z03 hb6) (.cons (Zj8 Z03 hb6) y5))
    ·rcases Z07 h with ⟨hb7,h⟩ | ⟨hb7,h⟩
     ·obtain rfl:=yl h
      exact y8 [af,ae,af,ae,af,ah,.adj [.keep [2,3] [3,2]]] (.c2 (Z01 Z03 hb5) (Z01 Z03 hb6) (.cons (Zj8 Z03 hb7) y5))
     ·obtain rfl:=yl h
      exact y8 [af,ae,af,ae,af,ae,.adj [.keep [2,3,18] [3,2]]] (.c2 (Z01 Z03 hb5) (Z01 Z03 hb6) (.cons (Z01 Z03 hb7) y5))
  ·intro p0 p1 r h
   rw [order_compare] at h
   obtain ⟨r1,hr1,h⟩:=yj h
   obtain ⟨r2,hr2,h⟩:=yj h
   obtain ⟨r3,hr3,h⟩:=yj h
   rcases Z07 h with ⟨hb4,h⟩ | ⟨hb4,h⟩
   ·obtain rfl:=yl h
    exact y9 535 [ay,.reg [aa,aa, yg [vi r1],aa,aa, yg [vi r2], yg [vi r3],aa],af,ah,af] func38 (.c4 y7 (Z1r N p0.fKind r1 hr1) y7 (Z1r N p1.fKind r2 hr2) (.c2 (Z1a N r1 r2 r3 hr3) (Zj8 Z0h hb4) y5))
   ·obtain ⟨r8,hr8,h⟩:=yj h
    rcases r8 with r9 | r10
    ·obtain ⟨r11,hr11,h⟩:=yj h
     obtain rfl:=yl h
     exact y9 535 [ay,.reg [aa,aa, yg [vi r1],aa,aa, yg [vi r2], yg [vi r3],aa],af,ae,af,.deep 11 [.keep [2,3,18] [3,2]] (.exit 1) (Zc0 p0 p1 r9),.reg [aa,aa, yg [vi r11],aa]] func38 (.c8 y7 (Z1r N p0.fKind r1 hr1) y7 (Z1r N p1.fKind r2 hr2) (Z1a N r1 r2 r3 hr3) (Z01 Z0h hb4) y7 ((ih.order_compare_B0) p0 p1 (.inl r9) hr8) (.c2 y7 y7 (.cons (Zib N p0 p1 r11 hr11) y5)))
    ·rcases Z07 h with ⟨hb12,h⟩ | ⟨hb12,h⟩
     ·obtain ⟨r13,hr13,h⟩:=yj h
      rcases Z07 h with ⟨hb14,h⟩ | ⟨hb14,h⟩
      ·obtain rfl:=yl h
       exact y9 535 [ay,.reg [aa,aa, yg [vi r1],aa,aa, yg [vi r2], yg [vi r3],aa],af,ae,af,.deep 11 [.keep [2,3,18] [3,2]] .normal (Z3w p0 p1 r10),af,ah,.reg [aa,aa, { cast:=some (ai (p0.fArgs.length:Int)) },aa,aa, { cast:=some (ai (p1.fArgs.length:Int)) }, yg [vi r13],aa],af,ah,af] func38 (.c8 y7 (Z1r N p0.fKind r1 hr1) y7 (Z1r N p1.fKind r2 hr2) (Z1a N r1 r2 r3 hr3) (Z01 Z0h hb4) y7 ((ih.order_compare_B0) p0 p1 (.inr r10) hr8) (.c4 (Zj8 Z03 hb12) y7 (Zjk (r:=Z02) (xs:=p0.fArgs)) y7 (.c2 (Zjk (r:=Z02) (xs:=p1.fArgs)) (Z1a N (p0.fArgs.length:Int) (p1.fArgs.length:Int) r13 hr13) (.cons (Zj8 Z0h hb14) y5))))
      ·obtain ⟨r15,hr15,h⟩:=yj h
       obtain rfl:=yl h
       exact y9 535 [ay,.reg [aa,aa, yg [vi r1],aa,aa, yg [vi r2], yg [vi r3],aa],af,ae,af,.deep 11 [.keep [2,3,18] [3,2]] .normal (Z3w p0 p1 r10),af,ah,.reg [aa,aa, { cast:=some (ai (p0.fArgs.length:Int)) },aa,aa, { cast:=some (ai (p1.fArgs.length:Int)) }, yg [vi r13],aa],af,ae,.reg [aa,aa,aa,aa, yg [vi r15],aa]] func38 (.c8 y7 (Z1r N p0.fKind r1 hr1) y7 (Z1r N p1.fKind r2 hr2) (Z1a N r1 r2 r3 hr3) (Z01 Z0h hb4) y7 ((ih.order_compare_B0) p0 p1 (.inr r10) hr8) (.c8 (Zj8 Z03 hb12) y7 (Zjk (r:=Z02) (xs:=p0.fArgs)) y7 (Zjk (r:=Z02) (xs:=p1.fArgs)) (Z1a N (p0.fArgs.length:Int) (p1.fArgs.length:Int) r13 hr13) (Z01 Z0h hb14) y7 (.c2 y7 ((ih.slices_CompareFunc_api_Term_api_Term_api_Term_api_Term) p0.fArgs p1.fArgs r15 hr15) y5)))
     ·rcases Z07 h with ⟨hb16,h⟩ | ⟨hb16,h⟩
      ·obtain ⟨r17,hr17,h⟩:=yj h
       obtain rfl:=yl h
       exact y9 535 [ay,.reg [aa,aa, yg [vi r1],aa,aa, yg [vi r2], yg [vi r3],aa],af,ae,af,.deep 11 [.keep [2,3,18] [3,2]] .normal (Z3w p0 p1 r10),af,ae,af,ah,.reg [aa,aa,aa,aa, yg [vi r17],aa]] func38 (.c8 y7 (Z1r N p0.fKind r1 hr1) y7 (Z1r N p1.fKind r2 hr2) (Z1a N r1 r2 r3 hr3) (Z01 Z0h hb4) y7 ((ih.order_compare_B0) p0 p1 (.inr r10) hr8) (.c4 (Z01 Z03 hb12) (Zj8 Z03 hb16) y7 y7 (.cons ((ih.slices_CompareFunc_api_Term_api_Term_api_Term_api_Term) p0.fArgs p1.fArgs r17 hr17) y5)))
      ·rcases Z07 h with ⟨hb18,h⟩ | ⟨hb18,h⟩
       ·obtain ⟨r19,hr19,h⟩:=yj h
        obtain rfl:=yl h
        exact y9 535 [ay,.reg [aa,aa, yg [vi r1],aa,aa, yg [vi r2], yg [vi r3],aa],af,ae,af,.deep 11 [.keep [2,3,18] [3,2]] .normal (Z3w p0 p1 r10),af,ae,af,ae,af,ah,.reg [aa,aa,aa,aa, yg [vi r19],aa]] func38 (.c8 y7 (Z1r N p0.fKind r1 hr1) y7 (Z1r N p1.fKind r2 hr2) (Z1a N r1 r2 r3 hr3) (Z01 Z0h hb4) y7 ((ih.order_compare_B0) p0 p1 (.inr r10) hr8) (.c4 (Z01 Z03 hb12) (Z01 Z03 hb16) (Zj8 Z03 hb18) y7 (.c2 y7 (Zgq N p0.fBytes p1.fBytes r19 hr19) y5)))
       ·obtain ⟨r20,hr20,h⟩:=yj h
        obtain rfl:=yl h
        exact y9 535 [ay,.reg [aa,aa, yg [vi r1],aa,aa, yg [vi r2], yg [vi r3],aa],af,ae,af,.deep 11 [.keep [2,3,18] [3,2]] .normal (Z3w p0 p1 r10),af,ae,af,ae,af,ae,.reg [aa,aa,aa,aa, yg [vi r20],aa]] func38 (.c8 y7 (Z1r N p0.fKind r1 hr1) y7 (Z1r N p1.fKind r2 hr2) (Z1a N r1 r2 r3 hr3) (Z01 Z0h hb4) y7 ((ih.order_compare_B0) p0 p1 (.inr r10) hr8) (.c4 (Z01 Z03 hb12) (Z01 Z03 hb16) (Z01 Z03 hb18) y7 (.c2 y7 (Z1a N p0.fN p1.fN r20 hr20) y5)))
theorem Zch (N:Nat) (p0:Z00) (p1:Z00) (r:Int) (h:order_compare N p0 p1=some r):Ziz prog 38 [.v (.agg (Z0a p0)),.v (.agg (Z0a p1))] (Zd4 r):=(Z37 N).order_compare p0 p1 r h
theorem Z47 [Thr] (N:Nat) (p0:Z00) (p1:Z00) (r:Int) (h:order_compare N p0 p1=some r):Ziz prog 38 [.v (.agg (Zaj p0)),.v (.agg (Zaj p1))] [vi r]:=by
 refine Ziz.le ?_ (Zch N p0 p1 r h)
 exact ⟨Zih p0,Zih p1,trivial⟩
def order_Cmp_fin (r:Int):List PV:=[vi r]
def Z8h (N:Nat) (p0:Z00) (p1:Z00):Option Int:=(Zdy N p0).bind fun r1=>if ¬ (r1=true) then some (0:Int) else (Zdy N p1).bind fun r3=>if ¬ (r3=true) then some (0:Int) else (order_compare N p0 p1).bind fun r5=>some r5
theorem Z1m (N:Nat) (p0:Z00) (p1:Z00) (r:Int) (h:Z8h N p0 p1=some r):Ziz prog 16 [.v (.agg (Z0a p0)),.v (.agg (Z0a p1))] (order_Cmp_fin r):=by
 unfold Z8h at h
 obtain ⟨r1,hr1,h⟩:=yj h
 rcases Z07 h with ⟨hb2,h⟩ | ⟨hb2,h⟩
 ·obtain rfl:=yl h
  exact y9 212 [ay,.reg [aa, yg [dv (.bool r1)],aa,aa,w0,w0,w0, { h:=.pick true }],ah,ak] func16 (.c4 y7 (Z44 N p0 r1 hr1) (Zj8 (Z09 Z04) hb2) (Zj8 (Z09 Z04) hb2) (.c2 (Zj8 (Z09 Z04) hb2) (Zj8 (Z09 Z04) hb2) (.cons (Eq.refl true) y5)))
 ·obtain ⟨r3,hr3,h⟩:=yj h
  rcases Z07 h with ⟨hb4,h⟩ | ⟨hb4,h⟩
  ·obtain rfl:=yl h
   exact y9 212 [ay,.reg [aa, yg [dv (.bool r1)],aa,aa,aa, yg [dv (.bool r3)],aa, { h:=.pick false }],ah,ak] func16 (.c8 y7 (Z44 N p0 r1 hr1) (Z01 (Z09 Z04) hb2) y7 (Z01 (Z09 Z04) hb2) (Z44 N p1 r3 hr3) (Z01 (Z09 Z04) hb2) (Z01 (Z09 Z04) hb2) (.cons (Zj8 (Z09 Z04) hb4) y5))
  ·obtain ⟨r5,hr5,h⟩:=yj h
   obtain rfl:=yl h
   exact y9 212 [ay,.reg [aa, yg [dv (.bool r1)],aa,aa,aa, yg [dv (.bool r3)],aa, { h:=.pick false }],ae,.reg [aa,aa, yg [vi r5],aa]] func16 (.c8 y7 (Z44 N p0 r1 hr1) (Z01 (Z09 Z04) hb2) y7 (Z01 (Z09 Z04) hb2) (Z44 N p1 r3 hr3) (Z01 (Z09 Z04) hb2) (Z01 (Z09 Z04) hb2) (.c4 (Z01 (Z09 Z04) hb4) y7 y7 (Zch N p0 p1 r5 hr5) y5))
def order_Less_fin (r:Bool):List PV:=[dv (.bool r)]
def Zbl (N:Nat) (p0:Z00) (p1:Z00):Option Bool:=(Z8h N p0 p1).bind fun r1=>some (decide (r1 < (0:Int)))
theorem Z3b (N:Nat) (p0:Z00) (p1:Z00) (r:Bool) (h:Zbl N p0 p1=some r):Ziz prog 17 [.v (.agg (Z0a p0)),.v (.agg (Z0a p1))] (order_Less_fin r):=by
 unfold Zbl at h
 obtain ⟨r1,hr1,h⟩:=yj h
 obtain rfl:=yl h
 exact y9 157 [ay,.reg [aa,aa, yg [vi r1],aa,aa]] func17 (.c2 y7 y7 (.cons (Z1m N p0 p1 r1 hr1) y5))
def Zej:St:={ fr:=([.bad,(.v (.one (.ptr 1 0)))]++bads 34),obs:=[(1,.var [.d (.int .i64 (3:Int)),.d (.int .i64 (0:Int)),.d (.bool false),.d (.nils),.d (.int .u64 (4607182418800017408:Int)),.d (.str (ByteArray.mk #[])),.d (.nils)])] }
def Z9w (o:Bool):St:={ fr:=([(da (.bool o))]++bads 35),obs:=[] }
def Z8f:Nat→Option (Bool)
 |0=>none
 |N+1=>(term_Int N (1:Int)).bind fun r1=>(Z8h N r1 (Z00.mk (3:Int) (0:Int) (Z08.mk false []) (4607182418800017408:Int) (ByteArray.mk #[]) [])).bind fun r2=>if r2=(-1:Int) then (Z8h N (Z00.mk (6:Int) (0:Int) (Z08.mk false []) (0:Int) (ByteArray.mk #[]) []) (Z00.mk (7:Int) (0:Int) (Z08.mk false []) (0:Int) (ByteArray.mk #[]) [])).bind fun r4=>if r4=(-1:Int) then (term_Int N (2:Int)).bind fun r7=>(Zbl N r1 r7).bind fun r8=>if r8=true then (Zbl N r7 r7).bind fun r12=>if ¬ (r12=true) then (Z8h N (Z00.mk (3:Int) (0:Int) (Z08.mk false []) (4607182418800017408:Int) (ByteArray.mk #[]) []) (Z00.mk (3:Int) (0:Int) (Z08.mk false []) (4607182418800017408:Int) (ByteArray.mk #[]) [])).bind fun r14=>if r14=(0:Int) then (Z8h N r7 (Z00.mk (3:Int) (0:Int) (Z08.mk false []) (4607182418800017408:Int) (ByteArray.mk #[]) [])).bind fun r17=>some (r17 == (1:Int)) else some false else some false else some false else some false else some false
theorem Zct:∀ (N:Nat) (r:(Bool)),Z8f N=some r→Ziw prog 364 (partOf f11 [1,1,0]) (Zej  ) .normal (Z9w  r):=by
 intro N
 induction N with
 |zero=>intro r h; cases h
 |succ N ih =>
  intro r h
  rw [Z8f] at h
  obtain ⟨r1,hr1,h⟩:=yj h
  obtain ⟨r2,hr2,h⟩:=yj h
  rcases Z07 h with ⟨hb3,h⟩ | ⟨hb3,h⟩
  ·obtain ⟨r4,hr4,h⟩:=yj h
   rcases Z07 h with ⟨hb5,h⟩ | ⟨hb5,h⟩
   ·obtain ⟨r7,hr7,h⟩:=yj h
    obtain ⟨r8,hr8,h⟩:=yj h
    rcases Z07 h with ⟨hb9,h⟩ | ⟨hb9,h⟩
    ·obtain ⟨r12,hr12,h⟩:=yj h
     rcases Z07 h with ⟨hb13,h⟩ | ⟨hb13,h⟩
     ·obtain ⟨r14,hr14,h⟩:=yj h
      rcases Z07 h with ⟨hb15,h⟩ | ⟨hb15,h⟩
      ·obtain ⟨r17,hr17,h⟩:=yj h
       obtain rfl:=yl h
       exact y8 [.reg [yg [.v (.agg (Z0a r1))],aa, yg [vi r2],aa,aa,aa,aa, yg [vi r4],aa, { h:=.pick true },aa, yg [.v (.agg (Z0a r1))], yg [.v (.agg (Z0a r7))], yg [dv (.bool r8)], { h:=.pick true },aa, yg [.v (.agg (Z0a r7))], yg [.v (.agg (Z0a r7))], yg [dv (.bool r12)],aa, { h:=.pick true },aa,aa,aa, yg [vi r14],aa, { h:=.pick true },aa, yg [.v (.agg (Z0a r7))],aa, yg [vi r17],aa, { h:=.pick true },aa],.adj [.keep [0] []]] (.c8 (Z1i N (1:Int) r1 hr1) y7 (Ziz.le (All2.cons (PV.Le.refl _) (All2.cons (PV.Le.agg (All2.cons (OC.Le.refl _) (All2.cons (OC.Le.refl _) (All2.cons (OC.Le.refl _) (All2.cons (OC.Le.dat (C.Le.nils 1)) (All2.cons (OC.Le.refl _) (All2.cons (OC.Le.refl _) (All2.cons (OC.Le.dat (C.Le.nils 7)) (All2.nil))))))))) (All2.nil))) (Z1m N r1 (Z00.mk (3:Int) (0:Int) (Z08.mk false []) (4607182418800017408:Int) (ByteArray.mk #[]) []) r2 hr2):Ziz prog 16 [.v (.agg (Z0a r1)),.v (.agg [di (3:Int),di (0:Int),.dat (.bool false),.dat (.nils),.dat (.int .u64 (4607182418800017408:Int)),.dat (.str (ByteArray.mk #[])),.dat (.nils)])] [vi r2]) (Zj8 Z03 hb3) (Zj8 Z03 hb3) (Zj8 Z03 hb3) (Ziz.le (All2.cons (PV.Le.agg (All2.cons (OC.Le.refl _) (All2.cons (OC.Le.refl _) (All2.cons (OC.Le.refl _) (All2.cons (OC.Le.dat (C.Le.nils 1)) (All2.cons (OC.Le.refl _) (All2.cons (OC.Le.refl _) (All2.cons (OC.Le.dat (C.Le.nils 7)) (All2.nil))))))))) (All2.cons (PV.Le.agg (All2.cons (OC.Le.refl _) (All2.cons (OC.Le.refl _) (All2.cons (OC.Le.refl _) (All2.cons (OC.Le.dat (C.Le.nils 1)) (All2.cons (OC.Le.refl _) (All2.cons (OC.Le.refl _) (All2.cons (OC.Le.dat (C.Le.nils 7)) (All2.nil))))))))) (All2.nil))) (Z1m N (Z00.mk (6:Int) (0:Int) (Z08.mk false []) (0:Int) (ByteArray.mk #[]) []) (Z00.mk (7:Int) (0:Int) (Z08.mk false []) (0:Int) (ByteArray.mk #[]) []) r4 hr4):Ziz prog 16 [.v (.agg [di (6:Int),di (0:Int),.dat (.bool false),.dat (.nils),.dat (.int .u64 (0:Int)),.dat (.str (ByteArray.mk #[])),.dat (.nils)]),.v (.agg [di (7:Int),di (0:Int),.dat (.bool false),.dat (.nils),.dat (.int .u64 (0:Int)),.dat (.str (ByteArray.mk #[])),.dat (.nils)])] [vi r4]) (Zj8 Z03 hb3) (.c8 (Zj8 Z03 hb3) (Zj8 Z03 hb5) (Z1i N (1:Int) r1 hr1) (Zj8 Z03 hb5) (Z1i N (2:Int) r7 hr7) (Zj8 Z03 hb5) (Z3b N r1 r7 r8 hr8) (Zj8 Z03 hb5) (.c8 (Zj8 Z04 hb9) (Z1i N (2:Int) r7 hr7) (Zj8 Z04 hb9) (Z1i N (2:Int) r7 hr7) (Zj8 Z04 hb9) (Z3b N r7 r7 r12 hr12) (Zj8 Z04 hb9) (Zj8 Z04 hb9) (.c8 (Zj8 (Z09 Z04) hb13) y7 (Zj8 (Z09 Z04) hb13) y7 (Zj8 (Z09 Z04) hb13) (Ziz.le (All2.cons (PV.Le.agg (All2.cons (OC.Le.refl _) (All2.cons (OC.Le.refl _) (All2.cons (OC.Le.refl _) (All2.cons (OC.Le.dat (C.Le.nils 1)) (All2.cons (OC.Le.refl _) (All2.cons (OC.Le.refl _) (All2.cons (OC.Le.dat (C.Le.nils 7)) (All2.nil))))))))) (All2.cons (PV.Le.agg (All2.cons (OC.Le.refl _) (All2.cons (OC.Le.refl _) (All2.cons (OC.Le.refl _) (All2.cons (OC.Le.dat (C.Le.nils 1)) (All2.cons (OC.Le.refl _) (All2.cons (OC.Le.refl _) (All2.cons (OC.Le.dat (C.Le.nils 7)) (All2.nil))))))))) (All2.nil))) (Z1m N (Z00.mk (3:Int) (0:Int) (Z08.mk false []) (4607182418800017408:Int) (ByteArray.mk #[]) []) (Z00.mk (3:Int) (0:Int) (Z08.mk false []) (4607182418800017408:Int) (ByteArray.mk #[]) []) r14 hr14):Ziz prog 16 [.v (.agg [di (3:Int),di (0:Int),.dat (.bool false),.dat (.nils),.dat (.int .u64 (4607182418800017408:Int)),.dat (.str (ByteArray.mk #[])),.dat (.nils)]),.v (.agg [di (3:Int),di (0:Int),.dat (.bool false),.dat (.nils),.dat (.int .u64 (4607182418800017408:Int)),.dat (.str (ByteArray.mk #[])),.dat (.nils)])] [vi r14]) (Zj8 (Z09 Z04) hb13) (Zj8 (Z09 Z04) hb13) (.c8 (Zj8 Z03 hb15) (Z1i N (2:Int) r7 hr7) (Zj8 Z03 hb15) y7 (Zj8 Z03 hb15) (Ziz.le (All2.cons (PV.Le.refl _) (All2.cons (PV.Le.agg (All2.cons (OC.Le.refl _) (All2.cons (OC.Le.refl _) (All2.cons (OC.Le.refl _) (All2.cons (OC.Le.dat (C.Le.nils 1)) (All2.cons (OC.Le.refl _) (All2.cons (OC.Le.refl _) (All2.cons (OC.Le.dat (C.Le.nils 7)) (All2.nil))))))))) (All2.nil))) (Z1m N r7 (Z00.mk (3:Int) (0:Int) (Z08.mk false []) (4607182418800017408:Int) (ByteArray.mk #[]) []) r17 hr17):Ziz prog 16 [.v (.agg (Z0a r7)),.v (.agg [di (3:Int),di (0:Int),.dat (.bool false),.dat (.nils),.dat (.int .u64 (4607182418800017408:Int)),.dat (.str (ByteArray.mk #[])),.dat (.nils)])] [vi r17]) (Zj8 Z03 hb15) (Zj8 Z03 hb15) y5)))))
      ·obtain rfl:=yl h
       exact y8 [.reg [yg [.v (.agg (Z0a r1))],aa, yg [vi r2],aa,aa,aa,aa, yg [vi r4],aa, { h:=.pick true },aa, yg [.v (.agg (Z0a r1))], yg [.v (.agg (Z0a r7))], yg [dv (.bool r8)], { h:=.pick true },aa, yg [.v (.agg (Z0a r7))], yg [.v (.agg (Z0a r7))], yg [dv (.bool r12)],aa, { h:=.pick true },aa,aa,aa, yg [vi r14],aa, { h:=.pick true },aa, { want:=false,h:=.pcall [] },w0, { want:=false,h:=.pcall [] },w0, { h:=.pick false },aa],.adj [.keep [0] []]] (.c8 (Z1i N (1:Int) r1 hr1) y7 (Ziz.le (All2.cons (PV.Le.refl _) (All2.cons (PV.Le.agg (All2.cons (OC.Le.refl _) (All2.cons (OC.Le.refl _) (All2.cons (OC.Le.refl _) (All2.cons (OC.Le.dat (C.Le.nils 1)) (All2.cons (OC.Le.refl _) (All2.cons (OC.Le.refl _) (All2.cons (OC.Le.dat (C.Le.nils 7)) (All2.nil))))))))) (All2.nil))) (Z1m N r1 (Z00.mk (3:Int) (0:Int) (Z08.mk false []) (4607182418800017408:Int) (ByteArray.mk #[]) []) r2 hr2):Ziz prog 16 [.v (.agg (Z0a r1)),.v (.agg [di (3:Int),di (0:Int),.dat (.bool false),.dat (.nils),.dat (.int .u64 (4607182418800017408:Int)),.dat (.str (ByteArray.mk #[])),.dat (.nils)])] [vi r2]) (Zj8 Z03 hb3) (Zj8 Z03 hb3) (Zj8 Z03 hb3) (Ziz.le (All2.cons (PV.Le.agg (All2.cons (OC.Le.refl _) (All2.cons (OC.Le.refl _) (All2.cons (OC.Le.refl _) (All2.cons (OC.Le.dat (C.Le.nils 1)) (All2.cons (OC.Le.refl _) (All2.cons (OC.Le.refl _) (All2.cons (OC.Le.dat (C.Le.nils 7)) (All2.nil))))))))) (All2.cons (PV.Le.agg (All2.cons (OC.Le.refl _) (All2.cons (OC.Le.refl _) (All2.cons (OC.Le.refl _) (All2.cons (OC.Le.dat (C.Le.nils 1)) (All2.cons (OC.Le.refl _) (All2.cons (OC.Le.refl _) (All2.cons (OC.Le.dat (C.Le.nils 7)) (All2.nil))))))))) (All2.nil))) (Z1m N (Z00.mk (6:Int) (0:Int) (Z08.mk false []) (0:Int) (ByteArray.mk #[]) []) (Z00.mk (7:Int) (0:Int) (Z08.mk false []) (0:Int) (ByteArray.mk #[]) []) r4 hr4):Ziz prog 16 [.v (.agg [di (6:Int),di (0:Int),.dat (.bool false),.dat (.nils),.dat (.int .u64 (0:Int)),.dat (.str (ByteArray.mk #[])),.dat (.nils)]),.v (.agg [di (7:Int),di (0:Int),.dat (.bool false),.dat (.nils),.dat (.int .u64 (0:Int)),.dat (.str (ByteArray.mk #[])),.dat (.nils)])] [vi r4]) (Zj8 Z03 hb3) (.c8 (Zj8 Z03 hb3) (Zj8 Z03 hb5) (Z1i N (1:Int) r1 hr1) (Zj8 Z03 hb5) (Z1i N (2:Int) r7 hr7) (Zj8 Z03 hb5) (Z3b N r1 r7 r8 hr8) (Zj8 Z03 hb5) (.c8 (Zj8 Z04 hb9) (Z1i N (2:Int) r7 hr7) (Zj8 Z04 hb9) (Z1i N (2:Int) r7 hr7) (Zj8 Z04 hb9) (Z3b N r7 r7 r12 hr12) (Zj8 Z04 hb9) (Zj8 Z04 hb9) (.c8 (Zj8 (Z09 Z04) hb13) y7 (Zj8 (Z09 Z04) hb13) y7 (Zj8 (Z09 Z04) hb13) (Ziz.le (All2.cons (PV.Le.agg (All2.cons (OC.Le.refl _) (All2.cons (OC.Le.refl _) (All2.cons (OC.Le.refl _) (All2.cons (OC.Le.dat (C.Le.nils 1)) (All2.cons (OC.Le.refl _) (All2.cons (OC.Le.refl _) (All2.cons (OC.Le.dat (C.Le.nils 7)) (All2.nil))))))))) (All2.cons (PV.Le.agg (All2.cons (OC.Le.refl _) (All2.cons (OC.Le.refl _) (All2.cons (OC.Le.refl _) (All2.cons (OC.Le.dat (C.Le.nils 1)) (All2.cons (OC.Le.refl _) (All2.cons (OC.Le.refl _) (All2.cons (OC.Le.dat (C.Le.nils 7)) (All2.nil))))))))) (All2.nil))) (Z1m N (Z00.mk (3:Int) (0:Int) (Z08.mk false []) (4607182418800017408:Int) (ByteArray.mk #[]) []) (Z00.mk (3:Int) (0:Int) (Z08.mk false []) (4607182418800017408:Int) (ByteArray.mk #[]) []) r14 hr14):Ziz prog 16 [.v (.agg [di (3:Int),di (0:Int),.dat (.bool false),.dat (.nils),.dat (.int .u64 (4607182418800017408:Int)),.dat (.str (ByteArray.mk #[])),.dat (.nils)]),.v (.agg [di (3:Int),di (0:Int),.dat (.bool false),.dat (.nils),.dat (.int .u64 (4607182418800017408:Int)),.dat (.str (ByteArray.mk #[])),.dat (.nils)])] [vi r14]) (Zj8 (Z09 Z04) hb13) (Zj8 (Z09 Z04) hb13) (.c4 (Z01 Z03 hb15) (Z01 Z03 hb15) (Z01 Z03 hb15) (Z01 Z03 hb15) (.cons (Z01 Z03 hb15) y5))))))
     ·obtain rfl:=yl h
      exact y8 [.reg [yg [.v (.agg (Z0a r1))],aa, yg [vi r2],aa,aa,aa,aa, yg [vi r4],aa, { h:=.pick true },aa, yg [.v (.agg (Z0a r1))], yg [.v (.agg (Z0a r7))], yg [dv (.bool r8)], { h:=.pick true },aa, yg [.v (.agg (Z0a r7))], yg [.v (.agg (Z0a r7))], yg [dv (.bool r12)],aa, { h:=.pick true },aa,w0,w0, { want:=false,h:=.pcall [] },w0, { h:=.pick false },aa, { want:=false,h:=.pcall [] },w0, { want:=false,h:=.pcall [] },w0, { h:=.pick false },aa],.adj [.keep [0] []]] (.c8 (Z1i N (1:Int) r1 hr1) y7 (Ziz.le (All2.cons (PV.Le.refl _) (All2.cons (PV.Le.agg (All2.cons (OC.Le.refl _) (All2.cons (OC.Le.refl _) (All2.cons (OC.Le.refl _) (All2.cons (OC.Le.dat (C.Le.nils 1)) (All2.cons (OC.Le.refl _) (All2.cons (OC.Le.refl _) (All2.cons (OC.Le.dat (C.Le.nils 7)) (All2.nil))))))))) (All2.nil))) (Z1m N r1 (Z00.mk (3:Int) (0:Int) (Z08.mk false []) (4607182418800017408:Int) (ByteArray.mk #[]) []) r2 hr2):Ziz prog 16 [.v (.agg (Z0a r1)),.v (.agg [di (3:Int),di (0:Int),.dat (.bool false),.dat (.nils),.dat (.int .u64 (4607182418800017408:Int)),.dat (.str (ByteArray.mk #[])),.dat (.nils)])] [vi r2]) (Zj8 Z03 hb3) (Zj8 Z03 hb3) (Zj8 Z03 hb3) (Ziz.le (All2.cons (PV.Le.agg (All2.cons (OC.Le.refl _) (All2.cons (OC.Le.refl _) (All2.cons (OC.Le.refl _) (All2.cons (OC.Le.dat (C.Le.nils 1)) (All2.cons (OC.Le.refl _) (All2.cons (OC.Le.refl _) (All2.cons (OC.Le.dat (C.Le.nils 7)) (All2.nil))))))))) (All2.cons (PV.Le.agg (All2.cons (OC.Le.refl _) (All2.cons (OC.Le.refl _) (All2.cons (OC.Le.refl _) (All2.cons (OC.Le.dat (C.Le.nils 1)) (All2.cons (OC.Le.refl _) (All2.cons (OC.Le.refl _) (All2.cons (OC.Le.dat (C.Le.nils 7)) (All2.nil))))))))) (All2.nil))) (Z1m N (Z00.mk (6:Int) (0:Int) (Z08.mk false []) (0:Int) (ByteArray.mk #[]) []) (Z00.mk (7:Int) (0:Int) (Z08.mk false []) (0:Int) (ByteArray.mk #[]) []) r4 hr4):Ziz prog 16 [.v (.agg [di (6:Int),di (0:Int),.dat (.bool false),.dat (.nils),.dat (.int .u64 (0:Int)),.dat (.str (ByteArray.mk #[])),.dat (.nils)]),.v (.agg [di (7:Int),di (0:Int),.dat (.bool false),.dat (.nils),.dat (.int .u64 (0:Int)),.dat (.str (ByteArray.mk #[])),.dat (.nils)])] [vi r4]) (Zj8 Z03 hb3) (.c8 (Zj8 Z03 hb3) (Zj8 Z03 hb5) (Z1i N (1:Int) r1 hr1) (Zj8 Z03 hb5) (Z1i N (2:Int) r7 hr7) (Zj8 Z03 hb5) (Z3b N r1 r7 r8 hr8) (Zj8 Z03 hb5) (.c8 (Zj8 Z04 hb9) (Z1i N (2:Int) r7 hr7) (Zj8 Z04 hb9) (Z1i N (2:Int) r7 hr7) (Zj8 Z04 hb9) (Z3b N r7 r7 r12 hr12) (Zj8 Z04 hb9) (Zj8 Z04 hb9) (.c8 (Z01 (Z09 Z04) hb13) (Z01 (Z09 Z04) hb13) (Z01 (Z09 Z04) hb13) (Z01 (Z09 Z04) hb13) (Z01 (Z09 Z04) hb13) yf yf yf (.c2 yf yf y5)))))
    ·obtain rfl:=yl h
     exact y8 [.reg [yg [.v (.agg (Z0a r1))],aa, yg [vi r2],aa,aa,aa,aa, yg [vi r4],aa, { h:=.pick true },aa, yg [.v (.agg (Z0a r1))], yg [.v (.agg (Z0a r7))], yg [dv (.bool r8)], { h:=.pick true },aa, { want:=false,h:=.pcall [] }, { want:=false,h:=.pcall [] }, { want:=false,h:=.pcall [] },w0, { h:=.pick false },aa,w0,w0, { want:=false,h:=.pcall [] },w0, { h:=.pick false },aa, { want:=false,h:=.pcall [] },w0, { want:=false,h:=.pcall [] },w0, { h:=.pick false },aa],.adj [.keep [0] []]] (.c8 (Z1i N (1:Int) r1 hr1) y7 (Ziz.le (All2.cons (PV.Le.refl _) (All2.cons (PV.Le.agg (All2.cons (OC.Le.refl _) (All2.cons (OC.Le.refl _) (All2.cons (OC.Le.refl _) (All2.cons (OC.Le.dat (C.Le.nils 1)) (All2.cons (OC.Le.refl _) (All2.cons (OC.Le.refl _) (All2.cons (OC.Le.dat (C.Le.nils 7)) (All2.nil))))))))) (All2.nil))) (Z1m N r1 (Z00.mk (3:Int) (0:Int) (Z08.mk false []) (4607182418800017408:Int) (ByteArray.mk #[]) []) r2 hr2):Ziz prog 16 [.v (.agg (Z0a r1)),.v (.agg [di (3:Int),di (0:Int),.dat (.bool false),.dat (.nils),.dat (.int .u64 (4607182418800017408:Int)),.dat (.str (ByteArray.mk #[])),.dat (.nils)])] [vi r2]) (Zj8 Z03 hb3) (Zj8 Z03 hb3) (Zj8 Z03 hb3) (Ziz.le (All2.cons (PV.Le.agg (All2.cons (OC.Le.refl _) (All2.cons (OC.Le.refl _) (All2.cons (OC.Le.refl _) (All2.cons (OC.Le.dat (C.Le.nils 1)) (All2.cons (OC.Le.refl _) (All2.cons (OC.Le.refl _) (All2.cons (OC.Le.dat (C.Le.nils 7)) (All2.nil))))))))) (All2.cons (PV.Le.agg (All2.cons (OC.Le.refl _) (All2.cons (OC.Le.refl _) (All2.cons (OC.Le.refl _) (All2.cons (OC.Le.dat (C.Le.nils 1)) (All2.cons (OC.Le.refl _) (All2.cons (OC.Le.refl _) (All2.cons (OC.Le.dat (C.Le.nils 7)) (All2.nil))))))))) (All2.nil))) (Z1m N (Z00.mk (6:Int) (0:Int) (Z08.mk false []) (0:Int) (ByteArray.mk #[]) []) (Z00.mk (7:Int) (0:Int) (Z08.mk false []) (0:Int) (ByteArray.mk #[]) []) r4 hr4):Ziz prog 16 [.v (.agg [di (6:Int),di (0:Int),.dat (.bool false),.dat (.nils),.dat (.int .u64 (0:Int)),.dat (.str (ByteArray.mk #[])),.dat (.nils)]),.v (.agg [di (7:Int),di (0:Int),.dat (.bool false),.dat (.nils),.dat (.int .u64 (0:Int)),.dat (.str (ByteArray.mk #[])),.dat (.nils)])] [vi r4]) (Zj8 Z03 hb3) (.c8 (Zj8 Z03 hb3) (Zj8 Z03 hb5) (Z1i N (1:Int) r1 hr1) (Zj8 Z03 hb5) (Z1i N (2:Int) r7 hr7) (Zj8 Z03 hb5) (Z3b N r1 r7 r8 hr8) (Zj8 Z03 hb5) (.c8 (Z01 Z04 hb9) (Z01 Z04 hb9) (Z01 Z04 hb9) (Z01 Z04 hb9) (Z01 Z04 hb9) yf yf yf (.c4 yf yf yf yf (.c2 yf yf (.cons yf y5))))))
   ·obtain rfl:=yl h
    exact y8 [.reg [yg [.v (.agg (Z0a r1))],aa, yg [vi r2],aa,aa,aa,aa, yg [vi r4],aa, { h:=.pick true },aa, { want:=false,h:=.pcall [] }, { want:=false,h:=.pcall [] }, { want:=false,h:=.pcall [] }, { h:=.pick false },aa, { want:=false,h:=.pcall [] }, { want:=false,h:=.pcall [] }, { want:=false,h:=.pcall [] },w0, { h:=.pick false },aa,w0,w0, { want:=false,h:=.pcall [] },w0, { h:=.pick false },aa, { want:=false,h:=.pcall [] },w0, { want:=false,h:=.pcall [] },w0, { h:=.pick false },aa],.adj [.keep [0] []]] (.c8 (Z1i N (1:Int) r1 hr1) y7 (Ziz.le (All2.cons (PV.Le.refl _) (All2.cons (PV.Le.agg (All2.cons (OC.Le.refl _) (All2.cons (OC.Le.refl _) (All2.cons (OC.Le.refl _) (All2.cons (OC.Le.dat (C.Le.nils 1)) (All2.cons (OC.Le.refl _) (All2.cons (OC.Le.refl _) (All2.cons (OC.Le.dat (C.Le.nils 7)) (All2.nil))))))))) (All2.nil))) (Z1m N r1 (Z00.mk (3:Int) (0:Int) (Z08.mk false []) (4607182418800017408:Int) (ByteArray.mk #[]) []) r2 hr2):Ziz prog 16 [.v (.agg (Z0a r1)),.v (.agg [di (3:Int),di (0:Int),.dat (.bool false),.dat (.nils),.dat (.int .u64 (4607182418800017408:Int)),.dat (.str (ByteArray.mk #[])),.dat (.nils)])] [vi r2]) (Zj8 Z03 hb3) (Zj8 Z03 hb3) (Zj8 Z03 hb3) (Ziz.le (All2.cons (PV.Le.agg (All2.cons (OC.Le.refl _) (All2.cons (OC.Le.refl _) (All2.cons (OC.Le.refl _) (All2.cons (OC.Le.dat (C.Le.nils 1)) (All2.cons (OC.Le.refl _) (All2.cons (OC.Le.refl _) (All2.cons (OC.Le.dat (C.Le.nils 7)) (All2.nil))))))))) (All2.cons (PV.Le.agg (All2.cons (OC.Le.refl _) (All2.cons (OC.Le.refl _) (All2.cons (OC.Le.refl _) (All2.cons (OC.Le.dat (C.Le.nils 1)) (All2.cons (OC.Le.refl _) (All2.cons (OC.Le.refl _) (All2.cons (OC.Le.dat (C.Le.nils 7)) (All2.nil))))))))) (All2.nil))) (Z1m N (Z00.mk (6:Int) (0:Int) (Z08.mk false []) (0:Int) (ByteArray.mk #[]) []) (Z00.mk (7:Int) (0:Int) (Z08.mk false []) (0:Int) (ByteArray.mk #[]) []) r4 hr4):Ziz prog 16 [.v (.agg [di (6:Int),di (0:Int),.dat (.bool false),.dat (.nils),.dat (.int .u64 (0:Int)),.dat (.str (ByteArray.mk #[])),.dat (.nils)]),.v (.agg [di (7:Int),di (0:Int),.dat (.bool false),.dat (.nils),.dat (.int .u64 (0:Int)),.dat (.str (ByteArray.mk #[])),.dat (.nils)])] [vi r4]) (Zj8 Z03 hb3) (.c8 (Zj8 Z03 hb3) (Z01 Z03 hb5) (Z01 Z03 hb5) (Z01 Z03 hb5) (Z01 Z03 hb5) yf yf yf (.c8 yf yf yf yf yf yf yf yf (.c4 yf yf yf yf y5))))
  ·obtain rfl:=yl h
   exact y8 [.reg [yg [.v (.agg (Z0a r1))],aa, yg [vi r2],aa,aa,w0,w0, { want:=false,h:=.pcall [] },w0, { h:=.pick false },aa, { want:=false,h:=.pcall [] }, { want:=false,h:=.pcall [] }, { want:=false,h:=.pcall [] }, { h:=.pick false },aa, { want:=false,h:=.pcall [] }, { want:=false,h:=.pcall [] }, { want:=false,h:=.pcall [] },w0, { h:=.pick false },aa,w0,w0, { want:=false,h:=.pcall [] },w0, { h:=.pick false },aa, { want:=false,h:=.pcall [] },w0, { want:=false,h:=.pcall [] },w0, { h:=.pick false },aa],.adj [.keep [0] []]] (.c8 (Z1i N (1:Int) r1 hr1) y7 (Ziz.le (All2.cons (PV.Le.refl _) (All2.cons (PV.Le.agg (All2.cons (OC.Le.refl _) (All2.cons (OC.Le.refl _) (All2.cons (OC.Le.refl _) (All2.cons (OC.Le.dat (C.Le.nils 1)) (All2.cons (OC.Le.refl _) (All2.cons (OC.Le.refl _) (All2.cons (OC.Le.dat (C.Le.nils 7)) (All2.nil))))))))) (All2.nil))) (Z1m N r1 (Z00.mk (3:Int) (0:Int) (Z08.mk false []) (4607182418800017408:Int) (ByteArray.mk #[]) []) r2 hr2):Ziz prog 16 [.v (.agg (Z0a r1)),.v (.agg [di (3:Int),di (0:Int),.dat (.bool false),.dat (.nils),.dat (.int .u64 (4607182418800017408:Int)),.dat (.str (ByteArray.mk #[])),.dat (.nils)])] [vi r2]) (Z01 Z03 hb3) (Z01 Z03 hb3) (Z01 Z03 hb3) (Z01 Z03 hb3) (Z01 Z03 hb3) (.c8 yf yf yf yf yf yf yf yf (.c8 yf yf yf yf yf yf yf yf (.c2 yf yf (.cons yf y5)))))
def Zev (r:Bool):List PV:=[dv (.bool r)]
def Z35 (N:Nat):Option Bool:=(Z8f N).bind fun r18=>some r18
theorem Z58 (N:Nat) (r:Bool) (h:Z35 N=some r):Ziz prog 11 [] (Zev r):=by
 unfold Z35 at h
 obtain ⟨r18,hr18,h⟩:=yj h
 obtain rfl:=yl h
 exact y9 364 [ak,ay,.adj [.keep [1] [1]],.cut .normal (Z9w  r18)] func11 (.c2 y7 (Zct N r18 hr18) y5)
def Zc5 (r:Bool):List PV:=[dv (.bool r)]
def Z5a (N:Nat) (p0:(List Z00)) (p1:Int):Option Bool:=(beehivelaw0_parts N p0 p1).bind fun r1=>some (decide (r1 > p1))
theorem Z7a (N:Nat) (p0:(List Z00)) (p1:Int) (r:Bool) (h:Z5a N p0 p1=some r):Ziz prog 22 [dv (.sl 7 (p0.map Z02)),vi p1] (Zc5 r):=by
 unfold Z5a at h
 obtain ⟨r1,hr1,h⟩:=yj h
 obtain rfl:=yl h
 exact y9 152 [ak,.reg [aa,aa, yg [vi r1],aa,aa,aa]] func22 (.cons (Zad N p0 p1 r1 hr1) y5)
def order_Sort_1_fin (r:Bool):List PV:=[dv (.bool r)]
def Zcj (N:Nat) (p0:Z00):Option Bool:=(Zdy N p0).bind fun r1=>some (!r1)
theorem Zd2 (N:Nat) (p0:Z00) (r:Bool) (h:Zcj N p0=some r):Ziz prog 45 [.v (.agg (Z0a p0))] (order_Sort_1_fin r):=by
 unfold Zcj at h
 obtain ⟨r1,hr1,h⟩:=yj h
 obtain rfl:=yl h
 exact y9 142 [af,.reg [aa, yg [dv (.bool r1)],aa,aa]] func45 (.c2 y7 (Z44 N p0 r1 hr1) y5)
def Z1u (p0:(List Z00)) (v8:Int):St:={ fr:=([(da (.sl 7 (p0.map Z02))),(.v (.one (.fn 45 [])))]++bads 5++[(ai (p0.length:Int)),(ai v8)]++bads 10),obs:=[] }
def Z3v (p0:(List Z00)) (o:Unit):St:={ fr:=bads 19,obs:=[] }
def Z3u (p0:(List Z00)) (o:Int):St:={ fr:=(bads 4++[(ai o)]++bads 14),obs:=[] }
def Z0n:Nat→(List Z00)→Int→Option ((Unit) ⊕ (Int))
 |0,_,_=>none
 |N+1,p0,v8=>if v8 < (p0.length:Int) then (idx p0 v8).bind fun x2=>(Zcj N x2).bind fun r3=>if r3=true then some (.inr v8) else Z0n N p0 (wrap .i64 (v8+(1:Int))) else some (.inl ())
theorem Z3g:∀ (N:Nat) (p0:(List Z00)) (v8:Int) (r:((Unit) ⊕ (Int))),Z0n N p0 v8=some r→match r with | .inl o=>Zj0 prog 227 (partOf f76 [1,0,1,0,0]) (Z1u p0 v8) (.exit 0) (Z3v p0 o) | .inr o=>Zj0 prog 227 (partOf f76 [1,0,1,0,0]) (Z1u p0 v8) .ret (Z3u p0 o):=by
 intro N
 induction N with
 |zero=>intro p0 v8 r h; cases h
 |succ N ih =>
  intro p0 v8 r h
  rw [Z0n] at h
  rcases Z07 h with ⟨hb1,h⟩ | ⟨hb1,h⟩
  ·obtain ⟨x2,hx2,h⟩:=yj h
   obtain ⟨r3,hr3,h⟩:=yj h
   rcases Z07 h with ⟨hb4,h⟩ | ⟨hb4,h⟩
   ·obtain rfl:=yl h
    exact Zj0.out (y8 [ak,ah,af,.reg [aa,aa,aa, { cast:=some (.v (.one (.fptr (Z13 x2)))) },aa, yg [dv (.bool r3)]],ah,af,.adj [.keep [4] []]] (.c4 (Zj8 Z06 hb1) (Z0m (r:=Z02) hx2) (Z0i hx2 (Z0b x2)) y7 (.c2 (Zd2 N x2 r3 hr3) (Zj8 Z04 hb4) y5))) (by simp)
   ·have hl:=ih p0 (wrap .i64 (v8+(1:Int))) _ h
    have ha:=Ziw.of_run [ak,ah,af,.reg [aa,aa,aa, { cast:=some (.v (.one (.fptr (Z13 x2)))) },aa, yg [dv (.bool r3)]],ae,af,.adj [.keep [0,1,7,8] []]] (by kernel_rfl:runTo prog 227 (partOf f76 [1,0,1,0,0]) _ (Z1u p0 v8)=some (.normal,(Z1u p0 (wrap .i64 (v8+(1:Int)))),_)) (.c4 (Zj8 Z06 hb1) (Z0m (r:=Z02) hx2) (Z0i hx2 (Z0b x2)) y7 (.c2 (Zd2 N x2 r3 hr3) (Z01 Z04 hb4) y5))
    rcases r with o | o <;> exact Zj0.again ha hl
  ·obtain rfl:=yl h
   exact Zj0.out (y8 [ak,ae,.adj [.keep [] []]] (.cons (Z01 Z06 hb1) y5)) (by simp)
def Z7e (r:Int):List PV:=[vi r]
def Z30 (N:Nat) (p0:(List Z00)):Option Int:=(Z0n N p0 (0:Int)).bind fun r5=>(match r5 with | .inl r6=>some (-1:Int) | .inr r7=>some r7)
theorem Z79 (N:Nat) (p0:(List Z00)) (r:Int) (h:Z30 N p0=some r):Ziz prog 76 [dv (.sl 7 (p0.map Z02)),.v (.one (.fn 45 []))] (Z7e r):=by
 unfold Z30 at h
 obtain ⟨r5,hr5,h⟩:=yj h
 rcases r5 with r6 | r7
 ·obtain rfl:=yl h
  exact y9 227 [ak,.reg [aa, { cast:=some (ai (p0.length:Int)) },aa],.adj [.keep [0,1,7,8] []],.cut (.exit 0) (Z3v p0 r6),ak] func76 (.c2 (Zjk (r:=Z02) (xs:=p0)) (Ziw.of_loop (Z3g N p0 (0:Int) (.inl r6) hr5)) y5)
 ·obtain rfl:=yl h
  exact y9 227 [ak,.reg [aa, { cast:=some (ai (p0.length:Int)) },aa],.adj [.keep [0,1,7,8] []],.cut .ret (Z3u p0 r7)] func76 (.c2 (Zjk (r:=Z02) (xs:=p0)) (Ziw.of_loop (Z3g N p0 (0:Int) (.inr r7) hr5)) y5)
def Z6x (r:Bool):List PV:=[dv (.bool r)]
def Z1k (N:Nat) (p0:(List Z00)):Option Bool:=(Z30 N p0).bind fun r1=>some (decide (r1 ≥ (0:Int)))
theorem Z6m (N:Nat) (p0:(List Z00)) (r:Bool) (h:Z1k N p0=some r):Ziz prog 44 [dv (.sl 7 (p0.map Z02)),.v (.one (.fn 45 []))] (Z6x r):=by
 unfold Z1k at h
 obtain ⟨r1,hr1,h⟩:=yj h
 obtain rfl:=yl h
 exact y9 145 [ak,.reg [aa,aa, yg [vi r1],aa,aa]] func44 (.cons (Z79 N p0 r1 hr1) y5)
def Z9f (r:(List Z00)):List PV:=[.v (.one (.own 7 (r.map Z02)))]
def Z6j (N:Nat):Option (List Z00):=some ([]:List Z00)
theorem Z91 (N:Nat) (r:(List Z00)) (h:Z6j N=some r):Ziz prog 46 [dv .nils] (Z9f r):=by
 unfold Z6j at h
 obtain rfl:=yl h
 exact y9 156 [ak,af,ah,ak,.adj [.new 57 7 2]] func46 (.c2 (Eq.refl true) (rfl:(([]:List Z00).map Z02).length=(([]:List Z00).map Z02).length) y5)
def Z8y (r:(List Z00)):List PV:=[.v (.one (.own 7 (r.map Z02)))]
def Z64 (N:Nat):Option (List Z00):=(app ([]:List Z00) ([]:List Z00)).bind fun x1=>some x1
theorem Z8n (N:Nat) (r:(List Z00)) (h:Z64 N=some r):Ziz prog 46 [dv .sl0] (Z8y r):=by
 unfold Z64 at h
 obtain ⟨x1,hx1,h⟩:=yj h
 obtain rfl:=yl h
 exact y9 156 [ak,af,ae,.reg [{ post:=[.ob 5 (.arr 7 (([]:List Z00).map Z02) true)] },aa, { pre:=[.slot 6 (da (.sl 7 (([]:List Z00).map Z02)))],cast:=some (.v (.one (.vw 7 7 0 ((x1.map Z02).length)))),post:=[.ob 7 (.arr 7 (x1.map Z02) true)] },aa]] func46 (.c8 yf (Z42 (by simp only [qh,uw,Z0b]):Ob.Le (.arr 7 [] true) (.arr 7 (([]:List Z00).map Z02) true)) (AV.Le.one (AC.Le.d (C.Le.sl0 7)):AV.Le (da .sl0) (da (.sl 7 (([]:List Z00).map Z02)))) y7 (rfl:(([]:List Z00).map Z02).length=(([]:List Z00).map Z02).length) (app_b hx1 (by decide):((([]:List Z00).map Z02).length+(([]:List Z00).map Z02).length) * 96≤140737488355328) (app_m hx1:(([]:List Z00).map Z02).length+(([]:List Z00).map Z02).length≤9223372036854775807) (app_n hx1:AV.Le (.v (.one (.vw 7 7 0 ((([]:List Z00).map Z02).length+(([]:List Z00).map Z02).length)))) (.v (.one (.vw 7 7 0 ((x1.map Z02).length))))) (.c2 (app_ob hx1:Ob.Le (.arr 7 ((([]:List Z00).map Z02)++(([]:List Z00).map Z02)) true) (.arr 7 (x1.map Z02) true)) (rfl:(x1.map Z02).length=(x1.map Z02).length) y5))
def Z4r (r:(List Z00)):List PV:=[.v (.one (.own 7 (r.map Z02)))]
def Z3p (N:Nat) (p0_h:Z00) (p0_t:(List Z00)):Option (List Z00):=(app ([]:List Z00) (p0_h::p0_t)).bind fun x1=>some x1
theorem Z8b (N:Nat) (p0_h:Z00) (p0_t:(List Z00)) (r:(List Z00)) (h:Z3p N p0_h p0_t=some r):Ziz prog 46 [dv (.sl 7 ((p0_h::p0_t).map Z02))] (Z4r r):=by
 unfold Z3p at h
 obtain ⟨x1,hx1,h⟩:=yj h
 obtain rfl:=yl h
 exact y9 156 [ak,af,ae,.reg [{ post:=[.ob 5 (.arr 7 (([]:List Z00).map Z02) true)] },aa, { cast:=some (.v (.one (.vw 7 7 0 ((x1.map Z02).length)))),post:=[.ob 7 (.arr 7 (x1.map Z02) true)] },aa]] func46 (.c8 yf (Z42 (by simp only [qh,uw,Z0b]):Ob.Le (.arr 7 [] true) (.arr 7 (([]:List Z00).map Z02) true)) y7 (rfl:(([]:List Z00).map Z02).length=(([]:List Z00).map Z02).length) (app_b hx1 (by decide):((([]:List Z00).map Z02).length+((p0_h::p0_t).map Z02).length) * 96≤140737488355328) (app_m hx1:(([]:List Z00).map Z02).length+((p0_h::p0_t).map Z02).length≤9223372036854775807) (app_n hx1:AV.Le (.v (.one (.vw 7 7 0 ((([]:List Z00).map Z02).length+((p0_h::p0_t).map Z02).length)))) (.v (.one (.vw 7 7 0 ((x1.map Z02).length))))) (app_ob hx1:Ob.Le (.arr 7 ((([]:List Z00).map Z02)++((p0_h::p0_t).map Z02)) true) (.arr 7 (x1.map Z02) true)) (.cons (rfl:(x1.map Z02).length=(x1.map Z02).length) y5))
def Z1t (N:Nat):List Z00→Option (List Z00)
 |[]=>some []
 |x::xs=>Z3p N x xs
theorem Z7v (N:Nat) (p0:List Z00) (r:List Z00) (h:Z1t N p0=some r):Ziz prog 46 [dv (.sl 7 (p0.map Z02))] (Z4r r):=by
 cases p0 with
 |nil =>
  obtain rfl:=yl h
  exact Ziz.split0 (Z91 N [] rfl) (Z8n N [] rfl)
 |cons x xs=>exact Z8b N x xs r h
mutual
def order_own_L0:Nat→Z00→(List Int)→(List Z00)→(List Z00)→Int→Option (List Z00)
 |0,_,_,_,_,_=>none
 |N+1,p0,r1,r2,a80,v17=>if v17 < (r2.length:Int) then (idx a80 v17).bind fun x4=>(order_own N x4).bind fun r5=>(idx a80 v17).bind fun x6=>order_own_L0 N p0 r1 r2 (a80.set ((v17).toNat) r5) (wrap .i64 (v17+(1:Int))) else some a80
def order_own:Nat→Z00→Option Z00
 |0,_=>none
 |N+1,p0=>(Z1s N p0.fNum.fMag).bind fun r1=>(Z1t N p0.fArgs).bind fun r2=>(order_own_L0 N p0 r1 r2 r2 (0:Int)).bind fun r7=>some (Z00.mk p0.fKind p0.fN (Z08.mk p0.fNum.fNeg r1) p0.fBits p0.fBytes r7)
end
theorem clone46 {w:World} {ad:Addr} {cap:Nat}:Calls prog 46 #[.slice (some ad) 0 cap] w (fun e w'=>e=.returned (.slice (some ⟨w.heap.size,0,none⟩) 0 0)∧w'=w.alloc (.cells #[] 30)):=by
 refine calls_of_wp func46 rfl ?_
 have hn:f46.ntmps=8:=rfl
 simp only [hn,jh,xu,xx,Nat.reduceAdd,Nat.reduceSub,zl,
   zk,zq,jv,uo,uq]
 have hb:(binOp .eql 28 (.slice (some ad) 0 cap) (.slice none 0 0)).run prog w=.ok (.bool false) w:=by rfl
 go_wp
 go_ret
 exact ⟨rfl,rfl⟩
theorem clone65 {w:World} {ad:Addr} {cap:Nat}:Calls prog 65 #[.slice (some ad) 0 cap] w (fun e w'=>e=.returned (.slice (some ⟨w.heap.size,0,none⟩) 0 0)∧w'=w.alloc (.cells #[] 65)):=by
 refine calls_of_wp func65 rfl ?_
 have hn:f65.ntmps=8:=rfl
 simp only [hn,jh,xu,xx,Nat.reduceAdd,Nat.reduceSub,zl,
   zk,zq,jv,uo,uq]
 have hb:(binOp .eql 24 (.slice (some ad) 0 cap) (.slice none 0 0)).run prog w=.ok (.bool false) w:=by rfl
 go_wp
 go_ret
 exact ⟨rfl,rfl⟩
theorem clone46n {w:World}:Calls prog 46 #[.slice none 0 0] w (fun e w'=>e=.returned (.slice none 0 0)∧w'=w):=by
 refine calls_of_wp func46 rfl ?_
 have hn:f46.ntmps=8:=rfl
 simp only [hn,jh,xu,xx,Nat.reduceAdd,Nat.reduceSub,zl,
   zk,zq,jv,uo,uq]
 have hb:(binOp .eql 28 (.slice none 0 0) (.slice none 0 0)).run prog w=.ok (.bool true) w:=by rfl
 go_wp
 go_ret
 exact ⟨rfl,rfl⟩
theorem clone65n {w:World}:Calls prog 65 #[.slice none 0 0] w (fun e w'=>e=.returned (.slice none 0 0)∧w'=w):=by
 refine calls_of_wp func65 rfl ?_
 have hn:f65.ntmps=8:=rfl
 simp only [hn,jh,xu,xx,Nat.reduceAdd,Nat.reduceSub,zl,
   zk,zq,jv,uo,uq]
 have hb:(binOp .eql 24 (.slice none 0 0) (.slice none 0 0)).run prog w=.ok (.bool true) w:=by rfl
 go_wp
 go_ret
 exact ⟨rfl,rfl⟩
theorem old_lo {n:Nat} {c:C} {w:World} {F:Nat→Prop} {vs:List Value} {bs:List (Option Nat)} (h:PVs.Rep w F [dv (.mk false n c)] vs bs):bs=[]∧Old n F:=by
 cases vs with
 |nil=>exact h.elim
 |cons v vs =>
  obtain ⟨b1,b2,rfl,⟨rfl,hc⟩,hvs⟩:=h
  cases vs with
  |cons _ _=>simp only [PVs.Rep] at hvs
  |nil =>
   have hvs:b2=[]:=hvs
   subst hvs
   simp only [C.Rep] at hc
   exact ⟨rfl,hc.1⟩
theorem back_own {w:World} {F:Nat→Prop} {sz:Nat} {rows rows':List (List C)} {vs:List Value} {bs:List (Option Nat)} (hl:rows'.length=rows.length) (hk:∀ b,Zj2 w F b sz rows 0→Zj2 w F b sz rows' 0) (h:PVs.Rep w F [.v (.one (.own sz rows))] vs bs):PVs.Rep w F [.v (.one (.own sz rows'))] vs bs:=by
 cases vs with
 |nil=>exact h.elim
 |cons v vs =>
  obtain ⟨b1,b2,h1,h2,h3⟩:=h
  refine ⟨b1,b2,h1, ?_, ?_⟩
  ·rcases h2 with ⟨e,e2,e3⟩ | ⟨b,cap,us,t,e,e2,e3,e4,e5,e6,e7⟩
   ·refine .inl ⟨e, ?_,e3⟩
    rw [e2] at hl
    exact xy hl
   ·exact .inr ⟨b,cap,us,t,e,by rw [hl]; exact e2,by rw [hl]; exact e3,e4,e5,e6,hk b e7⟩
  ·cases vs <;> exact h3
theorem rows_lo [Thr] {w:World} {F:Nat→Prop} (ho:Old Thr.n F) (xs:List Z00) (b:Nat) (h:Zj2 w F b 7 (xs.map Z02) 0):Zj2 w F b 7 (xs.map Z2a) 0:=by
 refine Zj2.mk fun i r hi=>?_
 rw [qa,ym] at hi
 obtain ⟨x,hx,rfl⟩:=hi
 obtain ⟨q1,q2⟩:=h.at i (Z02 x) (by rw [qa,hx]; rfl)
 refine ⟨rfl,q2.le' (by rw [Z0b]; rfl) fun j c c' v h1 h2 hc=>?_⟩
 rw [Z0b] at h1
 have up:∀ c,C.Rep w F c v→C.Rep w F (.mk false Thr.n c) v:=fun c hc=>by
  simp only [C.Rep]
  exact ⟨ho,C.Rep.mono (fun b hb=>⟨hb,fun e=>by cases e⟩) (Zj3.refl _ _) c v hc⟩
 match j with
 |0 | 1 | 2 | 4 | 5=>simp [Z2a] at h1 h2; subst h1 h2; exact hc
 |3 | 6=>simp [Z2a] at h1 h2; subst h1 h2; exact up _ hc
 |j+7=>simp at h1
theorem clone_mag [Thr] (N:Nat) (xs r:List Int) (h:Z1s N xs=some r):Ziz prog 65 [dv (.mk false Thr.n (.sl 1 (xs.map (rI .u32))))] [dv (.pr Thr.n 1 (r.map (rI .u32)))]:=by
 cases xs with
 |nil =>
  obtain rfl:=yl h
  exact Ziz.clone0 (fun w=>clone65n) fun w ad cap=>clone65
 |cons x xs =>
  have hr:r ≠ []:=by
   have h:(app ([]:List Int) (x::xs)).bind (fun x1=>some x1)=some r:=h
   obtain ⟨y,hy,h⟩:=yj h
   obtain rfl:=yl h
   rw [(Ze3 hy).2]; simp
  refine Ziz.new Thr.n (Ziz.lo (Z31 N (x::xs) r h)) rfl (fun w F vs bs hr=>old_lo hr) fun w F vs bs ho hb hp=>?_
  cases vs with
  |nil=>exact hp.elim
  |cons v vs =>
   obtain ⟨b1,b2,rfl,h2,h3⟩:=hp
   cases vs with
   |cons _ _=>simp only [PVs.Rep] at h3
   |nil =>
    have h3:b2=[]:=h3
    subst h3
    rw [xm] at hb ⊢
    exact ⟨[],[],rfl,⟨rfl,own_pr h2 (by simpa using hr) hb⟩,rfl⟩
theorem clone_args [Thr] (N:Nat) (xs r:List Z00) (h:Z1t N xs=some r):Ziz prog 46 [dv (.mk false Thr.n (.sl 7 (xs.map Z02)))] [.v (.one (.own 7 (r.map Z2a)))] :=
 Ziz.back Thr.n (Ziz.lo (Z7v N xs r h)) rfl (fun w F vs bs hr=>(old_lo hr).2) fun w F vs bs ho hp=>back_own (by simp) (fun b=>rows_lo ho r b) hp
theorem clone_args0 [Thr]:Ziz prog 46 [dv (.mk false Thr.n (.sl 7 (([]:List Z00).map Z02)))] [dv (.pr Thr.n 7 (([]:List Z00).map Z05))]:=Ziz.clone0 (fun w=>clone46n) fun w ad cap=>clone46
def Zgu [Thr] (p0:Z00) (r1:(List Int)) (n2:Nat) (rows:List (List C)) (v17:Int):St:={ fr:=([.bad,(.v (.one (.ptr 1 0))),(.v (.one (.ptr 2 0)))]++bads 13++[(ai (n2:Int)),(ai v17)]++bads 14),obs:=[(80,.arr 7 rows true),(2,.var [.d (.int .i64 (0:Int)),.d (.int .i64 (0:Int)),.d (.bool false),.d (.nils),.d (.int .u64 (0:Int)),.d (.str (ByteArray.mk #[])),.d (.nils)]),(1,.var [.d (.int .i64 p0.fKind),.d (.int .i64 p0.fN),.d (.bool p0.fNum.fNeg),.d (.pr Thr.n 1 (r1.map (rI .u32))),.d (.int .u64 p0.fBits),.d (.str p0.fBytes),.vw 80 7 0 (rows.length)])] }
def Zbt [Thr] (p0:Z00) (r1:(List Int)) (rows:List (List C)):St:={ fr:=([.bad,(.v (.one (.ptr 1 0))),(.v (.one (.ptr 2 0)))]++bads 29),obs:=[(80,.arr 7 rows true),(2,.var [.d (.int .i64 (0:Int)),.d (.int .i64 (0:Int)),.d (.bool false),.d (.nils),.d (.int .u64 (0:Int)),.d (.str (ByteArray.mk #[])),.d (.nils)]),(1,.var [.d (.int .i64 p0.fKind),.d (.int .i64 p0.fN),.d (.bool p0.fNum.fNeg),.d (.pr Thr.n 1 (r1.map (rI .u32))),.d (.int .u64 p0.fBits),.d (.str p0.fBytes),.vw 80 7 0 (rows.length)])] }
def Zgy [Thr] (p0:Z00) (r1:(List Int)):St:={ fr:=([.bad,(.v (.one (.ptr 1 0))),(.v (.one (.ptr 2 0)))]++bads 13++[(ai (0:Int)),(ai (0:Int))]++bads 14),obs:=[(2,.var [.d (.int .i64 (0:Int)),.d (.int .i64 (0:Int)),.d (.bool false),.d (.nils),.d (.int .u64 (0:Int)),.d (.str (ByteArray.mk #[])),.d (.nils)]),(1,.var [.d (.int .i64 p0.fKind),.d (.int .i64 p0.fN),.d (.bool p0.fNum.fNeg),.d (.pr Thr.n 1 (r1.map (rI .u32))),.d (.int .u64 p0.fBits),.d (.str p0.fBytes),.d (.pr Thr.n 7 [])])] }
def Zc1 [Thr] (p0:Z00) (r1:(List Int)):St:={ fr:=([.bad,(.v (.one (.ptr 1 0))),(.v (.one (.ptr 2 0)))]++bads 29),obs:=[(2,.var [.d (.int .i64 (0:Int)),.d (.int .i64 (0:Int)),.d (.bool false),.d (.nils),.d (.int .u64 (0:Int)),.d (.str (ByteArray.mk #[])),.d (.nils)]),(1,.var [.d (.int .i64 p0.fKind),.d (.int .i64 p0.fN),.d (.bool p0.fNum.fNeg),.d (.pr Thr.n 1 (r1.map (rI .u32))),.d (.int .u64 p0.fBits),.d (.str p0.fBytes),.d (.pr Thr.n 7 [])])] }
theorem own_neg {N:Nat} {p0:Z00} {r1:List Int} {r2 a:List Z00} {v:Int} {r:List Z00} (h:order_own_L0 N p0 r1 r2 a v=some r) (hv:v < 0):False:=by
 cases N with
 |zero=>rw [order_own_L0] at h; cases h
 |succ N =>
  rw [order_own_L0,if_pos (by omega)] at h
  obtain ⟨x,hx,_⟩:=yj h
  have:=(Z2c hx).1
  omega
theorem own_wrap {v:Int} (h0:0≤v) (h1:v≤9223372036854775807) (hw:0≤wrap .i64 (v+1)):wrap .i64 (v+1)=v+1∧v+1≤9223372036854775807:=by
 by_cases e:v=9223372036854775807
 ·subst e
  exact absurd hw (by decide)
 ·have hm:(v+1) % 18446744073709551616=v+1:=Int.emod_eq_of_lt (by omega) (by omega)
  have:wrap .i64 (v+1)=v+1:=by
   show (if (IntKind.signed .i64 && decide ((v+1) % (2 ^ 64:Int) ≥ (2 ^ 63:Int)))=true then (v+1) % (2 ^ 64:Int) - (2 ^ 64:Int) else (v+1) % (2 ^ 64:Int))=v+1
   rw [show (2 ^ 64:Int)=18446744073709551616 from rfl,show (2 ^ 63:Int)=9223372036854775808 from rfl,hm,if_neg]
   simp; omega
  exact ⟨this,by omega⟩
theorem flags_at {m:List (Bool × Z00)} {v:Int} {x:Z00} (hf:∀ (i:Nat) (y:Bool × Z00),m[i]? = some y→y.1=decide ((i:Int) < v)) (h:idx (m.map (·.2)) v=some x):idx m v=some (false,x):=by
 obtain ⟨h0,_,h2⟩:=Z2c h
 rw [qa,ym] at h2
 obtain ⟨y,hy,rfl⟩:=h2
 have e:=hf _ _ hy
 have:decide ((v.toNat:Int) < v)=false:=by simp; omega
 rw [this] at e
 unfold idx
 rw [if_pos h0,hy, ← e]
theorem flags_set {m:List (Bool × Z00)} {v:Int} {x:Z00} (h0:0≤v) (hf:∀ (i:Nat) (y:Bool × Z00),m[i]? = some y→y.1=decide ((i:Int) < v)):∀ (i:Nat) (y:Bool × Z00),(m.set v.toNat (true,x))[i]? = some y→y.1=decide ((i:Int) < v+1):=fun i y hy=>by
 by_cases e:i=v.toNat
 ·subst e
  rw [uz (by have:=(List.getElem?_eq_some_iff.1 hy).1; simpa using this)] at hy
  injection hy with hy
  subst hy
  simp; omega
 ·rw [jo (fun h=>e h.symm)] at hy
  rw [hf i y hy]
  congr 1
  apply propext
  omega
theorem flags_all [Thr] {m:List (Bool × Z00)} {v:Int} (hv:(m.length:Int)≤v) (hf:∀ (i:Nat) (y:Bool × Z00),m[i]? = some y→y.1=decide ((i:Int) < v)):m.map Z0f=(m.map (·.2)).map Z05:=by
 rw [zz]
 refine List.map_congr_left fun y hy=>?_
 obtain ⟨i,hi⟩:=jf hy
 have e:=hf i y hi
 have hlt:=(List.getElem?_eq_some_iff.1 hi).1
 have:decide ((i:Int) < v)=true:=by simp; omega
 rw [this] at e
 show (bif y.1 then _ else _)=_
 rw [e]
 rfl
theorem flags_none (xs:List Z00):∀ (i:Nat) (y:Bool × Z00),(xs.map fun x=>(false,x))[i]? = some y→y.1=decide ((i:Int) < 0):=fun i y hy=>by
 rw [qa,ym] at hy
 obtain ⟨x,_,rfl⟩:=hy
 simp
theorem own_len:∀ {N:Nat} {p0:Z00} {r1:List Int} {r2 a:List Z00} {v:Int} {r:List Z00},order_own_L0 N p0 r1 r2 a v=some r→r.length=a.length
 |0,_,_,_,_,_,_,h=>by rw [order_own_L0] at h; cases h
 |N+1,p0,r1,r2,a,v,r,h=>by
  rw [order_own_L0] at h
  rcases Z07 h with ⟨_,h⟩ | ⟨_,h⟩
  ·obtain ⟨_,_,h⟩:=yj h
   obtain ⟨_,_,h⟩:=yj h
   obtain ⟨_,_,h⟩:=yj h
   rw [own_len h,qp]
  ·injection h with h; rw [h]
structure order_own_all [Thr] (N:Nat):Prop where
 order_own_L0:∀ (p0:Z00) (r1:(List Int)) (r2:(List Z00)) (m80:List (Bool × Z00)) (v17:Int) (r:(List Z00)),order_own_L0 N p0 r1 r2 (m80.map (·.2)) v17=some r→0≤v17→v17≤9223372036854775807→m80.length=r2.length→(∀ (i:Nat) (y:Bool × Z00),m80[i]? = some y→y.1=decide ((i:Int) < v17)) →
  Zj0 prog 348 (partOf f47 [1,1,0,1,0,0]) (Zgu p0 r1 r2.length (m80.map Z0f) v17) (.exit 0) (Zbt p0 r1 (r.map Z05))
 order_own:∀ (p0:Z00) (r:Z00),order_own N p0=some r→Ziz prog 47 [.v (.agg (Zi1 p0))] [.v (.agg (Zaj r))]
theorem Zi0 [Thr]:∀ N,order_own_all N:=by
 intro N
 induction N with
 |zero =>
  constructor
  ·intro p0 r1 r2 m80 v17 r h; rw [order_own_L0] at h; cases h
  ·intro p0 r h; rw [order_own] at h; cases h
 |succ N ih =>
  constructor
  ·intro p0 r1 r2 m80 v17 r h h0 h1 hl hf
   rw [order_own_L0] at h
   rcases Z07 h with ⟨hb3,h⟩ | ⟨hb3,h⟩
   ·obtain ⟨x4,hx4,h⟩:=yj h
    obtain ⟨r5,hr5,h⟩:=yj h
    obtain ⟨x6,hx6,h⟩:=yj h
    have hm4:=flags_at hf hx4
    rw [← List.map_set (f:=(·.2)) (a:=(true,r5))] at h
    have hw:=own_wrap h0 h1 (by
     rcases Int.lt_or_le (wrap .i64 (v17+(1:Int))) 0 with hn | hn
     ·exact (own_neg h hn).elim
     ·exact hn)
    exact Zj0.again (y8 [ak,ah,af,.reg [aa,aa,aa,aa,aa,aa,aa, { cast:=some (.v (.agg (Ze5 x4))) }, yg [.v (.agg (Zaj r5))],aa,aa],.adj [.ob 80 (.arr 7 ((m80.set ((v17).toNat) (true,r5)).map Z0f) true),.slot 21 (.v (.one (.vw 80 7 0 (((m80.set ((v17).toNat) (true,r5)).map Z0f).length)))),.slot 24 (.v (.one (.vw 80 7 0 (((m80.set ((v17).toNat) (true,r5)).map Z0f).length)))),.ob 1 (.var [.d (.int .i64 p0.fKind),.d (.int .i64 p0.fN),.d (.bool p0.fNum.fNeg),.d (.pr Thr.n 1 (r1.map (rI .u32))),.d (.int .u64 p0.fBits),.d (.str p0.fBytes),.vw 80 7 0 (((m80.set ((v17).toNat) (true,r5)).map Z0f).length)])],af,.adj [.keep [1,2,16,17] [80,2,1]]] (.c8 (Zj8 Z06 hb3) y7 y7 (Z0m (r:=Z0f) hm4) (⟨Zjy (Z2c hm4).2.2,by decide⟩:(v17).toNat < (m80.map Z0f).length∧0≤7) (Zjx (fun l=>(.v (.agg [.d (l.getD 0 .nils),.d (l.getD 1 .nils),.d (l.getD 2 .nils),.d (l.getD 3 .nils),.d (l.getD 4 .nils),.d (l.getD 5 .nils),.d (l.getD 6 .nils)]))) (Z2c hm4).2.2 rfl:AV.Le (.v (.agg [.d (((m80.map Z0f).getD ((v17).toNat) []).getD 0 .nils),.d (((m80.map Z0f).getD ((v17).toNat) []).getD 1 .nils),.d (((m80.map Z0f).getD ((v17).toNat) []).getD 2 .nils),.d (((m80.map Z0f).getD ((v17).toNat) []).getD 3 .nils),.d (((m80.map Z0f).getD ((v17).toNat) []).getD 4 .nils),.d (((m80.map Z0f).getD ((v17).toNat) []).getD 5 .nils),.d (((m80.map Z0f).getD ((v17).toNat) []).getD 6 .nils)])) (.v (.agg (Ze5 x4)))) ((ih.order_own) x4 r5 hr5) (Z0m (r:=Z0f) hm4) (.c4 (Zjy (Z2c hm4).2.2:(v17).toNat < (m80.map Z0f).length) (Z42 (Eq.symm (Z89 rfl (Z2c hm4).2.2 rfl (by show Zjw (Z2a x4) 0 [.int .i64 r5.fKind,.int .i64 r5.fN,.bool r5.fNum.fNeg,.pr Thr.n 1 (r5.fNum.fMag.map (rI .u32)),.int .u64 r5.fBits,.str r5.fBytes,.pr Thr.n 7 (r5.fArgs.map Z05)] 7=Z05 r5; rw [Z0c r5]; rfl))):Ob.Le (.arr 7 ((m80.map Z0f).set ((v17).toNat) (Zjw ((m80.map Z0f).getD ((v17).toNat) []) 0 [.int .i64 r5.fKind,.int .i64 r5.fN,.bool r5.fNum.fNeg,.pr Thr.n 1 (r5.fNum.fMag.map (rI .u32)),.int .u64 r5.fBits,.str r5.fBytes,.pr Thr.n 7 (r5.fArgs.map Z05)] 7)) true) (.arr 7 ((m80.set ((v17).toNat) (true,r5)).map Z0f) true)) (AV.Le.of_eq (by simp only [xg,qp]):AV.Le (.v (.one (.vw 80 7 0 ((m80.map Z0f).length)))) (.v (.one (.vw 80 7 0 (((m80.set ((v17).toNat) (true,r5)).map Z0f).length))))) (AV.Le.of_eq (by simp only [xg,qp]):AV.Le (.v (.one (.vw 80 7 0 ((m80.map Z0f).length)))) (.v (.one (.vw 80 7 0 (((m80.set ((v17).toNat) (true,r5)).map Z0f).length))))) (.cons (Ob.Le.of_eq (by simp only [xg,qp]):Ob.Le (.var [.d (.int .i64 p0.fKind),.d (.int .i64 p0.fN),.d (.bool p0.fNum.fNeg),.d (.pr Thr.n 1 (r1.map (rI .u32))),.d (.int .u64 p0.fBits),.d (.str p0.fBytes),.vw 80 7 0 ((m80.map Z0f).length)]) (.var [.d (.int .i64 p0.fKind),.d (.int .i64 p0.fN),.d (.bool p0.fNum.fNeg),.d (.pr Thr.n 1 (r1.map (rI .u32))),.d (.int .u64 p0.fBits),.d (.str p0.fBytes),.vw 80 7 0 (((m80.set ((v17).toNat) (true,r5)).map Z0f).length)])) y5)))) (ih.order_own_L0 p0 r1 r2 (m80.set ((v17).toNat) (true,r5)) (wrap .i64 (v17+(1:Int))) _ h (by omega) (by omega) (by rw [qp]; exact hl) (by rw [hw.1]; exact flags_set h0 hf))
   ·obtain rfl:=yl h
    rw [← flags_all (by omega) hf]
    exact Zj0.out (y8 [ak,ae,.adj [.keep [1,2] [80,2,1]]] (.cons (Z01 Z06 hb3) y5)) (by simp)
  ·intro p0 r h
   rw [order_own] at h
   obtain ⟨r1,hr1,h⟩:=yj h
   obtain ⟨r2,hr2,h⟩:=yj h
   obtain ⟨r7,hr7,h⟩:=yj h
   obtain rfl:=yl h
   rcases zg p0.fArgs with hnil | hcons
   ·have hr2':=hr2
    rw [hnil] at hr2'
    injection hr2' with e
    subst e
    have hl7:=own_len hr7
    rw [xx] at hl7
    have e7:=xy hl7
    subst e7
    have hloop:Zj0 prog 348 (partOf f47 [1,1,0,1,0,0]) (Zgy p0 r1) (.exit 0) (Zc1 p0 r1) :=
     Zj0.out (y8 [ak,ae,.adj [.keep [1,2] [2,1]]] (.cons (rfl:(decide ((0:Int) < (0:Int)))=false) y5)) (by simp)
    exact y9 348 [af,.reg [aa,aa,aa, yg [dv (.pr Thr.n 1 (r1.map (rI .u32)))],aa,aa, yg [dv (.pr Thr.n 7 [])],aa,aa,aa,aa,aa],.reg (e 4),.adj [.keep [1,2,16,17] [2,1]],.cut (.exit 0) (Zc1 p0 r1),af] func47 (.c8 y7 (clone_mag N p0.fNum.fMag r1 hr1:Ziz prog 65 [dv (.mk false Thr.n (.sl 1 (p0.fNum.fMag.map (rI .u32))))] [dv (.pr Thr.n 1 (r1.map (rI .u32)))]) y7 (by rw [hnil]; exact clone_args0:Ziz prog 46 [dv (.mk false Thr.n (.sl 7 (p0.fArgs.map Z02)))] [dv (.pr Thr.n 7 [])]) y7 y7 y7 (Ziw.of_loop hloop:Ziw prog 348 (partOf f47 [1,1,0,1,0]) (Zgy p0 r1) (.exit 0) (Zc1 p0 r1)) (.c2 y7 y7 (.cons y7 y5)))
   ·obtain ⟨xs,x,hx⟩:=hcons
    have hl7:=own_len hr7
    have hl2:r2.length=p0.fArgs.length:=by
     rw [hx,zu] at hr2 ⊢
     cases hxs:xs++[x] with
     |nil=>simp at hxs
     |cons y ys =>
      rw [hxs] at hr2
      have hr2:(app ([]:List Z00) (y::ys)).bind (fun x1=>some x1)=some r2:=hr2
      obtain ⟨z,hz,hr2⟩:=yj hr2
      injection hr2 with hr2; subst hr2
      rw [(Ze3 hz).2]; simp
    have hne:r7.map Z05 ≠ []:=fun e=>by
     have:=congrArg List.length e
     rw [xg,hl7,hl2,hx] at this
     simp at this
    have e0:(r2.map fun x=>((false,x):Bool × Z00)).map (·.2)=r2:=by rw [zz]; exact List.map_id' _
    have e1:(r2.map fun x=>((false,x):Bool × Z00)).map Z0f=r2.map Z2a:=by rw [zz]; rfl
    have hloop:=ih.order_own_L0 p0 r1 r2 (r2.map fun x=>(false,x)) 0 r7 (by rw [e0]; exact hr7) (by omega) (by omega) (by rw [xg]) (flags_none r2)
    rw [e1] at hloop
    refine Ziz.new Thr.n (Ziz.of_run 348 [af,.reg [aa,aa,aa, yg [dv (.pr Thr.n 1 (r1.map (rI .u32)))],aa,aa, { h:=.call 80 [.v (.one (.own 7 (r2.map Z2a)))] [] },aa,aa,aa,aa,aa],.reg [aa,aa, { cast:=some (ai (r2.length:Int)) },aa],.adj [.keep [1,2,16,17] [80,2,1]],.cut (.exit 0) (Zbt p0 r1 (r7.map Z05)),af] func47 (by kernel_rfl:runF prog f47 [.v (.agg (Zi1 p0))] 348 _=some ([.v (.agg ([C.int .i64 p0.fKind,.int .i64 p0.fN,.bool p0.fNum.fNeg,.pr Thr.n 1 (r1.map (rI .u32)),.int .u64 p0.fBits,.str p0.fBytes].map .dat++[.own 7 (r7.map Z05)]))],_)) (.c8 y7 (clone_mag N p0.fNum.fMag r1 hr1:Ziz prog 65 [dv (.mk false Thr.n (.sl 1 (p0.fNum.fMag.map (rI .u32))))] [dv (.pr Thr.n 1 (r1.map (rI .u32)))]) y7 (clone_args N p0.fArgs r2 hr2:Ziz prog 46 [dv (.mk false Thr.n (.sl 7 (p0.fArgs.map Z02)))] [.v (.one (.own 7 (r2.map Z2a)))]) (AV.Le.refl (.v (.one (.ptr 1 2)))) (AV.Le.refl (.v (.one (.ptr 1 3)))) y7 y7 (.c4 y7 (Zjk (r:=Z2a) (xs:=r2)) (Ziw.of_loop hloop:Ziw prog 348 (partOf f47 [1,1,0,1,0]) (Zgu p0 r1 r2.length (r2.map Z2a) (0:Int)) (.exit 0) (Zbt p0 r1 (r7.map Z05))) y7 (.c2 y7 y7 (.cons (rfl:(r7.map Z05).length=(r7.map Z05).length) y5))))) rfl (fun w F vs bs hr=>old_agg (cs:=Z2a p0) (l:=false) (c:=.sl 1 (p0.fNum.fMag.map (rI .u32))) (by simp [Z2a]) hr) fun w F vs bs ho hb hp=>?_
    exact aggs_new hne hb hp
theorem order_own_q [Thr] (N:Nat) (p0:Z00) (r:Z00) (h:order_own N p0=some r):Ziz prog 47 [.v (.agg (Zi1 p0))] [.v (.agg (Zaj r))]:=(Zi0 N).order_own p0 r h
def Z72 [Thr] (p0:(List Z00)) (p1:Int) (p2:Int) (a447:(List Z00)) (v8:Int) (a447':(List Z00)) (v9:Int):St:={ fr:=([(.v (.one (.vw 447 7 0 ((p0.map Z05).length)))),(ai p1),(ai p2),(.v (.one (.fn 38 [])))]++bads 4++[(ai v8),(ai v9)]++bads 43),obs:=[(447,.arr 7 (a447'.map Z05) true)] }
def Z3o [Thr] (p0:(List Z00)) (p1:Int) (p2:Int) (a447:(List Z00)) (v8:Int) (o:(List Z00)):St:={ fr:=([(.v (.one (.vw 447 7 0 ((p0.map Z05).length)))),(ai p1),(ai p2),(.v (.one (.fn 38 [])))]++bads 4++[(ai v8)]++bads 44),obs:=[(447,.arr 7 (o.map Z05) true)] }
def Z0t:Nat→(List Z00)→Int→Int→(List Z00)→Int→(List Z00)→Int→Option (List Z00)
 |0,_,_,_,_,_,_,_=>none
 |N+1,p0,p1,p2,a447,v8,a447',v9=>if v9 > p1 then if 0≤v9∧v9 < ((((p0.map Z02).length):Nat):Int) then (a447'[(Int.toNat v9+0)]?).bind fun x3=>if 0≤wrap .i64 (v9 - (1:Int))∧wrap .i64 (v9 - (1:Int)) < ((((p0.map Z02).length):Nat):Int) then (a447'[(Int.toNat (wrap .i64 (v9 - (1:Int)))+0)]?).bind fun x5=>(order_compare N x3 x5).bind fun r7=>if r7 < (0:Int) then if 0≤wrap .i64 (v9 - (1:Int))∧wrap .i64 (v9 - (1:Int)) < ((((p0.map Z02).length):Nat):Int) then (a447'[(Int.toNat (wrap .i64 (v9 - (1:Int)))+0)]?).bind fun x9=>if 0≤v9∧v9 < ((((p0.map Z02).length):Nat):Int) then (a447'[(Int.toNat v9+0)]?).bind fun x11=>if 0≤v9∧v9 < ((((p0.map Z02).length):Nat):Int) then (a447'[(Int.toNat v9+0)]?).bind fun x13=>if 0≤wrap .i64 (v9 - (1:Int))∧wrap .i64 (v9 - (1:Int)) < ((((p0.map Z02).length):Nat):Int) then ((a447'.set (Int.toNat v9+0) x9)[(Int.toNat (wrap .i64 (v9 - (1:Int)))+0)]?).bind fun x15=>Z0t N p0 p1 p2 a447 v8 ((a447'.set (Int.toNat v9+0) x9).set (Int.toNat (wrap .i64 (v9 - (1:Int)))+0) x11) (wrap .i64 (v9 - (1:Int))) else none else none else none else none else some a447' else none else none else some a447'
theorem Z6h [Thr]:∀ (N:Nat) (p0:(List Z00)) (p1:Int) (p2:Int) (a447:(List Z00)) (v8:Int) (a447':(List Z00)) (v9:Int) (r:(List Z00)),Z0t N p0 p1 p2 a447 v8 a447' v9=some r→Zj0 prog 447 (partOf f105 [1,0,0,1,0,0,1,0,0]) (Z72 p0 p1 p2 a447 v8 a447' v9) (.exit 2) (Z3o p0 p1 p2 a447 v8 r):=by
 intro N
 induction N with
 |zero=>intro p0 p1 p2 a447 v8 a447' v9 r h; cases h
 |succ N ih =>
  intro p0 p1 p2 a447 v8 a447' v9 r h
  rw [Z0t] at h
  try simp only [rq_len] at h
  rcases Z07 h with ⟨hb2,h⟩ | ⟨hb2,h⟩
  ·obtain ⟨hw4,h⟩:=Z1p h
   obtain ⟨x3,hx3,h⟩:=yj h
   obtain ⟨hw6,h⟩:=Z1p h
   obtain ⟨x5,hx5,h⟩:=yj h
   obtain ⟨r7,hr7,h⟩:=yj h
   rcases Z07 h with ⟨hb8,h⟩ | ⟨hb8,h⟩
   ·obtain ⟨hw10,h⟩:=Z1p h
    obtain ⟨x9,hx9,h⟩:=yj h
    obtain ⟨hw12,h⟩:=Z1p h
    obtain ⟨x11,hx11,h⟩:=yj h
    obtain ⟨hw14,h⟩:=Z1p h
    obtain ⟨x13,hx13,h⟩:=yj h
    obtain ⟨hw16,h⟩:=Z1p h
    obtain ⟨x15,hx15,h⟩:=yj h
    exact Zj0.again (y8 [.reg [aa,aa,aa,aa,aa,aa,aa,aa, { cast:=some (.v (.agg (Z21 x3))) },aa,aa,aa,aa, { cast:=some (.v (.agg (Z21 x5))) }, yg [vi r7],aa, { h:=.pick true }],ah,.reg [aa,aa,aa,aa,aa,aa,aa,aa,aa, { cast:=some (.v (.agg (Z21 x9))) },aa,aa,aa, { cast:=some (.v (.agg (Z21 x11))) },aa,aa,aa,aa],.adj [.ob 447 (.arr 7 (((a447'.set (Int.toNat v9+0) x9).set (Int.toNat (wrap .i64 (v9 - (1:Int)))+0) x11).map Z05) true)],ay,.adj [.keep [0,1,2,3,8,9] [447]]] (.c8 (Zj8 Z06 hb2) (Zj8 Z06 hb2) (Zj8 Z06 hb2) (Zj8 Z06 hb2) (hw4:0≤v9∧v9 < ((((p0.map Z05).length):Nat):Int)) (Zj8 Z06 hb2) (⟨Zjy hx3,by decide⟩:(Int.toNat v9+0) < (a447'.map Z05).length∧0≤7) (Zjx (fun l=>(.v (.agg [.d (l.getD 0 .nils),.d (l.getD 1 .nils),.d (l.getD 2 .nils),.d (l.getD 3 .nils),.d (l.getD 4 .nils),.d (l.getD 5 .nils),.d (l.getD 6 .nils)]))) hx3 (Z0c x3)) (.c8 (Zj8 Z06 hb2) (Zj8 Z06 hb2) (Zj8 Z06 hb2) (Zj8 Z06 hb2) (hw6:0≤wrap .i64 (v9 - (1:Int))∧wrap .i64 (v9 - (1:Int)) < ((((p0.map Z05).length):Nat):Int)) (Zj8 Z06 hb2) (⟨Zjy hx5,by decide⟩:(Int.toNat (wrap .i64 (v9 - (1:Int)))+0) < (a447'.map Z05).length∧0≤7) (Zjx (fun l=>(.v (.agg [.d (l.getD 0 .nils),.d (l.getD 1 .nils),.d (l.getD 2 .nils),.d (l.getD 3 .nils),.d (l.getD 4 .nils),.d (l.getD 5 .nils),.d (l.getD 6 .nils)]))) hx5 (Z0c x5)) (.c8 (Zj8 Z06 hb2) (Z47 N x3 x5 r7 hr7) (Zj8 Z06 hb2) (Zj8 Z06 hb2) (Zj8 Z06 hb8) (hw10:0≤wrap .i64 (v9 - (1:Int))∧wrap .i64 (v9 - (1:Int)) < ((((p0.map Z05).length):Nat):Int)) (⟨Zjy hx9,by decide⟩:(Int.toNat (wrap .i64 (v9 - (1:Int)))+0) < (a447'.map Z05).length∧0≤7) (Zjx (fun l=>(.v (.agg [.d (l.getD 0 .nils),.d (l.getD 1 .nils),.d (l.getD 2 .nils),.d (l.getD 3 .nils),.d (l.getD 4 .nils),.d (l.getD 5 .nils),.d (l.getD 6 .nils)]))) hx9 (Z0c x9)) (.c8 (hw12:0≤v9∧v9 < ((((p0.map Z05).length):Nat):Int)) (⟨Zjy hx11,by decide⟩:(Int.toNat v9+0) < (a447'.map Z05).length∧0≤7) (Zjx (fun l=>(.v (.agg [.d (l.getD 0 .nils),.d (l.getD 1 .nils),.d (l.getD 2 .nils),.d (l.getD 3 .nils),.d (l.getD 4 .nils),.d (l.getD 5 .nils),.d (l.getD 6 .nils)]))) hx11 (Z0c x11)) (hw14:0≤v9∧v9 < ((((p0.map Z05).length):Nat):Int)) (Zjy hx13:(Int.toNat v9+0) < (a447'.map Z05).length) (AV.Le.refl (.v (.one (.vw 447 7 0 ((p0.map Z05).length))))) (AV.Le.refl (ai v9)) (AV.Le.refl (ai (wrap .i64 (v9 - (1:Int))))) (.c2 (hw16:0≤wrap .i64 (v9 - (1:Int))∧wrap .i64 (v9 - (1:Int)) < ((((p0.map Z05).length):Nat):Int)) (raw_lt (show ((a447'.map Z05).set (Int.toNat v9+0) (Zjw ((a447'.map Z05).getD (Int.toNat v9+0) []) 0 [.int .i64 x9.fKind,.int .i64 x9.fN,.bool x9.fNum.fNeg,.pr Thr.n 1 (x9.fNum.fMag.map (rI .u32)),.int .u64 x9.fBits,.str x9.fBytes,.pr Thr.n 7 (x9.fArgs.map Z05)] 7))=((a447'.set (Int.toNat v9+0) x9).map Z05) from (show ((a447'.map Z05).set (Int.toNat v9+0) (Zjw ((a447'.map Z05).getD (Int.toNat v9+0) []) 0 [.int .i64 x9.fKind,.int .i64 x9.fN,.bool x9.fNum.fNeg,.pr Thr.n 1 (x9.fNum.fMag.map (rI .u32)),.int .u64 x9.fBits,.str x9.fBytes,.pr Thr.n 7 (x9.fArgs.map Z05)] 7))=((a447'.set (Int.toNat v9+0) x9).map Z05) from Z89 (show (a447'.map Z05)=(a447'.map Z05) from rfl) hx13 (Z0c x13) (by rw [Z0c x9]; rfl))) hx15:(Int.toNat (wrap .i64 (v9 - (1:Int)))+0) < ((a447'.map Z05).set (Int.toNat v9+0) (Zjw ((a447'.map Z05).getD (Int.toNat v9+0) []) 0 [.int .i64 x9.fKind,.int .i64 x9.fN,.bool x9.fNum.fNeg,.pr Thr.n 1 (x9.fNum.fMag.map (rI .u32)),.int .u64 x9.fBits,.str x9.fBytes,.pr Thr.n 7 (x9.fArgs.map Z05)] 7)).length) (.cons (Z42 (Eq.symm (show (((a447'.map Z05).set (Int.toNat v9+0) (Zjw ((a447'.map Z05).getD (Int.toNat v9+0) []) 0 [.int .i64 x9.fKind,.int .i64 x9.fN,.bool x9.fNum.fNeg,.pr Thr.n 1 (x9.fNum.fMag.map (rI .u32)),.int .u64 x9.fBits,.str x9.fBytes,.pr Thr.n 7 (x9.fArgs.map Z05)] 7)).set (Int.toNat (wrap .i64 (v9 - (1:Int)))+0) (Zjw (((a447'.map Z05).set (Int.toNat v9+0) (Zjw ((a447'.map Z05).getD (Int.toNat v9+0) []) 0 [.int .i64 x9.fKind,.int .i64 x9.fN,.bool x9.fNum.fNeg,.pr Thr.n 1 (x9.fNum.fMag.map (rI .u32)),.int .u64 x9.fBits,.str x9.fBytes,.pr Thr.n 7 (x9.fArgs.map Z05)] 7)).getD (Int.toNat (wrap .i64 (v9 - (1:Int)))+0) []) 0 [.int .i64 x11.fKind,.int .i64 x11.fN,.bool x11.fNum.fNeg,.pr Thr.n 1 (x11.fNum.fMag.map (rI .u32)),.int .u64 x11.fBits,.str x11.fBytes,.pr Thr.n 7 (x11.fArgs.map Z05)] 7))=(((a447'.set (Int.toNat v9+0) x9).set (Int.toNat (wrap .i64 (v9 - (1:Int)))+0) x11).map Z05) from Z89 (show ((a447'.map Z05).set (Int.toNat v9+0) (Zjw ((a447'.map Z05).getD (Int.toNat v9+0) []) 0 [.int .i64 x9.fKind,.int .i64 x9.fN,.bool x9.fNum.fNeg,.pr Thr.n 1 (x9.fNum.fMag.map (rI .u32)),.int .u64 x9.fBits,.str x9.fBytes,.pr Thr.n 7 (x9.fArgs.map Z05)] 7))=((a447'.set (Int.toNat v9+0) x9).map Z05) from (show ((a447'.map Z05).set (Int.toNat v9+0) (Zjw ((a447'.map Z05).getD (Int.toNat v9+0) []) 0 [.int .i64 x9.fKind,.int .i64 x9.fN,.bool x9.fNum.fNeg,.pr Thr.n 1 (x9.fNum.fMag.map (rI .u32)),.int .u64 x9.fBits,.str x9.fBytes,.pr Thr.n 7 (x9.fArgs.map Z05)] 7))=((a447'.set (Int.toNat v9+0) x9).map Z05) from Z89 (show (a447'.map Z05)=(a447'.map Z05) from rfl) hx13 (Z0c x13) (by rw [Z0c x9]; rfl))) hx15 (Z0c x15) (by rw [Z0c x11]; rfl))):Ob.Le (.arr 7 (((a447'.map Z05).set (Int.toNat v9+0) (Zjw ((a447'.map Z05).getD (Int.toNat v9+0) []) 0 [.int .i64 x9.fKind,.int .i64 x9.fN,.bool x9.fNum.fNeg,.pr Thr.n 1 (x9.fNum.fMag.map (rI .u32)),.int .u64 x9.fBits,.str x9.fBytes,.pr Thr.n 7 (x9.fArgs.map Z05)] 7)).set (Int.toNat (wrap .i64 (v9 - (1:Int)))+0) (Zjw (((a447'.map Z05).set (Int.toNat v9+0) (Zjw ((a447'.map Z05).getD (Int.toNat v9+0) []) 0 [.int .i64 x9.fKind,.int .i64 x9.fN,.bool x9.fNum.fNeg,.pr Thr.n 1 (x9.fNum.fMag.map (rI .u32)),.int .u64 x9.fBits,.str x9.fBytes,.pr Thr.n 7 (x9.fArgs.map Z05)] 7)).getD (Int.toNat (wrap .i64 (v9 - (1:Int)))+0) []) 0 [.int .i64 x11.fKind,.int .i64 x11.fN,.bool x11.fNum.fNeg,.pr Thr.n 1 (x11.fNum.fMag.map (rI .u32)),.int .u64 x11.fBits,.str x11.fBytes,.pr Thr.n 7 (x11.fArgs.map Z05)] 7)) true) (.arr 7 (((a447'.set (Int.toNat v9+0) x9).set (Int.toNat (wrap .i64 (v9 - (1:Int)))+0) x11).map Z05) true)) y5))))))) (ih p0 p1 p2 a447 v8 ((a447'.set (Int.toNat v9+0) x9).set (Int.toNat (wrap .i64 (v9 - (1:Int)))+0) x11) (wrap .i64 (v9 - (1:Int))) _ h)
   ·obtain rfl:=yl h
    exact Zj0.out (y8 [.reg [aa,aa,aa,aa,aa,aa,aa,aa, { cast:=some (.v (.agg (Z21 x3))) },aa,aa,aa,aa, { cast:=some (.v (.agg (Z21 x5))) }, yg [vi r7],aa, { h:=.pick true }],ae,.adj [.keep [0,1,2,3,8] [447]]] (.c8 (Zj8 Z06 hb2) (Zj8 Z06 hb2) (Zj8 Z06 hb2) (Zj8 Z06 hb2) (hw4:0≤v9∧v9 < ((((p0.map Z05).length):Nat):Int)) (Zj8 Z06 hb2) (⟨Zjy hx3,by decide⟩:(Int.toNat v9+0) < (a447'.map Z05).length∧0≤7) (Zjx (fun l=>(.v (.agg [.d (l.getD 0 .nils),.d (l.getD 1 .nils),.d (l.getD 2 .nils),.d (l.getD 3 .nils),.d (l.getD 4 .nils),.d (l.getD 5 .nils),.d (l.getD 6 .nils)]))) hx3 (Z0c x3)) (.c8 (Zj8 Z06 hb2) (Zj8 Z06 hb2) (Zj8 Z06 hb2) (Zj8 Z06 hb2) (hw6:0≤wrap .i64 (v9 - (1:Int))∧wrap .i64 (v9 - (1:Int)) < ((((p0.map Z05).length):Nat):Int)) (Zj8 Z06 hb2) (⟨Zjy hx5,by decide⟩:(Int.toNat (wrap .i64 (v9 - (1:Int)))+0) < (a447'.map Z05).length∧0≤7) (Zjx (fun l=>(.v (.agg [.d (l.getD 0 .nils),.d (l.getD 1 .nils),.d (l.getD 2 .nils),.d (l.getD 3 .nils),.d (l.getD 4 .nils),.d (l.getD 5 .nils),.d (l.getD 6 .nils)]))) hx5 (Z0c x5)) (.c4 (Zj8 Z06 hb2) (Z47 N x3 x5 r7 hr7) (Zj8 Z06 hb2) (Zj8 Z06 hb2) (.cons (Z01 Z06 hb8) y5))))) (by simp)
  ·obtain rfl:=yl h
   exact Zj0.out (y8 [.reg [aa,aa,aa,aa,w0,w0,w0,w0,w0,w0,w0,w0,w0,w0, { want:=false,h:=.pcall [] },w0, { h:=.pick false }],ae,.adj [.keep [0,1,2,3,8] [447]]] (.c8 (Z01 Z06 hb2) (Z01 Z06 hb2) (Z01 Z06 hb2) (Z01 Z06 hb2) (Z01 Z06 hb2) (Z01 Z06 hb2) (Z01 Z06 hb2) (Z01 Z06 hb2) (.c4 (Z01 Z06 hb2) (Z01 Z06 hb2) (Z01 Z06 hb2) (Z01 Z06 hb2) (.c2 (Z01 Z06 hb2) yf y5)))) (by simp)
def Z70 [Thr] (p0:(List Z00)) (p1:Int) (p2:Int) (a447:(List Z00)) (v8:Int):St:={ fr:=([(.v (.one (.vw 447 7 0 ((p0.map Z05).length)))),(ai p1),(ai p2),(.v (.one (.fn 38 [])))]++bads 4++[(ai v8)]++bads 44),obs:=[(447,.arr 7 (a447.map Z05) true)] }
def Z3n [Thr] (p0:(List Z00)) (p1:Int) (p2:Int) (o:(List Z00)):St:={ fr:=bads 53,obs:=[(447,.arr 7 (o.map Z05) true)] }
def Z0g:Nat→(List Z00)→Int→Int→(List Z00)→Int→Option (List Z00)
 |0,_,_,_,_,_=>none
 |N+1,p0,p1,p2,a447,v8=>if v8 < p2 then (Z0t N p0 p1 p2 a447 v8 a447 v8).bind fun r17=>Z0g N p0 p1 p2 r17 (wrap .i64 (v8+(1:Int))) else some a447
theorem Z6i [Thr]:∀ (N:Nat) (p0:(List Z00)) (p1:Int) (p2:Int) (a447:(List Z00)) (v8:Int) (r:(List Z00)),Z0g N p0 p1 p2 a447 v8=some r→Zj0 prog 447 (partOf f105 [1,0,0]) (Z70 p0 p1 p2 a447 v8) (.exit 0) (Z3n p0 p1 p2 r):=by
 intro N
 induction N with
 |zero=>intro p0 p1 p2 a447 v8 r h; cases h
 |succ N ih =>
  intro p0 p1 p2 a447 v8 r h
  rw [Z0g] at h
  try simp only [rq_len] at h
  rcases Z07 h with ⟨hb1,h⟩ | ⟨hb1,h⟩
  ·obtain ⟨r17,hr17,h⟩:=yj h
   exact Zj0.again (y8 [ay,ah,af,.adj [.keep [0,1,2,3,8,9] [447]],.cut (.exit 2) (Z3o p0 p1 p2 a447 v8 r17),ay,.adj [.keep [0,1,2,3,8] [447]]] (.c2 (Zj8 Z06 hb1) (Ziw.of_loop (Z6h N p0 p1 p2 a447 v8 a447 v8 r17 hr17)) y5)) (ih p0 p1 p2 r17 (wrap .i64 (v8+(1:Int))) _ h)
  ·obtain rfl:=yl h
   exact Zj0.out (y8 [ay,ae,.adj [.keep [] [447]]] (.cons (Z01 Z06 hb1) y5)) (by simp)
def Z0y (N:Nat) (p0:(List Z00)) (p1:Int) (p2:Int):Option (List Z00):=(Z0g N p0 p1 p2 p0 (wrap .i64 (p1+(1:Int)))).bind fun r18=>some r18
theorem Z3t [Thr] (N:Nat) (p0:(List Z00)) (p1:Int) (p2:Int) (r:(List Z00)) (h:Z0y N p0 p1 p2=some r):KSpec prog 105 [.v (.one (.own 7 (p0.map Z05))),vi p1,vi p2,.v (.one (.fn 38 []))] 7 (r.map Z05):=by
 unfold Z0y at h
 try simp only [rq_len] at h
 obtain ⟨r18,hr18,h⟩:=yj h
 obtain rfl:=yl h
 exact yc 447 [ay,.adj [.keep [0,1,2,3,8] [447]],.cut (.exit 0) (Z3n p0 p1 p2 r18)] func105 (.cons (Ziw.of_loop (Z6i N p0 p1 p2 p0 (wrap .i64 (p1+(1:Int))) r18 hr18)) y5)
def Z8e [Thr] (p0:(List Z00)) (p1:Int) (p2:Int) (p3:Int) (a324:(List Z00)) (v10:Int):St:={ fr:=([(.v (.one (.vw 324 7 0 ((p0.map Z05).length)))),(ai p1),(ai p2),(ai p3)]++bads 6++[(ai v10)]++bads 27),obs:=[(324,.arr 7 (a324.map Z05) true)] }
def Z4c [Thr] (p0:(List Z00)) (p1:Int) (p2:Int) (p3:Int) (o:(List Z00)):St:={ fr:=bads 38,obs:=[(324,.arr 7 (o.map Z05) true)] }
def Z11:Nat→(List Z00)→Int→Int→Int→(List Z00)→Int→Option (List Z00)
 |0,_,_,_,_,_,_=>none
 |N+1,p0,p1,p2,p3,a324,v10=>if v10 < p3 then if 0≤wrap .i64 (p2+v10)∧wrap .i64 (p2+v10) < ((((p0.map Z02).length):Nat):Int) then (a324[(Int.toNat (wrap .i64 (p2+v10))+0)]?).bind fun x2=>if 0≤wrap .i64 (p1+v10)∧wrap .i64 (p1+v10) < ((((p0.map Z02).length):Nat):Int) then (a324[(Int.toNat (wrap .i64 (p1+v10))+0)]?).bind fun x4=>if 0≤wrap .i64 (p1+v10)∧wrap .i64 (p1+v10) < ((((p0.map Z02).length):Nat):Int) then (a324[(Int.toNat (wrap .i64 (p1+v10))+0)]?).bind fun x6=>if 0≤wrap .i64 (p2+v10)∧wrap .i64 (p2+v10) < ((((p0.map Z02).length):Nat):Int) then ((a324.set (Int.toNat (wrap .i64 (p1+v10))+0) x2)[(Int.toNat (wrap .i64 (p2+v10))+0)]?).bind fun x8=>Z11 N p0 p1 p2 p3 ((a324.set (Int.toNat (wrap .i64 (p1+v10))+0) x2).set (Int.toNat (wrap .i64 (p2+v10))+0) x4) (wrap .i64 (v10+(1:Int))) else none else none else none else none else some a324
theorem Z78 [Thr]:∀ (N:Nat) (p0:(List Z00)) (p1:Int) (p2:Int) (p3:Int) (a324:(List Z00)) (v10:Int) (r:(List Z00)),Z11 N p0 p1 p2 p3 a324 v10=some r→Zj0 prog 324 (partOf f156 [1,0,0]) (Z8e p0 p1 p2 p3 a324 v10) (.exit 0) (Z4c p0 p1 p2 p3 r):=by
 intro N
 induction N with
 |zero=>intro p0 p1 p2 p3 a324 v10 r h; cases h
 |succ N ih =>
  intro p0 p1 p2 p3 a324 v10 r h
  rw [Z11] at h
  try simp only [rq_len] at h
  rcases Z07 h with ⟨hb1,h⟩ | ⟨hb1,h⟩
  ·obtain ⟨hw3,h⟩:=Z1p h
   obtain ⟨x2,hx2,h⟩:=yj h
   obtain ⟨hw5,h⟩:=Z1p h
   obtain ⟨x4,hx4,h⟩:=yj h
   obtain ⟨hw7,h⟩:=Z1p h
   obtain ⟨x6,hx6,h⟩:=yj h
   obtain ⟨hw9,h⟩:=Z1p h
   obtain ⟨x8,hx8,h⟩:=yj h
   exact Zj0.again (y8 [ay,ah,.reg [aa,aa,aa,aa,aa,aa,aa,aa,aa,aa,aa,aa,aa, { cast:=some (.v (.agg (Z21 x2))) },aa,aa,aa,aa,aa, { cast:=some (.v (.agg (Z21 x4))) },aa,aa,aa,aa],.adj [.ob 324 (.arr 7 (((a324.set (Int.toNat (wrap .i64 (p1+v10))+0) x2).set (Int.toNat (wrap .i64 (p2+v10))+0) x4).map Z05) true)],ay,.adj [.keep [0,1,2,3,10] [324]]] (.c8 (Zj8 Z06 hb1) (hw3:0≤wrap .i64 (p2+v10)∧wrap .i64 (p2+v10) < ((((p0.map Z05).length):Nat):Int)) (⟨Zjy hx2,by decide⟩:(Int.toNat (wrap .i64 (p2+v10))+0) < (a324.map Z05).length∧0≤7) (Zjx (fun l=>(.v (.agg [.d (l.getD 0 .nils),.d (l.getD 1 .nils),.d (l.getD 2 .nils),.d (l.getD 3 .nils),.d (l.getD 4 .nils),.d (l.getD 5 .nils),.d (l.getD 6 .nils)]))) hx2 (Z0c x2)) (hw5:0≤wrap .i64 (p1+v10)∧wrap .i64 (p1+v10) < ((((p0.map Z05).length):Nat):Int)) (⟨Zjy hx4,by decide⟩:(Int.toNat (wrap .i64 (p1+v10))+0) < (a324.map Z05).length∧0≤7) (Zjx (fun l=>(.v (.agg [.d (l.getD 0 .nils),.d (l.getD 1 .nils),.d (l.getD 2 .nils),.d (l.getD 3 .nils),.d (l.getD 4 .nils),.d (l.getD 5 .nils),.d (l.getD 6 .nils)]))) hx4 (Z0c x4)) (hw7:0≤wrap .i64 (p1+v10)∧wrap .i64 (p1+v10) < ((((p0.map Z05).length):Nat):Int)) (.c8 (Zjy hx6:(Int.toNat (wrap .i64 (p1+v10))+0) < (a324.map Z05).length) (AV.Le.refl (.v (.one (.vw 324 7 0 ((p0.map Z05).length))))) (AV.Le.refl (ai p2)) (AV.Le.refl (ai v10)) (AV.Le.refl (ai (wrap .i64 (p2+v10)))) (hw9:0≤wrap .i64 (p2+v10)∧wrap .i64 (p2+v10) < ((((p0.map Z05).length):Nat):Int)) (raw_lt (show ((a324.map Z05).set (Int.toNat (wrap .i64 (p1+v10))+0) (Zjw ((a324.map Z05).getD (Int.toNat (wrap .i64 (p1+v10))+0) []) 0 [.int .i64 x2.fKind,.int .i64 x2.fN,.bool x2.fNum.fNeg,.pr Thr.n 1 (x2.fNum.fMag.map (rI .u32)),.int .u64 x2.fBits,.str x2.fBytes,.pr Thr.n 7 (x2.fArgs.map Z05)] 7))=((a324.set (Int.toNat (wrap .i64 (p1+v10))+0) x2).map Z05) from (show ((a324.map Z05).set (Int.toNat (wrap .i64 (p1+v10))+0) (Zjw ((a324.map Z05).getD (Int.toNat (wrap .i64 (p1+v10))+0) []) 0 [.int .i64 x2.fKind,.int .i64 x2.fN,.bool x2.fNum.fNeg,.pr Thr.n 1 (x2.fNum.fMag.map (rI .u32)),.int .u64 x2.fBits,.str x2.fBytes,.pr Thr.n 7 (x2.fArgs.map Z05)] 7))=((a324.set (Int.toNat (wrap .i64 (p1+v10))+0) x2).map Z05) from Z89 (show (a324.map Z05)=(a324.map Z05) from rfl) hx6 (Z0c x6) (by rw [Z0c x2]; rfl))) hx8:(Int.toNat (wrap .i64 (p2+v10))+0) < ((a324.map Z05).set (Int.toNat (wrap .i64 (p1+v10))+0) (Zjw ((a324.map Z05).getD (Int.toNat (wrap .i64 (p1+v10))+0) []) 0 [.int .i64 x2.fKind,.int .i64 x2.fN,.bool x2.fNum.fNeg,.pr Thr.n 1 (x2.fNum.fMag.map (rI .u32)),.int .u64 x2.fBits,.str x2.fBytes,.pr Thr.n 7 (x2.fArgs.map Z05)] 7)).length) (Z42 (Eq.symm (show (((a324.map Z05).set (Int.toNat (wrap .i64 (p1+v10))+0) (Zjw ((a324.map Z05).getD (Int.toNat (wrap .i64 (p1+v10))+0) []) 0 [.int .i64 x2.fKind,.int .i64 x2.fN,.bool x2.fNum.fNeg,.pr Thr.n 1 (x2.fNum.fMag.map (rI .u32)),.int .u64 x2.fBits,.str x2.fBytes,.pr Thr.n 7 (x2.fArgs.map Z05)] 7)).set (Int.toNat (wrap .i64 (p2+v10))+0) (Zjw (((a324.map Z05).set (Int.toNat (wrap .i64 (p1+v10))+0) (Zjw ((a324.map Z05).getD (Int.toNat (wrap .i64 (p1+v10))+0) []) 0 [.int .i64 x2.fKind,.int .i64 x2.fN,.bool x2.fNum.fNeg,.pr Thr.n 1 (x2.fNum.fMag.map (rI .u32)),.int .u64 x2.fBits,.str x2.fBytes,.pr Thr.n 7 (x2.fArgs.map Z05)] 7)).getD (Int.toNat (wrap .i64 (p2+v10))+0) []) 0 [.int .i64 x4.fKind,.int .i64 x4.fN,.bool x4.fNum.fNeg,.pr Thr.n 1 (x4.fNum.fMag.map (rI .u32)),.int .u64 x4.fBits,.str x4.fBytes,.pr Thr.n 7 (x4.fArgs.map Z05)] 7))=(((a324.set (Int.toNat (wrap .i64 (p1+v10))+0) x2).set (Int.toNat (wrap .i64 (p2+v10))+0) x4).map Z05) from Z89 (show ((a324.map Z05).set (Int.toNat (wrap .i64 (p1+v10))+0) (Zjw ((a324.map Z05).getD (Int.toNat (wrap .i64 (p1+v10))+0) []) 0 [.int .i64 x2.fKind,.int .i64 x2.fN,.bool x2.fNum.fNeg,.pr Thr.n 1 (x2.fNum.fMag.map (rI .u32)),.int .u64 x2.fBits,.str x2.fBytes,.pr Thr.n 7 (x2.fArgs.map Z05)] 7))=((a324.set (Int.toNat (wrap .i64 (p1+v10))+0) x2).map Z05) from (show ((a324.map Z05).set (Int.toNat (wrap .i64 (p1+v10))+0) (Zjw ((a324.map Z05).getD (Int.toNat (wrap .i64 (p1+v10))+0) []) 0 [.int .i64 x2.fKind,.int .i64 x2.fN,.bool x2.fNum.fNeg,.pr Thr.n 1 (x2.fNum.fMag.map (rI .u32)),.int .u64 x2.fBits,.str x2.fBytes,.pr Thr.n 7 (x2.fArgs.map Z05)] 7))=((a324.set (Int.toNat (wrap .i64 (p1+v10))+0) x2).map Z05) from Z89 (show (a324.map Z05)=(a324.map Z05) from rfl) hx6 (Z0c x6) (by rw [Z0c x2]; rfl))) hx8 (Z0c x8) (by rw [Z0c x4]; rfl))):Ob.Le (.arr 7 (((a324.map Z05).set (Int.toNat (wrap .i64 (p1+v10))+0) (Zjw ((a324.map Z05).getD (Int.toNat (wrap .i64 (p1+v10))+0) []) 0 [.int .i64 x2.fKind,.int .i64 x2.fN,.bool x2.fNum.fNeg,.pr Thr.n 1 (x2.fNum.fMag.map (rI .u32)),.int .u64 x2.fBits,.str x2.fBytes,.pr Thr.n 7 (x2.fArgs.map Z05)] 7)).set (Int.toNat (wrap .i64 (p2+v10))+0) (Zjw (((a324.map Z05).set (Int.toNat (wrap .i64 (p1+v10))+0) (Zjw ((a324.map Z05).getD (Int.toNat (wrap .i64 (p1+v10))+0) []) 0 [.int .i64 x2.fKind,.int .i64 x2.fN,.bool x2.fNum.fNeg,.pr Thr.n 1 (x2.fNum.fMag.map (rI .u32)),.int .u64 x2.fBits,.str x2.fBytes,.pr Thr.n 7 (x2.fArgs.map Z05)] 7)).getD (Int.toNat (wrap .i64 (p2+v10))+0) []) 0 [.int .i64 x4.fKind,.int .i64 x4.fN,.bool x4.fNum.fNeg,.pr Thr.n 1 (x4.fNum.fMag.map (rI .u32)),.int .u64 x4.fBits,.str x4.fBytes,.pr Thr.n 7 (x4.fArgs.map Z05)] 7)) true) (.arr 7 (((a324.set (Int.toNat (wrap .i64 (p1+v10))+0) x2).set (Int.toNat (wrap .i64 (p2+v10))+0) x4).map Z05) true)) y5))) (ih p0 p1 p2 p3 ((a324.set (Int.toNat (wrap .i64 (p1+v10))+0) x2).set (Int.toNat (wrap .i64 (p2+v10))+0) x4) (wrap .i64 (v10+(1:Int))) _ h)
  ·obtain rfl:=yl h
   exact Zj0.out (y8 [ay,ae,.adj [.keep [] [324]]] (.cons (Z01 Z06 hb1) y5)) (by simp)
def Z1d (N:Nat) (p0:(List Z00)) (p1:Int) (p2:Int) (p3:Int):Option (List Z00):=(Z11 N p0 p1 p2 p3 p0 (0:Int)).bind fun r10=>some r10
theorem Z2v [Thr] (N:Nat) (p0:(List Z00)) (p1:Int) (p2:Int) (p3:Int) (r:(List Z00)) (h:Z1d N p0 p1 p2 p3=some r):KSpec prog 156 [.v (.one (.own 7 (p0.map Z05))),vi p1,vi p2,vi p3,.v (.one (.fn 38 []))] 7 (r.map Z05):=by
 unfold Z1d at h
 try simp only [rq_len] at h
 obtain ⟨r10,hr10,h⟩:=yj h
 obtain rfl:=yl h
 exact yc 324 [ak,.adj [.keep [0,1,2,3,10] [324]],.cut (.exit 0) (Z4c p0 p1 p2 p3 r10)] func156 (.cons (Ziw.of_loop (Z78 N p0 p1 p2 p3 p0 (0:Int) r10 hr10)) y5)
def Z9h [Thr] (p0:(List Z00)) (p2:Int) (a458:(List Z00)) (v10:Int) (v11:Int):St:={ fr:=([(.v (.one (.vw 458 7 0 ((p0.map Z05).length)))),.bad,(ai p2),.bad,(.v (.one (.fn 38 [])))]++bads 5++[(ai v10),(ai v11)]++bads 46),obs:=[(458,.arr 7 (a458.map Z05) true)] }
def Z4y [Thr] (p0:(List Z00)) (p2:Int) (o:(List Z00) × Int):St:={ fr:=([(.v (.one (.vw 458 7 0 ((p0.map Z05).length)))),.bad,(ai p2),.bad,(.v (.one (.fn 38 [])))]++bads 5++[(ai o.2)]++bads 47),obs:=[(458,.arr 7 (o.1.map Z05) true)] }
def Z0r:Nat→(List Z00)→Int→(List Z00)→Int→Int→Option ((List Z00) × Int)
 |0,_,_,_,_,_=>none
 |N+1,p0,p2,a458,v10,v11=>if v10 ≠ v11 then if v10 > v11 then if p0.length=a458.length then (Z1d N a458 (wrap .i64 (p2 - v10)) p2 v11).bind fun r4=>Z0r N p0 p2 r4 (wrap .i64 (v10 - v11)) v11 else none else if p0.length=a458.length then (Z1d N a458 (wrap .i64 (p2 - v10)) (wrap .i64 ((wrap .i64 (p2+v11)) - v10)) v10).bind fun r7=>Z0r N p0 p2 r7 v10 (wrap .i64 (v11 - v10)) else none else some (a458,v10)
theorem Z8a [Thr]:∀ (N:Nat) (p0:(List Z00)) (p2:Int) (a458:(List Z00)) (v10:Int) (v11:Int) (r:((List Z00) × Int)),Z0r N p0 p2 a458 v10 v11=some r→Zj0 prog 458 (partOf f140 [1,1,0,0,0]) (Z9h p0 p2 a458 v10 v11) (.exit 0) (Z4y p0 p2 r):=by
 intro N
 induction N with
 |zero=>intro p0 p2 a458 v10 v11 r h; cases h
 |succ N ih =>
  intro p0 p2 a458 v10 v11 r h
  rw [Z0r] at h
  try simp only [rq_len] at h
  rcases Z07 h with ⟨hb1,h⟩ | ⟨hb1,h⟩
  ·rcases Z07 h with ⟨hb2,h⟩ | ⟨hb2,h⟩
   ·obtain ⟨hw3,h⟩:=Z1p h
    obtain ⟨r4,hr4,h⟩:=yj h
    exact Zj0.again (y8 [ay,ah,ay,ah,.reg [aa,aa,aa,aa,aa,aa,aa, { h:=.kcall 458 (r4.map Z05) }],.reg (e 4),.adj [.keep [0,2,4,10,11] [458]]] (.c4 (Zj8 Z0h hb1) (Zj8 Z06 hb2) (Z2v N a458 (wrap .i64 (p2 - v10)) p2 v11 r4 hr4) (by simp only [xg,hw3]:((p0.map Z05).length)=(a458.map Z05).length) y5)) (ih p0 p2 r4 (wrap .i64 (v10 - v11)) v11 _ h)
   ·obtain ⟨hw6,h⟩:=Z1p h
    obtain ⟨r7,hr7,h⟩:=yj h
    exact Zj0.again (y8 [ay,ah,ay,ae,.reg [aa,aa,aa,aa,aa,aa,aa,aa,aa,aa,aa, { h:=.kcall 458 (r7.map Z05) }],.reg (e 4),.adj [.keep [0,2,4,10,11] [458]]] (.c4 (Zj8 Z0h hb1) (Z01 Z06 hb2) (Z2v N a458 (wrap .i64 (p2 - v10)) (wrap .i64 ((wrap .i64 (p2+v11)) - v10)) v10 r7 hr7) (by simp only [xg,hw6]:((p0.map Z05).length)=(a458.map Z05).length) y5)) (ih p0 p2 r7 v10 (wrap .i64 (v11 - v10)) _ h)
  ·obtain rfl:=yl h
   exact Zj0.out (y8 [ay,ae,.adj [.keep [0,2,4,10] [458]]] (.cons (Z01 Z0h hb1) y5)) (by simp)
def Z2i (N:Nat) (p0:(List Z00)) (p1:Int) (p2:Int) (p3:Int):Option (List Z00):=(Z0r N p0 p2 p0 (wrap .i64 (p2 - p1)) (wrap .i64 (p3 - p2))).bind fun r9=>if p0.length=r9.1.length then (Z1d N r9.1 (wrap .i64 (p2 - r9.2)) p2 r9.2).bind fun r11=>some r11 else none
theorem Z9l [Thr] (N:Nat) (p0:(List Z00)) (p1:Int) (p2:Int) (p3:Int) (r:(List Z00)) (h:Z2i N p0 p1 p2 p3=some r):KSpec prog 140 [.v (.one (.own 7 (p0.map Z05))),vi p1,vi p2,vi p3,.v (.one (.fn 38 []))] 7 (r.map Z05):=by
 unfold Z2i at h
 try simp only [rq_len] at h
 obtain ⟨r9,hr9,h⟩:=yj h
 obtain ⟨hw10,h⟩:=Z1p h
 obtain ⟨r11,hr11,h⟩:=yj h
 obtain rfl:=yl h
 exact yc 458 [.reg (e 4),.reg (e 4),.adj [.keep [0,2,4,10,11] [458]],.cut (.exit 0) (Z4y p0 p2 r9),.reg [aa,aa,aa,aa,aa,aa,aa, { h:=.kcall 458 (r11.map Z05) }]] func140 (.c2 (Ziw.of_loop (Z8a N p0 p2 p0 (wrap .i64 (p2 - p1)) (wrap .i64 (p3 - p2)) r9 hr9)) (Z2v N r9.1 (wrap .i64 (p2 - r9.2)) p2 r9.2 r11 hr11) (.cons (by simp only [xg,hw10]:((p0.map Z05).length)=(r9.1.map Z05).length) y5))
end Go.Proofs.Ytllcnlonkloabaa.Sh
