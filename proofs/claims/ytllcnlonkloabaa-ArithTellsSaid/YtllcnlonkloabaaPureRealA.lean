import Derived.Test.YtllcnlonkloabaaPureCmpNum
import Derived.Laws.FloatBits
import Derived.KernelRfl
set_option linter.unusedVariables false
set_option linter.unusedSimpArgs false
namespace Go.Proofs.Ytllcnlonkloabaa.Sh
open Go Lift Go.Proofs
def cleanW (b:Int):Int:=if nanW b.toNat then 9221120237041090561 else b
def opW:Option Nat→Int
  | none=>9221120237041090561
  | some z=>cleanW (z:Int)
theorem cnone_ev (b:Int):Ev (fun N=>Zez N b) (nanW b.toNat):=by
  rw [← Lift.fne_self b.toNat]
  exact Ev.bind (Ev.now _) (Ev.now _)
theorem clean_ev (b:Int):Ev (fun N=>Z9p N b) (cleanW b):=by
  refine Ev.bind (cnone_ev b) ?_
  unfold cleanW
  exact Ev.iff (fun _=>Ev.now _) (fun _=>Ev.now _)
theorem cleanNan_ev:Ev (fun N=>Z5h N) 9221120237041090561:=Ev.bind (a:=true) (Ev.bind (Ev.now _) (Ev.now _)) (Ev.pos rfl (Ev.now _))
theorem op_ev (o:Option Nat):Ev (fun N=>Lift.both o ((Z5h N).bind fun r2=>some r2) fun x1=>(Z9p N ((x1:Nat):Int)).bind fun r3=>some r3) (opW o):=by
  cases o with
  | none=>exact Ev.bothN rfl (Ev.bind cleanNan_ev (Ev.now _))
  | some z=>exact Ev.bothS rfl (Ev.bind (clean_ev (z:Int)) (Ev.now _))
theorem add_ev' (a b:Int):Ev (fun N=>real_Add N a b) (opW (fadd a.toNat b.toNat)):=op_ev _
theorem sub_ev' (a b:Int):Ev (fun N=>real_Sub N a b) (opW (fsub a.toNat b.toNat)):=op_ev _
theorem mul_ev' (a b:Int):Ev (fun N=>real_Mul N a b) (opW (fmul a.toNat b.toNat)):=op_ev _
theorem div_ev' (a b:Int):Ev (fun N=>real_Div N a b) (opW (fdiv a.toNat b.toNat)):=op_ev _
structure W64 (b:Int):Prop where
  lo:0≤b
  hi:b≤18446744073709551615
theorem rnan_ev (b:Int) (h:W64 b):Ev (fun N=>Z72 N b) (nanW b.toNat):=by
  have e:decide (Zi2 .u64 b (9223372036854775808:Int) > (9218868437227405312:Int))=nanW b.toNat:=by
    rw [bandn_63 b h.lo (by have:=h.hi; omega),nanW_rg]
    unfold rg
    exact decide_eq_decide.2 (by have:=h.lo; omega)
  rw [← e]
  exact Ev.now _
theorem rclean_ev (b:Int) (h:W64 b):Ev (fun N=>Z83 N b) (cleanW b):=by
  refine Ev.bind (rnan_ev b h) ?_
  unfold cleanW
  exact Ev.iff (fun _=>Ev.now _) (fun _=>Ev.now _)
theorem rop_ev (o:Option Nat) (h:∀ z,o=some z→z < 18446744073709551616):Ev (fun N=>Lift.both o ((Z39 N).bind fun r4=>some r4) fun x3=>(Z1v N x3).bind fun r5=>some r5) (opW o):=by
  cases o with
  | none=>exact Ev.bothN rfl (Ev.bind (Ev.bind (Ev.bind (a:=true) (Ev.now _) (Ev.pos rfl (Ev.now _))) (Ev.now _)) (Ev.now _))
  | some z=>exact Ev.bothS rfl (Ev.bind (Ev.bind (rclean_ev (z:Int) ⟨by omega,by have:=h z rfl; omega⟩) (Ev.now _)) (Ev.now _))
theorem w64:(2:Nat) ^ FloatKind.f64.format.width=18446744073709551616:=by decide
theorem radd_ev (a b:Int):Ev (fun N=>Za2 N a b) (opW (fadd a.toNat b.toNat)) :=
  Ev.bind (Ev.now _) (Ev.bind (Ev.now _) (rop_ev _ fun z h=>by have:=Ieee.Format.add_lt _ h; rwa [w64] at this))
theorem rsub_ev (a b:Int):Ev (fun N=>Zab N a b) (opW (fsub a.toNat b.toNat)) :=
  Ev.bind (Ev.now _) (Ev.bind (Ev.now _) (rop_ev _ fun z h=>by have:=Ieee.Format.sub_lt _ h; rwa [w64] at this))
theorem rmul_ev (a b:Int):Ev (fun N=>Za4 N a b) (opW (fmul a.toNat b.toNat)) :=
  Ev.bind (Ev.now _) (Ev.bind (Ev.now _) (rop_ev _ fun z h=>by have:=Ieee.Format.mul_lt _ h; rwa [w64] at this))
theorem rdiv_ev (a b:Int):Ev (fun N=>Za5 N a b) (opW (fdiv a.toNat b.toNat)) :=
  Ev.bind (Ev.now _) (Ev.bind (Ev.now _) (rop_ev _ fun z h=>by have:=Ieee.Format.div_lt _ h; rwa [w64] at this))
end Go.Proofs.Ytllcnlonkloabaa.Sh
