import Derived.Test.YtllcnlonkloabaaPureCmpNum
import Derived.Laws.FloatBits
import Derived.KernelRfl
set_option linter.unusedVariables false
set_option linter.unusedSimpArgs false
namespace Go.Proofs.Ytllcnlonkloabaa.Sh
open Go Lift Go.Proofs
/-! ### What floats come to,clean -/
def cleanW (b:Int) : Int := if nanW b.toNat then 9221120237041090561 else b
def opW : Option Nat → Int
  | none => 9221120237041090561
  | some z => cleanW (z:Int)
theorem cnone_ev (b:Int) : Ev (fun N => real_none N b) (nanW b.toNat) := by
  rw [← Lift.fne_self b.toNat]
  exact Ev.bind (Ev.now _) (Ev.now _)
theorem clean_ev (b:Int) : Ev (fun N => real_Clean N b) (cleanW b) := by
  refine Ev.bind (cnone_ev b) ?_
  unfold cleanW
  exact Ev.iff (fun _ => Ev.now _) (fun _ => Ev.now _)
theorem cleanNan_ev : Ev (fun N => real_Clean_nan N) 9221120237041090561 := Ev.bind (a := true) (Ev.bind (Ev.now _) (Ev.now _)) (Ev.pos rfl (Ev.now _))
theorem op_ev (o:Option Nat) : Ev (fun N => Lift.both o ((real_Clean_nan N).bind fun r2 => some r2) fun x1 => (real_Clean N ((x1:Nat) : Int)).bind fun r3 => some r3) (opW o) := by
  cases o with
  | none => exact Ev.bothN rfl (Ev.bind cleanNan_ev (Ev.now _))
  | some z => exact Ev.bothS rfl (Ev.bind (clean_ev (z:Int)) (Ev.now _))
theorem add_ev' (a b:Int) : Ev (fun N => real_Add N a b) (opW (fadd a.toNat b.toNat)) := op_ev _
theorem sub_ev' (a b:Int) : Ev (fun N => real_Sub N a b) (opW (fsub a.toNat b.toNat)) := op_ev _
theorem mul_ev' (a b:Int) : Ev (fun N => real_Mul N a b) (opW (fmul a.toNat b.toNat)) := op_ev _
theorem div_ev' (a b:Int) : Ev (fun N => real_Div N a b) (opW (fdiv a.toNat b.toNat)) := op_ev _
structure W64 (b:Int) : Prop where
  lo : 0 ≤ b
  hi : b ≤ 18446744073709551615
theorem cleanW_w {b : Int} (h:W64 b) : W64 (cleanW b) := by unfold cleanW; split; exact ⟨by decide,by decide⟩; exact h
theorem cleanW_nan {b : Int} (h:nanW (cleanW b).toNat = true) : cleanW b = 9221120237041090561 := by
  unfold cleanW at h ⊢
  split
  · rfl
  · rename_i hn; rw [if_neg hn] at h; exact absurd h hn
theorem opW_nan {o : Option Nat} (h:nanW (opW o).toNat = true) : opW o = 9221120237041090561 := by
  cases o with
  | none => rfl
  | some z => exact cleanW_nan h
/-! The document's -/
theorem w64 : (2:Nat) ^ FloatKind.f64.format.width = 18446744073709551616 := by decide
end Go.Proofs.Ytllcnlonkloabaa.Sh
