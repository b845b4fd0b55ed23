import Derived.Test.YtllcnlonkloabaaRows
import Derived.Test.YtllcnlonkloabaaInv
import Derived.Test.YtllcnlonkloabaaPureOrderSorts
import Derived.WalkKit
import Derived.ProofKit
import Derived.OpenShut
import Derived.ShutString
import Derived.ChangeOld
import Derived.Below
import Derived.SizedLaws
namespace Go.Proofs.Ytllcnlonkloabaa.orderSorts
open Go Lift Go.RowKit Go.Proofs Sh
set_option linter.unusedVariables false
theorem own : ownKnob Try.prog.godebug = none := by kernel_rfl
set_option maxRecDepth 100000 in
theorem law : ∀ css,OkArgs Try.prog Try.f7.params.toList css → Ze2 Try.prog 7 (argsOf Try.prog Try.f7.params.toList css) [.v (.one (.dat (.bool true)))] := by
  rw [show Try.f7.params.toList = [28] from by kernel_rfl]
  intro css h
  obtain ⟨cs0,css,rfl,⟨n0,ks0,k0,h0⟩,h⟩ := okArgs_cons h
  obtain rfl := okArgs_nil h
  obtain rfl : ks0 = [.sl 30] := Option.some.inj (k0.symm.trans (by kernel_rfl))
  obtain ⟨x0,rfl,w0⟩ := (fun (r:List C) h => inv_sl (ks := [.int .i64,.int .i64,.bool,.sl 65,.int .u64,.str,.sl 30]) (by kernel_rfl) (fun m _ => fun r h => inv_Tapi_Term _ r h) h) cs0 h0
  obtain ⟨N,hN⟩ := Pure.OrderSorts x0 w0
  exact FSpec_args (Z9v N x0 true hN) (by kernel_rfl)
set_option maxRecDepth 100000 in
theorem lifted (os:Os) (started:os.Started) (H:Type) (enc:TypeId × Value → H) :
    ReturnsInHanded {} Try.checked os 7 .any (Rows.orderSortsSpec.pre6 enc Try.prog Try.f7 Rows.orderSortsRow.domain false) (Rows.orderSortsSpec.post enc Try.prog Try.f7 false true false false) := by
  refine returnsInHanded_of_change_sized (C := Try.checked) own started (by kernel_rfl) Try.func7
    (ChangeSpec.witness6 (enc := enc) (C := Try.checked) false ⟨#[], #[.slice none 0 0],[]⟩ 8 (by kernel_rfl) (by kernel_rfl) (by kernel_rfl) (by kernel_rfl)) ?_
  intro W base args ds gs before hval hW hcnd hsz0 _
  exact law_calls (es := [30,65]) (P := Try.prog) (fn := Try.f7) (bt := 4) (by kernel_rfl) (by kernel_rfl) (by kernel_rfl) rfl (by kernel_rfl) (by kernel_rfl) (fun ds h => by match ds,h with | [d0],_ => rfl) law (fun css vs => Zcw _ css vs) hval hW
theorem over : Rows.orderSortsRow.holds Try.pinned (OpenSpec.ofChange Rows.orderSortsSpec) :=
  OpenClaim.holds_of_wide 7 Try.f7 rfl rfl rfl rfl rfl rfl rfl ⟨rfl,rfl,rfl,rfl,rfl⟩ rfl rfl rfl rfl rfl (by kernel_rfl) Try.func7 (by kernel_rfl)
    (of_decide_eq_true (by kernel_rfl)) (by unfold Func.isWrapper; first | (rw [if_pos (by decide +kernel)]; kernel_rfl) | (rw [if_neg (by decide +kernel)]; exact ⟨rfl,rfl⟩))
    (fun os started H enc _ => lifted os started H enc)
theorem proved : Rows.OrderSortsSaid := over
#print axioms proved
end Go.Proofs.Ytllcnlonkloabaa.orderSorts
namespace Go.Proofs.Ytllcnlonkloabaa
/-- The row,under a short name,for the claim. -/
theorem orderSorts_holds : Rows.OrderSortsSaid := orderSorts.proved
end Go.Proofs.Ytllcnlonkloabaa
