import Derived.Test.YtllcnlonkloabaaRows
import Derived.Test.YtllcnlonkloabaaInv
import Derived.Test.YtllcnlonkloabaaPureOrderTells
import Derived.WalkKit
import Derived.ProofKit
import Derived.OpenShut
import Derived.ShutString
import Derived.ChangeOld
import Derived.Below
import Derived.SizedLaws
namespace Go.Proofs.Ytllcnlonkloabaa.orderTells
open Go Lift Go.RowKit Go.Proofs Sh
set_option linter.unusedVariables false
theorem own : ownKnob Try.prog.godebug = none := by kernel_rfl
set_option maxRecDepth 100000 in
theorem law : ∀ css,OkArgs Try.prog Try.f6.params.toList css → Ziz Try.prog 6 (argsOf Try.prog Try.f6.params.toList css) [.v (.one (.dat (.bool true)))] := by
  rw [show Try.f6.params.toList = [30,30,28] from by kernel_rfl]
  intro css h
  obtain ⟨cs0,css,rfl,⟨n0,ks0,k0,h0⟩,h⟩ := Zhz h
  obtain ⟨cs1,css,rfl,⟨n1,ks1,k1,h1⟩,h⟩ := Zhz h
  obtain ⟨cs2,css,rfl,⟨n2,ks2,k2,h2⟩,h⟩ := Zhz h
  obtain rfl := okArgs_nil h
  obtain rfl : ks0 = [.int .i64,.int .i64,.bool,.sl 65,.int .u64,.str,.sl 30] := Option.some.inj (k0.symm.trans (by kernel_rfl))
  obtain ⟨x0,rfl,w0⟩ := Zdk n0 cs0 h0
  obtain rfl : ks1 = [.int .i64,.int .i64,.bool,.sl 65,.int .u64,.str,.sl 30] := Option.some.inj (k1.symm.trans (by kernel_rfl))
  obtain ⟨x1,rfl,w1⟩ := Zdk n1 cs1 h1
  obtain rfl : ks2 = [.sl 30] := Option.some.inj (k2.symm.trans (by kernel_rfl))
  obtain ⟨x2,rfl,w2⟩ := (fun (r:List C) h => inv_sl (ks := [.int .i64,.int .i64,.bool,.sl 65,.int .u64,.str,.sl 30]) (by kernel_rfl) (fun m _ => fun r h => Zdk _ r h) h) cs2 h2
  obtain ⟨N,hN⟩ := Pure.OrderTells x0 x1 x2 w0 w1 w2
  exact FSpec_args (Zbw N x0 x1 x2 true hN) (by rw [Z0b x0,Z0b x1]; kernel_rfl)
set_option maxRecDepth 100000 in
theorem lifted (os:Os) (started:os.Started) (H:Type) (enc:TypeId × Value → H) :
    ReturnsInHanded {} Try.checked os 6 .any (Rows.orderTellsSpec.pre6 enc Try.prog Try.f6 Rows.orderTellsRow.domain false) (Rows.orderTellsSpec.post enc Try.prog Try.f6 false true false false) := by
  refine returnsInHanded_of_change_sized (C := Try.checked) own started (by kernel_rfl) Try.func6
    (ChangeSpec.witness6 (enc := enc) (C := Try.checked) false ⟨#[], #[.agg #[.int .i64 0,.int .i64 0,.bool false,.slice none 0 0,.int .u64 0,.string (ByteArray.mk #[]),.slice none 0 0],.agg #[.int .i64 0,.int .i64 0,.bool false,.slice none 0 0,.int .u64 0,.string (ByteArray.mk #[]),.slice none 0 0],.slice none 0 0],[]⟩ 8 (by kernel_rfl) (by kernel_rfl) (by kernel_rfl) (by kernel_rfl)) ?_
  intro W base args ds gs before hval hW hcnd hsz0 _
  exact law_calls (es := [65,30]) (P := Try.prog) (fn := Try.f6) (bt := 4) (by kernel_rfl) (by kernel_rfl) (by kernel_rfl) rfl (by kernel_rfl) (by kernel_rfl) (fun ds h => by match ds,h with | [d0,d1,d2],_ => rfl) law (fun css vs => Zgv _ css vs) hval hW
theorem over : Rows.orderTellsRow.holds Try.pinned (OpenSpec.ofChange Rows.orderTellsSpec) :=
  OpenClaim.holds_of_wide 6 Try.f6 rfl rfl rfl rfl rfl rfl rfl ⟨rfl,rfl,rfl,rfl,rfl⟩ rfl rfl rfl rfl rfl (by kernel_rfl) Try.func6 (by kernel_rfl)
    (of_decide_eq_true (by kernel_rfl)) (by unfold Func.isWrapper; first | (rw [if_pos (by decide +kernel)]; kernel_rfl) | (rw [if_neg (by decide +kernel)]; exact ⟨rfl,rfl⟩))
    (fun os started H enc _ => lifted os started H enc)
theorem proved : Rows.OrderTellsSaid := over
#print axioms proved
end Go.Proofs.Ytllcnlonkloabaa.orderTells
namespace Go.Proofs.Ytllcnlonkloabaa
/-- The row,under a short name,for the claim. -/
theorem orderTells_holds : Rows.OrderTellsSaid := orderTells.proved
end Go.Proofs.Ytllcnlonkloabaa
