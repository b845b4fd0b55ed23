import Derived.Test.YtcknifhhgeccfaaRows
import Derived.Test.YtcknifhhgeccfaaInv
import Derived.Test.YtcknifhhgeccfaaPureCodeReads
import Derived.WalkKit
import Derived.ProofKit
import Derived.OpenShut
import Derived.ShutString
import Derived.ChangeOld
import Derived.Below
import Derived.SizedLaws
namespace Go.Proofs.Ytcknifhhgeccfaa.codeReads
open Go Lift Go.RowKit Go.Proofs Sh
set_option linter.unusedVariables false
theorem own : ownKnob Try.prog.godebug = none := by kernel_rfl
set_option maxRecDepth 100000 in
theorem law : ∀ css,OkArgs Try.prog Try.f4.params.toList css → Zf6 Try.prog 4 (argsOf Try.prog Try.f4.params.toList css) [.v (.one (.dat (.bool true)))] := by
  rw [show Try.f4.params.toList = [28] from by kernel_rfl]
  intro css h
  obtain ⟨cs0,css,rfl,⟨n0,ks0,k0,h0⟩,h⟩ := okArgs_cons h
  obtain rfl := okArgs_nil h
  obtain rfl : ks0 = [.sl 5] := Option.some.inj (k0.symm.trans (by kernel_rfl))
  obtain ⟨x0,rfl,w0⟩ := (fun (r:List C) h => inv_sl (ks := [.int .u8]) (by kernel_rfl) (fun m _ => fun r h => inv_int h) h) cs0 h0
  obtain ⟨N,hN⟩ := Pure.CodeReads x0 w0
  exact FSpec_args (Zbd N x0 true hN) (by kernel_rfl)
set_option maxRecDepth 100000 in
theorem lifted (os:Os) (started:os.Started) (H:Type) (enc:TypeId × Value → H) :
    ReturnsInHanded {} Try.checked os 4 .any (Rows.codeReadsSpec.pre6 enc Try.prog Try.f4 Rows.codeReadsRow.domain false) (Rows.codeReadsSpec.post enc Try.prog Try.f4 false true false false) := by
  refine returnsInHanded_of_change_sized (C := Try.checked) own started (by kernel_rfl) Try.func4
    (ChangeSpec.witness6 (enc := enc) (C := Try.checked) false ⟨#[], #[.slice none 0 0],[]⟩ 8 (by kernel_rfl) (by kernel_rfl) (by kernel_rfl) (by kernel_rfl)) ?_
  intro W base args ds gs before hval hW hcnd hsz0 _
  exact law_calls (es := [5]) (P := Try.prog) (fn := Try.f4) (bt := 4) (by kernel_rfl) (by kernel_rfl) (by kernel_rfl) rfl (by kernel_rfl) (by kernel_rfl) (fun ds h => by match ds,h with | [d0],_ => rfl) law (fun css vs => Ze6 _ css vs) hval hW
theorem over : Rows.codeReadsRow.holds Try.pinned (OpenSpec.ofChange Rows.codeReadsSpec) :=
  OpenClaim.holds_of_wide 4 Try.f4 rfl rfl rfl rfl rfl rfl rfl ⟨rfl,rfl,rfl,rfl,rfl⟩ rfl rfl rfl rfl rfl (by kernel_rfl) Try.func4 (by kernel_rfl)
    (of_decide_eq_true (by kernel_rfl)) (by unfold Func.isWrapper; first | (rw [if_pos (by decide +kernel)]; kernel_rfl) | (rw [if_neg (by decide +kernel)]; exact ⟨rfl,rfl⟩))
    (fun os started H enc _ => lifted os started H enc)
theorem proved : Rows.CodeReadsSaid := over
#print axioms proved
end Go.Proofs.Ytcknifhhgeccfaa.codeReads
namespace Go.Proofs.Ytcknifhhgeccfaa
/-- The row,under a short name,for the claim. -/
theorem codeReads_holds : Rows.CodeReadsSaid := codeReads.proved
end Go.Proofs.Ytcknifhhgeccfaa
