import Derived.Test.YtcknifhhgeccfaaRows
import Derived.Test.YtcknifhhgeccfaaInv
import Derived.Test.YtcknifhhgeccfaaPureCodeLays
import Derived.WalkKit
import Derived.ProofKit
import Derived.OpenShut
import Derived.ShutString
import Derived.ChangeOld
import Derived.Below
import Derived.SizedLaws
namespace Go.Proofs.Ytcknifhhgeccfaa.codeLays
open Go Lift Go.RowKit Go.Proofs Sh
set_option linter.unusedVariables false
theorem own : ownKnob Try.prog.godebug = none := by kernel_rfl
set_option maxRecDepth 100000 in
theorem law : ∀ css,OkArgs Try.prog Try.f3.params.toList css → FSpec Try.prog 3 (argsOf Try.prog Try.f3.params.toList css) [.v (.one (.dat (.bool true)))] := by
  rw [show Try.f3.params.toList = [25,25] from by kernel_rfl]
  intro css h
  obtain ⟨cs0,css,rfl,⟨n0,ks0,k0,h0⟩,h⟩ := okArgs_cons h
  obtain ⟨cs1,css,rfl,⟨n1,ks1,k1,h1⟩,h⟩ := okArgs_cons h
  obtain rfl := okArgs_nil h
  obtain rfl : ks0 = [.sl 55,.sl 52] := Option.some.inj (k0.symm.trans (by kernel_rfl))
  obtain ⟨x0,rfl,w0⟩ := Zcj n0 cs0 h0
  obtain rfl : ks1 = [.sl 55,.sl 52] := Option.some.inj (k1.symm.trans (by kernel_rfl))
  obtain ⟨x1,rfl,w1⟩ := Zcj n1 cs1 h1
  obtain ⟨N,hN⟩ := Pure.CodeLays x0 x1 w0 w1
  exact FSpec_args (Zba N x0 x1 true hN) (by rw [Za5 x0,Za5 x1]; kernel_rfl)
set_option maxRecDepth 100000 in
theorem lifted (os:Os) (started:os.Started) (H:Type) (enc:TypeId × Value → H) :
    ReturnsInHanded {} Try.checked os 3 .any (Rows.codeLaysSpec.pre6 enc Try.prog Try.f3 Rows.codeLaysRow.domain false) (Rows.codeLaysSpec.post enc Try.prog Try.f3 false true false false) := by
  refine returnsInHanded_of_change_sized (C := Try.checked) own started (by kernel_rfl) Try.func3
    (ChangeSpec.witness6 (enc := enc) (C := Try.checked) false ⟨#[], #[.agg #[.slice none 0 0,.slice none 0 0],.agg #[.slice none 0 0,.slice none 0 0]],[]⟩ 8 (by kernel_rfl) (by kernel_rfl) (by kernel_rfl) (by kernel_rfl)) ?_
  intro W base args ds gs before hval hW hcnd hsz0 _
  exact law_calls (es := [55,52,81]) (P := Try.prog) (fn := Try.f3) (bt := 4) (by kernel_rfl) (by kernel_rfl) (by kernel_rfl) rfl (by kernel_rfl) (by kernel_rfl) (fun ds h => by match ds,h with | [d0,d1],_ => rfl) law (fun css vs => Zdo _ css vs) hval hW
theorem over : Rows.codeLaysRow.holds Try.pinned (OpenSpec.ofChange Rows.codeLaysSpec) :=
  OpenClaim.holds_of_wide 3 Try.f3 rfl rfl rfl rfl rfl rfl rfl ⟨rfl,rfl,rfl,rfl,rfl⟩ rfl rfl rfl rfl rfl (by kernel_rfl) Try.func3 (by kernel_rfl)
    (of_decide_eq_true (by kernel_rfl)) (by unfold Func.isWrapper; first | (rw [if_pos (by decide +kernel)]; kernel_rfl) | (rw [if_neg (by decide +kernel)]; exact ⟨rfl,rfl⟩))
    (fun os started H enc _ => lifted os started H enc)
theorem proved : Rows.CodeLaysSaid := over
#print axioms proved
end Go.Proofs.Ytcknifhhgeccfaa.codeLays
namespace Go.Proofs.Ytcknifhhgeccfaa
/-- The row,under a short name,for the claim. -/
theorem codeLays_holds : Rows.CodeLaysSaid := codeLays.proved
end Go.Proofs.Ytcknifhhgeccfaa
