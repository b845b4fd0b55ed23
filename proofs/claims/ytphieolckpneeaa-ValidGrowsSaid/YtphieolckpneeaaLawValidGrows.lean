import Derived.Test.YtphieolckpneeaaRows
import Derived.Test.YtphieolckpneeaaInv
import Derived.Test.YtphieolckpneeaaPureValidGrows
import Derived.WalkKit
import Derived.ProofKit
import Derived.OpenShut
import Derived.ShutString
import Derived.ChangeOld
import Derived.Below
import Derived.SizedLaws
namespace Go.Proofs.Ytphieolckpneeaa.validGrows
open Go Lift Go.RowKit Go.Proofs Sh
set_option linter.unusedVariables false
theorem own : ownKnob Try.prog.godebug = none := by kernel_rfl
set_option maxRecDepth 100000 in
theorem law : ∀ css,OkArgs Try.prog Try.f6.params.toList css → FSpec Try.prog 6 (argsOf Try.prog Try.f6.params.toList css) [.v (.one (.dat (.bool true)))] := by
  rw [show Try.f6.params.toList = [29,3,3] from by kernel_rfl]
  intro css h
  obtain ⟨cs0,css,rfl,⟨n0,ks0,k0,h0⟩,h⟩ := okArgs_cons h
  obtain ⟨cs1,css,rfl,⟨n1,ks1,k1,h1⟩,h⟩ := okArgs_cons h
  obtain ⟨cs2,css,rfl,⟨n2,ks2,k2,h2⟩,h⟩ := okArgs_cons h
  obtain rfl := okArgs_nil h
  obtain rfl : ks0 = [.sl 25,.sl 43] := Option.some.inj (k0.symm.trans (by kernel_rfl))
  obtain ⟨x0,rfl,w0⟩ := inv_Tapi_Program n0 cs0 h0
  obtain rfl : ks1 = [.int .i64] := Option.some.inj (k1.symm.trans (by kernel_rfl))
  obtain ⟨x1,rfl,w1⟩ := (fun (r:List C) h => inv_int h) cs1 h1
  obtain rfl : ks2 = [.int .i64] := Option.some.inj (k2.symm.trans (by kernel_rfl))
  obtain ⟨x2,rfl,w2⟩ := (fun (r:List C) h => inv_int h) cs2 h2
  obtain ⟨N,hN⟩ := Pure.ValidGrows x0 x1 x2 w0 w1 w2
  exact FSpec_args (beehivelaw18_ValidGrows_spec N x0 x1 x2 true hN) (by rw [rTapi_Program_eq x0]; kernel_rfl)
set_option maxRecDepth 100000 in
theorem lifted (os:Os) (started:os.Started) (H:Type) (enc:TypeId × Value → H) :
    ReturnsInHanded {} Try.checked os 6 .any (Rows.validGrowsSpec.pre6 enc Try.prog Try.f6 Rows.validGrowsRow.domain false) (Rows.validGrowsSpec.post enc Try.prog Try.f6 false true false false) := by
  refine returnsInHanded_of_change_sized (C := Try.checked) own started (by kernel_rfl) Try.func6
    (ChangeSpec.witness6 (enc := enc) (C := Try.checked) false ⟨#[], #[.agg #[.slice none 0 0,.slice none 0 0],.int .i64 0,.int .i64 0],[]⟩ 8 (by kernel_rfl) (by kernel_rfl) (by kernel_rfl) (by kernel_rfl)) ?_
  intro W base args ds gs before hval hW hcnd hsz0 _
  exact law_calls (es := [25,43,61]) (P := Try.prog) (fn := Try.f6) (bt := 4) (by kernel_rfl) (by kernel_rfl) (by kernel_rfl) rfl (by kernel_rfl) (by kernel_rfl) (fun ds h => by match ds,h with | [d0,d1,d2],_ => rfl) law (fun css vs => objPtrs_argsOf _ css vs) hval hW
theorem over : Rows.validGrowsRow.holds Try.pinned (OpenSpec.ofChange Rows.validGrowsSpec) :=
  OpenClaim.holds_of_wide 6 Try.f6 rfl rfl rfl rfl rfl rfl rfl ⟨rfl,rfl,rfl,rfl,rfl⟩ rfl rfl rfl rfl rfl (by kernel_rfl) Try.func6 (by kernel_rfl)
    (of_decide_eq_true (by kernel_rfl)) (by unfold Func.isWrapper; first | (rw [if_pos (by decide +kernel)]; kernel_rfl) | (rw [if_neg (by decide +kernel)]; exact ⟨rfl,rfl⟩))
    (fun os started H enc _ => lifted os started H enc)
theorem proved : Rows.ValidGrowsSaid := over
#print axioms proved
end Go.Proofs.Ytphieolckpneeaa.validGrows
namespace Go.Proofs.Ytphieolckpneeaa
/-- The row,under a short name,for the claim. -/
theorem validGrows_holds : Rows.ValidGrowsSaid := validGrows.proved
end Go.Proofs.Ytphieolckpneeaa
