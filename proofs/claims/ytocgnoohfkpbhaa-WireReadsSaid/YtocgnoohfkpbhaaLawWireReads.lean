import Derived.Test.YtocgnoohfkpbhaaRows
import Derived.Test.YtocgnoohfkpbhaaInv
import Derived.Test.YtocgnoohfkpbhaaPureWireReads
import Derived.WalkKit
import Derived.ProofKit
import Derived.OpenShut
import Derived.ShutString
import Derived.ChangeOld
import Derived.Below
import Derived.SizedLaws
namespace Go.Proofs.Ytocgnoohfkpbhaa.wireReads
open Go Lift Go.RowKit Go.Proofs Sh
set_option linter.unusedVariables false
theorem own : ownKnob Try.prog.godebug = none := by kernel_rfl
set_option maxRecDepth 100000 in
theorem law : ∀ css,OkArgs Try.prog Try.f8.params.toList css → FSpec Try.prog 8 (argsOf Try.prog Try.f8.params.toList css) [.v (.one (.dat (.bool true)))] := by
  rw [show Try.f8.params.toList = [51,3] from by kernel_rfl]
  intro css h
  obtain ⟨cs0,css,rfl,⟨n0,ks0,k0,h0⟩,h⟩ := okArgs_cons h
  obtain ⟨cs1,css,rfl,⟨n1,ks1,k1,h1⟩,h⟩ := okArgs_cons h
  obtain rfl := okArgs_nil h
  obtain rfl : ks0 = [.sl 5] := Option.some.inj (k0.symm.trans (by kernel_rfl))
  obtain ⟨x0,rfl,w0⟩ := (fun (r:List C) h => inv_sl (ks := [.int .u8]) (by kernel_rfl) (fun m _ => fun r h => inv_int h) h) cs0 h0
  obtain rfl : ks1 = [.int .i64] := Option.some.inj (k1.symm.trans (by kernel_rfl))
  obtain ⟨x1,rfl,w1⟩ := (fun (r:List C) h => inv_int h) cs1 h1
  obtain ⟨N,hN⟩ := Pure.WireReads x0 x1 w0 w1
  exact FSpec_args (Z8t N x0 x1 true hN) (by kernel_rfl)
set_option maxRecDepth 100000 in
theorem lifted (os:Os) (started:os.Started) (H:Type) (enc:TypeId × Value → H) :
    ReturnsInHanded {} Try.checked os 8 .any (Rows.wireReadsSpec.pre6 enc Try.prog Try.f8 Rows.wireReadsRow.domain false) (Rows.wireReadsSpec.post enc Try.prog Try.f8 false true false false) := by
  refine returnsInHanded_of_change_sized (C := Try.checked) own started (by kernel_rfl) Try.func8
    (ChangeSpec.witness6 (enc := enc) (C := Try.checked) false ⟨#[], #[.slice none 0 0,.int .i64 0],[]⟩ 8 (by kernel_rfl) (by kernel_rfl) (by kernel_rfl) (by kernel_rfl)) ?_
  intro W base args ds gs before hval hW hcnd hsz0 _
  exact law_calls (es := [5]) (P := Try.prog) (fn := Try.f8) (bt := 4) (by kernel_rfl) (by kernel_rfl) (by kernel_rfl) rfl (by kernel_rfl) (by kernel_rfl) (fun ds h => by match ds,h with | [d0,d1],_ => rfl) law (fun css vs => Zb6 _ css vs) hval hW
theorem over : Rows.wireReadsRow.holds Try.pinned (OpenSpec.ofChange Rows.wireReadsSpec) :=
  OpenClaim.holds_of_wide 8 Try.f8 rfl rfl rfl rfl rfl rfl rfl ⟨rfl,rfl,rfl,rfl,rfl⟩ rfl rfl rfl rfl rfl (by kernel_rfl) Try.func8 (by kernel_rfl)
    (of_decide_eq_true (by kernel_rfl)) (by unfold Func.isWrapper; first | (rw [if_pos (by decide +kernel)]; kernel_rfl) | (rw [if_neg (by decide +kernel)]; exact ⟨rfl,rfl⟩))
    (fun os started H enc _ => lifted os started H enc)
theorem proved : Rows.WireReadsSaid := over
#print axioms proved
end Go.Proofs.Ytocgnoohfkpbhaa.wireReads
namespace Go.Proofs.Ytocgnoohfkpbhaa
/-- The row,under a short name,for the claim. -/
theorem wireReads_holds : Rows.WireReadsSaid := wireReads.proved
end Go.Proofs.Ytocgnoohfkpbhaa
