import Derived.Test.YtocgnoohfkpbhaaRows
import Derived.Test.YtocgnoohfkpbhaaInv
import Derived.Test.YtocgnoohfkpbhaaPureTermTells
import Derived.WalkKit
import Derived.ProofKit
import Derived.OpenShut
import Derived.ShutString
import Derived.ChangeOld
import Derived.Below
import Derived.SizedLaws
namespace Go.Proofs.Ytocgnoohfkpbhaa.termTells
open Go Lift Go.RowKit Go.Proofs Sh
set_option linter.unusedVariables false
theorem own : ownKnob Try.prog.godebug = none := by kernel_rfl
set_option maxRecDepth 100000 in
theorem law : ∀ css, OkArgs Try.prog Try.f5.params.toList css → FSpec Try.prog 5 (argsOf Try.prog Try.f5.params.toList css) [.v (.one (.dat (.bool true)))] := by
  rw [show Try.f5.params.toList = [30, 30] from by kernel_rfl]
  intro css h
  obtain ⟨cs0, css, rfl, ⟨n0, ks0, k0, h0⟩, h⟩ := okArgs_cons h
  obtain ⟨cs1, css, rfl, ⟨n1, ks1, k1, h1⟩, h⟩ := okArgs_cons h
  obtain rfl := okArgs_nil h
  obtain rfl : ks0 = [.int .i64, .int .i64, .bool, .sl 39, .int .u64, .str, .sl 30] := Option.some.inj (k0.symm.trans (by kernel_rfl))
  obtain ⟨x0, rfl, w0⟩ := inv_Tapi_Term n0 cs0 h0
  obtain rfl : ks1 = [.int .i64, .int .i64, .bool, .sl 39, .int .u64, .str, .sl 30] := Option.some.inj (k1.symm.trans (by kernel_rfl))
  obtain ⟨x1, rfl, w1⟩ := inv_Tapi_Term n1 cs1 h1
  obtain ⟨N, hN⟩ := Pure.TermTells x0 x1 w0 w1
  exact FSpec_args (beehivelaw4_TermTells_spec N x0 x1 true hN) (by rw [rTapi_Term_eq x0, rTapi_Term_eq x1]; kernel_rfl)
set_option maxRecDepth 100000 in
theorem lifted (os : Os) (started : os.Started) (H : Type) (enc : TypeId × Value → H) :
    ReturnsInHanded {} Try.checked os 5 .any (Rows.termTellsSpec.pre6 enc Try.prog Try.f5 Rows.termTellsRow.domain false) (Rows.termTellsSpec.post enc Try.prog Try.f5 false true false false) := by
  refine returnsInHanded_of_change_sized (C := Try.checked) own started (by kernel_rfl) Try.func5
    (ChangeSpec.witness6 (enc := enc) (C := Try.checked) false ⟨#[], #[.agg #[.int .i64 0, .int .i64 0, .bool false, .slice none 0 0, .int .u64 0, .string (ByteArray.mk #[]), .slice none 0 0], .agg #[.int .i64 0, .int .i64 0, .bool false, .slice none 0 0, .int .u64 0, .string (ByteArray.mk #[]), .slice none 0 0]], []⟩ 8 (by kernel_rfl) (by kernel_rfl) (by kernel_rfl) (by kernel_rfl)) ?_
  intro W base args ds gs before hval hW hcnd hsz0 _
  exact law_calls (es := [39, 30]) (P := Try.prog) (fn := Try.f5) (bt := 4) (by kernel_rfl) (by kernel_rfl) (by kernel_rfl) rfl (by kernel_rfl) (by kernel_rfl) (fun ds h => by match ds, h with | [d0, d1], _ => rfl) law (fun css vs => objPtrs_argsOf _ css vs) hval hW
theorem over : Rows.termTellsRow.holds Try.pinned (OpenSpec.ofChange Rows.termTellsSpec) :=
  OpenClaim.holds_of_wide 5 Try.f5 rfl rfl rfl rfl rfl rfl rfl ⟨rfl, rfl, rfl, rfl, rfl⟩ rfl rfl rfl rfl rfl (by kernel_rfl) Try.func5 (by kernel_rfl)
    (of_decide_eq_true (by kernel_rfl)) (by unfold Func.isWrapper; first | (rw [if_pos (by decide +kernel)]; kernel_rfl) | (rw [if_neg (by decide +kernel)]; exact ⟨rfl, rfl⟩))
    (fun os started H enc _ => lifted os started H enc)
theorem proved : Rows.TermTellsSaid := over
#print axioms proved
end Go.Proofs.Ytocgnoohfkpbhaa.termTells
namespace Go.Proofs.Ytocgnoohfkpbhaa
/-- The row, under a short name, for the claim. -/
theorem termTells_holds : Rows.TermTellsSaid := termTells.proved
end Go.Proofs.Ytocgnoohfkpbhaa
