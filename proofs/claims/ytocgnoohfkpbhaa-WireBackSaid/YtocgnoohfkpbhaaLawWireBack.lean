import Derived.Test.YtocgnoohfkpbhaaRows
import Derived.Test.YtocgnoohfkpbhaaInv
import Derived.Test.YtocgnoohfkpbhaaPureWireBack
import Derived.WalkKit
import Derived.ProofKit
import Derived.OpenShut
import Derived.ShutString
import Derived.ChangeOld
import Derived.Below
import Derived.SizedLaws
namespace Go.Proofs.Ytocgnoohfkpbhaa.wireBack
open Go Lift Go.RowKit Go.Proofs Sh
set_option linter.unusedVariables false
theorem own : ownKnob Try.prog.godebug = none := by kernel_rfl
set_option maxRecDepth 100000 in
theorem law : ∀ css, OkArgs Try.prog Try.f9.params.toList css → FSpec Try.prog 9 (argsOf Try.prog Try.f9.params.toList css) [.v (.one (.dat (.bool true)))] := by
  rw [show Try.f9.params.toList = [30, 51, 51, 3] from by kernel_rfl]
  intro css h
  obtain ⟨cs0, css, rfl, ⟨n0, ks0, k0, h0⟩, h⟩ := okArgs_cons h
  obtain ⟨cs1, css, rfl, ⟨n1, ks1, k1, h1⟩, h⟩ := okArgs_cons h
  obtain ⟨cs2, css, rfl, ⟨n2, ks2, k2, h2⟩, h⟩ := okArgs_cons h
  obtain ⟨cs3, css, rfl, ⟨n3, ks3, k3, h3⟩, h⟩ := okArgs_cons h
  obtain rfl := okArgs_nil h
  obtain rfl : ks0 = [.int .i64, .int .i64, .bool, .sl 39, .int .u64, .str, .sl 30] := Option.some.inj (k0.symm.trans (by kernel_rfl))
  obtain ⟨x0, rfl, w0⟩ := inv_Tapi_Term n0 cs0 h0
  obtain rfl : ks1 = [.sl 5] := Option.some.inj (k1.symm.trans (by kernel_rfl))
  obtain ⟨x1, rfl, w1⟩ := (fun (r : List C) h => inv_sl (ks := [.int .u8]) (by kernel_rfl) (fun m _ => fun r h => inv_int h) h) cs1 h1
  obtain rfl : ks2 = [.sl 5] := Option.some.inj (k2.symm.trans (by kernel_rfl))
  obtain ⟨x2, rfl, w2⟩ := (fun (r : List C) h => inv_sl (ks := [.int .u8]) (by kernel_rfl) (fun m _ => fun r h => inv_int h) h) cs2 h2
  obtain rfl : ks3 = [.int .i64] := Option.some.inj (k3.symm.trans (by kernel_rfl))
  obtain ⟨x3, rfl, w3⟩ := (fun (r : List C) h => inv_int h) cs3 h3
  obtain ⟨N, hN⟩ := Pure.WireBack x0 x1 x2 x3 w0 w1 w2 w3
  exact FSpec_args (beehivelaw7_WireBack_spec N x0 x1 x2 x3 true hN) (by rw [rTapi_Term_eq x0]; kernel_rfl)
set_option maxRecDepth 100000 in
theorem lifted (os : Os) (started : os.Started) (H : Type) (enc : TypeId × Value → H) :
    ReturnsInHanded {} Try.checked os 9 .any (Rows.wireBackSpec.pre6 enc Try.prog Try.f9 Rows.wireBackRow.domain false) (Rows.wireBackSpec.post enc Try.prog Try.f9 false true false false) := by
  refine returnsInHanded_of_change_sized (C := Try.checked) own started (by kernel_rfl) Try.func9
    (ChangeSpec.witness6 (enc := enc) (C := Try.checked) false ⟨#[], #[.agg #[.int .i64 0, .int .i64 0, .bool false, .slice none 0 0, .int .u64 0, .string (ByteArray.mk #[]), .slice none 0 0], .slice none 0 0, .slice none 0 0, .int .i64 0], []⟩ 8 (by kernel_rfl) (by kernel_rfl) (by kernel_rfl) (by kernel_rfl)) ?_
  intro W base args ds gs before hval hW hcnd hsz0 _
  exact law_calls (es := [39, 30, 5]) (P := Try.prog) (fn := Try.f9) (bt := 4) (by kernel_rfl) (by kernel_rfl) (by kernel_rfl) rfl (by kernel_rfl) (by kernel_rfl) (fun ds h => by match ds, h with | [d0, d1, d2, d3], _ => rfl) law (fun css vs => objPtrs_argsOf _ css vs) hval hW
theorem over : Rows.wireBackRow.holds Try.pinned (OpenSpec.ofChange Rows.wireBackSpec) :=
  OpenClaim.holds_of_wide 9 Try.f9 rfl rfl rfl rfl rfl rfl rfl ⟨rfl, rfl, rfl, rfl, rfl⟩ rfl rfl rfl rfl rfl (by kernel_rfl) Try.func9 (by kernel_rfl)
    (of_decide_eq_true (by kernel_rfl)) (by unfold Func.isWrapper; first | (rw [if_pos (by decide +kernel)]; kernel_rfl) | (rw [if_neg (by decide +kernel)]; exact ⟨rfl, rfl⟩))
    (fun os started H enc _ => lifted os started H enc)
theorem proved : Rows.WireBackSaid := over
#print axioms proved
end Go.Proofs.Ytocgnoohfkpbhaa.wireBack
namespace Go.Proofs.Ytocgnoohfkpbhaa
/-- The row, under a short name, for the claim. -/
theorem wireBack_holds : Rows.WireBackSaid := wireBack.proved
end Go.Proofs.Ytocgnoohfkpbhaa
