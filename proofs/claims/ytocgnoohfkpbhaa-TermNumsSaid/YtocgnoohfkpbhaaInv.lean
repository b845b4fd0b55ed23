import Derived.Test.YtocgnoohfkpbhaaSh3
import Derived.Test.YtocgnoohfkpbhaaLift3
set_option linter.unusedVariables false
set_option linter.unusedSimpArgs false
set_option maxRecDepth 100000
namespace Go.Proofs.Ytocgnoohfkpbhaa.Sh
open Go Lift Go.Proofs
inductive wTapi_Num : Tapi_Num → Prop where
  | mk {x : Tapi_Num} (hNeg : AnyB x.fNeg) (hMag : (ListR (InR .u32)) x.fMag) : wTapi_Num x
theorem wTapi_Num.Mag {x : Tapi_Num} (h : wTapi_Num x) : (ListR (InR .u32)) x.fMag := by cases h; assumption
theorem inv_Tapi_Num : ∀ (n : Nat) (cs : List C), All2 (OkC Try.prog n) [.bool, .sl 39] cs → ∃ x : Tapi_Num, rTapi_Num x = cs ∧ wTapi_Num x := by
  intro n
  induction n using Nat.strongRecOn with
  | _ n ih =>
  intro cs h
  obtain ⟨c0, cs, rfl, h0, h⟩ := all2_cons h
  obtain ⟨c1, cs, rfl, h1, h⟩ := all2_cons h
  obtain rfl := all2_nil h
  obtain ⟨x0, rfl, w0⟩ := ok_bool h0
  obtain ⟨x1, rfl, w1⟩ := ok_sl (ks := [.int .u32]) (by kernel_rfl) (fun m _ => fun r h => inv_int h) h1
  exact ⟨Tapi_Num.mk x0 x1, rTapi_Num_eq _, wTapi_Num.mk w0 w1⟩
inductive wTapi_Term : Tapi_Term → Prop where
  | mk {x : Tapi_Term} (hKind : (InR .i64) x.fKind) (hN : (InR .i64) x.fN) (hNum : wTapi_Num x.fNum) (hBits : (InR .u64) x.fBits) (hBytes : StR x.fBytes) (lArgs : x.fArgs.length ≤ maxLen) (hArgs : ∀ y ∈ x.fArgs, wTapi_Term y) : wTapi_Term x
theorem wTapi_Term.Kind {x : Tapi_Term} (h : wTapi_Term x) : (InR .i64) x.fKind := by cases h; assumption
theorem wTapi_Term.N {x : Tapi_Term} (h : wTapi_Term x) : (InR .i64) x.fN := by cases h; assumption
theorem wTapi_Term.Num {x : Tapi_Term} (h : wTapi_Term x) : wTapi_Num x.fNum := by cases h; assumption
theorem wTapi_Term.Bits {x : Tapi_Term} (h : wTapi_Term x) : (InR .u64) x.fBits := by cases h; assumption
theorem wTapi_Term.Bytes {x : Tapi_Term} (h : wTapi_Term x) : StR x.fBytes := by cases h; assumption
theorem wTapi_Term.ArgsLen {x : Tapi_Term} (h : wTapi_Term x) : x.fArgs.length ≤ maxLen := by cases h; assumption
theorem wTapi_Term.Args {x : Tapi_Term} (h : wTapi_Term x) : ∀ y ∈ x.fArgs, wTapi_Term y := by cases h; assumption
end Go.Proofs.Ytocgnoohfkpbhaa.Sh
