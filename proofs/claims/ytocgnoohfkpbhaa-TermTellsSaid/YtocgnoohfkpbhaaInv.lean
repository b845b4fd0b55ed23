import Derived.Test.YtocgnoohfkpbhaaSh3
import Derived.Test.YtocgnoohfkpbhaaLift3
set_option linter.unusedVariables false
set_option linter.unusedSimpArgs false
set_option maxRecDepth 100000
namespace Go.Proofs.Ytocgnoohfkpbhaa.Sh
open Go Lift Go.Proofs
inductive wTapi_Num : Tapi_Num → Prop where
  | mk {x : Tapi_Num} (hNeg : AnyB x.fNeg) (hMag : (ListR (InR .u32)) x.fMag) : wTapi_Num x
theorem wTapi_Num.Mag {x : Tapi_Num} (h : wTapi_Num x) : (ListR (InR .u32)) x.fMag := by cases h; assumption
inductive wTapi_Term : Tapi_Term → Prop where
  | mk {x : Tapi_Term} (hKind : (InR .i64) x.fKind) (hN : (InR .i64) x.fN) (hNum : wTapi_Num x.fNum) (hBits : (InR .u64) x.fBits) (hBytes : StR x.fBytes) (lArgs : x.fArgs.length ≤ maxLen) (hArgs : ∀ y ∈ x.fArgs, wTapi_Term y) : wTapi_Term x
theorem wTapi_Term.Kind {x : Tapi_Term} (h : wTapi_Term x) : (InR .i64) x.fKind := by cases h; assumption
theorem wTapi_Term.N {x : Tapi_Term} (h : wTapi_Term x) : (InR .i64) x.fN := by cases h; assumption
theorem wTapi_Term.Num {x : Tapi_Term} (h : wTapi_Term x) : wTapi_Num x.fNum := by cases h; assumption
theorem wTapi_Term.Bits {x : Tapi_Term} (h : wTapi_Term x) : (InR .u64) x.fBits := by cases h; assumption
theorem wTapi_Term.Bytes {x : Tapi_Term} (h : wTapi_Term x) : StR x.fBytes := by cases h; assumption
theorem wTapi_Term.ArgsLen {x : Tapi_Term} (h : wTapi_Term x) : x.fArgs.length ≤ maxLen := by cases h; assumption
theorem wTapi_Term.Args {x : Tapi_Term} (h : wTapi_Term x) : ∀ y ∈ x.fArgs, wTapi_Term y := by cases h; assumption
theorem inv_Tapi_Term : ∀ (n : Nat) (cs : List C), All2 (OkC Try.prog n) [.int .i64, .int .i64, .bool, .sl 39, .int .u64, .str, .sl 30] cs → ∃ x : Tapi_Term, rTapi_Term x = cs ∧ wTapi_Term x := by
  intro n
  induction n using Nat.strongRecOn with
  | _ n ih =>
  intro cs h
  obtain ⟨c0, cs, rfl, h0, h⟩ := all2_cons h
  obtain ⟨c1, cs, rfl, h1, h⟩ := all2_cons h
  obtain ⟨c2, cs, rfl, h2, h⟩ := all2_cons h
  obtain ⟨c3, cs, rfl, h3, h⟩ := all2_cons h
  obtain ⟨c4, cs, rfl, h4, h⟩ := all2_cons h
  obtain ⟨c5, cs, rfl, h5, h⟩ := all2_cons h
  obtain ⟨c6, cs, rfl, h6, h⟩ := all2_cons h
  obtain rfl := all2_nil h
  obtain ⟨x0, rfl, w0⟩ := ok_int h0
  obtain ⟨x1, rfl, w1⟩ := ok_int h1
  obtain ⟨x2, rfl, w2⟩ := ok_bool h2
  obtain ⟨x3, rfl, w3⟩ := ok_sl (ks := [.int .u32]) (by kernel_rfl) (fun m _ => fun r h => inv_int h) h3
  obtain ⟨x4, rfl, w4⟩ := ok_int h4
  obtain ⟨x5, rfl, w5⟩ := ok_str h5
  obtain ⟨x6, rfl, w6⟩ := ok_sl (ks := [.int .i64, .int .i64, .bool, .sl 39, .int .u64, .str, .sl 30]) (by kernel_rfl) (fun m hm => fun r h => ih m hm r h) h6
  exact ⟨Tapi_Term.mk x0 x1 (Tapi_Num.mk x2 x3) x4 x5 x6, rTapi_Term_eq _, wTapi_Term.mk w0 w1 (wTapi_Num.mk w2 w3) w4 w5 w6.len w6.all⟩
end Go.Proofs.Ytocgnoohfkpbhaa.Sh
