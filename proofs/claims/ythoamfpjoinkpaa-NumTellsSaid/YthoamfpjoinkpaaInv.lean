import Derived.Test.YthoamfpjoinkpaaSh3
import Derived.Test.YthoamfpjoinkpaaLift4
set_option linter.unusedVariables false
set_option linter.unusedSimpArgs false
set_option maxRecDepth 100000
namespace Go.Proofs.Ythoamfpjoinkpaa.Sh
open Go Lift Go.Proofs
inductive wTapi_Num : Tapi_Num → Prop where
  | mk {x : Tapi_Num} (hNeg : AnyB x.fNeg) (hMag : (ListR (InR .u32)) x.fMag) : wTapi_Num x
theorem wTapi_Num.Mag {x : Tapi_Num} (h : wTapi_Num x) : (ListR (InR .u32)) x.fMag := by cases h; assumption
theorem inv_Tapi_Num : ∀ (n : Nat) (cs : List C), All2 (OkC Try.prog n) [.bool, .sl 42] cs → ∃ x : Tapi_Num, rTapi_Num x = cs ∧ wTapi_Num x := by
  intro n
  induction n using Nat.strongRecOn with
  | _ n ih =>
  intro cs h
  obtain ⟨c0, cs, rfl, h0, h⟩ := all2_cons h
  obtain ⟨c1, cs, rfl, h1, h⟩ := all2_cons h
  obtain rfl := all2_nil h
  obtain ⟨x0, rfl, w0⟩ := ok_bool h0
  obtain ⟨x1, rfl, w1⟩ := ok_sl (ks := [.int .u32]) (by kernel_rfl) (fun m _ => fun r h => inv_int h) h1
  exact ⟨Tapi_Num.mk x0 x1, rTapi_Num_eq _, wTapi_Num.mk w0 w1⟩
end Go.Proofs.Ythoamfpjoinkpaa.Sh
