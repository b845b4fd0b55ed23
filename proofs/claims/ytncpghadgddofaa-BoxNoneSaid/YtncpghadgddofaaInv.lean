import Derived.Test.YtncpghadgddofaaSh3
import Derived.Test.YtncpghadgddofaaLift3
set_option linter.unusedVariables false
set_option maxRecDepth 100000
namespace Go.Proofs.Ytncpghadgddofaa.Sh
open Go Lift Go.Proofs
inductive wTlaw15_Act : Tlaw15_Act → Prop where
  | mk {x : Tlaw15_Act} (hDo : (InR .i64) x.fDo) (hN : (InR .i64) x.fN) : wTlaw15_Act x
theorem wTlaw15_Act.Do {x : Tlaw15_Act} (h : wTlaw15_Act x) : (InR .i64) x.fDo := by cases h; assumption
theorem wTlaw15_Act.N {x : Tlaw15_Act} (h : wTlaw15_Act x) : (InR .i64) x.fN := by cases h; assumption
theorem inv_Tlaw15_Act : ∀ (n : Nat) (cs : List C), All2 (OkC Try.prog n) [.int .i64, .int .i64] cs → ∃ x : Tlaw15_Act, rTlaw15_Act x = cs ∧ wTlaw15_Act x := by
  intro n
  induction n using Nat.strongRecOn with
  | _ n ih =>
  intro cs h
  obtain ⟨c0, cs, rfl, h0, h⟩ := all2_cons h
  obtain ⟨c1, cs, rfl, h1, h⟩ := all2_cons h
  obtain rfl := all2_nil h
  obtain ⟨x0, rfl, w0⟩ := ok_int h0
  obtain ⟨x1, rfl, w1⟩ := ok_int h1
  exact ⟨Tlaw15_Act.mk x0 x1, rTlaw15_Act_eq _, wTlaw15_Act.mk w0 w1⟩
end Go.Proofs.Ytncpghadgddofaa.Sh
