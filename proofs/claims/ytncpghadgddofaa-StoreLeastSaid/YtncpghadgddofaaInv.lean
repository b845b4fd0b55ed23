import Derived.Test.YtncpghadgddofaaSh3
import Derived.Test.YtncpghadgddofaaLift3
set_option linter.unusedVariables false
set_option linter.unusedSimpArgs false
set_option maxRecDepth 100000
namespace Go.Proofs.Ytncpghadgddofaa.Sh
open Go Lift Go.Proofs
inductive wTlaw10_Act : Tlaw10_Act → Prop where
  | mk {x : Tlaw10_Act} (hDo : (InR .i64) x.fDo) (hSlot : (InR .i64) x.fSlot) (hStamp : (InR .i64) x.fStamp) (hBytes : StR x.fBytes) : wTlaw10_Act x
theorem wTlaw10_Act.Do {x : Tlaw10_Act} (h : wTlaw10_Act x) : (InR .i64) x.fDo := by cases h; assumption
theorem wTlaw10_Act.Slot {x : Tlaw10_Act} (h : wTlaw10_Act x) : (InR .i64) x.fSlot := by cases h; assumption
theorem wTlaw10_Act.Stamp {x : Tlaw10_Act} (h : wTlaw10_Act x) : (InR .i64) x.fStamp := by cases h; assumption
theorem wTlaw10_Act.Bytes {x : Tlaw10_Act} (h : wTlaw10_Act x) : StR x.fBytes := by cases h; assumption
theorem inv_Tlaw10_Act : ∀ (n : Nat) (cs : List C), All2 (OkC Try.prog n) [.int .i64, .int .i64, .int .i64, .str] cs → ∃ x : Tlaw10_Act, rTlaw10_Act x = cs ∧ wTlaw10_Act x := by
  intro n
  induction n using Nat.strongRecOn with
  | _ n ih =>
  intro cs h
  obtain ⟨c0, cs, rfl, h0, h⟩ := all2_cons h
  obtain ⟨c1, cs, rfl, h1, h⟩ := all2_cons h
  obtain ⟨c2, cs, rfl, h2, h⟩ := all2_cons h
  obtain ⟨c3, cs, rfl, h3, h⟩ := all2_cons h
  obtain rfl := all2_nil h
  obtain ⟨x0, rfl, w0⟩ := ok_int h0
  obtain ⟨x1, rfl, w1⟩ := ok_int h1
  obtain ⟨x2, rfl, w2⟩ := ok_int h2
  obtain ⟨x3, rfl, w3⟩ := ok_str h3
  exact ⟨Tlaw10_Act.mk x0 x1 x2 x3, rTlaw10_Act_eq _, wTlaw10_Act.mk w0 w1 w2 w3⟩
end Go.Proofs.Ytncpghadgddofaa.Sh
