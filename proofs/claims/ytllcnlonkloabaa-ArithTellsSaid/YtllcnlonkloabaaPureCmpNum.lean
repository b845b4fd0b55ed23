import Derived.Test.YtllcnlonkloabaaPureWhole
import Derived.Test.YtllcnlonkloabaaPureReal
set_option linter.unusedVariables false
set_option linter.unusedSimpArgs false
namespace Go.Proofs.Ytllcnlonkloabaa.Sh
open Go Lift Go.Proofs
theorem rung_of:∀ (e k:Nat),k < 9007199254740992→∃ r,VV r=k * 2 ^ e
  | 0,k,h=>⟨k,by have:=VV_at (q:=0) (k:=k) (by omega) (.inl rfl); rw [Nat.zero_mul,Nat.zero_add] at this; exact this⟩
  | e+1,k,h=>by
    by_cases hk:k < 4503599627370496
    · obtain ⟨r,hr⟩:=rung_of e (2 * k) (by omega)
      exact ⟨r,by rw [hr,Nat.pow_succ]; rw [Nat.mul_comm 2 k,Nat.mul_assoc,Nat.mul_comm 2]⟩
    · exact ⟨(e+1) * 4503599627370496+k,VV_at (by omega) (.inr (by omega))⟩
def place (b:Nat):Int:=if nanW b then 9223372036854775808 else if sg b then -(rg b:Int) - 1 else (rg b:Int)
end Go.Proofs.Ytllcnlonkloabaa.Sh
