import Derived.Test.YtocgnoohfkpbhaaInv
import Derived.Test.YtocgnoohfkpbhaaLift3
set_option linter.unusedVariables false
namespace Go.Proofs.Ytocgnoohfkpbhaa.Sh
open Go Lift Go.Proofs

/-- What a term that is not too great holds. -/
inductive Small : Tapi_Term → Prop
  | mk {x : Tapi_Term} (h1 : x.fNum.fMag.length ≤ 40) (h2 : x.fBytes.size ≤ 3000) (h3 : x.fArgs.length ≤ maxLen) (h4 : ∀ y ∈ x.fArgs, Small y) : Small x
theorem Small.mag {x : Tapi_Term} (h : Small x) : x.fNum.fMag.length ≤ 40 := by cases h; assumption
theorem Small.bytes {x : Tapi_Term} (h : Small x) : x.fBytes.size ≤ 3000 := by cases h; assumption
theorem Small.len {x : Tapi_Term} (h : Small x) : x.fArgs.length ≤ maxLen := by cases h; assumption
theorem Small.args {x : Tapi_Term} (h : Small x) : ∀ y ∈ x.fArgs, Small y := by cases h; assumption

mutual
/-- How many parts. -/
def cnt : Tapi_Term → Nat
  | ⟨_, _, _, _, _, args⟩ => 1 + cnts args
def cnts : List Tapi_Term → Nat
  | [] => 0
  | x :: xs => cnt x + cnts xs
end
theorem cnt_eq (x : Tapi_Term) : cnt x = 1 + cnts x.fArgs := by cases x; rw [cnt]

end Go.Proofs.Ytocgnoohfkpbhaa.Sh
