import Derived.Test.YtcknifhhgeccfaaInv
import Derived.Test.YtcknifhhgeccfaaLift3
set_option linter.unusedVariables false
namespace Go.Proofs.Ytcknifhhgeccfaa.Sh
open Go Lift Go.Proofs

inductive Small:Z02→Prop
  | mk {x:Z02} (h1:x.fNum.fMag.length≤300) (h2:x.fBytes.size≤5000) (h3:x.fArgs.length≤maxLen) (h4:∀ y ∈ x.fArgs,Small y):Small x
theorem Small.mag {x:Z02} (h:Small x):x.fNum.fMag.length≤300:=by cases h; assumption
theorem Small.bytes {x:Z02} (h:Small x):x.fBytes.size≤5000:=by cases h; assumption
theorem Small.len {x:Z02} (h:Small x):x.fArgs.length≤maxLen:=by cases h; assumption
theorem Small.args {x:Z02} (h:Small x):∀ y ∈ x.fArgs,Small y:=by cases h; assumption

mutual
def cnt:Z02→Nat
  | ⟨_,_,_,_,_,args⟩=>1+cnts args
def cnts:List Z02→Nat
  | []=>0
  | x::xs=>cnt x+cnts xs
end
theorem cnt_eq (x:Z02):cnt x=1+cnts x.fArgs:=by cases x; rw [cnt]

end Go.Proofs.Ytcknifhhgeccfaa.Sh
