import Derived.Test.YtocgnoohfkpbhaaSh4
import Derived.Test.YtocgnoohfkpbhaaLift4
set_option linter.unusedVariables false
set_option linter.unusedSimpArgs false
set_option maxRecDepth 100000
namespace Go.Proofs.Ytocgnoohfkpbhaa.Sh
open Go Lift Go.Proofs
inductive Z8m:Z0f→Prop where
  | mk {x:Z0f} (hNeg:AnyB x.fNeg) (hMag:(ListR (InR .u32)) x.fMag):Z8m x
theorem Z8m.Mag {x:Z0f} (h:Z8m x):(ListR (InR .u32)) x.fMag:=by cases h; assumption
inductive Z0s:Z02→Prop where
  | mk {x:Z02} (hKind:(InR .i64) x.fKind) (hN:(InR .i64) x.fN) (hNum:Z8m x.fNum) (hBits:(InR .u64) x.fBits) (hBytes:StR x.fBytes) (lArgs:x.fArgs.length≤maxLen) (hArgs:∀ y ∈ x.fArgs,Z0s y):Z0s x
theorem Z0s.Kind {x:Z02} (h:Z0s x):(InR .i64) x.fKind:=by cases h; assumption
theorem Z0s.N {x:Z02} (h:Z0s x):(InR .i64) x.fN:=by cases h; assumption
theorem Z0s.Num {x:Z02} (h:Z0s x):Z8m x.fNum:=by cases h; assumption
theorem Z0s.Bits {x:Z02} (h:Z0s x):(InR .u64) x.fBits:=by cases h; assumption
theorem Z0s.Bytes {x:Z02} (h:Z0s x):StR x.fBytes:=by cases h; assumption
theorem Z0s.ArgsLen {x:Z02} (h:Z0s x):x.fArgs.length≤maxLen:=by cases h; assumption
theorem Z0s.Args {x:Z02} (h:Z0s x):∀ y ∈ x.fArgs,Z0s y:=by cases h; assumption
end Go.Proofs.Ytocgnoohfkpbhaa.Sh
