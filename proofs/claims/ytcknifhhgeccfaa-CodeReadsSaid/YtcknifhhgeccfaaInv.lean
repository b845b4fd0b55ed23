import Derived.Test.YtcknifhhgeccfaaSh5
import Derived.Test.YtcknifhhgeccfaaLift3
set_option linter.unusedVariables false
set_option linter.unusedSimpArgs false
set_option maxRecDepth 100000
namespace Go.Proofs.Ytcknifhhgeccfaa.Sh
open Go Lift Go.Proofs
inductive Zbm:Z0m→Prop where
  | mk {x:Z0m} (hNeg:AnyB x.fNeg) (hMag:(ListR (InR .u32)) x.fMag):Zbm x
theorem Zbm.Mag {x:Z0m} (h:Zbm x):(ListR (InR .u32)) x.fMag:=by cases h; assumption
inductive Z0t:Z02→Prop where
  | mk {x:Z02} (hKind:(InR .i64) x.fKind) (hN:(InR .i64) x.fN) (hNum:Zbm x.fNum) (hBits:(InR .u64) x.fBits) (hBytes:StR x.fBytes) (lArgs:x.fArgs.length≤maxLen) (hArgs:∀ y ∈ x.fArgs,Z0t y):Z0t x
theorem Z0t.Kind {x:Z02} (h:Z0t x):(InR .i64) x.fKind:=by cases h; assumption
theorem Z0t.N {x:Z02} (h:Z0t x):(InR .i64) x.fN:=by cases h; assumption
theorem Z0t.Num {x:Z02} (h:Z0t x):Zbm x.fNum:=by cases h; assumption
theorem Z0t.Bits {x:Z02} (h:Z0t x):(InR .u64) x.fBits:=by cases h; assumption
theorem Z0t.Bytes {x:Z02} (h:Z0t x):StR x.fBytes:=by cases h; assumption
theorem Z0t.ArgsLen {x:Z02} (h:Z0t x):x.fArgs.length≤maxLen:=by cases h; assumption
theorem Z0t.Args {x:Z02} (h:Z0t x):∀ y ∈ x.fArgs,Z0t y:=by cases h; assumption
end Go.Proofs.Ytcknifhhgeccfaa.Sh
