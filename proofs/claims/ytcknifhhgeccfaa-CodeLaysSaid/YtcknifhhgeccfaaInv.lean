import Derived.Test.YtcknifhhgeccfaaSh5
import Derived.Test.YtcknifhhgeccfaaLift3
set_option linter.unusedVariables false
set_option linter.unusedSimpArgs false
set_option maxRecDepth 100000
namespace Go.Proofs.Ytcknifhhgeccfaa.Sh
open Go Lift Go.Proofs
inductive Z84:Z0k→Prop where
  | mk {x:Z0k} (hK:(InR .i64) x.fK) (hA:(InR .i64) x.fA) (hB:(InR .i64) x.fB) (hC:(InR .i64) x.fC):Z84 x
theorem Z84.K {x:Z0k} (h:Z84 x):(InR .i64) x.fK:=by cases h; assumption
theorem Z84.A {x:Z0k} (h:Z84 x):(InR .i64) x.fA:=by cases h; assumption
theorem Z84.B {x:Z0k} (h:Z84 x):(InR .i64) x.fB:=by cases h; assumption
theorem Z84.C {x:Z0k} (h:Z84 x):(InR .i64) x.fC:=by cases h; assumption
theorem inv_Tapi_Op:∀ (n:Nat) (cs:List C),All2 (OkC Try.prog n) [.int .i64,.int .i64,.int .i64,.int .i64] cs→∃ x:Z0k,Z06 x=cs∧Z84 x:=by
  intro n
  induction n using Nat.strongRecOn with
  | _ n ih =>
  intro cs h
  obtain ⟨c0,cs,rfl,h0,h⟩:=Z6m h
  obtain ⟨c1,cs,rfl,h1,h⟩:=Z6m h
  obtain ⟨c2,cs,rfl,h2,h⟩:=Z6m h
  obtain ⟨c3,cs,rfl,h3,h⟩:=Z6m h
  obtain rfl:=all2_nil h
  obtain ⟨x0,rfl,w0⟩:=ok_int h0
  obtain ⟨x1,rfl,w1⟩:=ok_int h1
  obtain ⟨x2,rfl,w2⟩:=ok_int h2
  obtain ⟨x3,rfl,w3⟩:=ok_int h3
  exact ⟨Z0k.mk x0 x1 x2 x3,Z30 _,Z84.mk w0 w1 w2 w3⟩
inductive Zbz:Z0s→Prop where
  | mk {x:Z0s} (hNeg:AnyB x.fNeg) (hMag:(ListR (InR .u32)) x.fMag):Zbz x
theorem Zbz.Mag {x:Z0s} (h:Zbz x):(ListR (InR .u32)) x.fMag:=by cases h; assumption
inductive Z14:Z03→Prop where
  | mk {x:Z03} (hKind:(InR .i64) x.fKind) (hN:(InR .i64) x.fN) (hNum:Zbz x.fNum) (hBits:(InR .u64) x.fBits) (hBytes:StR x.fBytes) (lArgs:x.fArgs.length≤maxLen) (hArgs:∀ y ∈ x.fArgs,Z14 y):Z14 x
theorem Z14.Kind {x:Z03} (h:Z14 x):(InR .i64) x.fKind:=by cases h; assumption
theorem Z14.N {x:Z03} (h:Z14 x):(InR .i64) x.fN:=by cases h; assumption
theorem Z14.Num {x:Z03} (h:Z14 x):Zbz x.fNum:=by cases h; assumption
theorem Z14.Bits {x:Z03} (h:Z14 x):(InR .u64) x.fBits:=by cases h; assumption
theorem Z14.Bytes {x:Z03} (h:Z14 x):StR x.fBytes:=by cases h; assumption
theorem Z14.ArgsLen {x:Z03} (h:Z14 x):x.fArgs.length≤maxLen:=by cases h; assumption
theorem Z14.Args {x:Z03} (h:Z14 x):∀ y ∈ x.fArgs,Z14 y:=by cases h; assumption
theorem inv_Tapi_Term:∀ (n:Nat) (cs:List C),All2 (OkC Try.prog n) [.int .i64,.int .i64,.bool,.sl 81,.int .u64,.str,.sl 52] cs→∃ x:Z03,Z02 x=cs∧Z14 x:=by
  intro n
  induction n using Nat.strongRecOn with
  | _ n ih =>
  intro cs h
  obtain ⟨c0,cs,rfl,h0,h⟩:=Z6m h
  obtain ⟨c1,cs,rfl,h1,h⟩:=Z6m h
  obtain ⟨c2,cs,rfl,h2,h⟩:=Z6m h
  obtain ⟨c3,cs,rfl,h3,h⟩:=Z6m h
  obtain ⟨c4,cs,rfl,h4,h⟩:=Z6m h
  obtain ⟨c5,cs,rfl,h5,h⟩:=Z6m h
  obtain ⟨c6,cs,rfl,h6,h⟩:=Z6m h
  obtain rfl:=all2_nil h
  obtain ⟨x0,rfl,w0⟩:=ok_int h0
  obtain ⟨x1,rfl,w1⟩:=ok_int h1
  obtain ⟨x2,rfl,w2⟩:=ok_bool h2
  obtain ⟨x3,rfl,w3⟩:=ok_sl (ks:=[.int .u32]) (by kernel_rfl) (fun m _=>fun r h=>inv_int h) h3
  obtain ⟨x4,rfl,w4⟩:=ok_int h4
  obtain ⟨x5,rfl,w5⟩:=ok_str h5
  obtain ⟨x6,rfl,w6⟩:=ok_sl (ks:=[.int .i64,.int .i64,.bool,.sl 81,.int .u64,.str,.sl 52]) (by kernel_rfl) (fun m hm=>fun r h=>ih m hm r h) h6
  exact ⟨Z03.mk x0 x1 (Z0s.mk x2 x3) x4 x5 x6,Z0m _,Z14.mk w0 w1 (Zbz.mk w2 w3) w4 w5 w6.len w6.all⟩
inductive Z5b:Z08→Prop where
  | mk {x:Z08} (hOps:(ListR Z84) x.fOps) (hConsts:(ListR Z14) x.fConsts):Z5b x
theorem Z5b.Ops {x:Z08} (h:Z5b x):(ListR Z84) x.fOps:=by cases h; assumption
theorem Z5b.Consts {x:Z08} (h:Z5b x):(ListR Z14) x.fConsts:=by cases h; assumption
theorem Zcj:∀ (n:Nat) (cs:List C),All2 (OkC Try.prog n) [.sl 55,.sl 52] cs→∃ x:Z08,Zed x=cs∧Z5b x:=by
  intro n
  induction n using Nat.strongRecOn with
  | _ n ih =>
  intro cs h
  obtain ⟨c0,cs,rfl,h0,h⟩:=Z6m h
  obtain ⟨c1,cs,rfl,h1,h⟩:=Z6m h
  obtain rfl:=all2_nil h
  obtain ⟨x0,rfl,w0⟩:=ok_sl (ks:=[.int .i64,.int .i64,.int .i64,.int .i64]) (by kernel_rfl) (fun m _=>fun r h=>inv_Tapi_Op _ r h) h0
  obtain ⟨x1,rfl,w1⟩:=ok_sl (ks:=[.int .i64,.int .i64,.bool,.sl 81,.int .u64,.str,.sl 52]) (by kernel_rfl) (fun m _=>fun r h=>inv_Tapi_Term _ r h) h1
  exact ⟨Z08.mk x0 x1,Za5 _,Z5b.mk w0 w1⟩
end Go.Proofs.Ytcknifhhgeccfaa.Sh
