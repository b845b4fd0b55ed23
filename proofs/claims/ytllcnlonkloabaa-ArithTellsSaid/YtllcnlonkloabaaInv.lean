import Derived.Test.YtllcnlonkloabaaSh5
import Derived.Test.YtllcnlonkloabaaLift3
set_option linter.unusedVariables false
set_option linter.unusedSimpArgs false
set_option maxRecDepth 100000
namespace Go.Proofs.Ytllcnlonkloabaa.Sh
open Go Lift Go.Proofs
inductive Zdj:Z06→Prop where
  | mk {x:Z06} (hNeg:AnyB x.fNeg) (hMag:(ListR (InR .u32)) x.fMag):Zdj x
theorem Zdj.Mag {x:Z06} (h:Zdj x):(ListR (InR .u32)) x.fMag:=by cases h; assumption
inductive Z0m:Z02→Prop where
  | mk {x:Z02} (hKind:(InR .i64) x.fKind) (hN:(InR .i64) x.fN) (hNum:Zdj x.fNum) (hBits:(InR .u64) x.fBits) (hBytes:StR x.fBytes) (lArgs:x.fArgs.length≤maxLen) (hArgs:∀ y ∈ x.fArgs,Z0m y):Z0m x
theorem Z0m.Kind {x:Z02} (h:Z0m x):(InR .i64) x.fKind:=by cases h; assumption
theorem Z0m.N {x:Z02} (h:Z0m x):(InR .i64) x.fN:=by cases h; assumption
theorem Z0m.Num {x:Z02} (h:Z0m x):Zdj x.fNum:=by cases h; assumption
theorem Z0m.Bits {x:Z02} (h:Z0m x):(InR .u64) x.fBits:=by cases h; assumption
theorem Z0m.Bytes {x:Z02} (h:Z0m x):StR x.fBytes:=by cases h; assumption
theorem Z0m.ArgsLen {x:Z02} (h:Z0m x):x.fArgs.length≤maxLen:=by cases h; assumption
theorem Z0m.Args {x:Z02} (h:Z0m x):∀ y ∈ x.fArgs,Z0m y:=by cases h; assumption
theorem Zgz:∀ (n:Nat) (cs:List C),All2 (OkC Try.prog n) [.int .i64,.int .i64,.bool,.sl 65,.int .u64,.str,.sl 30] cs→∃ x:Z02,Z09 x=cs∧Z0m x:=by
  intro n
  induction n using Nat.strongRecOn with
  | _ n ih =>
  intro cs h
  obtain ⟨c0,cs,rfl,h0,h⟩:=Zb3 h
  obtain ⟨c1,cs,rfl,h1,h⟩:=Zb3 h
  obtain ⟨c2,cs,rfl,h2,h⟩:=Zb3 h
  obtain ⟨c3,cs,rfl,h3,h⟩:=Zb3 h
  obtain ⟨c4,cs,rfl,h4,h⟩:=Zb3 h
  obtain ⟨c5,cs,rfl,h5,h⟩:=Zb3 h
  obtain ⟨c6,cs,rfl,h6,h⟩:=Zb3 h
  obtain rfl:=all2_nil h
  obtain ⟨x0,rfl,w0⟩:=ok_int h0
  obtain ⟨x1,rfl,w1⟩:=ok_int h1
  obtain ⟨x2,rfl,w2⟩:=ok_bool h2
  obtain ⟨x3,rfl,w3⟩:=ok_sl (ks:=[.int .u32]) (by kernel_rfl) (fun m _=>fun r h=>inv_int h) h3
  obtain ⟨x4,rfl,w4⟩:=ok_int h4
  obtain ⟨x5,rfl,w5⟩:=ok_str h5
  obtain ⟨x6,rfl,w6⟩:=ok_sl (ks:=[.int .i64,.int .i64,.bool,.sl 65,.int .u64,.str,.sl 30]) (by kernel_rfl) (fun m hm=>fun r h=>ih m hm r h) h6
  exact ⟨Z02.mk x0 x1 (Z06.mk x2 x3) x4 x5 x6,Z1f _,Z0m.mk w0 w1 (Zdj.mk w2 w3) w4 w5 w6.len w6.all⟩
end Go.Proofs.Ytllcnlonkloabaa.Sh
