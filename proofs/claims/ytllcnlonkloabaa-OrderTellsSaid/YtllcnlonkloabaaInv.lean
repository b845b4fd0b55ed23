import Derived.Test.YtllcnlonkloabaaSh6
import Derived.Test.YtllcnlonkloabaaLift4
set_option linter.unusedVariables false
set_option linter.unusedSimpArgs false
set_option maxRecDepth 100000
namespace Go.Proofs.Ytllcnlonkloabaa.Sh
open Go Lift Go.Proofs
inductive Zd8:Z08→Prop where
 |mk {x:Z08} (hNeg:AnyB x.fNeg) (hMag:(ListR (InR .u32)) x.fMag):Zd8 x
theorem Zd8.Mag {x:Z08} (h:Zd8 x):(ListR (InR .u32)) x.fMag:=by cases h; assumption
inductive Z0l:Z00→Prop where
 |mk {x:Z00} (hKind:(InR .i64) x.fKind) (hN:(InR .i64) x.fN) (hNum:Zd8 x.fNum) (hBits:(InR .u64) x.fBits) (hBytes:StR x.fBytes) (lArgs:x.fArgs.length≤maxLen) (hArgs:∀ y ∈ x.fArgs,Z0l y):Z0l x
theorem Z0l.Kind {x:Z00} (h:Z0l x):(InR .i64) x.fKind:=by cases h; assumption
theorem Z0l.N {x:Z00} (h:Z0l x):(InR .i64) x.fN:=by cases h; assumption
theorem Z0l.Num {x:Z00} (h:Z0l x):Zd8 x.fNum:=by cases h; assumption
theorem Z0l.Bits {x:Z00} (h:Z0l x):(InR .u64) x.fBits:=by cases h; assumption
theorem Z0l.Bytes {x:Z00} (h:Z0l x):StR x.fBytes:=by cases h; assumption
theorem Z0l.ArgsLen {x:Z00} (h:Z0l x):x.fArgs.length≤maxLen:=by cases h; assumption
theorem Z0l.Args {x:Z00} (h:Z0l x):∀ y ∈ x.fArgs,Z0l y:=by cases h; assumption
theorem Zdk:∀ (n:Nat) (cs:List C),All2 (OkC Try.prog n) [.int .i64,.int .i64,.bool,.sl 65,.int .u64,.str,.sl 30] cs→∃ x:Z00,Z02 x=cs∧Z0l x:=by
 intro n
 induction n using Nat.strongRecOn with
 |_ n ih =>
 intro cs h
 obtain ⟨c0,cs,rfl,h0,h⟩:=Za8 h
 obtain ⟨c1,cs,rfl,h1,h⟩:=Za8 h
 obtain ⟨c2,cs,rfl,h2,h⟩:=Za8 h
 obtain ⟨c3,cs,rfl,h3,h⟩:=Za8 h
 obtain ⟨c4,cs,rfl,h4,h⟩:=Za8 h
 obtain ⟨c5,cs,rfl,h5,h⟩:=Za8 h
 obtain ⟨c6,cs,rfl,h6,h⟩:=Za8 h
 obtain rfl:=all2_nil h
 obtain ⟨x0,rfl,w0⟩:=ok_int h0
 obtain ⟨x1,rfl,w1⟩:=ok_int h1
 obtain ⟨x2,rfl,w2⟩:=ok_bool h2
 obtain ⟨x3,rfl,w3⟩:=ok_sl (ks:=[.int .u32]) (by kernel_rfl) (fun m _=>fun r h=>inv_int h) h3
 obtain ⟨x4,rfl,w4⟩:=ok_int h4
 obtain ⟨x5,rfl,w5⟩:=ok_str h5
 obtain ⟨x6,rfl,w6⟩:=ok_sl (ks:=[.int .i64,.int .i64,.bool,.sl 65,.int .u64,.str,.sl 30]) (by kernel_rfl) (fun m hm=>fun r h=>ih m hm r h) h6
 exact ⟨Z00.mk x0 x1 (Z08.mk x2 x3) x4 x5 x6,Z0b _,Z0l.mk w0 w1 (Zd8.mk w2 w3) w4 w5 w6.len w6.all⟩
end Go.Proofs.Ytllcnlonkloabaa.Sh
