import Derived.Test.YtllcnlonkloabaaSh4
import Derived.Test.YtllcnlonkloabaaLift3
set_option linter.unusedVariables false
set_option linter.unusedSimpArgs false
set_option maxRecDepth 100000
namespace Go.Proofs.Ytllcnlonkloabaa.Sh
open Go Lift Go.Proofs
inductive Zav:Z0a→Prop where
  | mk {x:Z0a} (hNeg:AnyB x.fNeg) (hMag:(ListR (InR .u32)) x.fMag):Zav x
theorem Zav.Mag {x:Z0a} (h:Zav x):(ListR (InR .u32)) x.fMag:=by cases h; assumption
inductive Z1l:Z01→Prop where
  | mk {x:Z01} (hKind:(InR .i64) x.fKind) (hN:(InR .i64) x.fN) (hNum:Zav x.fNum) (hBits:(InR .u64) x.fBits) (hBytes:StR x.fBytes) (lArgs:x.fArgs.length≤maxLen) (hArgs:∀ y ∈ x.fArgs,Z1l y):Z1l x
theorem Z1l.Kind {x:Z01} (h:Z1l x):(InR .i64) x.fKind:=by cases h; assumption
theorem Z1l.N {x:Z01} (h:Z1l x):(InR .i64) x.fN:=by cases h; assumption
theorem Z1l.Num {x:Z01} (h:Z1l x):Zav x.fNum:=by cases h; assumption
theorem Z1l.Bits {x:Z01} (h:Z1l x):(InR .u64) x.fBits:=by cases h; assumption
theorem Z1l.Bytes {x:Z01} (h:Z1l x):StR x.fBytes:=by cases h; assumption
theorem Z1l.ArgsLen {x:Z01} (h:Z1l x):x.fArgs.length≤maxLen:=by cases h; assumption
theorem Z1l.Args {x:Z01} (h:Z1l x):∀ y ∈ x.fArgs,Z1l y:=by cases h; assumption
theorem inv_Tapi_Term:∀ (n:Nat) (cs:List C),All2 (OkC Try.prog n) [.int .i64,.int .i64,.bool,.sl 65,.int .u64,.str,.sl 30] cs→∃ x:Z01,Z00 x=cs∧Z1l x:=by
  intro n
  induction n using Nat.strongRecOn with
  | _ n ih =>
  intro cs h
  obtain ⟨c0,cs,rfl,h0,h⟩:=Z8p h
  obtain ⟨c1,cs,rfl,h1,h⟩:=Z8p h
  obtain ⟨c2,cs,rfl,h2,h⟩:=Z8p h
  obtain ⟨c3,cs,rfl,h3,h⟩:=Z8p h
  obtain ⟨c4,cs,rfl,h4,h⟩:=Z8p h
  obtain ⟨c5,cs,rfl,h5,h⟩:=Z8p h
  obtain ⟨c6,cs,rfl,h6,h⟩:=Z8p h
  obtain rfl:=all2_nil h
  obtain ⟨x0,rfl,w0⟩:=ok_int h0
  obtain ⟨x1,rfl,w1⟩:=ok_int h1
  obtain ⟨x2,rfl,w2⟩:=ok_bool h2
  obtain ⟨x3,rfl,w3⟩:=ok_sl (ks:=[.int .u32]) (by kernel_rfl) (fun m _=>fun r h=>inv_int h) h3
  obtain ⟨x4,rfl,w4⟩:=ok_int h4
  obtain ⟨x5,rfl,w5⟩:=ok_str h5
  obtain ⟨x6,rfl,w6⟩:=ok_sl (ks:=[.int .i64,.int .i64,.bool,.sl 65,.int .u64,.str,.sl 30]) (by kernel_rfl) (fun m hm=>fun r h=>ih m hm r h) h6
  exact ⟨Z01.mk x0 x1 (Z0a.mk x2 x3) x4 x5 x6,Z08 _,Z1l.mk w0 w1 (Zav.mk w2 w3) w4 w5 w6.len w6.all⟩
end Go.Proofs.Ytllcnlonkloabaa.Sh
