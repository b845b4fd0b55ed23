import Derived.Test.YtphieolckpneeaaSh5
import Derived.Test.YtphieolckpneeaaLift4
set_option linter.unusedVariables false
set_option linter.unusedSimpArgs false
set_option maxRecDepth 100000
namespace Go.Proofs.Ytphieolckpneeaa.Sh
open Go Lift Go.Proofs
inductive wTapi_Op : Tapi_Op → Prop where
  | mk {x : Tapi_Op} (hK:(InR .i64) x.fK) (hA:(InR .i64) x.fA) (hB:(InR .i64) x.fB) (hC:(InR .i64) x.fC) : wTapi_Op x
theorem wTapi_Op.K {x : Tapi_Op} (h:wTapi_Op x) : (InR .i64) x.fK := by cases h; assumption
theorem wTapi_Op.A {x : Tapi_Op} (h:wTapi_Op x) : (InR .i64) x.fA := by cases h; assumption
theorem wTapi_Op.B {x : Tapi_Op} (h:wTapi_Op x) : (InR .i64) x.fB := by cases h; assumption
theorem wTapi_Op.C {x : Tapi_Op} (h:wTapi_Op x) : (InR .i64) x.fC := by cases h; assumption
theorem inv_Tapi_Op : ∀ (n:Nat) (cs:List C),All2 (OkC Try.prog n) [.int .i64,.int .i64,.int .i64,.int .i64] cs → ∃ x : Tapi_Op,rTapi_Op x = cs ∧ wTapi_Op x := by
  intro n
  induction n using Nat.strongRecOn with
  | _ n ih =>
  intro cs h
  obtain ⟨c0,cs,rfl,h0,h⟩ := all2_cons h
  obtain ⟨c1,cs,rfl,h1,h⟩ := all2_cons h
  obtain ⟨c2,cs,rfl,h2,h⟩ := all2_cons h
  obtain ⟨c3,cs,rfl,h3,h⟩ := all2_cons h
  obtain rfl := all2_nil h
  obtain ⟨x0,rfl,w0⟩ := ok_int h0
  obtain ⟨x1,rfl,w1⟩ := ok_int h1
  obtain ⟨x2,rfl,w2⟩ := ok_int h2
  obtain ⟨x3,rfl,w3⟩ := ok_int h3
  exact ⟨Tapi_Op.mk x0 x1 x2 x3,rTapi_Op_eq _,wTapi_Op.mk w0 w1 w2 w3⟩
inductive wTapi_Num : Tapi_Num → Prop where
  | mk {x : Tapi_Num} (hNeg:AnyB x.fNeg) (hMag:(ListR (InR .u32)) x.fMag) : wTapi_Num x
theorem wTapi_Num.Mag {x : Tapi_Num} (h:wTapi_Num x) : (ListR (InR .u32)) x.fMag := by cases h; assumption
inductive wTapi_Term : Tapi_Term → Prop where
  | mk {x : Tapi_Term} (hKind:(InR .i64) x.fKind) (hN:(InR .i64) x.fN) (hNum:wTapi_Num x.fNum) (hBits:(InR .u64) x.fBits) (hBytes:StR x.fBytes) (lArgs:x.fArgs.length ≤ maxLen) (hArgs : ∀ y ∈ x.fArgs,wTapi_Term y) : wTapi_Term x
theorem wTapi_Term.Kind {x : Tapi_Term} (h:wTapi_Term x) : (InR .i64) x.fKind := by cases h; assumption
theorem wTapi_Term.N {x : Tapi_Term} (h:wTapi_Term x) : (InR .i64) x.fN := by cases h; assumption
theorem wTapi_Term.Num {x : Tapi_Term} (h:wTapi_Term x) : wTapi_Num x.fNum := by cases h; assumption
theorem wTapi_Term.Bits {x : Tapi_Term} (h:wTapi_Term x) : (InR .u64) x.fBits := by cases h; assumption
theorem wTapi_Term.Bytes {x : Tapi_Term} (h:wTapi_Term x) : StR x.fBytes := by cases h; assumption
theorem wTapi_Term.ArgsLen {x : Tapi_Term} (h:wTapi_Term x) : x.fArgs.length ≤ maxLen := by cases h; assumption
theorem wTapi_Term.Args {x : Tapi_Term} (h:wTapi_Term x) : ∀ y ∈ x.fArgs,wTapi_Term y := by cases h; assumption
theorem inv_Tapi_Term : ∀ (n:Nat) (cs:List C),All2 (OkC Try.prog n) [.int .i64,.int .i64,.bool,.sl 61,.int .u64,.str,.sl 43] cs → ∃ x : Tapi_Term,rTapi_Term x = cs ∧ wTapi_Term x := by
  intro n
  induction n using Nat.strongRecOn with
  | _ n ih =>
  intro cs h
  obtain ⟨c0,cs,rfl,h0,h⟩ := all2_cons h
  obtain ⟨c1,cs,rfl,h1,h⟩ := all2_cons h
  obtain ⟨c2,cs,rfl,h2,h⟩ := all2_cons h
  obtain ⟨c3,cs,rfl,h3,h⟩ := all2_cons h
  obtain ⟨c4,cs,rfl,h4,h⟩ := all2_cons h
  obtain ⟨c5,cs,rfl,h5,h⟩ := all2_cons h
  obtain ⟨c6,cs,rfl,h6,h⟩ := all2_cons h
  obtain rfl := all2_nil h
  obtain ⟨x0,rfl,w0⟩ := ok_int h0
  obtain ⟨x1,rfl,w1⟩ := ok_int h1
  obtain ⟨x2,rfl,w2⟩ := ok_bool h2
  obtain ⟨x3,rfl,w3⟩ := ok_sl (ks := [.int .u32]) (by kernel_rfl) (fun m _ => fun r h => inv_int h) h3
  obtain ⟨x4,rfl,w4⟩ := ok_int h4
  obtain ⟨x5,rfl,w5⟩ := ok_str h5
  obtain ⟨x6,rfl,w6⟩ := ok_sl (ks := [.int .i64,.int .i64,.bool,.sl 61,.int .u64,.str,.sl 43]) (by kernel_rfl) (fun m hm => fun r h => ih m hm r h) h6
  exact ⟨Tapi_Term.mk x0 x1 (Tapi_Num.mk x2 x3) x4 x5 x6,rTapi_Term_eq _,wTapi_Term.mk w0 w1 (wTapi_Num.mk w2 w3) w4 w5 w6.len w6.all⟩
inductive wTapi_Program : Tapi_Program → Prop where
  | mk {x : Tapi_Program} (hOps:(ListR wTapi_Op) x.fOps) (hConsts:(ListR wTapi_Term) x.fConsts) : wTapi_Program x
theorem wTapi_Program.Consts {x : Tapi_Program} (h:wTapi_Program x) : (ListR wTapi_Term) x.fConsts := by cases h; assumption
theorem inv_Tapi_Program : ∀ (n:Nat) (cs:List C),All2 (OkC Try.prog n) [.sl 25,.sl 43] cs → ∃ x : Tapi_Program,rTapi_Program x = cs ∧ wTapi_Program x := by
  intro n
  induction n using Nat.strongRecOn with
  | _ n ih =>
  intro cs h
  obtain ⟨c0,cs,rfl,h0,h⟩ := all2_cons h
  obtain ⟨c1,cs,rfl,h1,h⟩ := all2_cons h
  obtain rfl := all2_nil h
  obtain ⟨x0,rfl,w0⟩ := ok_sl (ks := [.int .i64,.int .i64,.int .i64,.int .i64]) (by kernel_rfl) (fun m _ => fun r h => inv_Tapi_Op _ r h) h0
  obtain ⟨x1,rfl,w1⟩ := ok_sl (ks := [.int .i64,.int .i64,.bool,.sl 61,.int .u64,.str,.sl 43]) (by kernel_rfl) (fun m _ => fun r h => inv_Tapi_Term _ r h) h1
  exact ⟨Tapi_Program.mk x0 x1,rTapi_Program_eq _,wTapi_Program.mk w0 w1⟩
end Go.Proofs.Ytphieolckpneeaa.Sh
