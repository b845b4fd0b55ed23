import Derived.Test.YtphieolckpneeaaSh4
set_option linter.unusedVariables false
set_option linter.unusedSimpArgs false
set_option maxRecDepth 100000
namespace Go.Proofs.Ytphieolckpneeaa.Sh
open Go Lift Go.Proofs
def beehiveref4_form_L0_H (p0:Tapi_Term) (v5:Int) : St := { fr := ([.bad,(.v (.one (.ptr 1 0))),.bad,.bad,.bad,(.v (.one (.d (.int .i64 v5))))]++bads 89),obs := [(1,.var (aTapi_Term p0))] }
def beehiveref4_form_L0_S0 (p0:Tapi_Term) (o:Unit) : St := { fr := bads 95,obs := [] }
def beehiveref4_form_L0_S1 (p0:Tapi_Term) (o:Unit) : St := { fr := ([.bad,.bad,(.v (.one (.d (.bool false))))]++bads 92),obs := [] }
def beehiveref4_form_fin (r:Bool) : List PV := [.v (.one (.dat (.bool r)))]
mutual
def beehiveref4_form_L0 : Nat → Tapi_Term → Int → Option ((Unit) ⊕ (Unit))
  | 0,_,_ => none
  | N + 1,p0,v5 => if v5 < ((p0.fArgs.length : Nat) : Int) then (idx p0.fArgs v5).bind fun x20 => (beehiveref4_form N x20).bind fun r21 => if ¬ (r21 = true) then some (.inr ()) else beehiveref4_form_L0 N p0 (IntKind.wrap .i64 (v5 + (1:Int))) else some (.inl ())
def beehiveref4_form : Nat → Tapi_Term → Option Bool
  | 0,_ => none
  | N + 1,p0 => (beehiveref4_Blank N p0).bind fun r1 => if ¬ (r1 = true) then some false else if p0.fKind = (1:Int) then if p0.fN ≥ (-1152921504606846976 : Int) then some (decide (p0.fN ≤ (1152921504606846975:Int))) else some false else if p0.fKind = (2:Int) then (beehiveref1_Small N p0.fNum).bind fun r6 => (beehiveref1_May N p0.fNum).bind fun r7 => if r7 = true then some (!r6.2) else some false else if p0.fKind = (3:Int) then (beehiveref2_May N p0.fBits).bind fun r10 => some r10 else if p0.fKind = (4:Int) then if p0.fN ≥ (0:Int) then some (decide (p0.fN ≤ (255:Int))) else some false else if p0.fKind = (5:Int) then if p0.fN ≥ (0:Int) then some (decide (p0.fN ≤ (63:Int))) else some false else if p0.fKind = (7:Int) then some true else if p0.fKind = (9:Int) then some (decide (((p0.fBytes.size : Nat) : Int) ≤ (400:Int))) else if p0.fKind = (6:Int) then if ((p0.fArgs.length : Nat) : Int) > (8:Int) then some false else (beehiveref4_form_L0 N p0 (0:Int)).bind fun r23 => (match r23 with | .inl r24 => some true | .inr r25 => some false) else if p0.fKind = (8:Int) then if ((p0.fArgs.length : Nat) : Int) ≠ (2:Int) then some false else (beehiveref4_form_L0 N p0 (0:Int)).bind fun r28 => (match r28 with | .inl r29 => some true | .inr r30 => some false) else some false
end
structure beehiveref4_form_all (N:Nat) : Prop where
  beehiveref4_form_L0 : ∀ (p0:Tapi_Term) (v5:Int) (r:((Unit) ⊕ (Unit))),beehiveref4_form_L0 N p0 v5 = some r → match r with | .inl o => LoopTo Try.prog 843 (partOf Try.f37 [1,1,1,0,1,0,0]) (beehiveref4_form_L0_H p0 v5) (.exit 1) (beehiveref4_form_L0_S0 p0 o) | .inr o => LoopTo Try.prog 843 (partOf Try.f37 [1,1,1,0,1,0,0]) (beehiveref4_form_L0_H p0 v5) .ret (beehiveref4_form_L0_S1 p0 o)
  beehiveref4_form : ∀ (p0:Tapi_Term) (r:Bool),beehiveref4_form N p0 = some r → FSpec Try.prog 37 [.v (.agg (dTapi_Term p0))] (beehiveref4_form_fin r)
def beehiveref4_May (N:Nat) (p0:Tapi_Term) : Option Bool := (beehiveref3_Weight N p0).bind fun r1 => if r1 ≤ (300:Int) then (beehiveref4_form N p0).bind fun r3 => some r3 else some false
def beehiveref18_Why_L0 : Nat → Tapi_Program → Int → Option ((Unit) ⊕ (Int))
  | 0,_,_ => none
  | N + 1,p0,v3 => if v3 < ((p0.fOps.length : Nat) : Int) then if ((p0.fOps.length : Nat) : Int) ≤ (120:Int) then (beehiveref18_Op N p0 v3).bind fun r3 => if ¬ (r3 = true) then some (.inr v3) else beehiveref18_Why_L0 N p0 (IntKind.wrap .i64 (v3 + (1:Int))) else some (.inl ()) else some (.inl ())
def beehiveref18_Why_L1 : Nat → Tapi_Program → Option (Unit)
  | 0,_ => none
  | N + 1,p0 => if (0:Int) < ((p0.fConsts.length : Nat) : Int) then some () else some ()
def beehiveref18_Why_L2 : Nat → Tapi_Program → Bool → Int → Option (Bool)
  | 0,_,_,_ => none
  | N + 1,p0,v4,v5 => if v5 < ((p0.fConsts.length : Nat) : Int) then if ¬ (v4 = true) then (idx p0.fConsts v5).bind fun x13 => (beehiveref4_May N x13).bind fun r14 => beehiveref18_Why_L2 N p0 (!r14) (IntKind.wrap .i64 (v5 + (1:Int))) else some v4 else some v4
def beehiveref18_Why (N:Nat) (p0:Tapi_Program) : Option Int := (beehiveref18_Why_L0 N p0 (0:Int)).bind fun r5 => (match r5 with | .inl r6 => if ((p0.fOps.length : Nat) : Int) > (120:Int) then (beehiveref18_Why_L1 N p0).bind fun r10 => some ((p0.fOps.length : Nat) : Int) else (beehiveref18_Why_L2 N p0 (decide (((p0.fConsts.length : Nat) : Int) > (16:Int))) (0:Int)).bind fun r15 => if r15 = true then some ((p0.fOps.length : Nat) : Int) else some (-1 : Int) | .inr r7 => some r7)
def beehiveref18_Fix_L1 : Nat → ((List Tapi_Term)) → (List Tapi_Op) → Int → Option ((List Tapi_Op))
  | 0,_,_,_ => none
  | N + 1,r10,a14,v6 => if v6 < ((a14.length : Nat) : Int) then (beehiveref18_Op N (Tapi_Program.mk a14 r10) v6).bind fun r12 => if ¬ (r12 = true) then (idx a14 v6).bind fun x14 => beehiveref18_Fix_L1 N r10 (a14.set ((v6).toNat) (Tapi_Op.mk (0:Int) (0:Int) (0:Int) (0:Int))) (IntKind.wrap .i64 (v6 + (1:Int))) else beehiveref18_Fix_L1 N r10 a14 (IntKind.wrap .i64 (v6 + (1:Int))) else some a14
end Go.Proofs.Ytphieolckpneeaa.Sh
