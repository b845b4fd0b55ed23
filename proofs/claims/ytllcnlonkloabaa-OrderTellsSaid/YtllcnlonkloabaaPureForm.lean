import Derived.Test.YtllcnlonkloabaaPureMay
set_option linter.unusedVariables false
set_option linter.unusedSimpArgs false
namespace Go.Proofs.Ytllcnlonkloabaa.Sh
open Go Lift Go.Proofs
theorem realMay_ev (b:Int) (h:InR .u64 b):Ev (fun N=>real_May N b) (realMay b):=by
 have hb:=inU h
 unfold realMay
 by_cases h0:b=9221120237041090561
 ·rw [decide_eq_true h0]
  exact Ev.pos h0 (Ev.now _)
 ·rw [decide_eq_false h0,Bool.false_or, ← fne_self b hb.1]
  exact Ev.neg h0 (Ev.now _)
theorem rrealMay_ev (b:Int) (h:InR .u64 b):Ev (fun N=>Z9s N b) (realMay b):=by
 have hb:=inU h
 have e:Ev (fun N=>Z48 N b) (nanB b):=by
  show Ev (fun _=>some (decide ((bandn .u64 b 9223372036854775808) > 9218868437227405312))) _
  rw [bandn_63 b hb.1 (by omega)]
  exact Ev.now _
 unfold realMay
 refine Ev.bind e ?_
 cases hn:nanB b with
 |false =>
  rw [Bool.not_false,Bool.or_true]
  exact Ev.pos (by simp) (Ev.now _)
 |true =>
  rw [Bool.not_true,Bool.or_false]
  exact Ev.neg (by simp) (Ev.now _)
def zNum (t:Z00):Bool:=decide (t.fNum.fMag.length=0) && !t.fNum.fNeg
def zN (t:Z00):Bool:=decide (t.fN=0)
def zB (t:Z00):Bool:=decide (t.fBits=0)
def zS (t:Z00):Bool:=decide (t.fBytes=ByteArray.mk #[])
def zA (t:Z00):Bool:=decide (t.fArgs.length=0)
def bareT (t:Z00):Bool :=
 if t.fKind=1∨t.fKind=4∨t.fKind=5 then zNum t && zB t && zS t && zA t
 else if t.fKind=2 then zN t && zB t && zS t && zA t
 else if t.fKind=3 then zN t && zNum t && zS t && zA t
 else if t.fKind=9 then zN t && zNum t && zB t && zA t
 else if t.fKind=6∨t.fKind=8 then zN t && zNum t && zB t && zS t
 else zN t && zNum t && zB t && zS t && zA t
theorem zA_eq (t:Z00):(((t.fArgs.length:Nat):Int) == (0:Int))=zA t:=by unfold zA; rw [uh]; simp
theorem zS_eq (t:Z00):(t.fBytes.toList == (ByteArray.mk #[]).toList)=zS t:=by unfold zS; rw [uh,Z0u]; simp
theorem bare_ev (t:Z00):Ev (fun N=>Zif N t) (bareT t):=by
 have b0:Ev (fun N=>Zb2 N t) (zNum t):=by
  refine Ev.step ?_ (fun N=>by rw [Zb2])
  unfold zNum
  by_cases h:t.fNum.fMag.length=0
  ·rw [decide_eq_true h,vg]; exact Ev.pos (by omega) (Ev.now _)
  ·rw [decide_eq_false h,qm]; exact Ev.neg (by omega) (Ev.now _)
 refine Ev.bind b0 ?_
 refine Ev.from 2 fun N=>?_
 have pN:(t.fN=0)=(zN t=true):=by simp [zN]
 have pB:(t.fBits=0)=(zB t=true):=by simp [zB]
 have pS:(t.fBytes=ByteArray.mk #[])=(zS t=true):=by simp [zS]
 simp only [Zcb,Zcd,Zcg,zA_eq,zS_eq,pN,pB,pS,bareT]
 generalize zNum t=a
 generalize zN t=b
 generalize zB t=c
 generalize zS t=d
 generalize zA t=e
 by_cases k1:t.fKind=1
 ·simp only [k1]; cases a <;> cases b <;> cases c <;> cases d <;> cases e <;> simp
 by_cases k4:t.fKind=4
 ·simp only [k4]; cases a <;> cases b <;> cases c <;> cases d <;> cases e <;> simp
 by_cases k5:t.fKind=5
 ·simp only [k5]; cases a <;> cases b <;> cases c <;> cases d <;> cases e <;> simp
 by_cases k2:t.fKind=2
 ·simp only [k2]; cases a <;> cases b <;> cases c <;> cases d <;> cases e <;> simp
 by_cases k3:t.fKind=3
 ·simp only [k3]; cases a <;> cases b <;> cases c <;> cases d <;> cases e <;> simp
 by_cases k9:t.fKind=9
 ·simp only [k9]; cases a <;> cases b <;> cases c <;> cases d <;> cases e <;> simp
 by_cases k6:t.fKind=6
 ·simp only [k6]; cases a <;> cases b <;> cases c <;> cases d <;> cases e <;> simp
 by_cases k8:t.fKind=8
 ·simp only [k8]; cases a <;> cases b <;> cases c <;> cases d <;> cases e <;> simp
 ·simp only [k1,k2,k3,k4,k5,k6,k8,k9]; cases a <;> cases b <;> cases c <;> cases d <;> cases e <;> simp [k1,k2,k3,k4,k5,k6,k8,k9]
theorem Zdr (l:List Z00):(((l.length:Nat):Int) == 0)=decide (l=[]):=by rw [uh]; cases l <;> simp <;> omega
theorem blank_ev (t:Z00):Ev (fun N=>Z65 N t) (bareT t):=by
 have pN:(t.fN=0)=(zN t=true):=by simp [zN]
 have pB:(t.fBits=0)=(zB t=true):=by simp [zB]
 have pS:(t.fBytes=ByteArray.mk #[])=(zS t=true):=by simp [zS]
 have pM:(((t.fNum.fMag.length:Nat):Int)=0)=(t.fNum.fMag.length=0):=propext (by omega)
 have eA:(((t.fArgs.length:Nat):Int) == ((t.fArgs.length:Nat):Int))=true:=by simp
 have hz:zNum t=(decide (t.fNum.fMag.length=0) && decide (t.fNum.fNeg=false)):=by unfold zNum; cases t.fNum.fNeg <;> simp
 refine Ev.from 2 fun N=>?_
 simp only [Z65,Z5y,Z5x,Z63,bareT,hz]
 by_cases k1:t.fKind=1
 ·simp [k1,pB,pS,zA,pM]
  by_cases m:t.fNum.fMag.length=0 <;> cases s:t.fNum.fNeg <;> cases c:zB t <;> cases d:zS t <;> simp_all [Zdr]
 by_cases k4:t.fKind=4
 ·simp [k4,pB,pS,zA,pM]
  by_cases m:t.fNum.fMag.length=0 <;> cases s:t.fNum.fNeg <;> cases c:zB t <;> cases d:zS t <;> simp_all [Zdr]
 by_cases k5:t.fKind=5
 ·simp [k5,pB,pS,zA,pM]
  by_cases m:t.fNum.fMag.length=0 <;> cases s:t.fNum.fNeg <;> cases c:zB t <;> cases d:zS t <;> simp_all [Zdr]
 by_cases k2:t.fKind=2
 ·simp [k2,pN,pB,pS,zA,pM]
  cases b:zN t <;> cases c:zB t <;> cases d:zS t <;> simp_all [Zdr]
 by_cases k3:t.fKind=3
 ·simp [k3,pN,pS,zA,pM]
  by_cases m:t.fNum.fMag.length=0 <;> cases s:t.fNum.fNeg <;> cases b:zN t <;> cases d:zS t <;> simp_all [Zdr]
 by_cases k6:t.fKind=6
 ·simp [k6,pN,pB,pS,pM]
  by_cases m:t.fNum.fMag.length=0 <;> cases s:t.fNum.fNeg <;> cases b:zN t <;> cases c:zB t <;> cases d:zS t <;> simp_all [Zdr]
 by_cases k8:t.fKind=8
 ·simp [k8,pN,pB,pS,pM]
  by_cases m:t.fNum.fMag.length=0 <;> cases s:t.fNum.fNeg <;> cases b:zN t <;> cases c:zB t <;> cases d:zS t <;> simp_all [Zdr]
 by_cases k9:t.fKind=9
 ·simp [k9,pN,pB,zA,pM]
  by_cases m:t.fNum.fMag.length=0 <;> cases s:t.fNum.fNeg <;> cases b:zN t <;> cases c:zB t <;> simp_all [Zdr]
 ·simp [k1,k2,k3,k4,k5,k6,k8,k9,pN,pB,pS,zA,pM]
  by_cases m:t.fNum.fMag.length=0 <;> cases s:t.fNum.fNeg <;> cases b:zN t <;> cases c:zB t <;> cases d:zS t <;> simp_all [Zdr]
end Go.Proofs.Ytllcnlonkloabaa.Sh
