import Derived.Test.YtllcnlonkloabaaPureMay
set_option linter.unusedVariables false
set_option linter.unusedSimpArgs false
namespace Go.Proofs.Ytllcnlonkloabaa.Sh
open Go Lift Go.Proofs
theorem realMay_ev (b:Int) (h:InR .u64 b):Ev (fun N=>real_May N b) (realMay b):=by
  have hb:=inU h
  unfold realMay
  by_cases h0:b=9221120237041090561
  · rw [decide_eq_true h0]
    exact Ev.pos h0 (Ev.now _)
  · rw [decide_eq_false h0,Bool.false_or, ← fne_self b hb.1]
    exact Ev.neg h0 (Ev.now _)
def zNum (t:Z01):Bool:=decide (t.fNum.fMag.length=0) && !t.fNum.fNeg
def zN (t:Z01):Bool:=decide (t.fN=0)
def zB (t:Z01):Bool:=decide (t.fBits=0)
def zS (t:Z01):Bool:=decide (t.fBytes=ByteArray.mk #[])
def zA (t:Z01):Bool:=decide (t.fArgs.length=0)
def bareT (t:Z01):Bool :=
  if t.fKind=1∨t.fKind=4∨t.fKind=5 then zNum t && zB t && zS t && zA t
  else if t.fKind=2 then zN t && zB t && zS t && zA t
  else if t.fKind=3 then zN t && zNum t && zS t && zA t
  else if t.fKind=9 then zN t && zNum t && zB t && zA t
  else if t.fKind=6∨t.fKind=8 then zN t && zNum t && zB t && zS t
  else zN t && zNum t && zB t && zS t && zA t
theorem zA_eq (t:Z01):(((t.fArgs.length:Nat):Int) == (0:Int))=zA t:=by unfold zA; rw [Bool.eq_iff_iff]; simp
theorem zS_eq (t:Z01):(t.fBytes.toList == (ByteArray.mk #[]).toList)=zS t:=by unfold zS; rw [Bool.eq_iff_iff,Z24]; simp
theorem bare_ev (t:Z01):Ev (fun N=>Zdo N t) (bareT t):=by
  have b0:Ev (fun N=>Z9d N t) (zNum t):=by
    refine Ev.step ?_ (fun N=>by rw [Z9d])
    unfold zNum
    by_cases h:t.fNum.fMag.length=0
    · rw [decide_eq_true h,Bool.true_and]; exact Ev.pos (by omega) (Ev.now _)
    · rw [decide_eq_false h,Bool.false_and]; exact Ev.neg (by omega) (Ev.now _)
  refine Ev.bind b0 ?_
  refine Ev.from 2 fun N=>?_
  have pN:(t.fN=0)=(zN t=true):=by simp [zN]
  have pB:(t.fBits=0)=(zB t=true):=by simp [zB]
  have pS:(t.fBytes=ByteArray.mk #[])=(zS t=true):=by simp [zS]
  simp only [Zac,Za9,Za3,zA_eq,zS_eq,pN,pB,pS,bareT]
  generalize zNum t=a
  generalize zN t=b
  generalize zB t=c
  generalize zS t=d
  generalize zA t=e
  by_cases k1:t.fKind=1
  · simp only [k1]; cases a <;> cases b <;> cases c <;> cases d <;> cases e <;> simp
  by_cases k4:t.fKind=4
  · simp only [k4]; cases a <;> cases b <;> cases c <;> cases d <;> cases e <;> simp
  by_cases k5:t.fKind=5
  · simp only [k5]; cases a <;> cases b <;> cases c <;> cases d <;> cases e <;> simp
  by_cases k2:t.fKind=2
  · simp only [k2]; cases a <;> cases b <;> cases c <;> cases d <;> cases e <;> simp
  by_cases k3:t.fKind=3
  · simp only [k3]; cases a <;> cases b <;> cases c <;> cases d <;> cases e <;> simp
  by_cases k9:t.fKind=9
  · simp only [k9]; cases a <;> cases b <;> cases c <;> cases d <;> cases e <;> simp
  by_cases k6:t.fKind=6
  · simp only [k6]; cases a <;> cases b <;> cases c <;> cases d <;> cases e <;> simp
  by_cases k8:t.fKind=8
  · simp only [k8]; cases a <;> cases b <;> cases c <;> cases d <;> cases e <;> simp
  · simp only [k1,k2,k3,k4,k5,k6,k8,k9]; cases a <;> cases b <;> cases c <;> cases d <;> cases e <;> simp [k1,k2,k3,k4,k5,k6,k8,k9]
end Go.Proofs.Ytllcnlonkloabaa.Sh
