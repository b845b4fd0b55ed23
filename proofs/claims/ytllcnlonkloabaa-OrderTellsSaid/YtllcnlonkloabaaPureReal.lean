import Derived.Test.YtllcnlonkloabaaInv
import Derived.Test.YtllcnlonkloabaaLift4
set_option linter.unusedVariables false
namespace Go.Proofs.Ytllcnlonkloabaa.Sh
open Go Lift Go.Proofs
theorem inU {z:Int} (h:InR .u64 z):0≤z∧z≤18446744073709551615:=by
 have h:(Lit.int .u64 z).wf=true:=h
 simp [Lit.wf,IntKind.min,IntKind.max,IntKind.bits,IntKind.signed] at h
 omega
def nanB (b:Int):Bool:=decide (b % 9223372036854775808 > 9218868437227405312)
theorem order_self (d:Ieee.Datum):d.order d=if d.isNaN then none else some .eq:=by
 cases d with
 |nan s f=>rfl
 |infinity s=>cases s <;> rfl
 |number s m i =>
  show some (compare _ _)=some _
  congr 1
  exact Std.ReflCmp.compare_self
theorem nan_read (x:Nat):(FloatKind.f64.format.read x).isNaN=decide (x % 9223372036854775808 > 9218868437227405312):=by
 have e1:FloatKind.f64.format.signWeight=9223372036854775808:=by decide
 have e2:FloatKind.f64.format.binade=4503599627370496:=by decide
 have e3:FloatKind.f64.format.infRung=9218868437227405312:=by decide
 unfold Ieee.Format.read
 simp only [e1,e2,e3]
 split
 ·rw [decide_eq_false (by omega)]; rfl
 ·split
  ·rw [decide_eq_false (by omega)]; rfl
  ·split
   ·rw [decide_eq_false (by omega)]; rfl
   ·rw [decide_eq_true (by omega)]; rfl
theorem fne_self (b:Int) (h:0≤b):fne b.toNat b.toNat=nanB b:=by
 unfold fne Ieee.Format.order
 rw [order_self,nan_read]
 unfold nanB
 have:(b.toNat % 9223372036854775808 > 9218868437227405312)=(b % 9223372036854775808 > 9218868437227405312):=propext (by omega)
 rw [show decide (b.toNat % 9223372036854775808 > 9218868437227405312)=decide (b % 9223372036854775808 > 9218868437227405312) from decide_eq_decide.2 (by omega)]
 by_cases hc:b % 9223372036854775808 > 9218868437227405312
 ·rw [decide_eq_true hc]; rfl
 ·rw [decide_eq_false hc]; rfl
theorem bandn_63 (b:Int) (h0:0≤b) (h1:b < 18446744073709551616):bandn .u64 b 9223372036854775808=b % 9223372036854775808:=by
 obtain ⟨n,rfl⟩:=ul h0
 unfold bandn
 have e1:(BitVec.ofInt (IntKind.bits .u64) (n:Int)).toNat=n:=by
  rw [wo]
  show ((n:Int) % ((2 ^ 64:Nat):Int)).toNat=n
  omega
 have e2:(~~~ (BitVec.ofInt (IntKind.bits .u64) (9223372036854775808:Int))).toNat=2 ^ 63 - 1:=by decide
 rw [BitVec.toNat_and,e1,e2,Nat.and_two_pow_sub_one_eq_mod,wrapU _ (by omega) (by omega)]
 omega
def realMay (b:Int):Bool:=decide (b=9221120237041090561) || !nanB b
end Go.Proofs.Ytllcnlonkloabaa.Sh
