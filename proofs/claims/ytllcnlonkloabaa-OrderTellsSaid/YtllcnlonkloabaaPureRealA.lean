import Derived.Test.YtllcnlonkloabaaPureCmpNum
import Derived.Laws.FloatBits
import Derived.KernelRfl
set_option linter.unusedVariables false
set_option linter.unusedSimpArgs false
namespace Go.Proofs.Ytllcnlonkloabaa.Sh
open Go Lift Go.Proofs
open Go.IntKind (wrap)
def cleanW (b:Int):Int:=if nanW b.toNat then 9221120237041090561 else b
structure W64 (b:Int):Prop where
 lo:0≤b
 hi:b≤18446744073709551615
theorem cleanW_w {b:Int} (h:W64 b):W64 (cleanW b):=by unfold cleanW; split; exact ⟨by decide,by decide⟩; exact h
theorem nan_NN:nanW (9221120237041090561:Int).toNat=true:=by decide
theorem cleanW_id {b:Int} (h:nanW b.toNat=true→b=9221120237041090561):cleanW b=b:=by
 unfold cleanW
 split
 ·rename_i hn; exact (h hn).symm
 ·rfl
theorem rnan_ev (b:Int) (h:W64 b):Ev (fun N=>Z48 N b) (nanW b.toNat):=by
 have e:decide (bandn .u64 b (9223372036854775808:Int) > (9218868437227405312:Int))=nanW b.toNat:=by
  rw [bandn_63 b h.lo (by have:=h.hi; omega),nanW_rg]
  unfold rg
  exact decide_eq_decide.2 (by have:=h.lo; omega)
 rw [← e]
 exact Ev.now _
theorem rclean_ev (b:Int) (h:W64 b):Ev (fun N=>Z4u N b) (cleanW b):=by
 refine Ev.bind (rnan_ev b h) ?_
 unfold cleanW
 exact Ev.iff (fun _=>Ev.now _) (fun _=>Ev.now _)
def keyW (b:Int):Int:=if nanW b.toNat then 18446744073709551615 else if sg b.toNat then 18446744073709551615 - b else b+9223372036854775808
theorem sg_ge {b:Int} (h:W64 b):sg b.toNat=decide (9223372036854775808≤b):=by
 have h0:=h.lo
 have h1:=h.hi
 unfold sg
 by_cases c:9223372036854775808≤b
 ·rw [decide_eq_true c,show b.toNat / 9223372036854775808=1 by omega]; rfl
 ·rw [decide_eq_false c,show b.toNat / 9223372036854775808=0 by omega]; rfl
theorem bxor_max (b:Int) (h:W64 b):bxor .u64 (IntKind.max .u64) b=18446744073709551615 - b:=by
 obtain ⟨n,rfl⟩:=ul h.lo
 have hn:n < 18446744073709551616:=by have:=h.hi; omega
 unfold bxor
 have e1:(BitVec.ofInt (IntKind.bits .u64) (n:Int))=BitVec.ofNat 64 n:=by
  show BitVec.ofInt 64 (n:Int)=_
  rw [BitVec.ofInt_natCast]
 have e2:(BitVec.ofInt (IntKind.bits .u64) (IntKind.max .u64))=BitVec.allOnes 64:=by show BitVec.ofInt 64 18446744073709551615=BitVec.allOnes 64; decide
 have e3:BitVec.allOnes 64 ^^^ BitVec.ofNat 64 n=(~~~ (BitVec.ofNat 64 n)):=by
  rw [BitVec.xor_comm,BitVec.xor_allOnes]
 rw [e1,e2]
 show wrap .u64 ((BitVec.allOnes 64 ^^^ BitVec.ofNat 64 n).toNat:Int)=_
 rw [e3,BitVec.toNat_not,BitVec.toNat_ofNat,Nat.mod_eq_of_lt (by omega),wrapU _ (by omega) (by omega)]
 omega
theorem bor_63 (b:Int) (h0:0≤b) (h1:b < 9223372036854775808):bor .u64 b 9223372036854775808=b+9223372036854775808:=by
 obtain ⟨n,rfl⟩:=ul h0
 have:=bor_u64 (a:=n) (b:=9223372036854775808) (by omega) (by decide)
 rw [show ((9223372036854775808:Nat):Int)=9223372036854775808 from rfl] at this
 rw [this,show (9223372036854775808:Nat)=2 ^ 63 by decide,or_top (by omega)]
 omega
theorem rkey_ev (b:Int) (h:W64 b):Ev (fun N=>Z7j N b) (keyW b):=by
 have h0:=h.lo
 have h1:=h.hi
 refine Ev.bind (rnan_ev b h) ?_
 have e:yh 63=9223372036854775808:=by decide
 unfold keyW
 rw [e,um _ (by decide),sg_ge h]
 refine Ev.iff (fun _=>Ev.now _) fun _=>?_
 by_cases c:9223372036854775808≤b
 ·rw [show (if decide (9223372036854775808≤b)=true then 18446744073709551615 - b else b+9223372036854775808)=18446744073709551615 - b from if_pos (decide_eq_true c),bxor_max b h]
  exact Ev.pos (by omega) (Ev.now _)
 ·rw [show (if decide (9223372036854775808≤b)=true then 18446744073709551615 - b else b+9223372036854775808)=b+9223372036854775808 from if_neg (by rw [decide_eq_true_eq]; exact c),bor_63 b h0 (by omega)]
  exact Ev.neg (by omega) (Ev.now _)
theorem key_place {a b:Int} (ha:W64 a) (hb:W64 b):keyW a < keyW b ↔ place a.toNat < place b.toNat:=by
 have a0:=ha.lo; have a1:=ha.hi; have b0:=hb.lo; have b1:=hb.hi
 have na:nanW a.toNat=decide (9218868437227405312 < a.toNat % 9223372036854775808):=rfl
 have nb:nanW b.toNat=decide (9218868437227405312 < b.toNat % 9223372036854775808):=rfl
 unfold keyW place
 rw [sg_ge ha,sg_ge hb,na,nb]
 unfold rg
 simp only [decide_eq_true_eq]
 repeat' split
 all_goals omega
theorem rcmp_ev (a b:Int) (ha:W64 a) (hb:W64 b):Ev (fun N=>Za5 N a b) (sgn (place (cleanW a).toNat - place (cleanW b).toNat)):=by
 have wa:=cleanW_w ha
 have wb:=cleanW_w hb
 refine Ev.bind (rclean_ev a ha) (Ev.bind (rkey_ev _ wa) (Ev.bind (rclean_ev b hb) (Ev.bind (rkey_ev _ wb) ?_)))
 have h1:=key_place wa wb
 have h2:=key_place wb wa
 have e:sgn (place (cleanW a).toNat - place (cleanW b).toNat)=if keyW (cleanW a) < keyW (cleanW b) then -1 else if keyW (cleanW a) > keyW (cleanW b) then 1 else 0:=by
  unfold sgn
  repeat' split
  all_goals omega
 rw [e]
 exact Ev.iff (fun _=>Ev.now _) fun _=>Ev.iff (fun _=>Ev.now _) fun _=>Ev.now _
end Go.Proofs.Ytllcnlonkloabaa.Sh
