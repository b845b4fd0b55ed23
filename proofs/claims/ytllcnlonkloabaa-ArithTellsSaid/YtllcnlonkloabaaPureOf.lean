import Derived.Test.YtllcnlonkloabaaPureCmpNum
import Derived.Test.YtllcnlonkloabaaLift4
import Derived.KernelRfl
set_option linter.unusedVariables false
set_option linter.unusedSimpArgs false
set_option maxRecDepth 100000
namespace Go.Proofs.Ytllcnlonkloabaa.Sh
open Go Lift Go.Proofs
def tab8:ByteArray:=ByteArray.mk #[0,1,2,2,3,3,3,3,4,4,4,4,4,4,4,4,5,5,5,5,5,5,5,5,5,5,5,5,5,5,5,5,6,6,6,6,6,6,6,6,6,6,6,6,6,6,6,6,6,6,6,6,6,6,6,6,6,6,6,6,6,6,6,6,7,7,7,7,7,7,7,7,7,7,7,7,7,7,7,7,7,7,7,7,7,7,7,7,7,7,7,7,7,7,7,7,7,7,7,7,7,7,7,7,7,7,7,7,7,7,7,7,7,7,7,7,7,7,7,7,7,7,7,7,7,7,7,7,8,8,8,8,8,8,8,8,8,8,8,8,8,8,8,8,8,8,8,8,8,8,8,8,8,8,8,8,8,8,8,8,8,8,8,8,8,8,8,8,8,8,8,8,8,8,8,8,8,8,8,8,8,8,8,8,8,8,8,8,8,8,8,8,8,8,8,8,8,8,8,8,8,8,8,8,8,8,8,8,8,8,8,8,8,8,8,8,8,8,8,8,8,8,8,8,8,8,8,8,8,8,8,8,8,8,8,8,8,8,8,8,8,8,8,8,8,8,8,8,8,8,8,8,8,8,8,8]
def bitsN (n:Nat):Nat:=if n=0 then 0 else n.log2+1
theorem tab8_all:∀ i:Nat,i < 256→sidx tab8 (i:Int)=some ((bitsN i:Nat):Int):=by
  have:(List.range 256).all (fun i=>sidx tab8 (i:Int) == some ((bitsN i:Nat):Int))=true:=by decide +kernel
  intro i hi
  have:=List.all_eq_true.1 this i (List.mem_range.2 hi)
  simpa using this
theorem Zfp {n k:Nat} (h:2 ^ k≤n):bitsN n=bitsN (n / 2 ^ k)+k:=by
  have hp:=Nat.two_pow_pos k
  have hq:n / 2 ^ k ≠ 0:=by
    have:=Nat.div_le_div_right (c:=2 ^ k) h
    rw [Nat.div_self hp] at this; omega
  have hn:n ≠ 0:=by omega
  unfold bitsN
  rw [if_neg hn,if_neg hq]
  have e:=Nat.div_add_mod n (2 ^ k)
  have:=Zcg (t:=n / 2 ^ k) (e:=k) (low:=n % 2 ^ k) (Nat.mod_lt _ hp) hq
  rw [Nat.mul_comm,e] at this
  omega
theorem u8_id {n:Nat} (h:n < 256):IntKind.wrap .u8 (n:Int)=(n:Int):=by rw [wrapU8]; omega
theorem Ze2 {n k:Nat} (h:n < 2 ^ k):bitsN n≤k:=by
  unfold bitsN
  split
  · omega
  · rename_i hn; have:=(Nat.log2_lt hn).2 h; omega
theorem len32_ev (n:Nat) (h:n < 4294967296):Ev (fun N=>Z7r N (n:Int)) ((bitsN n:Nat):Int):=by
  have p16:(2:Int) ^ (min (Int.toNat (16:Int)) (IntKind.bits .u32))=65536:=by decide
  have p8:(2:Int) ^ (min (Int.toNat (8:Int)) (IntKind.bits .u32))=256:=by decide
  have f16:Int.fdiv (n:Int) 65536=((n / 65536:Nat):Int):=by rw [Int.fdiv_eq_ediv_of_nonneg _ (by decide)]; omega
  have f8:Int.fdiv (n:Int) 256=((n / 256:Nat):Int):=by rw [Int.fdiv_eq_ediv_of_nonneg _ (by decide)]; omega
  have f168:Int.fdiv ((n / 65536:Nat):Int) 256=((n / 65536 / 256:Nat):Int):=by rw [Int.fdiv_eq_ediv_of_nonneg _ (by decide)]; omega
  have out:∀ (i c:Nat),i < 256→c≤24→bitsN n=bitsN i+c→IntKind.wrap .i64 ((c:Int)+IntKind.wrap .i64 ((bitsN i:Nat):Int))=((bitsN n:Nat):Int):=fun i c hi hc he=>by
    have:=Ze2 (n:=i) (k:=8) hi
    rw [Zip ((bitsN i:Nat):Int) (by omega) (by omega),Zip _ (by omega) (by omega),he]
    omega
  unfold Z7r
  simp only [p16,p8,f16,f8,f168]
  by_cases h1:65536≤n
  · refine Ev.pos (by omega) ?_
    by_cases h2:256≤n / 65536
    · refine Ev.pos (by omega) ?_
      rw [u8_id (by omega)]
      refine Ev.bindc (tab8_all _ (by omega)) ?_
      have e:=out (n / 65536 / 256) 24 (by omega) (by omega) (by rw [Zfp (k:=16) (by omega),show (2:Nat) ^ 16=65536 by decide,Zfp (n:=n / 65536) (k:=8) (by omega),show (2:Nat) ^ 8=256 by decide])
      have e24:IntKind.wrap .i64 ((16:Int)+(8:Int))=((24:Nat):Int):=by decide
      rw [e24]
      show Ev (fun _=>some (IntKind.wrap .i64 (((24:Nat):Int)+IntKind.wrap .i64 ((bitsN (n / 65536 / 256):Nat):Int)))) _
      rw [e]; exact Ev.now _
    · refine Ev.neg (by omega) ?_
      rw [u8_id (by omega)]
      refine Ev.bindc (tab8_all _ (by omega)) ?_
      have e:=out (n / 65536) 16 (by omega) (by omega) (by rw [Zfp (k:=16) (by omega),show (2:Nat) ^ 16=65536 by decide])
      show Ev (fun _=>some (IntKind.wrap .i64 (((16:Nat):Int)+IntKind.wrap .i64 ((bitsN (n / 65536):Nat):Int)))) _
      rw [e]; exact Ev.now _
  · refine Ev.neg (by omega) ?_
    by_cases h2:256≤n
    · refine Ev.pos (by omega) ?_
      rw [u8_id (by omega)]
      refine Ev.bindc (tab8_all _ (by omega)) ?_
      have e:=out (n / 256) 8 (by omega) (by omega) (by rw [Zfp (k:=8) (by omega),show (2:Nat) ^ 8=256 by decide])
      have e8:IntKind.wrap .i64 ((0:Int)+(8:Int))=((8:Nat):Int):=by decide
      rw [e8]
      show Ev (fun _=>some (IntKind.wrap .i64 (((8:Nat):Int)+IntKind.wrap .i64 ((bitsN (n / 256):Nat):Int)))) _
      rw [e]; exact Ev.now _
    · refine Ev.neg (by omega) ?_
      rw [u8_id (by omega)]
      refine Ev.bindc (tab8_all _ (by omega)) ?_
      have e:=out n 0 (by omega) (by omega) (by omega)
      show Ev (fun _=>some (IntKind.wrap .i64 (((0:Nat):Int)+IntKind.wrap .i64 ((bitsN n:Nat):Int)))) _
      rw [e]; exact Ev.now _
theorem toL_top {n:Nat} (hn:n ≠ 0):∃ k d low,(toL n).length=k+1∧dg (toL n) k=((d:Nat):Int)∧d ≠ 0∧d < 4294967296∧low < 2 ^ (32 * k)∧n=d * 2 ^ (32 * k)+low:=by
  have hne:toL n ≠ []:=fun e=>hn (by have:=Zgo n; rw [e] at this; simp [val] at this; omega)
  have hlen:0 < (toL n).length:=List.length_pos_iff.2 hne
  have hk:(toL n).length=((toL n).length - 1)+1:=by omega
  generalize (toL n).length - 1=k at hk
  have hnorm:=toL_norm n
  have htop:=hnorm.2 hne
  rw [show (toL n).length - 1=k by omega] at htop
  obtain ⟨h0,h1⟩:=Z34 (Z8m n) k
  obtain ⟨d,hd⟩:=Int.eq_ofNat_of_zero_le h0
  have hv:=Zds (toL n) k (by omega)
  rw [Zgo,Z8y,List.drop_eq_nil_of_le (show (toL n).length≤k+1 by omega)] at hv
  have hlow0:=Z4c (Z4n (Z8m n) k)
  have hlow1:=val_lt (Z4n (Z8m n) k)
  rw [List.length_take,Nat.min_eq_left (by omega),pow32] at hlow1
  obtain ⟨low,hlow⟩:=Int.eq_ofNat_of_zero_le hlow0
  rw [hlow,hd,pow32] at hv
  rw [hlow] at hlow1
  refine ⟨k,d,low,hk,hd, ?_, ?_, ?_, ?_⟩
  · intro e; subst e; exact htop hd
  · omega
  · exact Int.ofNat_lt.1 hlow1
  · have e:((2 ^ (32 * k):Nat):Int) * ((d:Int)+4294967296 * val [])=((d * 2 ^ (32 * k):Nat):Int):=by
      rw [show val ([]:List Int)=0 from rfl,Int.mul_zero,Int.add_zero,Int.natCast_mul,Int.mul_comm]
    rw [e] at hv
    omega
theorem length_ev (n:Nat) (h:n < 2 ^ 256):Ev (fun N=>Zc1 N (toL n)) ((bitsN n:Nat):Int):=by
  by_cases hn:n=0
  · subst hn
    rw [Z5t]
    exact Ev.pos rfl (Ev.now _)
  · obtain ⟨k,d,low,hk,hd,d0,d1,hl,he⟩:=toL_top hn
    have hk8:k < 8:=by
      apply Classical.byContradiction
      intro hc
      have h1:2 ^ 256≤2 ^ (32 * k):=Nat.pow_le_pow_right (by decide) (by omega)
      have h2:2 ^ (32 * k)≤d * 2 ^ (32 * k):=Nat.le_mul_of_pos_left _ (by omega)
      omega
    have hb:bitsN n=32 * k+bitsN d:=by
      have:=Zcg hl d0
      unfold bitsN
      rw [if_neg hn,if_neg d0,he,this]
      omega
    have hbd:=Ze2 (n:=d) (k:=32) (by omega)
    have w1:IntKind.wrap .i64 ((((toL n).length:Nat):Int) - 1)=(k:Int):=by rw [Zip _ (by omega) (by omega)]; omega
    unfold Zc1
    refine Ev.neg (by omega) ?_
    rw [w1]
    refine Ev.bindc (idx_dg (by omega)) ?_
    rw [hd]
    refine Ev.bind (len32_ev d d1) ?_
    have e:IntKind.wrap .i64 (IntKind.wrap .i64 ((32:Int) * (k:Int))+((bitsN d:Nat):Int))=((bitsN n:Nat):Int):=by
      rw [Zip ((32:Int) * (k:Int)) (by omega) (by omega),Zip _ (by omega) (by omega),hb]; omega
    show Ev (fun _=>some (IntKind.wrap .i64 (IntKind.wrap .i64 ((32:Int) * (k:Int))+((bitsN d:Nat):Int)))) _
    rw [e]
    exact Ev.now _
end Go.Proofs.Ytllcnlonkloabaa.Sh
