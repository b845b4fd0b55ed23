import Derived.Test.YtllcnlonkloabaaPureOfB
import Derived.Test.YtllcnlonkloabaaPureRealA
set_option linter.unusedVariables false
set_option linter.unusedSimpArgs false
set_option maxRecDepth 100000
namespace Go.Proofs.Ytllcnlonkloabaa.Sh
open Go Lift Go.Proofs
theorem cut_sticky63 {t e low:Nat} (hlow:low < 2 ^ e) (ht:4611686018427387904≤t) (ht2:t < 9223372036854775808) :
    cutE (t * 2 ^ e+low) (10+e)=cutE (t ||| (if low ≠ 0 then 1 else 0)) 10:=by
  have hp:=Nat.two_pow_pos e
  have hT:t ||| (if low ≠ 0 then 1 else 0)=if low ≠ 0∧t % 2=0 then t+1 else t:=by
    by_cases c:low ≠ 0
    · rw [if_pos c]
      by_cases d:t % 2=0
      · rw [if_pos ⟨c,d⟩]
        have:=Nat.two_pow_add_eq_or_of_lt (show 1 < 2 ^ 1 by decide) (t / 2)
        rw [show 2 ^ 1 * (t / 2)=t by omega] at this
        exact this.symm
      · rw [if_neg (fun h=>d h.2)]
        have:=Nat.two_pow_add_eq_or_of_lt (show 1 < 2 ^ 1 by decide) (t / 2)
        have e1:t=2 ^ 1 * (t / 2) ||| 1:=by rw [← this]; omega
        rw [e1,Nat.or_assoc,Nat.or_self]
    · rw [if_neg c,if_neg (fun h=>c h.1),Nat.or_zero]
  have hn:t * 2 ^ e+low ≠ 0:=by have:=Nat.mul_le_mul_right (2 ^ e) ht; omega
  have hlogn:62+e≤(t * 2 ^ e+low).log2:=(Nat.le_log2 hn).2 (by
    rw [Nat.pow_add]; have:=Nat.mul_le_mul_right (2 ^ e) ht; rw [show (4611686018427387904:Nat)=2 ^ 62 by decide] at this; omega)
  rw [hT]
  have hlogT:62≤(if low ≠ 0∧t % 2=0 then t+1 else t).log2:=(Nat.le_log2 (by split <;> omega)).2 (by split <;> omega)
  rw [Zgq (by omega),Zgq (by omega)]
  have hdiv:(t * 2 ^ e+low) / 2 ^ (10+e)=t / 1024:=by
    rw [Nat.add_comm 10 e,Nat.pow_add, ← Nat.div_div_eq_div_mul,Nat.mul_comm t,Nat.mul_add_div hp,Nat.div_eq_of_lt hlow,Nat.add_zero]
  have hmod:(t * 2 ^ e+low) % 2 ^ (10+e)=t % 1024 * 2 ^ e+low:=by
    rw [Nat.add_comm 10 e,Nat.pow_add,Nat.mod_mul,Nat.mul_comm t,Nat.mul_add_mod,Nat.mod_eq_of_lt hlow,Nat.mul_add_div hp,Nat.div_eq_of_lt hlow,Nat.add_zero]
    rw [Nat.mul_comm (2 ^ e)]
    show low+t % 1024 * 2 ^ e=_
    omega
  have hgap:(2:Nat) ^ (10+e)=1024 * 2 ^ e:=by rw [Nat.pow_add]
  rw [hdiv,hmod,hgap,show (2:Nat) ^ 10=1024 by decide]
  have hlt:t % 1024 < 1024:=Nat.mod_lt _ (by decide)
  have hTd:(if low ≠ 0∧t % 2=0 then t+1 else t) / 1024=t / 1024:=by split <;> omega
  have hTm:(if low ≠ 0∧t % 2=0 then t+1 else t) % 1024=if low ≠ 0∧t % 2=0 then t % 1024+1 else t % 1024:=by split <;> omega
  rw [hTd,hTm]
  congr 1
  have hpar:t % 2=t % 1024 % 2:=by omega
  rw [hpar]
  generalize t % 1024=r at *
  generalize t / 1024=q at *
  generalize 2 ^ e=P at *
  -- the halves
  have key:(1024 * P < 2 * (r * P+low) ↔ (512 < r∨(r=512∧low ≠ 0)))∧(1024 * P=2 * (r * P+low) ↔ (r=512∧low=0)):=by
    rcases Nat.lt_trichotomy r 512 with h | h | h
    · have:=Nat.mul_le_mul_right P (show r+1≤512 by omega)
      rw [Nat.add_mul,Nat.one_mul] at this
      omega
    · subst h; omega
    · have:=Nat.mul_le_mul_right P (show 512+1≤r by omega)
      rw [Nat.add_mul,Nat.one_mul] at this
      omega
  refine if_congr ?_ rfl rfl
  rw [key.1,key.2]
  by_cases c:low ≠ 0∧r % 2=0
  · rw [if_pos c]; omega
  · rw [if_neg c]; omega
theorem stick_num63 {e c T:Nat} (he:e≤900) (c1:c≤T / 1024+1) (c2:T / 1024≤c) (h1:4611686018427387904≤T) (h2:T < 9223372036854775808) :
    min ((10+e+1074) * 4503599627370496+c) 9218868437227405312=min ((10+1074) * 4503599627370496+c) 9218868437227405312+e * 4503599627370496∧min ((10+1074) * 4503599627370496+c) 9218868437227405312≤1086 * 4503599627370496∧1085 * 4503599627370496≤min ((10+1074) * 4503599627370496+c) 9218868437227405312:=by
  omega
theorem nearR_sticky63 {t e low:Nat} (hlow:low < 2 ^ e) (ht:4611686018427387904≤t) (ht2:t < 9223372036854775808) (he:e≤900) :
    Zif (t * 2 ^ e+low) 0=Zif (t ||| (if low ≠ 0 then 1 else 0)) 0+e * 4503599627370496∧Zif (t ||| (if low ≠ 0 then 1 else 0)) 0≤1086 * 4503599627370496∧1085 * 4503599627370496≤Zif (t ||| (if low ≠ 0 then 1 else 0)) 0:=by
  have hs:=cut_sticky63 hlow ht ht2
  have hTb:4611686018427387904≤(t ||| (if low ≠ 0 then 1 else 0))∧(t ||| (if low ≠ 0 then 1 else 0)) < 9223372036854775808:=by
    refine ⟨Nat.le_trans ht Nat.left_le_or, ?_⟩
    have:(t ||| (if low ≠ 0 then 1 else 0)) < 2 ^ 63:=Nat.or_lt_two_pow ht2 (by split <;> decide)
    exact this
  generalize (t ||| (if low ≠ 0 then 1 else 0))=T at *
  have hlT:T.log2=62:=(Nat.log2_eq_iff (by omega)).2 ⟨by omega,by omega⟩
  have hlt:t.log2=62:=(Nat.log2_eq_iff (by omega)).2 ⟨by omega,by omega⟩
  have hln:=Zcg hlow (show t ≠ 0 by omega)
  have hge:4503599627370496≤t * 2 ^ e+low:=by
    have:=Nat.mul_le_mul_left t (Nat.two_pow_pos e); omega
  have hc1:=cutE_le (n:=T) (d:=10) (by omega)
  have hc2:T / 1024≤cutE T 10:=by rw [Zgq (by omega)]; exact Nat.le_add_right _ _
  rw [show (2:Nat) ^ 10=1024 by decide] at hc1
  rw [Zf9 hge,Zf9 (m:=T) (by omega),hln,hlt,hlT]
  rw [show 62+e - 52=10+e by omega,show 62 - 52=10 from rfl,hs]
  exact stick_num63 he hc1 hc2 hTb.1 hTb.2
theorem bits_ge {n k:Nat} (h:2 ^ k≤n):k+1≤bitsN n:=by
  have hp:=Nat.two_pow_pos k
  have hq:n / 2 ^ k ≠ 0:=by
    have:=Nat.div_le_div_right (c:=2 ^ k) h
    rw [Nat.div_self hp] at this; omega
  rw [Zfp h]
  unfold bitsN
  rw [if_neg hq]
  omega
def upN (V:Nat):Nat:=bitsN V - 63
def uN (V:Nat):Nat:=V / 2 ^ upN V
def rN (V:Nat):Bool:=decide (V % 2 ^ upN V ≠ 0)
theorem st_low {V:Nat} (h:V < 9223372036854775808):upN V=0∧uN V=V∧rN V=false:=by
  have h0:upN V=0:=by have:=Ze2 (n:=V) (k:=63) h; unfold upN; omega
  refine ⟨h0, ?_, ?_⟩
  · unfold uN; rw [h0,Nat.pow_zero,Nat.div_one]
  · unfold rN; rw [h0,Nat.pow_zero,Nat.mod_one]; simp
theorem u_ge {V:Nat} (h:4611686018427387904≤V):4611686018427387904≤uN V:=by
  have hb:=bits_ge (n:=V) (k:=62) h
  by_cases c:bitsN V=63
  · have h0:upN V=0:=by unfold upN; omega
    unfold uN; rw [h0,Nat.pow_zero,Nat.div_one]; exact h
  · have hV:V ≠ 0:=by omega
    have hl:V.log2=62+upN V:=by unfold upN; unfold bitsN at *; rw [if_neg hV] at *; omega
    have:=log_lo hV
    rw [hl,Nat.pow_add] at this
    unfold uN
    have:=Nat.div_le_div_right (c:=2 ^ upN V) this
    rwa [Nat.mul_div_cancel _ (Nat.two_pow_pos _),show (2:Nat) ^ 62=4611686018427387904 by decide] at this
theorem u_lt (V:Nat):uN V < 9223372036854775808:=by
  by_cases hV:V=0
  · subst hV; decide
  · have:=log_hi V
    have hl:V.log2+1≤upN V+63:=by unfold upN bitsN; rw [if_neg hV]; omega
    have h2:=Nat.lt_of_lt_of_le this (Nat.pow_le_pow_right (show 0 < 2 by decide) hl)
    rw [Nat.pow_add] at h2
    exact Nat.div_lt_of_lt_mul h2
theorem st_step {V b:Nat} (hb:b < 2) (h:4611686018427387904≤V):upN (2 * V+b)=upN V+1∧uN (2 * V+b)=uN V∧rN (2 * V+b)=(rN V || decide (b=1)):=by
  have hb1:=bits_ge (n:=V) (k:=62) h
  have e1:bitsN (2 * V+b)=bitsN V+1:=by
    rw [Zfp (n:=2 * V+b) (k:=1) (by omega),Nat.pow_one,show (2 * V+b) / 2=V by omega]
  have e2:upN (2 * V+b)=upN V+1:=by unfold upN; omega
  have hp:=Nat.two_pow_pos (upN V)
  refine ⟨e2, ?_, ?_⟩
  · unfold uN
    rw [e2,Nat.pow_succ', ← Nat.div_div_eq_div_mul,show (2 * V+b) / 2=V by omega]
  · unfold rN
    rw [e2,Nat.pow_succ',Nat.mod_mul,show (2 * V+b) / 2=V by omega,show (2 * V+b) % 2=b by omega]
    generalize V % 2 ^ upN V=m
    by_cases c:m=0
    · subst c
      rcases Nat.lt_or_ge b 1 with d | d
      · rw [show b=0 by omega]; decide
      · rw [show b=1 by omega]; decide
    · rw [decide_eq_true c,decide_eq_true (show b+2 * m ≠ 0 by omega)]; rfl
theorem of_l1 (p0:Z06) (c3 c4:Int) (c5:Bool) (i x:Nat) (hx:idx p0.fMag (i:Int)=some (x:Int)) (hx32:x < 4294967296):∀ (d W:Nat),d≤32→(W+1) * 2 ^ d≤2 ^ 256→Ev (fun N=>Z36 N p0 c3 c4 c5 (i:Int) ((uN W:Nat):Int) ((upN W:Nat):Int) (rN W) ((d:Int) - 1)) (((uN (W * 2 ^ d+x % 2 ^ d):Nat):Int),((upN (W * 2 ^ d+x % 2 ^ d):Nat):Int),rN (W * 2 ^ d+x % 2 ^ d)):=by
  intro d
  induction d with
  | zero =>
    intro W hd hW
    rw [Nat.pow_zero,Nat.mul_one,Nat.mod_one,Nat.add_zero]
    refine Ev.step ?_ (fun N=>by rw [Z36])
    exact Ev.neg (by simp) (Ev.now _)
  | succ d ih =>
    intro W hd hW
    have hb:x / 2 ^ d % 2 < 2:=Nat.mod_lt _ (by decide)
    have hp:=Nat.two_pow_pos d
    have e:W * 2 ^ (d+1)+x % 2 ^ (d+1)=(2 * W+x / 2 ^ d % 2) * 2 ^ d+x % 2 ^ d:=by
      rw [Nat.pow_succ,Nat.mod_mul,Nat.add_mul,Nat.mul_comm (2 ^ d) (x / 2 ^ d % 2),Nat.mul_comm (2 ^ d) 2, ← Nat.mul_assoc,Nat.mul_comm W 2]
      omega
    have hW':(2 * W+x / 2 ^ d % 2+1) * 2 ^ d≤2 ^ 256:=by
      refine Nat.le_trans (Nat.mul_le_mul_right _ (show 2 * W+x / 2 ^ d % 2+1≤(W+1) * 2 by omega)) ?_
      rw [Nat.mul_assoc, ← Nat.pow_succ']
      exact hW
    have hi:=ih (2 * W+x / 2 ^ d % 2) (by omega) hW'
    rw [← e] at hi
    have hWl:W < 2 ^ 256:=by have:=Nat.le_mul_of_pos_right (W+1) (Nat.two_pow_pos (d+1)); omega
    have hbW:=Ze2 hWl
    have hup:upN W≤256:=by unfold upN; omega
    have hk:(((d+1:Nat):Int) - 1)=(d:Int):=by omega
    have hw:IntKind.wrap .i64 ((d:Int) - 1)=(d:Int) - 1:=Zip _ (by omega) (by omega)
    refine Ev.step ?_ (fun N=>by rw [Z36,hk,hw])
    refine Ev.pos (by omega) (Ev.bindc hx ?_)
    rw [Ziq _ (by omega) (by omega)]
    refine Ev.bindc (shr_nat (by omega)) ?_
    rw [band_one (by have:=Nat.div_le_self x (2 ^ d); omega)]
    by_cases c:W < 4611686018427387904
    · obtain ⟨s1,s2,s3⟩:=st_low (V:=W) (by omega)
      obtain ⟨t1,t2,t3⟩:=st_low (V:=2 * W+x / 2 ^ d % 2) (by omega)
      rw [t1,t2,t3] at hi
      rw [s1,s2,s3]
      have ew:IntKind.wrap .u64 ((IntKind.wrap .u64 ((W:Int) * (2:Int)))+((x / 2 ^ d % 2:Nat):Int))=((2 * W+x / 2 ^ d % 2:Nat):Int):=by
        rw [Ziq ((W:Int) * 2) (by omega) (by omega),Ziq _ (by omega) (by omega)]; omega
      rw [ew]
      exact Ev.pos (by omega) hi
    · obtain ⟨t1,t2,t3⟩:=st_step (V:=W) hb (by omega)
      have hu:=u_ge (V:=W) (by omega)
      rw [t1,t2,t3] at hi
      have ew:IntKind.wrap .i64 (((upN W:Nat):Int)+1)=((upN W+1:Nat):Int):=by rw [Zip _ (by omega) (by omega)]; omega
      rw [ew]
      refine Ev.neg (by omega) ?_
      cases hr:rN W with
      | true =>
        rw [hr,Bool.true_or] at hi
        exact Ev.pos rfl hi
      | false =>
        rw [hr,Bool.false_or] at hi
        have eb:(((x / 2 ^ d % 2:Nat):Int) == (1:Int))=decide (x / 2 ^ d % 2=1):=by
          rcases Nat.lt_or_ge (x / 2 ^ d % 2) 1 with q | q
          · rw [show x / 2 ^ d % 2=0 by omega]; rfl
          · rw [show x / 2 ^ d % 2=1 by omega]; rfl
        rw [eb]
        exact Ev.neg Bool.false_ne_true hi
theorem of_l0 (p0:Z06) (n:Nat) (hmag:p0.fMag=toL n) (hn:n < 2 ^ 256):∀ (d B:Nat),d≤(toL n).length→(n:Int)=((B * 2 ^ (32 * d):Nat):Int)+val ((toL n).take d)→Ev (fun N=>Z4l N p0 ((uN B:Nat):Int) ((upN B:Nat):Int) (rN B) ((d:Int) - 1)) (((uN n:Nat):Int),((upN n:Nat):Int),rN n):=by
  intro d
  induction d with
  | zero =>
    intro B hd hB
    have:n=B:=by
      rw [Nat.mul_zero,Nat.pow_zero,Nat.mul_one,List.take_zero] at hB
      simp [val] at hB; omega
    subst this
    refine Ev.step ?_ (fun N=>by rw [Z4l])
    exact Ev.neg (by simp) (Ev.now _)
  | succ d ih =>
    intro B hd hB
    have hlen:(toL n).length≤8:=by
      have:=Zgr (n:Int) 8 (by omega)
      rw [Int.toNat_natCast,TOP_eq] at this
      refine this.2 ?_
      have hT:TOP=((2 ^ 256:Nat):Int):=by decide
      rw [hT]; exact Int.ofNat_lt.2 hn
    obtain ⟨h0,h1⟩:=Z34 (Z8m n) d
    obtain ⟨x,hx⟩:=Int.eq_ofNat_of_zero_le h0
    have hx32:x < 4294967296:=by omega
    have hv:=Zay (toL n) d (by omega)
    have hnn:=Z4c (Z4n (Z8m n) d)
    have hB':(n:Int)=(((B * 2 ^ 32+x) * 2 ^ (32 * d):Nat):Int)+val ((toL n).take d):=by
      rw [hB,hv,hx,pow32,show 32 * (d+1)=32+32 * d by omega,Nat.pow_add,Nat.add_mul,Int.natCast_add,Nat.mul_assoc,Int.natCast_mul x,Int.mul_comm ((2 ^ (32 * d):Nat):Int)]
      omega
    have hle:(B * 2 ^ 32+x) * 2 ^ (32 * d)≤n:=by omega
    have hi:=ih (B * 2 ^ 32+x) (by omega) hB'
    have hB1:(B+1) * 2 ^ 32≤2 ^ 256:=by
      have h2:B * 2 ^ 32+x≤n:=Nat.le_trans (Nat.le_mul_of_pos_right _ (Nat.two_pow_pos _)) hle
      have h3:B * 2 ^ 32 < 2 ^ 256:=by omega
      have h4:(2:Nat) ^ 256=2 ^ 224 * 2 ^ 32:=by rw [← Nat.pow_add]
      rw [h4] at h3 ⊢
      exact Nat.mul_le_mul_right _ (Nat.lt_of_mul_lt_mul_right h3)
    have hix:idx p0.fMag (d:Int)=some (x:Int):=by rw [hmag,idx_dg (by omega),hx]
    have l1:=of_l1 p0 ((uN B:Nat):Int) ((upN B:Nat):Int) (rN B) d x hix hx32 32 B (by omega) hB1
    rw [Nat.mod_eq_of_lt (show x < 2 ^ 32 by omega)] at l1
    have hw:IntKind.wrap .i64 ((d:Int) - 1)=(d:Int) - 1:=Zip _ (by omega) (by omega)
    have hk:(((d+1:Nat):Int) - 1)=(d:Int):=by omega
    refine Ev.step ?_ (fun N=>by rw [Z4l,hk,hw])
    exact Ev.pos (by omega) (Ev.bind l1 hi)
theorem Of_num63 (n:Nat) (hn:n < 2 ^ 256) (hn0:n ≠ 0):∃ R,Zif (topW n (upN n)) 0=R∧4503599627370496≤R∧R+upN n * 4503599627370496=Zif n 0∧Zif n 0 < 9218868437227405312∧upN n≤193:=by
  have hb:=Ze2 hn
  refine ⟨_,rfl, ?_⟩
  by_cases c:bitsN n≤63
  · have e0:upN n=0:=by unfold upN; omega
    have hlt:n < 18446744073709551616:=by
      have:=log_hi n
      have h2:n.log2+1≤64:=by unfold bitsN at c; rw [if_neg hn0] at c; omega
      exact Nat.lt_of_lt_of_le this (Nat.pow_le_pow_right (show 0 < 2 by decide) h2)
    have et:topW n 0=n:=by unfold topW stk; rw [Nat.pow_zero,Nat.div_one,Nat.mod_one]; simp
    rw [e0,et]
    have:=nearR_range hn0 hlt
    omega
  · have hl:n.log2=62+upN n:=by unfold upN; unfold bitsN at c ⊢; rw [if_neg hn0] at c ⊢; omega
    have hu:upN n≤193:=by unfold upN; omega
    generalize upN n=drop at *
    have hp:=Nat.two_pow_pos drop
    have hdm:=Nat.div_add_mod n (2 ^ drop)
    have hlow:=Nat.mod_lt n hp
    have ht:4611686018427387904≤n / 2 ^ drop:=by
      have:=log_lo hn0
      rw [hl,Nat.pow_add] at this
      have:=Nat.div_le_div_right (c:=2 ^ drop) this
      rwa [Nat.mul_div_cancel _ hp,show (2:Nat) ^ 62=4611686018427387904 by decide] at this
    have ht2:n / 2 ^ drop < 9223372036854775808:=by
      refine Nat.div_lt_of_lt_mul ?_
      have:=log_hi n
      rw [hl,show 62+drop+1=drop+63 by omega,Nat.pow_add] at this
      exact this
    obtain ⟨k1,k2,k3⟩:=nearR_sticky63 (t:=n / 2 ^ drop) (e:=drop) (low:=n % 2 ^ drop) hlow ht ht2 (by omega)
    rw [Nat.mul_comm,hdm] at k1
    have et:topW n drop=n / 2 ^ drop ||| (if n % 2 ^ drop ≠ 0 then 1 else 0):=rfl
    rw [et]
    generalize Zif (n / 2 ^ drop ||| (if n % 2 ^ drop ≠ 0 then 1 else 0)) 0=R at *
    omega
theorem rbits_wd (s:Bool) {R:Nat} (h:R≤9218868437227405312):Ev (fun N=>Z1v N (wd s R)) ((wd s R:Nat):Int):=by
  have hlt:wd s R < 18446744073709551616:=by unfold wd; cases s <;> simp <;> omega
  have:=rclean_ev ((wd s R:Nat):Int) ⟨by omega,by omega⟩
  unfold cleanW at this
  rw [Int.toNat_natCast,nan_wd s h] at this
  exact Ev.bind this (Ev.now _)
theorem r2Of_ev (x:Int) (hx:(x.natAbs:Int) < TOP) (hm:Ev (fun N=>Z1x N (numN x)) true):Ev (fun N=>Z8n N (numN x)) ((wd (decide (x < 0)) (Zif x.natAbs 0):Nat):Int):=by
  have hT:TOP=((2 ^ 256:Nat):Int):=by decide
  have hn:x.natAbs < 2 ^ 256:=by rw [hT] at hx; exact Int.ofNat_lt.1 hx
  have hmag:(numN x).fMag=toL x.natAbs:=rfl
  have hneg:(numN x).fNeg=decide (x < 0):=rfl
  have hlen:(toL x.natAbs).length≤8:=Z7y x hx
  have hb:=Ze2 hn
  have hl0:=of_l0 (numN x) x.natAbs hmag hn (toL x.natAbs).length 0 (Nat.le_refl _) (by rw [List.take_length,Zgo]; simp)
  obtain ⟨z1,z2,z3⟩:=st_low (V:=0) (by decide)
  rw [z1,z2,z3] at hl0
  have fin:∀ R:Nat,R≤9218868437227405312→Ev (fun N=>if (numN x).fNeg=true then (Z1v N (Lift.fneg R)).bind fun r14=>some r14 else (Z1v N R).bind fun r15=>some r15) ((wd (decide (x < 0)) R:Nat):Int):=fun R hR=>by
    rw [hneg]
    by_cases c:x < 0
    · rw [decide_eq_true c]
      refine Ev.pos rfl ?_
      rw [fneg_eq (by omega),Zg4 R hR]
      exact Ev.bind (rbits_wd true hR) (Ev.now _)
    · rw [decide_eq_false c]
      refine Ev.neg (by simp) ?_
      have:=rbits_wd false hR
      rw [Z7k] at this ⊢
      exact Ev.bind this (Ev.now _)
  have hw:IntKind.wrap .i64 ((((numN x).fMag.length:Nat):Int) - (1:Int))=(((toL x.natAbs).length:Nat):Int) - 1:=by rw [hmag,Zip _ (by omega) (by omega)]
  unfold Z8n
  refine Ev.bind hm (Ev.neg (by simp) ?_)
  rw [hw]
  refine Ev.bind hl0 ?_
  have hstk:topW x.natAbs (upN x.natAbs)=if rN x.natAbs=true then uN x.natAbs ||| 1 else uN x.natAbs:=by
    unfold topW stk uN rN
    by_cases c:x.natAbs % 2 ^ upN x.natAbs ≠ 0
    · rw [if_pos c,if_pos (decide_eq_true c)]
    · rw [if_neg c,if_neg (by simpa using c),Nat.or_zero]
  have hul:=u_lt x.natAbs
  have bor1:bor .u64 ((uN x.natAbs:Nat):Int) (1:Int)=((uN x.natAbs ||| 1:Nat):Int):=band_top (b:=1) (by omega) (by decide)
  by_cases h0:x.natAbs=0
  · rw [h0,z1,z2,z3]
    refine Ev.neg Bool.false_ne_true ?_
    have hf:Lift.fint ((0:Nat):Int)=0:=by rw [fint_eq]; rfl
    rw [hf]
    have hl:Ev (fun N=>Z9l N 0 ((0:Nat):Int)) 0:=by
      have hB0:Ev (fun N=>Z5d N 0 ((0:Nat):Int)) (.inr ()):=by
        refine Ev.step ?_ (fun N=>by rw [Z5d])
        exact Ev.pos (by decide) (Ev.now _)
      exact Ev.bind (Ev.bind hB0 (Ev.now _)) (Ev.now _)
    have hz:Zif 0 0=0:=nearR_zero 0
    refine Ev.bind hl ?_
    rw [hz]
    exact fin 0 (by decide)
  · obtain ⟨R,hR,hR1,hR2,hR3,hd⟩:=Of_num63 x.natAbs hn h0
    have hld:=ldexp_up hR1 (e:=upN x.natAbs) (by omega) (by omega)
    rw [hR2] at hld
    rw [hstk] at hR
    cases hr:rN x.natAbs with
    | true =>
      rw [hr,if_pos rfl] at hR
      refine Ev.pos rfl ?_
      have hf:Lift.fint ((uN x.natAbs ||| 1:Nat):Int)=R:=by
        rw [fint_eq,decide_eq_false (by omega),Int.natAbs_natCast,hR,Z7k]
      rw [bor1,hf]
      exact Ev.bind hld (fin _ (by omega))
    | false =>
      rw [hr,if_neg Bool.false_ne_true] at hR
      refine Ev.neg Bool.false_ne_true ?_
      have hf:Lift.fint ((uN x.natAbs:Nat):Int)=R:=by
        rw [fint_eq,decide_eq_false (by omega),Int.natAbs_natCast,hR,Z7k]
      rw [hf]
      exact Ev.bind hld (fin _ (by omega))
end Go.Proofs.Ytllcnlonkloabaa.Sh
