import Derived.Test.YtllcnlonkloabaaLift3
import Derived.Laws.FloatBits
set_option linter.unusedVariables false
namespace Lift
open Go

def VV (r:Nat):Nat:=if r < 4503599627370496 then r else (4503599627370496+r % 4503599627370496) * 2 ^ (r / 4503599627370496 - 1)
theorem VV_low {r:Nat} (h:r < 4503599627370496):VV r=r:=if_pos h
theorem VV_high {r:Nat} (h:¬ r < 4503599627370496):VV r=(4503599627370496+r % 4503599627370496) * 2 ^ (r / 4503599627370496 - 1):=if_neg h
theorem VV_succ (r:Nat):VV r < VV (r+1):=by
  by_cases h1:r+1 < 4503599627370496
  · rw [VV_low h1,VV_low (by omega)]; omega
  · by_cases h2:r < 4503599627370496
    · have e:r=4503599627370495:=by omega
      subst e
      rw [VV_low h2,VV_high h1]; decide
    · rw [VV_high h2,VV_high h1]
      by_cases h3:r % 4503599627370496+1 < 4503599627370496
      · rw [show (r+1) % 4503599627370496=r % 4503599627370496+1 by omega,show (r+1) / 4503599627370496=r / 4503599627370496 by omega]
        exact Nat.mul_lt_mul_of_pos_right (by omega) (Nat.two_pow_pos _)
      · rw [show (r+1) % 4503599627370496=0 by omega,show (r+1) / 4503599627370496 - 1=(r / 4503599627370496 - 1)+1 by omega,Nat.pow_succ]
        have hp:=Nat.two_pow_pos (r / 4503599627370496 - 1)
        generalize 2 ^ (r / 4503599627370496 - 1)=p at hp ⊢
        calc (4503599627370496+r % 4503599627370496) * p < 9007199254740992 * p:=Nat.mul_lt_mul_of_pos_right (by omega) hp
          _=(4503599627370496+0) * (p * 2):=by omega
theorem VV_lt:∀ {r s:Nat},r < s→VV r < VV s
  | r,0,h=>absurd h (Nat.not_lt_zero r)
  | r,s+1,h=>by
    by_cases e:r=s
    · subst e; exact VV_succ r
    · exact Nat.lt_trans (VV_lt (r:=r) (s:=s) (by omega)) (VV_succ s)
theorem VV_lt_iff {r s:Nat}:VV r < VV s ↔ r < s:=by
  constructor
  · intro h
    rcases Nat.lt_trichotomy r s with h1 | h1 | h1
    · exact h1
    · subst h1; exact absurd h (Nat.lt_irrefl _)
    · exact absurd (VV_lt h1) (Nat.lt_asymm h)
  · exact VV_lt
theorem VV_inj {r s:Nat} (h:VV r=VV s):r=s:=by
  rcases Nat.lt_trichotomy r s with h1 | h1 | h1
  · have:=VV_lt h1; omega
  · exact h1
  · have:=VV_lt h1; omega
theorem VV_zero:VV 0=0:=rfl
theorem VV_pos {r:Nat}:0 < VV r ↔ 0 < r:=by
  rw [← VV_lt_iff (r:=0) (s:=r),VV_zero]

theorem nanW_rg (x:Nat):nanW x=decide (9218868437227405312 < rg x):=rfl
def sV (x:Nat):Int:=if sg x then -((VV (rg x):Nat):Int) else ((VV (rg x):Nat):Int)
theorem fm_least:FloatKind.f64.format.leastPlace=-1074:=by decide
theorem fm_frac:FloatKind.f64.format.fractionBits=52:=by decide
theorem Zhb {x:Nat} (h:rg x=9218868437227405312):FloatKind.f64.format.read x=.infinity (sg x):=by
  have h:x % 9223372036854775808=9218868437227405312:=h
  unfold Ieee.Format.read
  simp only [fm_sign,fm_bin,fm_inf]
  rw [if_neg (by omega),if_neg (by omega),if_pos (by omega)]
  rfl
def mg (r:Nat):Nat:=if r < 4503599627370496 then r else 4503599627370496+r % 4503599627370496
def ex (r:Nat):Nat:=if r < 4503599627370496 then 0 else r / 4503599627370496 - 1
theorem mg_ex (r:Nat):mg r * 2 ^ ex r=VV r:=by
  unfold mg ex VV
  by_cases h:r < 4503599627370496
  · rw [if_pos h,if_pos h,if_pos h]; simp
  · rw [if_neg h,if_neg h,if_neg h]
theorem ex_mg (r:Nat):ex r * 4503599627370496+mg r=r:=by
  unfold ex mg
  by_cases hb:r < 4503599627370496
  · rw [if_pos hb,if_pos hb]; omega
  · rw [if_neg hb,if_neg hb]; omega
theorem mg_lt (r:Nat):mg r < 9007199254740992:=by unfold mg; split <;> omega
theorem mg_zero {r:Nat}:mg r=0 ↔ r=0:=by unfold mg; split <;> omega
theorem Zh0 {x:Nat} (h:rg x < 9218868437227405312):FloatKind.f64.format.read x=.number (sg x) (mg (rg x)) (-1074+(ex (rg x):Int)):=by
  have h':x % 9223372036854775808 < 9218868437227405312:=h
  unfold Ieee.Format.read
  simp only [fm_sign,fm_bin,fm_inf,fm_least]
  unfold mg ex
  by_cases h1:x % 9223372036854775808 < 4503599627370496
  · rw [if_pos h1,if_pos (show rg x < 4503599627370496 from h1),if_pos (show rg x < 4503599627370496 from h1)]
    rfl
  · rw [if_neg h1,if_pos h',if_neg (show ¬ rg x < 4503599627370496 from h1),if_neg (show ¬ rg x < 4503599627370496 from h1)]
    rfl
theorem three (x:Nat):nanW x=true∨rg x=9218868437227405312∨rg x < 9218868437227405312:=by
  rw [nanW_rg,decide_eq_true_eq]
  omega
theorem nan_no {x:Nat} (h:nanW x=false):rg x=9218868437227405312∨rg x < 9218868437227405312:=by
  rcases three x with k | k
  · rw [k] at h; cases h
  · exact k

def cmp3 (a b:Int):Ordering:=if a < b then .lt else if a=b then .eq else .gt
theorem compare_int (a b:Int):compare a b=cmp3 a b:=rfl
theorem cmp3_scale (a b:Int) {k:Int} (h:0 < k):cmp3 (a * k) (b * k)=cmp3 a b:=by
  unfold cmp3
  have h1:a * k < b * k ↔ a < b:=Int.mul_lt_mul_right h
  have h2:a * k=b * k ↔ a=b:=Int.mul_eq_mul_right_iff (by omega)
  rw [if_congr h1 rfl (if_congr h2 rfl rfl)]
theorem cmp3_lt {a b:Int}:cmp3 a b=.lt ↔ a < b:=by unfold cmp3; split <;> (try split) <;> simp <;> omega
theorem cmp3_eq {a b:Int}:cmp3 a b=.eq ↔ a=b:=by unfold cmp3; split <;> (try split) <;> simp <;> omega
theorem cmp3_gt {a b:Int}:cmp3 a b=.gt ↔ b < a:=by unfold cmp3; split <;> (try split) <;> simp <;> omega
theorem signed_scale (s:Bool) (m a k:Nat):Ieee.signed s m a * ((2 ^ k:Nat):Int)=if s then -((m * 2 ^ (a+k):Nat):Int) else ((m * 2 ^ (a+k):Nat):Int):=by
  unfold Ieee.signed
  rw [Nat.shiftLeft_eq]
  have e:m * 2 ^ a * 2 ^ k=m * 2 ^ (a+k):=by rw [Nat.mul_assoc, ← Nat.pow_add]
  cases s with
  | true=>simp only [if_true]; rw [← e]; push_cast; rw [Int.neg_mul]
  | false=>simp only [Bool.false_eq_true,if_false]; rw [← e]; push_cast; rfl
theorem order_num (s t:Bool) (m n a b:Nat):Ieee.Datum.order (.number s m (-1074+(a:Int))) (.number t n (-1074+(b:Int)))=some (cmp3 (if s then -((m * 2 ^ a:Nat):Int) else ((m * 2 ^ a:Nat):Int)) (if t then -((n * 2 ^ b:Nat):Int) else ((n * 2 ^ b:Nat):Int))):=by
  show some (compare _ _)=_
  congr 1
  have e1:(-1074+(a:Int) - min (-1074+(a:Int)) (-1074+(b:Int))).toNat=a - min a b:=by omega
  have e2:(-1074+(b:Int) - min (-1074+(a:Int)) (-1074+(b:Int))).toNat=b - min a b:=by omega
  rw [e1,e2,compare_int, ← cmp3_scale _ _ (k:=((2 ^ (min a b):Nat):Int)) (by exact_mod_cast Nat.two_pow_pos _),signed_scale,signed_scale,
    show a - min a b+min a b=a by omega,show b - min a b+min a b=b by omega]
def UUn:Nat:=1074
def UU:Nat:=2 ^ UUn
theorem UU_def:2 ^ UUn=UU:=rfl
theorem VV_fin {r:Nat} (h:r < 9218868437227405312):VV r < VV 9218868437227405312:=VV_lt h
theorem ordW {x y:Nat} (hx:nanW x=false) (hy:nanW y=false):FloatKind.f64.format.order x y=some (cmp3 (sV x) (sV y)):=by
  unfold Ieee.Format.order
  have hp:0 < VV 9218868437227405312:=VV_pos.2 (by decide)
  rcases nan_no hx with hx | hx <;> rcases nan_no hy with hy | hy
  · rw [Zhb hx,Zhb hy]
    unfold sV
    rw [hx,hy]
    cases sg x <;> cases sg y
    · simp only [Bool.false_eq_true,if_false]; rw [cmp3_eq.2 rfl]; rfl
    · simp only [Bool.false_eq_true,if_false,if_true]; rw [cmp3_gt.2 (by omega)]; rfl
    · simp only [Bool.false_eq_true,if_false,if_true]; rw [cmp3_lt.2 (by omega)]; rfl
    · simp only [if_true]; rw [cmp3_eq.2 rfl]; rfl
  · have hf:=VV_fin hy
    rw [Zhb hx,Zh0 hy]
    unfold sV
    rw [hx]
    cases sg x
    · have:cmp3 ((VV 9218868437227405312:Nat):Int) (if sg y then -((VV (rg y):Nat):Int) else ((VV (rg y):Nat):Int))=.gt:=cmp3_gt.2 (by split <;> omega)
      simp only [Bool.false_eq_true,if_false]; rw [this]; rfl
    · have:cmp3 (-((VV 9218868437227405312:Nat):Int)) (if sg y then -((VV (rg y):Nat):Int) else ((VV (rg y):Nat):Int))=.lt:=cmp3_lt.2 (by split <;> omega)
      simp only [if_true]; rw [this]; rfl
  · have hf:=VV_fin hx
    rw [Zh0 hx,Zhb hy]
    unfold sV
    rw [hy]
    cases sg y
    · have:cmp3 (if sg x then -((VV (rg x):Nat):Int) else ((VV (rg x):Nat):Int)) ((VV 9218868437227405312:Nat):Int)=.lt:=cmp3_lt.2 (by split <;> omega)
      simp only [Bool.false_eq_true,if_false]; rw [this]; rfl
    · have:cmp3 (if sg x then -((VV (rg x):Nat):Int) else ((VV (rg x):Nat):Int)) (-((VV 9218868437227405312:Nat):Int))=.gt:=cmp3_gt.2 (by split <;> omega)
      simp only [if_true]; rw [this]; rfl
  · rw [Zh0 hx,Zh0 hy,order_num,mg_ex,mg_ex]
    rfl
theorem flt_eq {x y:Nat} (hx:nanW x=false) (hy:nanW y=false):flt x y=decide (sV x < sV y):=by
  unfold flt; rw [ordW hx hy,Bool.eq_iff_iff,decide_eq_true_eq, ← cmp3_lt]; simp
theorem fgt_eq {x y:Nat} (hx:nanW x=false) (hy:nanW y=false):fgt x y=decide (sV y < sV x):=by
  unfold fgt; rw [ordW hx hy,Bool.eq_iff_iff,decide_eq_true_eq, ← cmp3_gt]; simp
theorem feq_eq {x y:Nat} (hx:nanW x=false) (hy:nanW y=false):feq x y=decide (sV x=sV y):=by
  unfold feq; rw [ordW hx hy,Bool.eq_iff_iff,decide_eq_true_eq, ← cmp3_eq]; simp
theorem fne_eq {x y:Nat} (hx:nanW x=false) (hy:nanW y=false):fne x y=!decide (sV x=sV y):=by
  rw [← feq_eq hx hy]; rfl
theorem fne_self (x:Nat):fne x x=nanW x:=by
  cases h:nanW x with
  | true=>unfold fne; rw [ordN1 h]; rfl
  | false=>rw [fne_eq h h]; simp
theorem log_lo {n:Nat} (h:n ≠ 0):2 ^ n.log2≤n:=Nat.log2_self_le h
theorem log_hi (n:Nat):n < 2 ^ (n.log2+1):=Nat.lt_log2_self
theorem VV_at {q k:Nat} (h1:k≤9007199254740992) (h2:q=0∨4503599627370496≤k):VV (q * 4503599627370496+k)=k * 2 ^ q:=by
  by_cases hk:k < 4503599627370496
  · have hq:q=0:=by omega
    subst hq
    rw [VV_low (by omega)]; simp
  · by_cases h3:k < 9007199254740992
    · rw [VV_high (by omega),show (q * 4503599627370496+k) / 4503599627370496 - 1=q by omega,show (q * 4503599627370496+k) % 4503599627370496=k - 4503599627370496 by omega,show 4503599627370496+(k - 4503599627370496)=k by omega]
    · have e:k=9007199254740992:=by omega
      subst e
      rw [VV_high (by omega),show (q * 4503599627370496+9007199254740992) / 4503599627370496 - 1=q+1 by omega,show (q * 4503599627370496+9007199254740992) % 4503599627370496=0 by omega,Nat.pow_succ]
      omega
theorem cut_zero (way:Ieee.Toward) (neg:Bool) (n:Nat):way.cut neg n 0=n:=by
  have e:(1:Nat) <<< min 0 (n.log2+2)=1:=by rw [Nat.zero_min]; rfl
  unfold Ieee.Toward.cut
  simp only [e,Nat.div_one,Nat.mod_one,Nat.mul_zero]
  cases way <;> simp
theorem cut_whole (way:Ieee.Toward) (neg:Bool) (k d:Nat) (hk:k ≠ 0):way.cut neg (k * 2 ^ d) d=k:=by
  have hle:d≤(k * 2 ^ d).log2:=(Nat.le_log2 (by have:=Nat.two_pow_pos d; exact Nat.mul_ne_zero hk (by omega))).2 (Nat.le_mul_of_pos_left _ (by omega))
  have hp:=Nat.two_pow_pos d
  have e:(1:Nat) <<< min d ((k * 2 ^ d).log2+2)=2 ^ d:=by rw [show min d ((k * 2 ^ d).log2+2)=d by omega,Nat.shiftLeft_eq,Nat.one_mul]
  unfold Ieee.Toward.cut
  simp only [e,Nat.mul_div_cancel _ hp,Nat.mul_mod_left,Nat.mul_zero]
  cases way <;> simp <;> omega
theorem word_eq (neg:Bool) (r:Nat):FloatKind.f64.format.word neg r=if neg then 9223372036854775808+r else r:=by
  unfold Ieee.Format.word; rw [fm_sign]
theorem log2_mul_pow (k d:Nat) (h:k ≠ 0):(k * 2 ^ d).log2=k.log2+d:=by
  have hp:=Nat.two_pow_pos d
  have hne:k * 2 ^ d ≠ 0:=Nat.mul_ne_zero h (by omega)
  have a:=log_lo h
  have b:=log_hi k
  refine (Nat.log2_eq_iff hne).2 ⟨?_, ?_⟩
  · rw [Nat.pow_add]; exact Nat.mul_le_mul_right _ a
  · rw [show k.log2+d+1=(k.log2+1)+d by omega,Nat.pow_add]; exact Nat.mul_lt_mul_of_pos_right b hp
theorem nearest_exact {neg:Bool} {mag r a b:Nat} {place:Int} (hr:r≤9218868437227405312) (h:mag * 2 ^ a=VV r * 2 ^ b) (hp:place+(b:Int)=-1074+(a:Int)) :
    FloatKind.f64.format.nearest neg mag place=if neg then 9223372036854775808+r else r:=by
  by_cases hm:mag=0
  · have hv:VV r=0:=by
      subst hm
      have hp:=Nat.two_pow_pos b
      rw [Nat.zero_mul] at h
      exact (Nat.mul_eq_zero.1 h.symm).resolve_right (by omega)
    have hr0:r=0:=VV_inj (s:=0) (by rw [hv]; rfl)
    subst hr0
    unfold Ieee.Format.nearest
    rw [if_pos hm,word_eq]
  · have hv:VV r ≠ 0:=by
      intro e
      rw [e,Nat.zero_mul] at h
      have hp:=Nat.two_pow_pos a
      exact hm ((Nat.mul_eq_zero.1 h).resolve_right (by omega))
    have hr0:r ≠ 0:=fun e=>hv (by rw [e]; rfl)
    have hk:mg r ≠ 0:=fun e=>hr0 (mg_zero.1 e)
    have hq:=ex_mg r
    have hlog:mag.log2+a=(mg r).log2+(ex r+b):=by
      rw [← log2_mul_pow _ _ hm,h, ← mg_ex r,Nat.mul_assoc, ← Nat.pow_add,log2_mul_pow _ _ hk]
    have hlk:(ex r=0∧(mg r).log2≤52)∨(mg r).log2=52:=by
      have h1:=mg_lt r
      have h3:=log_lo hk
      have h4:(mg r).log2 < 53:=(Nat.log2_lt hk).2 (by omega)
      by_cases hb:r < 4503599627370496
      · left; unfold ex; rw [if_pos hb]; omega
      · right
        have h2:4503599627370496≤mg r:=by unfold mg; rw [if_neg hb]; omega
        have:52≤(mg r).log2:=(Nat.le_log2 hk).2 (by omega)
        omega
    unfold Ieee.Format.nearest
    rw [if_neg hm,word_eq]
    simp only [fm_frac,fm_least,fm_bin,fm_inf]
    have hlast:max (place+(mag.log2:Int) - ((52:Nat):Int)) (-1074)=-1074+(ex r:Int):=by omega
    rw [hlast]
    have hkept:Ieee.Toward.even.cut neg (mag <<< (place - (-1074+(ex r:Int))).toNat) ((-1074+(ex r:Int)) - place).toNat=mg r:=by
      have h':mag * 2 ^ a=mg r * 2 ^ (ex r+b):=by rw [h, ← mg_ex r,Nat.mul_assoc, ← Nat.pow_add]
      by_cases hc:ex r+b≤a
      · rw [show ((-1074+(ex r:Int)) - place).toNat=0 by omega,show (place - (-1074+(ex r:Int))).toNat=a - (ex r+b) by omega,cut_zero,Nat.shiftLeft_eq]
        refine Nat.eq_of_mul_eq_mul_right (Nat.two_pow_pos (ex r+b)) ?_
        rw [Nat.mul_assoc, ← Nat.pow_add,show a - (ex r+b)+(ex r+b)=a by omega,h']
      · rw [show ((-1074+(ex r:Int)) - place).toNat=ex r+b - a by omega,show (place - (-1074+(ex r:Int))).toNat=0 by omega,Nat.shiftLeft_eq,Nat.pow_zero,Nat.mul_one]
        have e:mag=mg r * 2 ^ (ex r+b - a):=by
          refine Nat.eq_of_mul_eq_mul_right (Nat.two_pow_pos a) ?_
          rw [h',Nat.mul_assoc, ← Nat.pow_add,show ex r+b - a+a=ex r+b by omega]
        rw [e,cut_whole _ _ _ _ hk]
    rw [hkept,show ((-1074+(ex r:Int)) - -1074).toNat=ex r by omega,hq,Nat.min_eq_left hr]
end Lift

set_option linter.unusedVariables false
namespace Lift
open Go Ieee

def wd (s:Bool) (r:Nat):Nat:=if s then 9223372036854775808+r else r
theorem rg_wd (s:Bool) {r:Nat} (h:r < 9223372036854775808):rg (wd s r)=r:=by unfold rg wd; cases s <;> simp <;> omega
theorem sg_wd (s:Bool) {r:Nat} (h:r < 9223372036854775808):sg (wd s r)=s:=by
  unfold sg wd
  cases s
  · simp only [Bool.false_eq_true,if_false]; rw [show r / 9223372036854775808=0 by omega]; rfl
  · simp only [if_true]; rw [show (9223372036854775808+r) / 9223372036854775808=1 by omega]; rfl
theorem nan_wd (s:Bool) {r:Nat} (h:r≤9218868437227405312):nanW (wd s r)=false:=by
  rw [nanW_rg,rg_wd s (by omega)]; exact decide_eq_false (by omega)
theorem wd_eq (s:Bool) (r:Nat):FloatKind.f64.format.word s r=wd s r:=word_eq s r
def fflip (x:Nat):Nat:=if x < 9223372036854775808 then x+9223372036854775808 else x - 9223372036854775808
theorem flip_wd (s:Bool) {r:Nat} (h:r < 9223372036854775808):fflip (wd s r)=wd (!s) r:=by
  unfold fflip wd
  cases s
  · simp only [Bool.false_eq_true,if_false,Bool.not_false,if_true]; rw [if_pos h]; omega
  · simp only [if_true,Bool.not_true,Bool.false_eq_true,if_false]; rw [if_neg (by omega)]; omega
theorem Z7k (r:Nat):wd false r=r:=by unfold wd; rw [if_neg (by simp)]
theorem even_cut (s:Bool) (n d:Nat):Ieee.Toward.even.cut s n d=Ieee.Toward.even.cut false n d:=by unfold Ieee.Toward.cut; rfl
def Zif (m:Nat) (p:Int):Nat:=FloatKind.f64.format.nearest false m p
theorem nearest_wd (s:Bool) (m:Nat) (p:Int):FloatKind.f64.format.nearest s m p=wd s (Zif m p):=by
  unfold Zif Ieee.Format.nearest
  by_cases h:m=0
  · rw [if_pos h,if_pos h,wd_eq,wd_eq,Z7k]
  · rw [if_neg h,if_neg h,wd_eq,wd_eq,Z7k]
    simp only [even_cut s]
theorem nearR_exact {mag r a b:Nat} {place:Int} (hr:r≤9218868437227405312) (h:mag * 2 ^ a=VV r * 2 ^ b) (hp:place+(b:Int)=-1074+(a:Int)):Zif mag place=r:=by
  unfold Zif
  rw [nearest_exact hr h hp,if_neg (by simp)]
theorem nearR_zero (p:Int):Zif 0 p=0:=by
  unfold Zif Ieee.Format.nearest
  rw [if_pos rfl,wd_eq,Z7k]
theorem write_num (s:Bool) (m:Nat) (p:Int):FloatKind.f64.format.write (.number s m p)=wd s (Zif m p):=nearest_wd s m p
theorem write_inf (s:Bool):FloatKind.f64.format.write (.infinity s)=wd s 9218868437227405312:=by
  show FloatKind.f64.format.word s FloatKind.f64.format.infRung=_
  rw [wd_eq,fm_inf]
theorem read_wd (s:Bool) {r:Nat} (h:r≤9218868437227405312):FloatKind.f64.format.read (wd s r)=if r=9218868437227405312 then .infinity s else .number s (mg r) (-1074+(ex r:Int)):=by
  have h1:=rg_wd s (r:=r) (by omega)
  have h2:=sg_wd s (r:=r) (by omega)
  by_cases c:r=9218868437227405312
  · rw [if_pos c,Zhb (by rw [h1]; exact c),h2]
  · rw [if_neg c,Zh0 (by rw [h1]; omega),h1,h2]
theorem product_comm (d e:Datum):d.product e=e.product d:=by
  cases d with
  | nan s f=>cases e <;> rfl
  | infinity s=>cases e with
    | nan t g=>rfl
    | infinity t=>simp only [Datum.product]; rw [Bool.xor_comm]
    | number t n j=>simp only [Datum.product]; try rw [Bool.xor_comm]
  | number s m i=>cases e with
    | nan t g=>rfl
    | infinity t=>simp only [Datum.product]; try rw [Bool.xor_comm]
    | number t n j=>simp only [Datum.product]; rw [Bool.xor_comm,Nat.mul_comm,Int.add_comm]
theorem fmul_comm (x y:Nat):fmul x y=fmul y x:=by
  unfold fmul Ieee.Format.mul
  rw [product_comm]
def oneR:Nat:=4607182418800017408
theorem one_mg:mg oneR=4503599627370496:=by decide
theorem one_ex:ex oneR=1022:=by decide
theorem fmul_one (s t:Bool) {r:Nat} (h:r≤9218868437227405312):fmul (wd s r) (wd t oneR)=some (wd (s ^^ t) r):=by
  unfold fmul Ieee.Format.mul
  rw [read_wd s h,read_wd t (r:=oneR) (by decide),if_neg (show ¬ oneR=9218868437227405312 by decide),one_mg,one_ex]
  by_cases c:r=9218868437227405312
  · rw [if_pos c]
    show some (FloatKind.f64.format.write (.infinity (s ^^ t)))=_
    rw [write_inf,c]
  · rw [if_neg c]
    show some (FloatKind.f64.format.write (.number (s ^^ t) _ _))=_
    rw [write_num,nearR_exact (a:=ex r) (b:=52) h ?_ (by omega)]
    rw [← mg_ex r,Nat.mul_assoc,Nat.mul_assoc,Nat.mul_comm (2 ^ ex r),show (4503599627370496:Nat)=2 ^ 52 by decide]

def cutE (n d:Nat):Nat:=Toward.even.cut false n d
theorem Zgq {n d:Nat} (h:d≤n.log2+2):cutE n d=n / 2 ^ d+(if 2 ^ d < 2 * (n % 2 ^ d)∨(2 ^ d=2 * (n % 2 ^ d)∧n / 2 ^ d % 2=1) then 1 else 0):=by
  have e:(1:Nat) <<< min d (n.log2+2)=2 ^ d:=by rw [Nat.min_eq_left h,Nat.shiftLeft_eq,Nat.one_mul]
  unfold cutE Toward.cut
  simp only [e]
  congr 1
  by_cases h1:2 ^ d < 2 * (n % 2 ^ d)
  · simp [h1]
  · by_cases h2:2 ^ d=2 * (n % 2 ^ d)∧n / 2 ^ d % 2=1
    · obtain ⟨a,b⟩:=h2
      rw [if_pos (.inr ⟨a,b⟩),decide_eq_false h1,b]
      simp [← a]
    · rw [if_neg (by rintro (h | h); exact h1 h; exact h2 h),decide_eq_false h1]
      simp only [Bool.false_or]
      by_cases a:2 ^ d=2 * (n % 2 ^ d)
      · have b:¬ n / 2 ^ d % 2=1:=fun b=>h2 ⟨a,b⟩
        simp [b]
      · have:(2 ^ d == 2 * (n % 2 ^ d))=false:=by simpa using a
        simp [this]
theorem Zf9 {m:Nat} (h:4503599627370496≤m):Zif m 0=min ((m.log2 - 52+1074) * 4503599627370496+cutE m (m.log2 - 52)) 9218868437227405312:=by
  have hm:m ≠ 0:=by omega
  have hl:52≤m.log2:=(Nat.le_log2 hm).2 (by omega)
  unfold Zif Format.nearest
  rw [if_neg hm,wd_eq,Z7k]
  simp only [fm_frac,fm_least,fm_bin,fm_inf]
  have e1:max ((0:Int)+(m.log2:Int) - ((52:Nat):Int)) (-1074)=((m.log2 - 52:Nat):Int):=by omega
  rw [e1]
  have e2:((0:Int) - ((m.log2 - 52:Nat):Int)).toNat=0:=by omega
  have e3:(((m.log2 - 52:Nat):Int) - 0).toNat=m.log2 - 52:=by omega
  have e4:(((m.log2 - 52:Nat):Int) - -1074).toNat=m.log2 - 52+1074:=by omega
  rw [e2,e3,e4,Nat.shiftLeft_zero]
  rfl
theorem cutE_le {n d:Nat} (h:d≤n.log2+2):cutE n d≤n / 2 ^ d+1:=by
  rw [Zgq h]; split <;> omega
theorem cut_sticky {t e low:Nat} (hlow:low < 2 ^ e) (ht:9223372036854775808≤t) (ht2:t < 18446744073709551616) :
    cutE (t * 2 ^ e+low) (11+e)=cutE (t ||| (if low ≠ 0 then 1 else 0)) 11:=by
  have hp:=Nat.two_pow_pos e
  have hT:t ||| (if low ≠ 0 then 1 else 0)=if low ≠ 0∧t % 2=0 then t+1 else t:=by
    by_cases c:low ≠ 0
    · rw [if_pos c]
      by_cases d:t % 2=0
      · rw [if_pos ⟨c,d⟩]
        have:=Nat.two_pow_add_eq_or_of_lt (show 1 < 2 ^ 1 by decide) (t / 2)
        rw [show 2 ^ 1 * (t / 2)=t by omega] at this
        exact this.symm
      · rw [if_neg (fun h=>d h.2)]
        have:=Nat.two_pow_add_eq_or_of_lt (show 1 < 2 ^ 1 by decide) (t / 2)
        have e1:t=2 ^ 1 * (t / 2) ||| 1:=by rw [← this]; omega
        rw [e1,Nat.or_assoc,Nat.or_self]
    · rw [if_neg c,if_neg (fun h=>c h.1),Nat.or_zero]
  have hn:t * 2 ^ e+low ≠ 0:=by have:=Nat.mul_le_mul_right (2 ^ e) ht; omega
  have hlogn:63+e≤(t * 2 ^ e+low).log2:=(Nat.le_log2 hn).2 (by
    rw [Nat.pow_add]; have:=Nat.mul_le_mul_right (2 ^ e) ht; rw [show (9223372036854775808:Nat)=2 ^ 63 by decide] at this; omega)
  rw [hT]
  have hlogT:63≤(if low ≠ 0∧t % 2=0 then t+1 else t).log2:=(Nat.le_log2 (by split <;> omega)).2 (by split <;> omega)
  rw [Zgq (by omega),Zgq (by omega)]
  have hdiv:(t * 2 ^ e+low) / 2 ^ (11+e)=t / 2048:=by
    rw [Nat.add_comm 11 e,Nat.pow_add, ← Nat.div_div_eq_div_mul,Nat.mul_comm t,Nat.mul_add_div hp,Nat.div_eq_of_lt hlow,Nat.add_zero]
  have hmod:(t * 2 ^ e+low) % 2 ^ (11+e)=t % 2048 * 2 ^ e+low:=by
    rw [Nat.add_comm 11 e,Nat.pow_add,Nat.mod_mul,Nat.mul_comm t,Nat.mul_add_mod,Nat.mod_eq_of_lt hlow,Nat.mul_add_div hp,Nat.div_eq_of_lt hlow,Nat.add_zero]
    rw [Nat.mul_comm (2 ^ e)]
    show low+t % 2048 * 2 ^ e=_
    omega
  have hgap:(2:Nat) ^ (11+e)=2048 * 2 ^ e:=by rw [Nat.pow_add]
  rw [hdiv,hmod,hgap,show (2:Nat) ^ 11=2048 by decide]
  have hlt:t % 2048 < 2048:=Nat.mod_lt _ (by decide)
  have hTd:(if low ≠ 0∧t % 2=0 then t+1 else t) / 2048=t / 2048:=by split <;> omega
  have hTm:(if low ≠ 0∧t % 2=0 then t+1 else t) % 2048=if low ≠ 0∧t % 2=0 then t % 2048+1 else t % 2048:=by split <;> omega
  rw [hTd,hTm]
  congr 1
  have hpar:t % 2=t % 2048 % 2:=by omega
  rw [hpar]
  generalize t % 2048=r at *
  generalize t / 2048=q at *
  generalize 2 ^ e=P at *
  -- the halves
  have key:(2048 * P < 2 * (r * P+low) ↔ (1024 < r∨(r=1024∧low ≠ 0)))∧(2048 * P=2 * (r * P+low) ↔ (r=1024∧low=0)):=by
    rcases Nat.lt_trichotomy r 1024 with h | h | h
    · have:=Nat.mul_le_mul_right P (show r+1≤1024 by omega)
      rw [Nat.add_mul,Nat.one_mul] at this
      omega
    · subst h; omega
    · have:=Nat.mul_le_mul_right P (show 1024+1≤r by omega)
      rw [Nat.add_mul,Nat.one_mul] at this
      omega
  refine if_congr ?_ rfl rfl
  rw [key.1,key.2]
  by_cases c:low ≠ 0∧r % 2=0
  · rw [if_pos c]; omega
  · rw [if_neg c]; omega
theorem Zcg {t e low:Nat} (hlow:low < 2 ^ e) (ht:t ≠ 0):(t * 2 ^ e+low).log2=t.log2+e:=by
  have hp:=Nat.two_pow_pos e
  have hne:t * 2 ^ e+low ≠ 0:=by have:=Nat.mul_le_mul_right (2 ^ e) (show 1≤t by omega); omega
  refine (Nat.log2_eq_iff hne).2 ⟨?_, ?_⟩
  · rw [Nat.pow_add]; have:=Nat.mul_le_mul_right (2 ^ e) (log_lo ht); omega
  · rw [show t.log2+e+1=t.log2+1+e by omega,Nat.pow_add]
    have:=Nat.mul_le_mul_right (2 ^ e) (show t+1≤2 ^ (t.log2+1) from log_hi t)
    rw [Nat.add_mul,Nat.one_mul] at this
    omega
theorem stick_num {e c T:Nat} (he:e≤900) (c1:c≤T / 2048+1) (c2:T / 2048≤c) (h1:9223372036854775808≤T) (h2:T < 18446744073709551616) :
    min ((11+e+1074) * 4503599627370496+c) 9218868437227405312=min ((11+1074) * 4503599627370496+c) 9218868437227405312+e * 4503599627370496∧min ((11+1074) * 4503599627370496+c) 9218868437227405312≤1087 * 4503599627370496∧1086 * 4503599627370496≤min ((11+1074) * 4503599627370496+c) 9218868437227405312:=by
  omega
theorem nearR_sticky {t e low:Nat} (hlow:low < 2 ^ e) (ht:9223372036854775808≤t) (ht2:t < 18446744073709551616) (he:e≤900) :
    Zif (t * 2 ^ e+low) 0=Zif (t ||| (if low ≠ 0 then 1 else 0)) 0+e * 4503599627370496∧Zif (t ||| (if low ≠ 0 then 1 else 0)) 0≤1087 * 4503599627370496∧1086 * 4503599627370496≤Zif (t ||| (if low ≠ 0 then 1 else 0)) 0:=by
  have hs:=cut_sticky hlow ht ht2
  have hTb:9223372036854775808≤(t ||| (if low ≠ 0 then 1 else 0))∧(t ||| (if low ≠ 0 then 1 else 0)) < 18446744073709551616:=by
    refine ⟨Nat.le_trans ht Nat.left_le_or, ?_⟩
    have:(t ||| (if low ≠ 0 then 1 else 0)) < 2 ^ 64:=Nat.or_lt_two_pow ht2 (by split <;> decide)
    exact this
  generalize (t ||| (if low ≠ 0 then 1 else 0))=T at *
  have hlT:T.log2=63:=(Nat.log2_eq_iff (by omega)).2 ⟨by omega,by omega⟩
  have hlt:t.log2=63:=(Nat.log2_eq_iff (by omega)).2 ⟨by omega,by omega⟩
  have hln:=Zcg hlow (show t ≠ 0 by omega)
  have hge:4503599627370496≤t * 2 ^ e+low:=by
    have:=Nat.mul_le_mul_left t (Nat.two_pow_pos e); omega
  have hc1:=cutE_le (n:=T) (d:=11) (by omega)
  have hc2:T / 2048≤cutE T 11:=by rw [Zgq (by omega)]; exact Nat.le_add_right _ _
  rw [show (2:Nat) ^ 11=2048 by decide] at hc1
  rw [Zf9 hge,Zf9 (m:=T) (by omega),hln,hlt,hlT]
  rw [show 63+e - 52=11+e by omega,show 63 - 52=11 from rfl,hs]
  exact stick_num he hc1 hc2 hTb.1 hTb.2
theorem nearR_small {m r:Nat} (h:VV r=m * UU) (hr:r≤9218868437227405312):Zif m 0=r :=
  nearR_exact (a:=UUn) (b:=0) hr (by rw [h,UU_def,Nat.pow_zero,Nat.mul_one]) (by decide)
theorem fint_eq (n:Int):fint n=wd (decide (n < 0)) (Zif n.natAbs 0):=write_num _ _ _
theorem VV_bin (k:Nat):VV ((k+1) * 4503599627370496)=2 ^ (52+k):=by
  have:=VV_at (q:=k) (k:=4503599627370496) (by decide) (.inr (by decide))
  rw [show k * 4503599627370496+4503599627370496=(k+1) * 4503599627370496 by omega] at this
  rw [this,Nat.pow_add]
theorem xor_top (n:Nat) (h:n < 18446744073709551616):n ^^^ 9223372036854775808=fflip n:=by
  have hS:(9223372036854775808:Nat)=2 ^ 63:=by decide
  have h1:(n ^^^ 9223372036854775808) % 2 ^ 63=n % 2 ^ 63:=by
    rw [Nat.xor_mod_two_pow,show (9223372036854775808:Nat) % 2 ^ 63=0 by decide,Nat.xor_zero]
  have h2:(n ^^^ 9223372036854775808) / 2 ^ 63=(n / 2 ^ 63) ^^^ 1:=by
    rw [← Nat.shiftRight_eq_div_pow, ← Nat.shiftRight_eq_div_pow,Nat.shiftRight_xor_distrib]
    rfl
  rw [← hS] at h1 h2
  have h3:=Nat.div_add_mod (n ^^^ 9223372036854775808) 9223372036854775808
  rw [h1,h2] at h3
  unfold fflip
  by_cases c:n < 9223372036854775808
  · rw [show n / 9223372036854775808=0 by omega,Nat.zero_xor] at h3
    rw [if_pos c]; omega
  · rw [show n / 9223372036854775808=1 by omega,Nat.xor_self] at h3
    rw [if_neg c]; omega
theorem fneg_eq {x:Nat} (h:x < 18446744073709551616):fneg x=fflip x:=by
  show x ^^^ 2 ^ (11+52)=_
  rw [show (2:Nat) ^ (11+52)=9223372036854775808 by decide,xor_top x h]
theorem Zg4 (R:Nat) (h:R≤9218868437227405312):fflip R=wd true R:=by
  have:=flip_wd false (r:=R) (by omega)
  rwa [Z7k] at this
theorem band_i64_exp {a:Nat} (h:a < 2048):band .i64 (a:Int) 2047=(a:Int):=by
  unfold band
  have e1:(BitVec.ofInt (IntKind.bits .i64) (a:Int)).toNat=a:=ofI (by show a < 2 ^ 64; omega)
  have e2:(BitVec.ofInt (IntKind.bits .i64) (2047:Int)).toNat=2 ^ 11 - 1:=by decide
  rw [BitVec.toNat_and,e1,e2,and_mask,Nat.mod_eq_of_lt h,Zip _ (by omega) (by omega)]
theorem bandn_exp {n:Nat} (h:n < 9223372036854775808):Zi2 .u64 (n:Int) 9218868437227405312=((n % 4503599627370496:Nat):Int):=by
  unfold Zi2
  have e1:(BitVec.ofInt (IntKind.bits .u64) (n:Int)).toNat=n:=ofI (by show n < 2 ^ 64; omega)
  have e2:(~~~ (BitVec.ofInt (IntKind.bits .u64) (9218868437227405312:Int))).toNat=2 ^ 63 ||| (2 ^ 52 - 1):=by decide
  have e3:n &&& 2 ^ 63=0:=Nat.eq_of_testBit_eq fun i=>by
    rw [Nat.testBit_and,Nat.testBit_two_pow,Nat.zero_testBit]
    by_cases hi:63=i
    · subst hi; rw [Nat.testBit_lt_two_pow (by omega)]; rfl
    · rw [decide_eq_false hi,Bool.and_false]
  rw [BitVec.toNat_and,e1,e2,Nat.and_or_distrib_left,e3,Nat.zero_or,and_mask,show (2:Nat) ^ 52=4503599627370496 by decide]
  exact Ziq _ (by omega) (by omega)
theorem bor_exp {E f:Nat} (h:f < 4503599627370496) (hE:E < 2048):bor .u64 (f:Int) ((E * 4503599627370496:Nat):Int)=((E * 4503599627370496+f:Nat):Int):=by
  rw [bor_u64 (by omega) (by omega)]
  congr 1
  have:=Nat.two_pow_add_eq_or_of_lt (show f < 2 ^ 52 by omega) E
  rw [show (2:Nat) ^ 52=4503599627370496 by decide] at this
  rw [Nat.or_comm,Nat.mul_comm E, ← this]
end Lift
