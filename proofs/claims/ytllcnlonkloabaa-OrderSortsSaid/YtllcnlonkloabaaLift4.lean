import Derived.Test.YtllcnlonkloabaaLift3
set_option linter.unusedVariables false
namespace Lift
open Go

def lexB:List UInt8→List UInt8→Int
  | [],[]=>0
  | [],_::_=>-1
  | _::_,[]=>1
  | x::xs,y::ys=>if x < y then -1 else if y < x then 1 else lexB xs ys
def cmpLL (X Y:List UInt8):Int :=
  match (List.range (min X.length Y.length)).find? fun i=>X[i]! != Y[i]! with
  | some i=>if X[i]! < Y[i]! then -1 else 1
  | none=>if X.length < Y.length then -1 else if X.length > Y.length then 1 else 0
theorem cmpLL_eq:∀ X Y:List UInt8,cmpLL X Y=lexB X Y
  | [],[]=>rfl
  | [],y::ys=>by simp [cmpLL,lexB]
  | x::xs,[]=>by simp [cmpLL,lexB]
  | x::xs,y::ys=>by
    have ih:=cmpLL_eq xs ys
    rw [lexB, ← ih]
    unfold cmpLL
    rw [show min (x::xs).length (y::ys).length=min xs.length ys.length+1 by simp only [List.length_cons]; omega,List.range_succ_eq_map,List.find?_cons]
    by_cases h:x=y
    · subst h
      simp only [List.getElem!_cons_zero,bne_self_eq_false,List.find?_map]
      have e:((fun i=>(x::xs)[i]! != (x::ys)[i]!) ∘ Nat.succ)=fun i=>xs[i]! != ys[i]! := by
        funext i
        simp
      rw [e]
      have h1:¬ x < x:=UInt8.lt_irrefl x
      rw [if_neg h1,if_neg h1]
      cases (List.range (min xs.length ys.length)).find? (fun i=>xs[i]! != ys[i]!) with
      | none=>simp only [Option.map_none,List.length_cons]; split <;> split <;> (try split) <;> (try split) <;> omega
      | some i=>simp
    · have hb:((x::xs)[0]! != (y::ys)[0]!)=true:=by simp [h]
      rw [hb]
      simp only [List.getElem!_cons_zero]
      by_cases h1:x < y
      · rw [if_pos h1,if_pos h1]
      · rw [if_neg h1,if_neg h1]
        have h2:y < x:=by
          rcases UInt8.lt_or_lt_of_ne h with h3 | h3
          · exact absurd h3 h1
          · exact h3
        rw [if_pos h2]
theorem scmp_eq (a b:ByteArray):scmp a b=lexB a.data.toList b.data.toList:=by
  rw [← cmpLL_eq]
  obtain ⟨⟨l⟩⟩:=a
  obtain ⟨⟨m⟩⟩:=b
  have e:∀ (k:List UInt8) (i:Nat),(ByteArray.mk ⟨k⟩)[i]! = k[i]! := fun k i=>by
    by_cases h:i < k.length
    · rw [getElem!_pos k i h,getElem!_pos (ByteArray.mk ⟨k⟩) i h]; rfl
    · rw [getElem!_neg k i h,getElem!_neg (ByteArray.mk ⟨k⟩) i h]
  unfold scmp Extern.BytealgCompare.cmp cmpLL
  simp only [e]
  rfl
theorem Zdx:∀ X Y:List UInt8,lexB X Y=0∨lexB X Y=-1∨lexB X Y=1
  | [],[]=>.inl rfl
  | [],_::_=>.inr (.inl rfl)
  | _::_,[]=>.inr (.inr rfl)
  | x::xs,y::ys=>by
    rw [lexB]
    split
    · exact .inr (.inl rfl)
    · split
      · exact .inr (.inr rfl)
      · exact Zdx xs ys
theorem lexB_turn:∀ X Y:List UInt8,lexB Y X=-(lexB X Y)
  | [],[]=>rfl
  | [],_::_=>rfl
  | _::_,[]=>rfl
  | x::xs,y::ys=>by
    rw [lexB,lexB,lexB_turn xs ys]
    by_cases h1:x < y
    · rw [if_pos h1,if_neg (UInt8.lt_asymm h1),if_pos h1]; rfl
    · rw [if_neg h1,if_neg h1]
      by_cases h2:y < x
      · rw [if_pos h2,if_pos h2]
      · rw [if_neg h2,if_neg h2]
structure Tr (p q r:Int):Prop where
  z1:p=0→r=q
  z2:q=0→r=p
  lo:p=-1→q=-1→r=-1
  hi:p=1→q=1→r=1
theorem lexB_tr:∀ X Y Z:List UInt8,Tr (lexB X Y) (lexB Y Z) (lexB X Z)
  | [],[],[]=>⟨fun _=>rfl,fun _=>rfl,fun h=>(by cases h),fun h=>(by cases h)⟩
  | [],[],_::_=>⟨fun _=>rfl,fun h=>(by cases h),fun h=>(by cases h),fun h=>(by cases h)⟩
  | [],_::_,[]=>⟨fun h=>(by cases h),fun h=>(by cases h),fun _ h=>(by cases h),fun h=>(by cases h)⟩
  | _::_,[],[]=>⟨fun h=>(by cases h),fun _=>rfl,fun h=>(by cases h),fun _ h=>(by cases h)⟩
  | _::_,[],_::_=>⟨fun h=>(by cases h),fun h=>(by cases h),fun h=>(by cases h),fun _ h=>(by cases h)⟩
  | [],y::ys,z::zs=>⟨fun h=>(by cases h),fun _=>rfl,fun _ _=>rfl,fun h=>(by cases h)⟩
  | x::xs,y::ys,[]=>⟨fun _=>rfl,fun h=>(by cases h),fun _ h=>(by cases h),fun _ _=>rfl⟩
  | x::xs,y::ys,z::zs=>by
    have ih:=lexB_tr xs ys zs
    have e1:∀ {a b:UInt8},a < b ↔ a.toNat < b.toNat:=UInt8.lt_iff_toNat_lt
    rw [lexB,lexB,lexB]
    rw [Z6m (e1 (a:=x) (b:=y)) rfl (Z6m (e1 (a:=y) (b:=x)) rfl rfl),Z6m (e1 (a:=y) (b:=z)) rfl (Z6m (e1 (a:=z) (b:=y)) rfl rfl),Z6m (e1 (a:=x) (b:=z)) rfl (Z6m (e1 (a:=z) (b:=x)) rfl rfl)]
    obtain ⟨i1,i2,i3,i4⟩:=ih
    have b1:=Zdx xs ys
    have b2:=Zdx ys zs
    have b3:=Zdx xs zs
    generalize x.toNat=a at *
    generalize y.toNat=b at *
    generalize z.toNat=c at *
    refine ⟨?_, ?_, ?_, ?_⟩ <;> (repeat' split) <;> omega
end Lift

set_option linter.unusedVariables false
namespace Lift
open Go

def VV (r:Nat):Nat:=if r < 4503599627370496 then r else (4503599627370496+r % 4503599627370496) * 2 ^ (r / 4503599627370496 - 1)
theorem VV_low {r:Nat} (h:r < 4503599627370496):VV r=r:=if_pos h
theorem Zb8 {r:Nat} (h:¬ r < 4503599627370496):VV r=(4503599627370496+r % 4503599627370496) * 2 ^ (r / 4503599627370496 - 1):=if_neg h
theorem VV_succ (r:Nat):VV r < VV (r+1):=by
  by_cases h1:r+1 < 4503599627370496
  · rw [VV_low h1,VV_low (by omega)]; omega
  · by_cases h2:r < 4503599627370496
    · have e:r=4503599627370495:=by omega
      subst e
      rw [VV_low h2,Zb8 h1]; decide
    · rw [Zb8 h2,Zb8 h1]
      by_cases h3:r % 4503599627370496+1 < 4503599627370496
      · rw [show (r+1) % 4503599627370496=r % 4503599627370496+1 by omega,show (r+1) / 4503599627370496=r / 4503599627370496 by omega]
        exact Nat.mul_lt_mul_of_pos_right (by omega) (Nat.two_pow_pos _)
      · rw [show (r+1) % 4503599627370496=0 by omega,show (r+1) / 4503599627370496 - 1=(r / 4503599627370496 - 1)+1 by omega,Nat.pow_succ]
        have hp:=Nat.two_pow_pos (r / 4503599627370496 - 1)
        generalize 2 ^ (r / 4503599627370496 - 1)=p at hp ⊢
        calc (4503599627370496+r % 4503599627370496) * p < 9007199254740992 * p:=Nat.mul_lt_mul_of_pos_right (by omega) hp
          _=(4503599627370496+0) * (p * 2):=by omega
theorem VV_lt:∀ {r s:Nat},r < s→VV r < VV s
  | r,0,h=>absurd h (Nat.not_lt_zero r)
  | r,s+1,h=>by
    by_cases e:r=s
    · subst e; exact VV_succ r
    · exact Nat.lt_trans (VV_lt (r:=r) (s:=s) (by omega)) (VV_succ s)
theorem VV_lt_iff {r s:Nat}:VV r < VV s ↔ r < s:=by
  constructor
  · intro h
    rcases Nat.lt_trichotomy r s with h1 | h1 | h1
    · exact h1
    · subst h1; exact absurd h (Nat.lt_irrefl _)
    · exact absurd (VV_lt h1) (Nat.lt_asymm h)
  · exact VV_lt
theorem VV_inj {r s:Nat} (h:VV r=VV s):r=s:=by
  rcases Nat.lt_trichotomy r s with h1 | h1 | h1
  · have:=VV_lt h1; omega
  · exact h1
  · have:=VV_lt h1; omega
theorem VV_zero:VV 0=0:=rfl
theorem VV_pos {r:Nat}:0 < VV r ↔ 0 < r:=by
  rw [← VV_lt_iff (r:=0) (s:=r),VV_zero]

theorem nanW_rg (x:Nat):nanW x=decide (9218868437227405312 < rg x):=rfl
def sV (x:Nat):Int:=if sg x then -((VV (rg x):Nat):Int) else ((VV (rg x):Nat):Int)
theorem fm_least:FloatKind.f64.format.leastPlace=-1074:=by decide
theorem fm_frac:FloatKind.f64.format.fractionBits=52:=by decide
theorem read_inf {x:Nat} (h:rg x=9218868437227405312):FloatKind.f64.format.read x=.infinity (sg x):=by
  have h:x % 9223372036854775808=9218868437227405312:=h
  unfold Ieee.Format.read
  simp only [fm_sign,fm_bin,fm_inf]
  rw [if_neg (by omega),if_neg (by omega),if_pos (by omega)]
  rfl
def mg (r:Nat):Nat:=if r < 4503599627370496 then r else 4503599627370496+r % 4503599627370496
def ex (r:Nat):Nat:=if r < 4503599627370496 then 0 else r / 4503599627370496 - 1
theorem mg_ex (r:Nat):mg r * 2 ^ ex r=VV r:=by
  unfold mg ex VV
  by_cases h:r < 4503599627370496
  · rw [if_pos h,if_pos h,if_pos h]; simp
  · rw [if_neg h,if_neg h,if_neg h]
theorem ex_mg (r:Nat):ex r * 4503599627370496+mg r=r:=by
  unfold ex mg
  by_cases hb:r < 4503599627370496
  · rw [if_pos hb,if_pos hb]; omega
  · rw [if_neg hb,if_neg hb]; omega
theorem mg_lt (r:Nat):mg r < 9007199254740992:=by unfold mg; split <;> omega
theorem mg_zero {r:Nat}:mg r=0 ↔ r=0:=by unfold mg; split <;> omega
theorem Zdh {x:Nat} (h:rg x < 9218868437227405312):FloatKind.f64.format.read x=.number (sg x) (mg (rg x)) (-1074+(ex (rg x):Int)):=by
  have h':x % 9223372036854775808 < 9218868437227405312:=h
  unfold Ieee.Format.read
  simp only [fm_sign,fm_bin,fm_inf,fm_least]
  unfold mg ex
  by_cases h1:x % 9223372036854775808 < 4503599627370496
  · rw [if_pos h1,if_pos (show rg x < 4503599627370496 from h1),if_pos (show rg x < 4503599627370496 from h1)]
    rfl
  · rw [if_neg h1,if_pos h',if_neg (show ¬ rg x < 4503599627370496 from h1),if_neg (show ¬ rg x < 4503599627370496 from h1)]
    rfl
theorem three (x:Nat):nanW x=true∨rg x=9218868437227405312∨rg x < 9218868437227405312:=by
  rw [nanW_rg,decide_eq_true_eq]
  omega
theorem nan_no {x:Nat} (h:nanW x=false):rg x=9218868437227405312∨rg x < 9218868437227405312:=by
  rcases three x with k | k
  · rw [k] at h; cases h
  · exact k

def cmp3 (a b:Int):Ordering:=if a < b then .lt else if a=b then .eq else .gt
theorem compare_int (a b:Int):compare a b=cmp3 a b:=rfl
theorem cmp3_scale (a b:Int) {k:Int} (h:0 < k):cmp3 (a * k) (b * k)=cmp3 a b:=by
  unfold cmp3
  have h1:a * k < b * k ↔ a < b:=Int.mul_lt_mul_right h
  have h2:a * k=b * k ↔ a=b:=Int.mul_eq_mul_right_iff (by omega)
  rw [Z6m h1 rfl (Z6m h2 rfl rfl)]
theorem cmp3_lt {a b:Int}:cmp3 a b=.lt ↔ a < b:=by unfold cmp3; split <;> (try split) <;> simp <;> omega
theorem cmp3_eq {a b:Int}:cmp3 a b=.eq ↔ a=b:=by unfold cmp3; split <;> (try split) <;> simp <;> omega
theorem cmp3_gt {a b:Int}:cmp3 a b=.gt ↔ b < a:=by unfold cmp3; split <;> (try split) <;> simp <;> omega
theorem signed_scale (s:Bool) (m a k:Nat):Ieee.signed s m a * ((2 ^ k:Nat):Int)=if s then -((m * 2 ^ (a+k):Nat):Int) else ((m * 2 ^ (a+k):Nat):Int):=by
  unfold Ieee.signed
  rw [Nat.shiftLeft_eq]
  have e:m * 2 ^ a * 2 ^ k=m * 2 ^ (a+k):=by rw [Nat.mul_assoc, ← Nat.pow_add]
  cases s with
  | true=>simp only [if_true]; rw [← e]; push_cast; rw [Int.neg_mul]
  | false=>simp only [Bool.false_eq_true,if_false]; rw [← e]; push_cast; rfl
theorem order_num (s t:Bool) (m n a b:Nat):Ieee.Datum.order (.number s m (-1074+(a:Int))) (.number t n (-1074+(b:Int)))=some (cmp3 (if s then -((m * 2 ^ a:Nat):Int) else ((m * 2 ^ a:Nat):Int)) (if t then -((n * 2 ^ b:Nat):Int) else ((n * 2 ^ b:Nat):Int))):=by
  show some (compare _ _)=_
  congr 1
  have e1:(-1074+(a:Int) - min (-1074+(a:Int)) (-1074+(b:Int))).toNat=a - min a b:=by omega
  have e2:(-1074+(b:Int) - min (-1074+(a:Int)) (-1074+(b:Int))).toNat=b - min a b:=by omega
  rw [e1,e2,compare_int, ← cmp3_scale _ _ (k:=((2 ^ (min a b):Nat):Int)) (by exact_mod_cast Nat.two_pow_pos _),signed_scale,signed_scale,
    show a - min a b+min a b=a by omega,show b - min a b+min a b=b by omega]
def infE:Nat:=2098
theorem VV_inf:VV 9218868437227405312=2 ^ infE:=by
  have e1:(4503599627370496+9218868437227405312 % 4503599627370496:Nat)=2 ^ 52:=by decide
  have e2:(9218868437227405312 / 4503599627370496 - 1:Nat)=infE - 52:=by decide
  have e3:52+(infE - 52)=infE:=rfl
  rw [Zb8 (by decide),e1,e2, ← Nat.pow_add,e3]
theorem VV_inf_ge (k:Nat) (h:k≤2098):2 ^ k≤VV 9218868437227405312:=by rw [VV_inf]; exact Nat.pow_le_pow_right (by decide) h
theorem VV_inf_lt (k:Nat) (h:2098 < k):VV 9218868437227405312 < 2 ^ k:=by rw [VV_inf]; exact Nat.pow_lt_pow_right (by decide) h
def UUn:Nat:=1074
def UU:Nat:=2 ^ UUn
theorem UU_def:2 ^ UUn=UU:=rfl
theorem UU_pos:0 < UU:=Nat.two_pow_pos _
theorem UU_two (a b:Nat) (h:a+b=1074):UU=2 ^ a * 2 ^ b:=by
  have h:a+b=UUn:=h
  rw [← Nat.pow_add,h]; rfl
theorem UU_up (a b:Nat) (h:b=a+1074):2 ^ b=2 ^ a * UU:=by
  have h:b=a+UUn:=h
  rw [h,Nat.pow_add]; rfl
theorem UU_ge (a:Nat) (h:a≤1074):2 ^ a≤UU:=Nat.pow_le_pow_right (by decide) (show a≤UUn from h)
theorem VV_fin {r:Nat} (h:r < 9218868437227405312):VV r < VV 9218868437227405312:=VV_lt h
theorem ordW {x y:Nat} (hx:nanW x=false) (hy:nanW y=false):FloatKind.f64.format.order x y=some (cmp3 (sV x) (sV y)):=by
  unfold Ieee.Format.order
  have hp:0 < VV 9218868437227405312:=VV_pos.2 (by decide)
  rcases nan_no hx with hx | hx <;> rcases nan_no hy with hy | hy
  · rw [read_inf hx,read_inf hy]
    unfold sV
    rw [hx,hy]
    cases sg x <;> cases sg y
    · simp only [Bool.false_eq_true,if_false]; rw [cmp3_eq.2 rfl]; rfl
    · simp only [Bool.false_eq_true,if_false,if_true]; rw [cmp3_gt.2 (by omega)]; rfl
    · simp only [Bool.false_eq_true,if_false,if_true]; rw [cmp3_lt.2 (by omega)]; rfl
    · simp only [if_true]; rw [cmp3_eq.2 rfl]; rfl
  · have hf:=VV_fin hy
    rw [read_inf hx,Zdh hy]
    unfold sV
    rw [hx]
    cases sg x
    · have:cmp3 ((VV 9218868437227405312:Nat):Int) (if sg y then -((VV (rg y):Nat):Int) else ((VV (rg y):Nat):Int))=.gt:=cmp3_gt.2 (by split <;> omega)
      simp only [Bool.false_eq_true,if_false]; rw [this]; rfl
    · have:cmp3 (-((VV 9218868437227405312:Nat):Int)) (if sg y then -((VV (rg y):Nat):Int) else ((VV (rg y):Nat):Int))=.lt:=cmp3_lt.2 (by split <;> omega)
      simp only [if_true]; rw [this]; rfl
  · have hf:=VV_fin hx
    rw [Zdh hx,read_inf hy]
    unfold sV
    rw [hy]
    cases sg y
    · have:cmp3 (if sg x then -((VV (rg x):Nat):Int) else ((VV (rg x):Nat):Int)) ((VV 9218868437227405312:Nat):Int)=.lt:=cmp3_lt.2 (by split <;> omega)
      simp only [Bool.false_eq_true,if_false]; rw [this]; rfl
    · have:cmp3 (if sg x then -((VV (rg x):Nat):Int) else ((VV (rg x):Nat):Int)) (-((VV 9218868437227405312:Nat):Int))=.gt:=cmp3_gt.2 (by split <;> omega)
      simp only [if_true]; rw [this]; rfl
  · rw [Zdh hx,Zdh hy,order_num,mg_ex,mg_ex]
    rfl
theorem flt_eq {x y:Nat} (hx:nanW x=false) (hy:nanW y=false):flt x y=decide (sV x < sV y):=by
  unfold flt; rw [ordW hx hy,Bool.eq_iff_iff,decide_eq_true_eq, ← cmp3_lt]; simp
theorem fgt_eq {x y:Nat} (hx:nanW x=false) (hy:nanW y=false):fgt x y=decide (sV y < sV x):=by
  unfold fgt; rw [ordW hx hy,Bool.eq_iff_iff,decide_eq_true_eq, ← cmp3_gt]; simp
theorem feq_eq {x y:Nat} (hx:nanW x=false) (hy:nanW y=false):feq x y=decide (sV x=sV y):=by
  unfold feq; rw [ordW hx hy,Bool.eq_iff_iff,decide_eq_true_eq, ← cmp3_eq]; simp
theorem fne_eq {x y:Nat} (hx:nanW x=false) (hy:nanW y=false):fne x y=!decide (sV x=sV y):=by
  rw [← feq_eq hx hy]; rfl
theorem fle_eq {x y:Nat} (hx:nanW x=false) (hy:nanW y=false):fle x y=decide (sV x≤sV y):=by
  unfold fle; rw [ordW hx hy,Bool.eq_iff_iff,decide_eq_true_eq]
  simp only [Bool.or_eq_true,beq_iff_eq,Option.some.injEq,cmp3_lt,cmp3_eq]
  omega
theorem fge_eq {x y:Nat} (hx:nanW x=false) (hy:nanW y=false):fge x y=decide (sV y≤sV x):=by
  unfold fge; rw [ordW hx hy,Bool.eq_iff_iff,decide_eq_true_eq]
  simp only [Bool.or_eq_true,beq_iff_eq,Option.some.injEq,cmp3_gt,cmp3_eq]
  omega
theorem fne_self (x:Nat):fne x x=nanW x:=by
  cases h:nanW x with
  | true=>unfold fne; rw [ordN1 h]; rfl
  | false=>rw [fne_eq h h]; simp
theorem log_lo {n:Nat} (h:n ≠ 0):2 ^ n.log2≤n:=Nat.log2_self_le h
theorem log_hi (n:Nat):n < 2 ^ (n.log2+1):=Nat.lt_log2_self
theorem VV_at {q k:Nat} (h1:k≤9007199254740992) (h2:q=0∨4503599627370496≤k):VV (q * 4503599627370496+k)=k * 2 ^ q:=by
  by_cases hk:k < 4503599627370496
  · have hq:q=0:=by omega
    subst hq
    rw [VV_low (by omega)]; simp
  · by_cases h3:k < 9007199254740992
    · rw [Zb8 (by omega),show (q * 4503599627370496+k) / 4503599627370496 - 1=q by omega,show (q * 4503599627370496+k) % 4503599627370496=k - 4503599627370496 by omega,show 4503599627370496+(k - 4503599627370496)=k by omega]
    · have e:k=9007199254740992:=by omega
      subst e
      rw [Zb8 (by omega),show (q * 4503599627370496+9007199254740992) / 4503599627370496 - 1=q+1 by omega,show (q * 4503599627370496+9007199254740992) % 4503599627370496=0 by omega,Nat.pow_succ]
      omega
theorem cut_zero (way:Ieee.Toward) (neg:Bool) (n:Nat):way.cut neg n 0=n:=by
  have e:(1:Nat) <<< min 0 (n.log2+2)=1:=by rw [Nat.zero_min]; rfl
  unfold Ieee.Toward.cut
  simp only [e,Nat.div_one,Nat.mod_one,Nat.mul_zero]
  cases way <;> simp
theorem cut_whole (way:Ieee.Toward) (neg:Bool) (k d:Nat) (hk:k ≠ 0):way.cut neg (k * 2 ^ d) d=k:=by
  have hle:d≤(k * 2 ^ d).log2:=(Nat.le_log2 (by have:=Nat.two_pow_pos d; exact Nat.mul_ne_zero hk (by omega))).2 (Nat.le_mul_of_pos_left _ (by omega))
  have hp:=Nat.two_pow_pos d
  have e:(1:Nat) <<< min d ((k * 2 ^ d).log2+2)=2 ^ d:=by rw [show min d ((k * 2 ^ d).log2+2)=d by omega,Nat.shiftLeft_eq,Nat.one_mul]
  unfold Ieee.Toward.cut
  simp only [e,Nat.mul_div_cancel _ hp,Nat.mul_mod_left,Nat.mul_zero]
  cases way <;> simp <;> omega
theorem word_eq (neg:Bool) (r:Nat):FloatKind.f64.format.word neg r=if neg then 9223372036854775808+r else r:=by
  unfold Ieee.Format.word; rw [fm_sign]
theorem log2_mul_pow (k d:Nat) (h:k ≠ 0):(k * 2 ^ d).log2=k.log2+d:=by
  have hp:=Nat.two_pow_pos d
  have hne:k * 2 ^ d ≠ 0:=Nat.mul_ne_zero h (by omega)
  have a:=log_lo h
  have b:=log_hi k
  refine (Nat.log2_eq_iff hne).2 ⟨?_, ?_⟩
  · rw [Nat.pow_add]; exact Nat.mul_le_mul_right _ a
  · rw [show k.log2+d+1=(k.log2+1)+d by omega,Nat.pow_add]; exact Nat.mul_lt_mul_of_pos_right b hp
theorem nearest_exact {neg:Bool} {mag r a b:Nat} {place:Int} (hr:r≤9218868437227405312) (h:mag * 2 ^ a=VV r * 2 ^ b) (hp:place+(b:Int)=-1074+(a:Int)) :
    FloatKind.f64.format.nearest neg mag place=if neg then 9223372036854775808+r else r:=by
  by_cases hm:mag=0
  · have hv:VV r=0:=by
      subst hm
      have hp:=Nat.two_pow_pos b
      rw [Nat.zero_mul] at h
      exact (Nat.mul_eq_zero.1 h.symm).resolve_right (by omega)
    have hr0:r=0:=VV_inj (s:=0) (by rw [hv]; rfl)
    subst hr0
    unfold Ieee.Format.nearest
    rw [if_pos hm,word_eq]
  · have hv:VV r ≠ 0:=by
      intro e
      rw [e,Nat.zero_mul] at h
      have hp:=Nat.two_pow_pos a
      exact hm ((Nat.mul_eq_zero.1 h).resolve_right (by omega))
    have hr0:r ≠ 0:=fun e=>hv (by rw [e]; rfl)
    have hk:mg r ≠ 0:=fun e=>hr0 (mg_zero.1 e)
    have hq:=ex_mg r
    have hlog:mag.log2+a=(mg r).log2+(ex r+b):=by
      rw [← log2_mul_pow _ _ hm,h, ← mg_ex r,Nat.mul_assoc, ← Nat.pow_add,log2_mul_pow _ _ hk]
    have hlk:(ex r=0∧(mg r).log2≤52)∨(mg r).log2=52:=by
      have h1:=mg_lt r
      have h3:=log_lo hk
      have h4:(mg r).log2 < 53:=(Nat.log2_lt hk).2 (by omega)
      by_cases hb:r < 4503599627370496
      · left; unfold ex; rw [if_pos hb]; omega
      · right
        have h2:4503599627370496≤mg r:=by unfold mg; rw [if_neg hb]; omega
        have:52≤(mg r).log2:=(Nat.le_log2 hk).2 (by omega)
        omega
    unfold Ieee.Format.nearest
    rw [if_neg hm,word_eq]
    simp only [fm_frac,fm_least,fm_bin,fm_inf]
    have hlast:max (place+(mag.log2:Int) - ((52:Nat):Int)) (-1074)=-1074+(ex r:Int):=by omega
    rw [hlast]
    have hkept:Ieee.Toward.even.cut neg (mag <<< (place - (-1074+(ex r:Int))).toNat) ((-1074+(ex r:Int)) - place).toNat=mg r:=by
      have h':mag * 2 ^ a=mg r * 2 ^ (ex r+b):=by rw [h, ← mg_ex r,Nat.mul_assoc, ← Nat.pow_add]
      by_cases hc:ex r+b≤a
      · rw [show ((-1074+(ex r:Int)) - place).toNat=0 by omega,show (place - (-1074+(ex r:Int))).toNat=a - (ex r+b) by omega,cut_zero,Nat.shiftLeft_eq]
        refine Nat.eq_of_mul_eq_mul_right (Nat.two_pow_pos (ex r+b)) ?_
        rw [Nat.mul_assoc, ← Nat.pow_add,show a - (ex r+b)+(ex r+b)=a by omega,h']
      · rw [show ((-1074+(ex r:Int)) - place).toNat=ex r+b - a by omega,show (place - (-1074+(ex r:Int))).toNat=0 by omega,Nat.shiftLeft_eq,Nat.pow_zero,Nat.mul_one]
        have e:mag=mg r * 2 ^ (ex r+b - a):=by
          refine Nat.eq_of_mul_eq_mul_right (Nat.two_pow_pos a) ?_
          rw [h',Nat.mul_assoc, ← Nat.pow_add,show ex r+b - a+a=ex r+b by omega]
        rw [e,cut_whole _ _ _ _ hk]
    rw [hkept,show ((-1074+(ex r:Int)) - -1074).toNat=ex r by omega,hq,Nat.min_eq_left hr]
end Lift
