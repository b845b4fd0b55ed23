import Derived.Test.YtllcnlonkloabaaPureWhole
import Derived.Test.YtllcnlonkloabaaPureReal
set_option linter.unusedVariables false
set_option linter.unusedSimpArgs false
namespace Go.Proofs.Ytllcnlonkloabaa.Sh
open Go Lift Go.Proofs
theorem rung_of:∀ (e k:Nat),k < 9007199254740992→∃ r,VV r=k * 2 ^ e
 |0,k,h=>⟨k,by have:=VV_at (q:=0) (k:=k) (by omega) (.inl rfl); rw [vz,xk] at this; exact this⟩
 |e+1,k,h=>by
  by_cases hk:k < 4503599627370496
  ·obtain ⟨r,hr⟩:=rung_of e (2 * k) (by omega)
   exact ⟨r,by rw [hr,Nat.pow_succ]; rw [z8 2 k,kg,z8 2]⟩
  ·exact ⟨(e+1) * 4503599627370496+k,VV_at (by omega) (.inr (by omega))⟩
theorem rg_word (s:Bool) {r:Nat} (h:r < 9223372036854775808):rg (if s then 9223372036854775808+r else r)=r:=by
 unfold rg; cases s <;> simp <;> omega
theorem sg_word (s:Bool) {r:Nat} (h:r < 9223372036854775808):sg (if s then 9223372036854775808+r else r)=s:=by
 unfold sg
 cases s
 ·simp only [xh,if_false]; rw [show r / 9223372036854775808=0 by omega]; rfl
 ·simp only [if_true]; rw [show (9223372036854775808+r) / 9223372036854775808=1 by omega]; rfl
theorem encode_num (s:Bool) (m:Nat) (p:Int):FloatKind.f64.encode (.number s m p)=FloatKind.f64.format.nearest s m p:=rfl
theorem cut_trunc (f:Nat):Ieee.Toward.zero.cut (sg f) (mg (rg f) <<< (-1074+(ex (rg f):Int)).toNat) (-(-1074+(ex (rg f):Int))).toNat=VV (rg f) / UU∧∃ r,VV r=(VV (rg f) / UU) * UU:=by
 rw [← mg_ex (rg f)]
 by_cases h:1074≤ex (rg f)
 ·have e:mg (rg f) * 2 ^ ex (rg f)=mg (rg f) * 2 ^ (ex (rg f) - 1074) * UU:=by
   rw [kg, ← UU_up (ex (rg f) - 1074) (ex (rg f)) (by omega)]
  rw [show (-(-1074+(ex (rg f):Int))).toNat=0 by omega,cut_zero,show (-1074+(ex (rg f):Int)).toNat=ex (rg f) - 1074 by omega,jk,e,Nat.mul_div_cancel _ UU_pos]
  refine ⟨rfl,rg f, ?_⟩
  rw [← e,mg_ex]
 ·rw [show (-1074+(ex (rg f):Int)).toNat=0 by omega,jk,zy,kz,show (-(-1074+(ex (rg f):Int))).toNat=1074 - ex (rg f) by omega]
  have e:mg (rg f) * 2 ^ ex (rg f) / UU=mg (rg f) / 2 ^ (1074 - ex (rg f)):=by
   have:UU=2 ^ (1074 - ex (rg f)) * 2 ^ ex (rg f):=UU_two _ _ (by omega)
   rw [this,Nat.mul_div_mul_right _ _ (qi _)]
  rw [e]
  constructor
  ·by_cases hm:mg (rg f)=0
   ·rw [hm]
    unfold Ieee.Toward.cut
    simp
   ·unfold Ieee.Toward.cut
    simp only [Bool.toNat_false,uf,jk,zo]
    by_cases hc:1074 - ex (rg f)≤(mg (rg f)).log2+2
    ·rw [jd hc]
    ·rw [Nat.min_eq_right (by omega)]
     have h1:=log_hi (mg (rg f))
     have h2:(2:Nat) ^ ((mg (rg f)).log2+1)≤2 ^ ((mg (rg f)).log2+2):=ve (by decide) (by omega)
     have h3:(2:Nat) ^ ((mg (rg f)).log2+1)≤2 ^ (1074 - ex (rg f)):=ve (by decide) (by omega)
     rw [Nat.div_eq_of_lt (by omega),Nat.div_eq_of_lt (by omega)]
  ·have:=mg_lt (rg f)
   exact rung_of UUn _ (Nat.lt_of_le_of_lt (Nat.div_le_self _ _) this)
theorem trunc_at (f:Nat) (hf:rg f < 9218868437227405312):∃ t T,ftrunc f=some t∧t < 18446744073709551616∧nanW t=false∧sg t=sg f∧VV (rg t)=T * UU∧T=VV (rg f) / UU:=by
 have hd:FloatKind.f64.decode f=.number (sg f) (mg (rg f)) (-1074+(ex (rg f):Int)):=Zi7 hf
 have hcut:=cut_trunc f
 obtain ⟨hc,r,hr⟩:=hcut
 have hrf:r≤rg f:=by
  apply j3
  intro h
  have h1:=VV_lt (r:=rg f) (s:=r) (by omega)
  have h2:=Nat.div_mul_le_self (VV (rg f)) UU
  omega
 have hmag:VV (rg f) / UU * 2 ^ UUn=VV r * 2 ^ 0:=by rw [hr,zy,kz,UU_def]
 have hpl:(0:Int)+((0:Nat):Int)=-1074+((UUn:Nat):Int):=by decide
 have hnear:FloatKind.f64.format.nearest (sg f) (VV (rg f) / UU) 0=if sg f then 9223372036854775808+r else r:=nearest_exact (Nat.le_of_lt (Nat.lt_of_le_of_lt hrf hf)) hmag hpl
 refine ⟨if sg f then 9223372036854775808+r else r,VV (rg f) / UU, ?_, ?_, ?_,sg_word _ (by omega),by rw [rg_word _ (by omega),hr],rfl⟩
 ·unfold ftrunc
  rw [hd]
  show some (FloatKind.f64.encode (.number (sg f) _ 0))=_
  rw [hc,encode_num,hnear]
 ·split <;> omega
 ·rw [nanW_rg,rg_word _ (by omega)]; exact decide_eq_false (by omega)
def K256:Nat:=5760103923406864384
theorem ldexp_ev:Ev (fun N=>Zg0 N 4607182418800017408 (256:Int)) K256:=Ev.from 60 (fun N=>by kernel_rfl)
theorem nan_K:nanW K256=false:=by decide
theorem sV_K:sV K256=((2 ^ 256 * UU:Nat):Int):=by
 have h1:sg K256=false:=by decide
 have h2:rg K256=K256:=by decide
 have e:VV K256=2 ^ 256 * UU:=by
  rw [Zc2 (by decide), ← UU_up 256 1330 rfl,show (4503599627370496+K256 % 4503599627370496:Nat)=2 ^ 52 by decide, ← j5,show 52+(K256 / 4503599627370496 - 1)=1330 from by decide]
 unfold sV
 rw [h1,h2,if_neg (by simp),e]
theorem nan_words (b:Int) (h:0≤b):nanB b=nanW b.toNat:=by
 unfold nanB nanW
 exact decide_eq_decide.2 (by omega)
def cmpF (x:Int) (b:Nat):Int:=if nanW b then -1 else if sV b < x * (UU:Int) then 1 else -1
theorem sV_abs {f:Nat}:(VV (rg f):Int)=if sg f then -(sV f) else sV f:=by unfold sV; split <;> simp_all
theorem cmp_fin (x T ρ U:Int) (s:Bool) (hU:0 < U) (h0:0≤ρ) (h1:ρ < U) :
  (sgn (x - (if s then -T else T)) ≠ 0→sgn (x - (if s then -T else T))=if (if s then -(T * U+ρ) else T * U+ρ) < x * U then 1 else -1) ∧
  (sgn (x - (if s then -T else T))=0→(if s=true∧0 < ρ then 1 else -1)=(if (if s then -(T * U+ρ) else T * U+ρ) < x * U then (1:Int) else -1)):=by
 have key:∀ y:Int,x < y→x * U+U≤y * U:=fun y h=>by
  have:=Int.mul_le_mul_of_nonneg_right (show x+1≤y by omega) (Int.le_of_lt hU)
  rw [Int.add_mul,Int.one_mul] at this
  exact this
 have key2:∀ y:Int,y < x→y * U+U≤x * U:=fun y h=>by
  have:=Int.mul_le_mul_of_nonneg_right (show y+1≤x by omega) (Int.le_of_lt hU)
  rw [Int.add_mul,Int.one_mul] at this
  exact this
 have hneg:(-T) * U=-(T * U):=Int.neg_mul _ _
 cases s with
 |false =>
  simp only [xh,if_false,false_and]
  rcases Int.lt_trichotomy x T with h | h | h
  ·have k:=key _ h
   rw [Z9v (by omega),if_neg (by omega)]
   exact ⟨fun _=>rfl,fun h=>by cases h⟩
  ·subst h
   rw [Int.sub_self,if_neg (by omega)]
   exact ⟨fun h=>absurd rfl h,fun _=>rfl⟩
  ·have k:=key2 _ h
   rw [Zal (by omega),if_pos (by omega)]
   exact ⟨fun _=>rfl,fun h=>by cases h⟩
 |true =>
  simp only [if_true,true_and]
  rcases Int.lt_trichotomy x (-T) with h | h | h
  ·have k:=key _ h
   rw [hneg] at k
   rw [Z9v (by omega),if_neg (by omega)]
   exact ⟨fun _=>rfl,fun h=>by cases h⟩
  ·subst h
   rw [Int.sub_self,hneg]
   refine ⟨fun h=>absurd rfl h,fun _=>?_⟩
   exact Z5n (by omega) rfl rfl
  ·have k:=key2 _ h
   rw [hneg] at k
   rw [Zal (by omega),if_pos (by omega)]
   exact ⟨fun _=>rfl,fun h=>by cases h⟩
theorem cmpNum_ev (x:Int) (hx:(x.natAbs:Int) < TOP) (b:Int) (h0:0≤b) (h1:b≤18446744073709551615):Ev (fun N=>Zbv N (numN x) b) (cmpF x b.toNat):=by
  have hT:TOP=((2 ^ 256:Nat):Int):=by decide
  have hU:(0:Int) < (UU:Int):=by exact_mod_cast UU_pos
  have hnone:Ev (fun N=>Z9o N b) (nanW b.toNat):=by
    have e:nanW b.toNat=fne b.toNat b.toNat:=(Lift.fne_self _).symm
    rw [e]
    exact Ev.bind (Ev.now _) (Ev.now _)
  refine Ev.bind (may_ev x hx) (Ev.neg (by simp) (Ev.bind hnone ?_))
  unfold cmpF
  cases hn:nanW b.toNat with
  | true=>exact Ev.pos rfl (Ev.now _)
  | false =>
    rw [show (if false=true then (-1:Int) else if sV b.toNat < x * (UU:Int) then 1 else -1)=if sV b.toNat < x * (UU:Int) then 1 else -1 from rfl]
    refine Ev.neg (by simp) (Ev.bind ldexp_ev ?_)
    have hxU:x * (UU:Int) < ((2 ^ 256 * UU:Nat):Int)∧-((2 ^ 256 * UU:Nat):Int) < x * (UU:Int):=by
      rw [hT] at hx
      have e:((2 ^ 256 * UU:Nat):Int)=((2 ^ 256:Nat):Int) * (UU:Int):=kv _ _
      rw [e, ← Int.neg_mul]
      exact ⟨jy (by omega) hU,jy (by omega) hU⟩
    have hKn:nanW (fneg K256)=false:=by decide
    have hKs:sV (fneg K256)=-((2 ^ 256 * UU:Nat):Int):=by
      have h1:sg (fneg K256)=true:=by decide
      have h2:rg (fneg K256)=rg K256:=by decide
      have h3:sg K256=false:=by decide
      have a:=sV_K
      unfold sV at a ⊢
      rw [h1,h2]
      rw [h3] at a
      simp only [xh,if_false] at a
      simp only [if_true]
      rw [a]
    by_cases c1:((2 ^ 256 * UU:Nat):Int)≤sV b.toNat
    · rw [if_neg (by omega)]
      exact Ev.pos (by rw [fge_eq hn nan_K,sV_K]; exact decide_eq_true c1) (Ev.now _)
    · refine Ev.neg (by rw [fge_eq hn nan_K,sV_K,decide_eq_true_eq]; exact c1) ?_
      by_cases c2:sV b.toNat≤-((2 ^ 256 * UU:Nat):Int)
      · rw [if_pos (by omega)]
        exact Ev.pos (by rw [fle_eq hn hKn,hKs]; exact decide_eq_true c2) (Ev.now _)
      · refine Ev.neg (by rw [fle_eq hn hKn,hKs,decide_eq_true_eq]; exact c2) ?_
        have habs:VV (rg b.toNat) < 2 ^ 256 * UU:=by
          have:=sV_abs (f:=b.toNat)
          have:(VV (rg b.toNat):Int) < ((2 ^ 256 * UU:Nat):Int):=by rw [this]; split <;> omega
          exact_mod_cast this
        have hfin:rg b.toNat < 9218868437227405312:=by
          rcases nan_no hn with h | h
          · rw [h] at habs
            have e:=VV_inf_ge 1330 (by decide)
            rw [UU_up 256 1330 rfl] at e
            exact absurd (qc habs e) (Nat.lt_irrefl _)
          · exact h
        obtain ⟨t,T,ht,ht64,htn,hts,htV,hTe⟩:=trunc_at b.toNat hfin
        have hTlt:T < 2 ^ 256:=by
          rw [hTe]; exact Nat.div_lt_of_lt_mul (by rw [z8]; exact habs)
        have hTop:(T:Int) < TOP:=by rw [hT]; exact_mod_cast hTlt
        have hw:=whole_ev t T ht64 htn htV hTop
        refine Ev.bind (a:=t) (Ev.bindc ht (Ev.now _)) (Ev.bind hw ?_)
        have hc:=cmp_ev x (if sg t then -(T:Int) else (T:Int)) hx (by split <;> omega)
        refine Ev.bind hc ?_
        -- plain numbers
        have hfl:=Nat.div_add_mod (VV (rg b.toNat)) UU
        have hlt:=zn (VV (rg b.toNat)) UU_pos
        rw [← hTe] at hfl
        generalize VV (rg b.toNat) % UU=ρ at hfl hlt
        have hV:(VV (rg b.toNat):Int)=(T:Int) * (UU:Int)+(ρ:Int):=by rw [← hfl]; push_cast; rw [Int.mul_comm]
        have hlt':(ρ:Int) < (UU:Int):=by exact_mod_cast hlt
        have hρ0:0≤(ρ:Int):=vk _
        have hft:Lift.flt b.toNat t=true ↔ sg b.toNat=true∧0 < ρ:=by
          rw [flt_eq hn htn,decide_eq_true_eq]
          have e1:(VV (rg t):Int)=(T:Int) * (UU:Int):=by rw [htV]; push_cast; rfl
          unfold sV
          rw [hts,e1,hV]
          cases sg b.toNat
          · simp only [xh,if_false,false_and,iff_false]; omega
          · simp only [if_true,true_and]; omega
        have hsV:sV b.toNat=if sg b.toNat then -((T:Int) * (UU:Int)+(ρ:Int)) else (T:Int) * (UU:Int)+(ρ:Int):=by
          unfold sV; rw [hV]
        rw [hsV,hts]
        obtain ⟨f1,f2⟩:=cmp_fin x T ρ UU (sg b.toNat) hU hρ0 hlt'
        by_cases hz:sgn (x - (if sg b.toNat then -(T:Int) else (T:Int))) ≠ 0
        · rw [← f1 hz]
          exact Ev.pos hz (Ev.now _)
        · have hz':sgn (x - (if sg b.toNat then -(T:Int) else (T:Int)))=0:=by simpa using hz
          rw [← f2 hz']
          refine Ev.neg hz ?_
          rw [← Z5n (hft.trans (and_congr_right fun _=>by omega)) rfl rfl]
          exact Ev.iff (fun _=>Ev.now _) (fun _=>Ev.now _)
def place (b:Nat):Int:=if nanW b then 9223372036854775808 else if sg b then -(rg b:Int) - 1 else (rg b:Int)
theorem sV_lt {a b:Nat}:sV a < sV b ↔ (if sg a then -(rg a:Int) else (rg a:Int)) < (if sg b then -(rg b:Int) else (rg b:Int)):=by
 have h1:∀ {r s:Nat},((VV r:Nat):Int) < ((VV s:Nat):Int) ↔ (r:Int) < (s:Int):=fun {r s}=>by
  rw [Int.ofNat_lt,Int.ofNat_lt]; exact VV_lt_iff
 have h0:∀ {r:Nat},(0:Int) < ((VV r:Nat):Int) ↔ (0:Int) < (r:Int):=fun {r}=>by
  have:=h1 (r:=0) (s:=r); rw [VV_zero] at this; exact this
 have ha:=h0 (r:=rg a)
 have hb:=h0 (r:=rg b)
 have hab:=h1 (r:=rg a) (s:=rg b)
 have hba:=h1 (r:=rg b) (s:=rg a)
 unfold sV
 cases sg a <;> cases sg b <;> simp only [xh,if_false,if_true] <;> omega
theorem fcmp_ev (a b:Int) (ha:0≤a∧a≤18446744073709551615) (hb:0≤b∧b≤18446744073709551615):Ev (fun N=>real_Cmp N a b) (sgn (place a.toNat - place b.toNat)):=by
 have hn:∀ c:Int,Ev (fun N=>Z9o N c) (nanW c.toNat):=fun c=>by
  rw [← Lift.fne_self c.toNat]
  exact Ev.bind (Ev.now _) (Ev.now _)
 have hra:rg a.toNat < 9223372036854775808:=zn _ (by decide)
 have hrb:rg b.toNat < 9223372036854775808:=zn _ (by decide)
 refine Ev.bind (hn a) ?_
 cases na:nanW a.toNat with
 |true =>
  refine Ev.pos rfl (Ev.bind (hn b) ?_)
  unfold place
  rw [na]
  cases nb:nanW b.toNat with
  |true=>exact Ev.pos rfl (Ev.now _)
  |false =>
   have e:sgn ((if true=true then (9223372036854775808:Int) else if sg a.toNat=true then -(rg a.toNat:Int) - 1 else (rg a.toNat:Int)) - (if false=true then (9223372036854775808:Int) else if sg b.toNat=true then -(rg b.toNat:Int) - 1 else (rg b.toNat:Int)))=1:=by
    refine Zal ?_
    simp only [if_true,xh,if_false]
    split <;> omega
   rw [e]
   exact Ev.neg (by simp) (Ev.now _)
 |false =>
  refine Ev.neg (by simp) (Ev.bind (hn b) ?_)
  cases nb:nanW b.toNat with
  |true =>
   have e:sgn (place a.toNat - place b.toNat)=-1:=by
    refine Z9v ?_
    unfold place
    rw [na,nb]
    simp only [if_true,xh,if_false]
    split <;> omega
   rw [e]
   exact Ev.pos rfl (Ev.now _)
  |false =>
   refine Ev.neg (by simp) ?_
   have hlt:=sV_lt (a:=a.toNat) (b:=b.toNat)
   have hgt:=sV_lt (a:=b.toNat) (b:=a.toNat)
   have hplace:place a.toNat - place b.toNat=(if sg a.toNat=true then -(rg a.toNat:Int) - 1 else (rg a.toNat:Int)) - (if sg b.toNat=true then -(rg b.toNat:Int) - 1 else (rg b.toNat:Int)):=by
    unfold place
    rw [na,nb]
    simp only [xh,if_false]
   rw [hplace]
   have hsg:∀ c:Int,0≤c→c≤18446744073709551615→Int.fdiv c (yh 63)=if sg c.toNat then 1 else 0:=fun c h0 h1=>by
    have e:yh 63=9223372036854775808:=by decide
    rw [e,um _ (by decide)]
    unfold sg
    by_cases h:c < 9223372036854775808
    ·rw [show c.toNat / 9223372036854775808=0 by omega]; simp; omega
    ·rw [show c.toNat / 9223372036854775808=1 by omega]; simp; omega
   by_cases c:sV a.toNat=sV b.toNat
   ·refine Ev.pos (by rw [feq_eq na nb]; exact decide_eq_true c) ?_
    rw [hsg a ha.1 ha.2,hsg b hb.1 hb.2]
    have k:=cmpI_ev (if sg b.toNat=true then 1 else 0) (if sg a.toNat=true then 1 else 0)
    have e:sgn ((if sg b.toNat=true then 1 else 0) - (if sg a.toNat=true then 1 else 0))=sgn ((if sg a.toNat=true then -(rg a.toNat:Int) - 1 else (rg a.toNat:Int)) - (if sg b.toNat=true then -(rg b.toNat:Int) - 1 else (rg b.toNat:Int))):=by
     have h1:¬ sV a.toNat < sV b.toNat:=by omega
     have h2:¬ sV b.toNat < sV a.toNat:=by omega
     rw [hlt] at h1
     rw [hgt] at h2
     unfold sgn
     revert h1 h2
     cases sg a.toNat <;> cases sg b.toNat <;> simp only [xh,if_false,if_true] <;> intro h1 h2 <;> (repeat' split) <;> omega
    rw [← e]
    exact Ev.bind k (Ev.now _)
   ·refine Ev.neg (by rw [feq_eq na nb,decide_eq_true_eq]; exact c) ?_
    have e:sgn ((if sg a.toNat=true then -(rg a.toNat:Int) - 1 else (rg a.toNat:Int)) - (if sg b.toNat=true then -(rg b.toNat:Int) - 1 else (rg b.toNat:Int)))=if sV a.toNat < sV b.toNat then -1 else 1:=by
     have h1:sV a.toNat < sV b.toNat∨sV b.toNat < sV a.toNat:=by omega
     rw [hlt,hgt] at h1
     rw [Z5n hlt rfl rfl]
     unfold sgn
     revert h1
     cases sg a.toNat <;> cases sg b.toNat <;> simp only [xh,if_false,if_true] <;> intro h1 <;> (repeat' split) <;> omega
    rw [e]
    have hi:∀ c:Nat,nanW c=false→Ev (fun N=>Z6f N c) false:=fun c h=>by
     rw [← h, ← Lift.fne_self c]
     exact Ev.now _
    refine Ev.bind (a:=if sV a.toNat < sV b.toNat then -1 else 1) (Ev.bind (hi _ na) (Ev.bind (hi _ nb) (Ev.neg (by simp) (Ev.neg (by simp) ?_)))) (Ev.now _)
    by_cases h:sV a.toNat < sV b.toNat
    ·rw [if_pos h]
     exact Ev.pos (by rw [flt_eq na nb]; exact decide_eq_true h) (Ev.now _)
    ·rw [if_neg h]
     exact Ev.neg (by rw [flt_eq na nb,decide_eq_true_eq]; exact h) (Ev.pos (by rw [fgt_eq na nb]; exact decide_eq_true (by omega)) (Ev.now _))
end Go.Proofs.Ytllcnlonkloabaa.Sh
