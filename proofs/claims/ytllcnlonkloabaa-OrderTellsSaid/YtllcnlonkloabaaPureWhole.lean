import Derived.Test.YtllcnlonkloabaaPureNumE
import Derived.Test.YtllcnlonkloabaaLift4
set_option linter.unusedVariables false
set_option linter.unusedSimpArgs false
namespace Go.Proofs.Ytllcnlonkloabaa.Sh
open Go Lift Go.Proofs
open Go.IntKind (wrap)
theorem pow32 (j:Nat):(4294967296:Int) ^ j=((2 ^ (32 * j):Nat):Int):=by
 rw [Nat.pow_mul,show (2:Nat) ^ 32=4294967296 from by decide,Int.natCast_pow]
 rfl
theorem bit_step {l:List Int} {k:Nat} (hl:limbs l) (hk:k < 32 * l.length) (hv:val l < ((2 ^ k:Nat):Int)) :
  bor .u32 (dg l (k / 32)) ((2 ^ (k % 32):Nat):Int)=dg l (k / 32)+((2 ^ (k % 32):Nat):Int)∧0≤dg l (k / 32)+((2 ^ (k % 32):Nat):Int)∧dg l (k / 32)+((2 ^ (k % 32):Nat):Int) < 4294967296 ∧
  val (l.set (k / 32) (dg l (k / 32)+((2 ^ (k % 32):Nat):Int)))=val l+((2 ^ k:Nat):Int):=by
 have hj:k / 32 < l.length:=by omega
 obtain ⟨h0,h1⟩:=Zg4 hl (k / 32)
 have hlow:dg l (k / 32) * ((2 ^ (32 * (k / 32)):Nat):Int)≤val l:=by
  have a:=Ziu l (k / 32) (by omega)
  rw [val_drop,pow32] at a
  have b:=Z4b (Z4v hl (k / 32))
  have c:=Z4b (limbs_drop hl (k / 32+1))
  have hp:(0:Int)≤((2 ^ (32 * (k / 32)):Nat):Int):=vk _
  have d:0≤((2 ^ (32 * (k / 32)):Nat):Int) * (4294967296 * val (l.drop (k / 32+1))):=Int.mul_nonneg hp (by omega)
  rw [Int.mul_add] at a
  rw [Int.mul_comm]
  omega
 have hsplit:(2 ^ k:Nat)=2 ^ (k % 32) * 2 ^ (32 * (k / 32)):=by
  rw [← j5]; congr 1; omega
 have hdg:dg l (k / 32) < ((2 ^ (k % 32):Nat):Int):=by
  have hp:(0:Int) < ((2 ^ (32 * (k / 32)):Nat):Int):=by exact_mod_cast qi _
  refine Int.lt_of_mul_lt_mul_right (a:=((2 ^ (32 * (k / 32)):Nat):Int)) ?_ (Int.le_of_lt hp)
  have e:((2 ^ (k % 32):Nat):Int) * ((2 ^ (32 * (k / 32)):Nat):Int)=((2 ^ k:Nat):Int):=by rw [hsplit]; push_cast; rfl
  rw [e]
  omega
 obtain ⟨d,hd⟩:=ul h0
 rw [hd] at hdg h1 ⊢
 have hd2:d < 2 ^ (k % 32):=by omega
 have hp32:2 ^ (k % 32)≤2 ^ 31:=ve (by decide) (by omega)
 have hp31:(2:Nat) ^ 31=2147483648:=by decide
 refine ⟨?_,by omega,by omega, ?_⟩
 ·rw [bor_u32 (by omega) (by omega),or_top hd2]; push_cast; rfl
 ·rw [val_set l _ _ hj,hd,pow32]
  have e:(2:Nat) ^ (32 * (k / 32)) * 2 ^ (k % 32)=2 ^ k:=by rw [hsplit,z8]
  have:((2 ^ (32 * (k / 32)):Nat):Int) * ((d:Int)+((2 ^ (k % 32):Nat):Int) - (d:Int))=((2 ^ k:Nat):Int):=by
   rw [← e]; push_cast; rw [show ((d:Int)+(2:Int) ^ (k % 32) - (d:Int))=(2:Int) ^ (k % 32) by omega]
  omega
theorem Zig (f:Nat→List Int→Int→Option (List Int)) (m e:Nat) (hm:m < 9007199254740992) (he:e+53≤320)
  (hf:∀ N l v,f (N+1) l v=if v < (53:Int) then (shr .u64 (m:Int) v).bind fun x5=>if (band .u64 x5 (1:Int))=(1:Int) then (idx l (wrap .i64 (Int.tdiv (wrap .i64 ((e:Int)+v)) (32:Int)))).bind fun x7=>(shl .u32 (1:Int) (Int.tmod (wrap .i64 ((e:Int)+v)) (32:Int))).bind fun x8=>(idx l (wrap .i64 (Int.tdiv (wrap .i64 ((e:Int)+v)) (32:Int)))).bind fun x9=>f N (l.set ((wrap .i64 (Int.tdiv (wrap .i64 ((e:Int)+v)) (32:Int))).toNat) (bor .u32 x7 x8)) (wrap .i64 (v+(1:Int))) else f N l (wrap .i64 (v+(1:Int))) else some l) :
  ∀ (d i:Nat) (l:List Int),i+d=53→l.length=10→limbs l→val l=((m % 2 ^ i * 2 ^ e:Nat):Int)→∃ l',Ev (fun N=>f N l (i:Int)) l'∧l'.length=10∧limbs l'∧val l'=((m * 2 ^ e:Nat):Int)
 |0,i,l,hd,hl,hb,hv=>by
  have hi:i=53:=by omega
  subst hi
  refine ⟨l,Ev.step ?_ (fun N=>hf N l _),hl,hb, ?_⟩
  ·exact Ev.neg (by omega) (Ev.now _)
  ·rw [hv,Nat.mod_eq_of_lt (by exact hm)]
 |d+1,i,l,hd,hl,hb,hv=>by
  have hm':m < 18446744073709551616:=by omega
  have hq:m / 2 ^ i < 18446744073709551616:=Nat.lt_of_le_of_lt (Nat.div_le_self _ _) hm'
  have hnext:m % 2 ^ (i+1)=m % 2 ^ i+2 ^ i * (m / 2 ^ i % 2):=by rw [Nat.pow_succ,Nat.mod_mul]
  have hw:wrap .i64 ((i:Int)+1)=((i+1:Nat):Int):=Z3a (by omega)
  have hei:wrap .i64 ((e:Int)+(i:Int))=((e+i:Nat):Int):=by rw [Zk1 _ (by omega) (by omega)]; push_cast; rfl
  have htd:wrap .i64 (Int.tdiv ((e+i:Nat):Int) 32)=(((e+i) / 32:Nat):Int):=by
   rw [Int.tdiv_eq_ediv_of_nonneg (vk _),Zk1 _ (by omega) (by omega)]; omega
  have htm:Int.tmod ((e+i:Nat):Int) 32=(((e+i) % 32:Nat):Int):=by
   rw [Int.tmod_eq_emod_of_nonneg (vk _)]; omega
  have hvl:val l < ((2 ^ (e+i):Nat):Int):=by
   rw [hv]
   have h1:m % 2 ^ i < 2 ^ i:=zn _ (qi i)
   have:m % 2 ^ i * 2 ^ e < 2 ^ (e+i):=by
    rw [j5,z8 (2 ^ e)]
    exact w9 h1 (qi e)
   exact_mod_cast this
  by_cases hbit:m / 2 ^ i % 2=1
  ·obtain ⟨s1,s2,s3,s4⟩:=bit_step hb (by omega) hvl
   obtain ⟨l',k1,k2,k3,k4⟩:=Zig f m e hm he hf d (i+1) (l.set ((e+i) / 32) (dg l ((e+i) / 32)+((2 ^ ((e+i) % 32):Nat):Int))) (by omega) (by rw [qp]; exact hl) (limbs_set hb _ s2 s3) (by
    rw [s4,hv,hnext,hbit,kz,ug, ← j5,Nat.add_comm i e]; push_cast; rfl)
   refine ⟨l',Ev.step ?_ (fun N=>hf N l _),k2,k3,k4⟩
   rw [hei,htd,htm,hw]
   refine Ev.pos (by omega) (Ev.bindc (shr_nat (by omega)) (Ev.pos (by rw [band_one hq,hbit]; rfl) (Ev.bindc (idx_dg (by omega)) (Ev.bindc (shl_u32 (by omega)) (Ev.bindc (idx_dg (by omega)) ?_)))))
   rw [s1,xn]
   exact k1
  ·obtain ⟨l',k1,k2,k3,k4⟩:=Zig f m e hm he hf d (i+1) l (by omega) hl hb (by
    rw [hv,hnext,show m / 2 ^ i % 2=0 by omega,Nat.mul_zero,uf])
   refine ⟨l',Ev.step ?_ (fun N=>hf N l _),k2,k3,k4⟩
   rw [hw]
   refine Ev.pos (by omega) (Ev.bindc (shr_nat (by omega)) (Ev.neg ?_ k1))
   rw [band_one hq]; omega
theorem wtrim_ev (p0:Nat):∀ (d:Nat) (l:List Int),l.length=d→limbs l→d < 1000000→Ev (fun N=>Z4q N p0 l) (toL (val l).toNat):=by
 intro d
 induction d with
 |zero =>
  intro l hl hb _
  have:l=[]:=xy hl
  subst this
  refine Ev.step ?_ (fun N=>by rw [Z4q])
  simp only [val,Int.toNat_zero,Z61]
  exact Ev.neg (by simp) (Ev.now _)
 |succ d ih =>
  intro l hl hb hd
  have hw:IntKind.i64.wrap (((l.length:Nat):Int) - 1)=(d:Int):=by rw [Zk1 _ (by omega) (by omega)]; omega
  refine Ev.step ?_ (fun N=>by rw [Z4q,hw])
  refine Ev.pos (by omega) (Ev.bindc (idx_dg (by omega)) ?_)
  by_cases h:dg l d=0
  ·refine Ev.pos h (Ev.bindc (cut_front (by omega)) ?_)
   have e:val l=val (l.take d):=by
    have a:=Zdj l d (by omega)
    rw [h,uy (by omega)] at a
    omega
   rw [e]
   exact ih (l.take d) (by rw [qy]; omega) (Z4v hb d) (by omega)
  ·refine Ev.neg h ?_
   have hn:norm l:=⟨hb,fun _=>by rw [hl]; exact h⟩
   rw [← Zil hn]
   exact Ev.now _
theorem mant_eq (t:Nat) (h:t < 18446744073709551616):bor .u64 (band .u64 ((t:Nat):Int) (4503599627370495:Int)) (4503599627370496:Int)=((4503599627370496+t % 4503599627370496:Nat):Int):=by
 have h1:=Zik (b:=4503599627370495) h (by decide)
 rw [show ((4503599627370495:Nat):Int)=4503599627370495 from rfl,show (4503599627370495:Nat)=2 ^ 52 - 1 by decide,and_mask] at h1
 rw [h1]
 have h2:=bor_u64 (a:=t % 2 ^ 52) (b:=4503599627370496) (by omega) (by decide)
 rw [show ((4503599627370496:Nat):Int)=4503599627370496 from rfl] at h2
 rw [h2,show (4503599627370496:Nat)=2 ^ 52 by decide,or_top (zn _ (qi 52)),Nat.add_comm]
theorem expo_eq (t:Nat) (h:t < 18446744073709551616):wrap .i64 ((wrap .i64 (band .u64 (Int.fdiv ((t:Nat):Int) (yh 52)) (2047:Int))) - (1075:Int))=((t / 4503599627370496 % 2048:Nat):Int) - 1075:=by
 have e:yh 52=4503599627370496:=by decide
 rw [e,um _ (by decide),show ((t:Nat):Int) / 4503599627370496=((t / 4503599627370496:Nat):Int) by omega]
 have h1:=Zik (a:=t / 4503599627370496) (b:=2047) (by omega) (by decide)
 rw [show ((2047:Nat):Int)=2047 from rfl,show (2047:Nat)=2 ^ 11 - 1 by decide,and_mask] at h1
 rw [h1,Zk1 ((t / 4503599627370496 % 2 ^ 11:Nat):Int) (by omega) (by omega),Zk1 _ (by omega) (by omega)]
theorem numN_signed (s:Bool) (T:Nat) (c:Bool) (hc:c=true ↔ s=true∧T ≠ 0):(if c=true then (⟨decide ((((toL T).length:Nat):Int) > 0),toL T⟩:Z08) else ⟨false,toL T⟩)=numN (if s then -(T:Int) else (T:Int)):=by
 have a:=Zii (T:Int) (by omega)
 rw [xn] at a
 cases s with
 |true =>
  simp only [if_true]
  unfold numN
  rw [Int.natAbs_neg,ze]
  by_cases h:T=0
  ·have hcf:c=false:=by cases c with | true=>exact absurd h (hc.1 rfl).2 | false=>rfl
   subst h; subst hcf; rfl
  ·have hct:c=true:=hc.2 ⟨rfl,h⟩
   rw [if_pos hct]
   congr 1
   exact decide_eq_decide.2 (by omega)
 |false =>
  have hcf:c=false:=by cases c with | true=>exact absurd (hc.1 rfl).1 (by simp) | false=>rfl
  subst hcf
  simp only [xh,if_false]
  unfold numN
  rw [ze]
  congr 1
theorem sV_zero:sV 0=0:=by decide
theorem nan_zero:nanW 0=false:=by decide
theorem whole_ev (t T:Nat) (ht:t < 18446744073709551616) (hn:nanW t=false) (hT:VV (rg t)=T * UU) (hb:(T:Int) < TOP):Ev (fun N=>Zd3 N t) (numN (if sg t then -(T:Int) else (T:Int))):=by
 have hr:rg t=t % 9223372036854775808:=rfl
 have hE:t / 4503599627370496 % 2048=rg t / 4503599627370496:=by rw [hr]; omega
 have hF:t % 4503599627370496=rg t % 4503599627370496:=by rw [hr]; omega
 have hTb:T < 2 ^ 256:=by
  have e:TOP=((2 ^ 256:Nat):Int):=by decide
  rw [e] at hb; exact_mod_cast hb
 have hz:val (List.replicate 10 (0:Int))=((0:Nat):Int):=val_zeros 10
 have hflt:Lift.flt t 0=true ↔ sg t=true∧T ≠ 0:=by
  rw [flt_eq hn nan_zero,decide_eq_true_eq,sV_zero]
  unfold sV
  have hp:=UU_pos
  have h0:VV (rg t)=0 ↔ T=0:=by
   rw [hT]
   constructor
   ·intro h; exact (Nat.mul_eq_zero.1 h).resolve_right (by omega)
   ·intro h; rw [h,vz]
  cases sg t
  ·simp only [xh,if_false]; constructor
   ·intro h; omega
   ·intro h; exact h.1.elim
  ·simp only [if_true,true_and]; omega
 have fin:∀ l',l'.length=10→limbs l'→val l'=(T:Int)→Ev (fun N=>(Z4q N t l').bind fun r15=>if Lift.flt t 0=true then some (Z08.mk (decide (((r15.length:Nat):Int) > (0:Int))) r15) else some (Z08.mk false r15)) (numN (if sg t then -(T:Int) else (T:Int))):=by
  intro l' hl hb' hv
  have h1:=wtrim_ev t 10 l' hl hb' (by decide)
  rw [hv,xn] at h1
  refine Ev.bind h1 ?_
  rw [← numN_signed (sg t) T (Lift.flt t 0) hflt]
  exact Ev.iff (fun _=>Ev.now _) (fun _=>Ev.now _)
 unfold Zd3
 refine Ev.bindc (mk_eq (n:=10) (by decide)) ?_
 rw [expo_eq t ht,mant_eq t ht,hE,hF]
 by_cases hneg:((rg t / 4503599627370496:Nat):Int) - 1075 < 0
 ·refine Ev.pos hneg ?_
  have hw:wrap .i64 (0 - (((rg t / 4503599627370496:Nat):Int) - 1075))=((1075 - rg t / 4503599627370496:Nat):Int):=by rw [Zk1 _ (by omega) (by omega)]; omega
  rw [hw]
  obtain ⟨k,hk,hk64,hkT⟩:∃ k:Nat,(if (63:Int) < ((1075 - rg t / 4503599627370496:Nat):Int) then (63:Int) else ((1075 - rg t / 4503599627370496:Nat):Int))=(k:Int)∧k < 64∧(4503599627370496+rg t % 4503599627370496) / 2 ^ k=T:=by
   by_cases hlow:rg t < 4503599627370496
   ·refine ⟨63,by rw [if_pos (by omega)]; rfl,by decide, ?_⟩
    have hT0:T=0:=by
     rw [VV_low hlow] at hT
     apply j3
     intro h
     have h1:UU≤T * UU:=Nat.le_mul_of_pos_left _ (by omega)
     have h2:=UU_ge 52 (by decide)
     have h3:(2:Nat) ^ 52=4503599627370496:=by decide
     omega
    rw [hT0]
    exact Nat.div_eq_of_lt (by omega)
   ·rw [Zc2 hlow] at hT
    have hE1:1≤rg t / 4503599627370496:=by omega
    have hm:4503599627370496+rg t % 4503599627370496=T * 2 ^ (1075 - rg t / 4503599627370496):=by
     refine uu (qi (rg t / 4503599627370496 - 1)) ?_
     rw [hT,UU_two (1075 - rg t / 4503599627370496) (rg t / 4503599627370496 - 1) (by omega),kg]
    have hk:1075 - rg t / 4503599627370496 < 53:=by
     apply j3
     intro h
     have h1:2 ^ 53≤2 ^ (1075 - rg t / 4503599627370496):=ve (by decide) (by omega)
     have h2:T ≠ 0:=by intro h; rw [h,vz] at hm; omega
     have h3:2 ^ (1075 - rg t / 4503599627370496)≤T * 2 ^ (1075 - rg t / 4503599627370496):=Nat.le_mul_of_pos_left _ (by omega)
     have h4:(2:Nat) ^ 53=9007199254740992:=by decide
     omega
    refine ⟨1075 - rg t / 4503599627370496,by rw [if_neg (by omega)],by omega, ?_⟩
    rw [hm,Nat.mul_div_cancel _ (qi _)]
  rw [hk]
  refine Ev.bindc (shr_nat hk64) ?_
  rw [hkT]
  have hT53:T < 9007199254740992:=by
   have:T≤4503599627370496+rg t % 4503599627370496:=by rw [← hkT]; exact Nat.div_le_self _ _
   omega
  obtain ⟨l',k1,k2,k3,k4⟩:=Zig (fun N l v=>Z6n N t (T:Int) l v) T 0 hT53 (by decide) (fun N l v=>by rw [Z6n]; rfl) 53 0 (List.replicate 10 0) rfl ja (Zeb 10) (by rw [hz]; simp [Nat.mod_one])
  exact Ev.bind k1 (fin l' k2 k3 (by rw [k4]; simp))
 ·refine Ev.neg hneg ?_
  have hlow:¬ rg t < 4503599627370496:=by omega
  rw [Zc2 hlow] at hT
  have hTe:T=(4503599627370496+rg t % 4503599627370496) * 2 ^ (rg t / 4503599627370496 - 1075):=by
   refine uu UU_pos ?_
   rw [← hT,kg, ← UU_up (rg t / 4503599627370496 - 1075) (rg t / 4503599627370496 - 1) (by omega)]
  have he:rg t / 4503599627370496 - 1075+53≤320:=by
   apply j3
   intro h
   have h1:(2:Nat) ^ 256≤2 ^ (rg t / 4503599627370496 - 1075):=ve (by decide) (by omega)
   have h2:2 ^ (rg t / 4503599627370496 - 1075)≤T:=by rw [hTe]; exact Nat.le_mul_of_pos_left _ (by omega)
   omega
  obtain ⟨l',k1,k2,k3,k4⟩:=Zig (fun N l v=>Z6p N t l v) (4503599627370496+rg t % 4503599627370496) (rg t / 4503599627370496 - 1075) (by omega) he
   (fun N l v=>by
    rw [Z6p,expo_eq t ht,mant_eq t ht,hE,hF,show ((rg t / 4503599627370496:Nat):Int) - 1075=((rg t / 4503599627370496 - 1075:Nat):Int) by omega])
   53 0 (List.replicate 10 0) rfl ja (Zeb 10) (by rw [hz]; simp [Nat.mod_one])
  exact Ev.bind k1 (fin l' k2 k3 (by rw [k4,hTe]))
end Go.Proofs.Ytllcnlonkloabaa.Sh
