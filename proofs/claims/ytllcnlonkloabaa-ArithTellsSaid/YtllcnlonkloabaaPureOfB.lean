import Derived.Test.YtllcnlonkloabaaPureOf
set_option linter.unusedVariables false
set_option linter.unusedSimpArgs false
namespace Go.Proofs.Ytllcnlonkloabaa.Sh
open Go Lift Go.Proofs
def stk (b:Prop) [Decidable b]:Nat:=if b then 1 else 0
def topW (V drop:Nat):Nat:=V / 2 ^ drop ||| stk (V % 2 ^ drop ≠ 0)
theorem topW_lt {V drop:Nat} (h:V < 2 ^ (64+drop)):topW V drop < 18446744073709551616:=by
  have h1:V / 2 ^ drop < 2 ^ 64:=Nat.div_lt_of_lt_mul (by rw [← Nat.pow_add,Nat.add_comm drop]; exact h)
  have:topW V drop < 2 ^ 64:=Nat.or_lt_two_pow h1 (by unfold stk; split <;> decide)
  exact this
theorem dropI (n drop:Nat) (h:n < 1000) (hd:drop=n - 64):(if (0:Int) > (IntKind.wrap .i64 ((n:Int) - (64:Int))) then (0:Int) else IntKind.wrap .i64 ((n:Int) - (64:Int)))=(drop:Int):=by
  rw [Zip _ (by omega) (by omega)]
  split <;> omega
theorem top_high {V d p drop:Nat} (hV:V < 2 ^ p) (hp:drop≤p) (hb:V+d * 2 ^ p < 2 ^ (64+drop)) :
    d * 2 ^ (p - drop) < 2 ^ 64∧topW V drop ||| (d * 2 ^ (p - drop))=topW (V+d * 2 ^ p) drop:=by
  have hpp:2 ^ p=2 ^ (p - drop) * 2 ^ drop:=by rw [← Nat.pow_add]; congr 1; omega
  have hdp:=Nat.two_pow_pos drop
  have hdiv:(V+d * 2 ^ p) / 2 ^ drop=V / 2 ^ drop+d * 2 ^ (p - drop):=by
    rw [hpp, ← Nat.mul_assoc,Nat.add_mul_div_right _ _ hdp]
  have hmod:(V+d * 2 ^ p) % 2 ^ drop=V % 2 ^ drop:=by
    rw [hpp, ← Nat.mul_assoc,Nat.add_mul_mod_self_right]
  have hlow:V / 2 ^ drop < 2 ^ (p - drop):=Nat.div_lt_of_lt_mul (by rw [Nat.mul_comm, ← hpp]; exact hV)
  constructor
  · have h1:(V+d * 2 ^ p) / 2 ^ drop < 2 ^ 64:=Nat.div_lt_of_lt_mul (by rw [← Nat.pow_add,Nat.add_comm drop]; exact hb)
    rw [hdiv] at h1
    exact Nat.lt_of_le_of_lt (Nat.le_add_left _ _) h1
  · unfold topW
    rw [hdiv,hmod]
    have:=Nat.two_pow_add_eq_or_of_lt hlow d
    rw [Nat.mul_comm (2 ^ (p - drop)) d] at this
    rw [Nat.add_comm (V / 2 ^ drop),this,Nat.or_assoc,Nat.or_comm (stk _), ← Nat.or_assoc,Nat.or_comm (V / 2 ^ drop)]
theorem top_low {V d p drop:Nat} (hV:V < 2 ^ p) (hp:p < drop) :
    (topW V drop ||| (d / 2 ^ (drop - p))) ||| stk (d % 2 ^ (drop - p) ≠ 0)=topW (V+d * 2 ^ p) drop:=by
  have hdd:2 ^ drop=2 ^ p * 2 ^ (drop - p):=by rw [← Nat.pow_add]; congr 1; omega
  have hpp:=Nat.two_pow_pos p
  have hV2:V < 2 ^ drop:=Nat.lt_of_lt_of_le hV (Nat.pow_le_pow_right (by decide) (by omega))
  have h0:V / 2 ^ drop=0:=Nat.div_eq_of_lt hV2
  have hm0:V % 2 ^ drop=V:=Nat.mod_eq_of_lt hV2
  have hdiv:(V+d * 2 ^ p) / 2 ^ drop=d / 2 ^ (drop - p):=by
    rw [hdd, ← Nat.div_div_eq_div_mul,Nat.add_mul_div_right _ _ hpp,Nat.div_eq_of_lt hV,Nat.zero_add]
  have hmod:(V+d * 2 ^ p) % 2 ^ drop=V+2 ^ p * (d % 2 ^ (drop - p)):=by
    rw [hdd,Nat.mod_mul,Nat.add_mul_mod_self_right,Nat.mod_eq_of_lt hV,Nat.add_mul_div_right _ _ hpp,Nat.div_eq_of_lt hV,Nat.zero_add]
  unfold topW
  rw [h0,hm0,Nat.zero_or,hdiv,hmod]
  have hstk:stk (V ≠ 0) ||| stk (d % 2 ^ (drop - p) ≠ 0)=stk (V+2 ^ p * (d % 2 ^ (drop - p)) ≠ 0):=by
    unfold stk
    by_cases a:V=0
    · by_cases b:d % 2 ^ (drop - p)=0
      · rw [a,b]; rfl
      · have:V+2 ^ p * (d % 2 ^ (drop - p)) ≠ 0:=by have:=Nat.mul_pos hpp (Nat.pos_of_ne_zero b); omega
        rw [if_pos this,if_pos b,if_neg (by simpa using a)]; rfl
    · rw [if_pos a,if_pos (show V+2 ^ p * (d % 2 ^ (drop - p)) ≠ 0 by omega)]; split <;> rfl
  rw [← hstk,Nat.or_comm (stk (V ≠ 0)),Nat.or_assoc]
theorem band_top {a b:Nat} (ha:a < 18446744073709551616) (hb:b < 18446744073709551616):bor .u64 (a:Int) (b:Int)=((a ||| b:Nat):Int):=bor_u64 ha hb
theorem top_loop (p0:Z06) (n:Nat) (hmag:p0.fMag=toL n) (hn:n < 2 ^ 256) (r3:Int) (hr3:r3=((bitsN n:Nat):Int)) (drop:Nat) (hdrop:drop=bitsN n - 64) :
    ∀ (ts:List Int) (i:Nat),(toL n).drop i=ts→∀ V:Nat,val ((toL n).take i)=(V:Int)→Ev (fun N=>Zal N p0 r3 (i:Int) ((topW V drop:Nat):Int)) ((topW n drop:Nat):Int):=by
  have hbn:=Ze2 hn
  have hlen:(toL n).length≤8:=by
    have:=Zgr (n:Int) 8 (by omega)
    rw [Int.toNat_natCast,TOP_eq] at this
    refine this.2 ?_
    have hT:TOP=((2 ^ 256:Nat):Int):=by decide
    rw [hT]; exact Int.ofNat_lt.2 hn
  have hnb:n < 2 ^ (64+drop):=by
    by_cases h0:n=0
    · rw [h0]; exact Nat.two_pow_pos _
    · have h1:=log_hi n
      have h2:n.log2+1≤64+drop:=by unfold bitsN at hdrop; rw [if_neg h0] at hdrop; omega
      exact Nat.lt_of_lt_of_le h1 (Nat.pow_le_pow_right (by decide) h2)
  intro ts
  induction ts with
  | nil =>
    intro i hd V hV
    have hi:=Zcn hd
    rw [List.take_of_length_le hi,Zgo] at hV
    have hVn:V=n:=by omega
    subst hVn
    refine Ev.step ?_ (fun N=>by rw [Zal])
    rw [hmag]
    exact Ev.neg (by omega) (Ev.now _)
  | cons t ts ih =>
    intro i hd V hV
    have hi:=Zck hd
    have hil:i < (toL n).length:=by omega
    obtain ⟨h0,h1⟩:=Z34 (Z8m n) i
    obtain ⟨d,hdd⟩:=Int.eq_ofNat_of_zero_le h0
    have hd32:d < 4294967296:=by omega
    have hVlt:V < 2 ^ (32 * i):=by
      have:=val_lt (Z4n (Z8m n) i)
      rw [hV,List.length_take,Nat.min_eq_left (by omega),pow32] at this
      exact Int.ofNat_lt.1 this
    have hV':val ((toL n).take (i+1))=((V+d * 2 ^ (32 * i):Nat):Int):=by
      rw [Zay _ _ hil,hV,hdd,pow32,Int.natCast_add,Int.natCast_mul,Int.mul_comm]
    have hle:V+d * 2 ^ (32 * i)≤n:=by
      have a:=Zds (toL n) (i+1) (by omega)
      rw [Zgo,hV'] at a
      have b:=Z4c (limbs_drop (Z8m n) (i+1))
      have c:0≤4294967296 ^ (i+1) * val ((toL n).drop (i+1)):=Int.mul_nonneg (Int.le_of_lt (pow_pos' _)) b
      omega
    have hb:V+d * 2 ^ (32 * i) < 2 ^ (64+drop):=Nat.lt_of_le_of_lt hle hnb
    have ih':=ih (i+1) (Zbc hd) (V+d * 2 ^ (32 * i)) hV'
    have hB:Ev (fun N=>Zd4 N p0 r3 (i:Int) ((topW V drop:Nat):Int)) ((topW (V+d * 2 ^ (32 * i)) drop:Nat):Int):=by
      refine Ev.step ?_ (fun N=>by rw [Zd4])
      rw [hmag,hr3,dropI (bitsN n) drop (by omega) hdrop]
      refine Ev.bindc (idx_dg hil) ?_
      rw [hdd]
      have hw32:IntKind.wrap .i64 ((32:Int) * (i:Int))=((32 * i:Nat):Int):=by rw [Zip _ (by omega) (by omega)]; omega
      have hwd:IntKind.wrap .u64 (d:Int)=(d:Int):=Ziq _ (by omega) (by omega)
      have htV:topW V drop < 18446744073709551616:=topW_lt (Nat.lt_of_le_of_lt (Nat.le_add_right _ _) hb)
      rw [hw32]
      by_cases c:drop≤32 * i
      · obtain ⟨k1,k2⟩:=top_high hVlt c hb
        have hlow:IntKind.wrap .i64 (((32 * i:Nat):Int) - (drop:Int))=((32 * i - drop:Nat):Int):=by rw [Zip _ (by omega) (by omega)]; omega
        rw [hlow,hwd]
        refine Ev.pos (by omega) ?_
        have hshl:shl .u64 (d:Int) ((32 * i - drop:Nat):Int)=some ((d * 2 ^ (32 * i - drop):Nat):Int):=by
          unfold shl
          rw [if_neg (by omega),Int.toNat_natCast]
          by_cases z:d=0
          · subst z
            simp only [Nat.zero_mul,Int.natCast_zero,Int.zero_mul]
            rfl
          · have hs:32 * i - drop < 64:=by
              apply Classical.byContradiction
              intro hc
              have h2:2 ^ 64≤2 ^ (32 * i - drop):=Nat.pow_le_pow_right (by decide) (by omega)
              have h3:2 ^ (32 * i - drop)≤d * 2 ^ (32 * i - drop):=Nat.le_mul_of_pos_left _ (by omega)
              omega
            rw [show min (32 * i - drop) (IntKind.bits .u64)=32 * i - drop by show min _ 64=_; omega]
            have e:(d:Int) * 2 ^ (32 * i - drop)=((d * 2 ^ (32 * i - drop):Nat):Int):=by rw [Int.natCast_mul,Int.natCast_pow]; rfl
            rw [e,Ziq _ (Int.natCast_nonneg _) (by exact Int.ofNat_lt.2 k1)]
        refine Ev.bindc hshl ?_
        have e:bor .u64 ((topW V drop:Nat):Int) ((d * 2 ^ (32 * i - drop):Nat):Int)=((topW (V+d * 2 ^ (32 * i)) drop:Nat):Int):=by rw [band_top htV (by exact k1),k2]
        show Ev (fun _=>some (bor .u64 ((topW V drop:Nat):Int) ((d * 2 ^ (32 * i - drop):Nat):Int))) _
        rw [e]
        exact Ev.now _
      · have k2:=top_low (d:=d) hVlt (show 32 * i < drop by omega)
        have hlow:IntKind.wrap .i64 (((32 * i:Nat):Int) - (drop:Int))=((32 * i:Nat):Int) - (drop:Int):=by rw [Zip _ (by omega) (by omega)]
        rw [hlow,hwd]
        refine Ev.neg (by omega) ?_
        have hneg:IntKind.wrap .i64 (0 - (((32 * i:Nat):Int) - (drop:Int)))=((drop - 32 * i:Nat):Int):=by rw [Zip _ (by omega) (by omega)]; omega
        rw [hneg]
        have hshr:shr .u64 (d:Int) ((drop - 32 * i:Nat):Int)=some ((d / 2 ^ (drop - 32 * i):Nat):Int):=by
          by_cases z:drop - 32 * i < 64
          · exact shr_nat z
          · unfold shr
            rw [if_neg (by omega),Int.toNat_natCast,show min (drop - 32 * i) (IntKind.bits .u64)=64 by show min _ 64=_; omega]
            have e1:d / 2 ^ (drop - 32 * i)=0:=Nat.div_eq_of_lt (Nat.lt_of_lt_of_le hd32 (Nat.pow_le_pow_right (show 0 < 2 by decide) (show 32≤drop - 32 * i by omega)))
            rw [e1,Int.fdiv_eq_ediv_of_nonneg _ (by decide)]
            congr 1
            exact Int.ediv_eq_zero_of_lt (by omega) (by show (d:Int) < 18446744073709551616; omega)
        refine Ev.bindc hshr ?_
        -- what is lost of it
        have hsum:IntKind.wrap .i64 ((32:Int)+(((32 * i:Nat):Int) - (drop:Int)))=32+(((32 * i:Nat):Int) - (drop:Int)):=by rw [Zip _ (by omega) (by omega)]
        rw [hsum]
        have hsh:(if (0:Int) > 32+(((32 * i:Nat):Int) - (drop:Int)) then (0:Int) else 32+(((32 * i:Nat):Int) - (drop:Int)))=((32 - (drop - 32 * i):Nat):Int):=by split <;> omega
        rw [hsh]
        have hrest:shl .u32 (d:Int) ((32 - (drop - 32 * i):Nat):Int)=some (((d * 2 ^ (32 - (drop - 32 * i))) % 4294967296:Nat):Int):=by
          unfold shl
          rw [if_neg (by omega),Int.toNat_natCast,show min (32 - (drop - 32 * i)) (IntKind.bits .u32)=32 - (drop - 32 * i) by show min _ 32=_; omega,wrapU32]
          have e:(d:Int) * 2 ^ (32 - (drop - 32 * i))=((d * 2 ^ (32 - (drop - 32 * i)):Nat):Int):=by rw [Int.natCast_mul,Int.natCast_pow]; rfl
          rw [e]
          rfl
        refine Ev.bindc hrest ?_
        have hsz:((d * 2 ^ (32 - (drop - 32 * i))) % 4294967296=0) ↔ (d % 2 ^ (drop - 32 * i)=0)∨(32 < drop - 32 * i∧d=0):=by
          by_cases z:drop - 32 * i≤32
          · have e1:(4294967296:Nat)=2 ^ (drop - 32 * i) * 2 ^ (32 - (drop - 32 * i)):=by rw [← Nat.pow_add,show drop - 32 * i+(32 - (drop - 32 * i))=32 by omega]
            rw [e1,Nat.mul_mod_mul_right]
            have hp:=Nat.two_pow_pos (32 - (drop - 32 * i))
            constructor
            · intro h; exact .inl ((Nat.mul_eq_zero.1 h).resolve_right (by omega))
            · rintro (h | h)
              · rw [h,Nat.zero_mul]
              · omega
          · rw [show 32 - (drop - 32 * i)=0 by omega,Nat.pow_zero,Nat.mul_one,Nat.mod_eq_of_lt hd32]
            have:d % 2 ^ (drop - 32 * i)=d:=Nat.mod_eq_of_lt (Nat.lt_of_lt_of_le hd32 (Nat.pow_le_pow_right (show 0 < 2 by decide) (show 32≤drop - 32 * i by omega)))
            omega
        have hq:d / 2 ^ (drop - 32 * i) < 18446744073709551616:=Nat.lt_of_le_of_lt (Nat.div_le_self _ _) (by omega)
        have hor:topW V drop ||| d / 2 ^ (drop - 32 * i) < 18446744073709551616:=by
          have:topW V drop ||| d / 2 ^ (drop - 32 * i) < 2 ^ 64:=Nat.or_lt_two_pow htV hq
          exact this
        have b1:bor .u64 ((topW V drop:Nat):Int) ((d / 2 ^ (drop - 32 * i):Nat):Int)=((topW V drop ||| d / 2 ^ (drop - 32 * i):Nat):Int):=band_top htV hq
        have b2:bor .u64 ((topW V drop ||| d / 2 ^ (drop - 32 * i):Nat):Int) (1:Int)=((topW V drop ||| d / 2 ^ (drop - 32 * i) ||| 1:Nat):Int):=band_top (b:=1) hor (by decide)
        rw [b1,b2]
        by_cases z:d % 2 ^ (drop - 32 * i)=0
        · have hs0:stk (d % 2 ^ (drop - 32 * i) ≠ 0)=0:=if_neg (by simpa using z)
          rw [hs0,Nat.or_zero] at k2
          refine Ev.neg (by rw [hsz.2 (.inl z)]; simp) ?_
          rw [← k2]
          by_cases y:((32 * i:Nat):Int) - (drop:Int)≤-32
          · have hd0:d=0:=by
              have:=Nat.mod_eq_of_lt (Nat.lt_of_lt_of_le hd32 (Nat.pow_le_pow_right (show 0 < 2 by decide) (show 32≤drop - 32 * i by omega)))
              omega
            exact Ev.pos y (Ev.neg (by omega) (Ev.now _))
          · exact Ev.neg y (Ev.now _)
        · have hs1:stk (d % 2 ^ (drop - 32 * i) ≠ 0)=1:=if_pos z
          rw [hs1] at k2
          have hne:(d * 2 ^ (32 - (drop - 32 * i))) % 4294967296 ≠ 0:=fun h=>by
            rcases hsz.1 h with h | h
            · exact z h
            · exact z (by rw [h.2]; exact Nat.zero_mod _)
          rw [← k2]
          exact Ev.pos (by omega) (Ev.now _)
    refine Ev.step ?_ (fun N=>by rw [Zal,Z5z (by omega)])
    refine Ev.pos (by rw [hmag]; omega) (Ev.bind hB ih')
theorem nan_rung {R:Nat} (h:R≤9218868437227405312):nanW R=false:=by
  have:=nan_wd false h; rwa [Z7k] at this
theorem sV_rung {R:Nat} (h:R < 9223372036854775808):sV R=((VV R:Nat):Int):=by
  have h1:=sg_wd false h
  have h2:=rg_wd false h
  rw [Z7k] at h1 h2
  unfold sV
  rw [h1,h2,if_neg (by simp)]
theorem ldexp_up {R e:Nat} (h1:4503599627370496≤R) (h2:R+e * 4503599627370496 < 9218868437227405312) (he:e≤1000):Ev (fun N=>Z9l N R (e:Int)) (R+e * 4503599627370496):=by
  have hR:R < 9218868437227405312:=by omega
  have nR:=nan_rung (R:=R) (by omega)
  have sR:=sV_rung (R:=R) (by omega)
  have abs:Ev (fun N=>Zh3 N R) R:=by
    have:=bandn_63 (R:Int) (by omega) (by omega)
    have e1:Int.toNat (Zi2 .u64 ((R:Nat):Int) (9223372036854775808:Int))=R:=by rw [this]; omega
    show Ev (fun _=>some (Int.toNat (Zi2 .u64 ((R:Nat):Int) (9223372036854775808:Int)))) R
    rw [e1]; exact Ev.now _
  have hB0:Ev (fun N=>Z5d N R (e:Int)) (.inl ()):=by
    refine Ev.step ?_ (fun N=>by rw [Z5d])
    refine Ev.neg ?_ (Ev.bind (a:=false) ?_ (Ev.neg (by simp) (Ev.bind (a:=false) ?_ (Ev.neg (by simp) (Ev.now _)))))
    · rw [feq_eq nR nan_zero,decide_eq_true_eq,sR,sV_zero]
      have:=VV_pos.2 (show 0 < R by omega)
      omega
    · refine Ev.pos rfl (Ev.bind abs ?_)
      have:Lift.fgt R 9218868437227405311=false:=by
        rw [fgt_eq nR (by decide),sR,sV_rung (by decide)]
        refine decide_eq_false ?_
        have:VV R≤VV 9218868437227405311:=by
          rcases Nat.lt_or_ge R 9218868437227405311 with c | c
          · exact Nat.le_of_lt (VV_lt c)
          · rw [show R=9218868437227405311 by omega]; exact Nat.le_refl _
        omega
      rw [this]; exact Ev.now _
    · rw [← nR, ← Lift.fne_self R]; exact Ev.now _
  have hnorm:Ev (fun N=>Zav N R) (R,(0:Int)):=by
    refine Ev.bind abs (Ev.neg ?_ (Ev.now _))
    rw [flt_eq nR (by decide),sR,sV_rung (by decide),decide_eq_true_eq]
    have:VV 4503599627370496≤VV R:=by
      rcases Nat.lt_or_ge 4503599627370496 R with c | c
      · exact Nat.le_of_lt (VV_lt c)
      · rw [show R=4503599627370496 by omega]; exact Nat.le_refl _
    omega
  have p52i:(2:Int) ^ (min (Int.toNat (52:Int)) (IntKind.bits .u64))=4503599627370496:=by decide
  have hfd:Int.fdiv ((R:Nat):Int) 4503599627370496=((R / 4503599627370496:Nat):Int):=by rw [Int.fdiv_eq_ediv_of_nonneg _ (by decide)]; omega
  have hE:R / 4503599627370496 < 2047:=by omega
  have hexp:IntKind.wrap .i64 ((IntKind.wrap .i64 ((e:Int)+(0:Int)))+(IntKind.wrap .i64 ((band .i64 (IntKind.wrap .i64 (Int.fdiv ((R:Nat):Int) (2 ^ (min (Int.toNat (52:Int)) (IntKind.bits .u64))))) (2047:Int)) - (1023:Int))))=(e:Int)+((R / 4503599627370496:Nat):Int) - 1023:=by
    rw [p52i,hfd,Zip ((R / 4503599627370496:Nat):Int) (by omega) (by omega),band_i64_exp (by omega),Zip ((e:Int)+0) (by omega) (by omega),Zip (((R / 4503599627370496:Nat):Int) - 1023) (by omega) (by omega),Zip _ (by omega) (by omega)]
    omega
  refine Ev.bind (Ev.bind hB0 (Ev.bind hnorm ?_)) (Ev.now _)
  simp only [hexp]
  refine Ev.neg (by omega) (Ev.neg (by omega) (Ev.neg (by omega) ?_))
  have hfin:Lift.fmul 4607182418800017408 (Int.toNat (bor .u64 (Zi2 .u64 ((R:Nat):Int) (9218868437227405312:Int)) (IntKind.wrap .u64 ((IntKind.wrap .u64 (IntKind.wrap .i64 (((e:Int)+((R / 4503599627370496:Nat):Int) - 1023)+(1023:Int)))) * 2 ^ (min (Int.toNat (52:Int)) (IntKind.bits .u64))))))=some (R+e * 4503599627370496):=by
    have w1:IntKind.wrap .i64 (((e:Int)+((R / 4503599627370496:Nat):Int) - 1023)+(1023:Int))=((R / 4503599627370496+e:Nat):Int):=by rw [Zip _ (by omega) (by omega)]; omega
    have w2:IntKind.wrap .u64 ((R / 4503599627370496+e:Nat):Int)=((R / 4503599627370496+e:Nat):Int):=Ziq _ (by omega) (by omega)
    have w3:IntKind.wrap .u64 (((R / 4503599627370496+e:Nat):Int) * 4503599627370496)=(((R / 4503599627370496+e) * 4503599627370496:Nat):Int):=by rw [Ziq _ (by omega) (by omega)]; omega
    rw [p52i,bandn_exp (by omega),w1,w2,w3,bor_exp (Nat.mod_lt _ (by decide)) (by omega),Int.toNat_natCast]
    have e1:(R / 4503599627370496+e) * 4503599627370496+R % 4503599627370496=R+e * 4503599627370496:=by omega
    rw [e1,fmul_comm]
    have:=fmul_one false false (r:=R+e * 4503599627370496) (by omega)
    rw [Z7k,Z7k] at this
    exact this
  exact Ev.bindc hfin (Ev.now _)
theorem nearR_range {T:Nat} (h0:T ≠ 0) (h1:T < 18446744073709551616):1023 * 4503599627370496≤Zif T 0∧Zif T 0≤1087 * 4503599627370496:=by
  by_cases hs:T < 9007199254740992
  · obtain ⟨r,hr⟩:=rung_of UUn T hs
    rw [UU_def] at hr
    have hlo:1023 * 4503599627370496≤r:=by
      have e:=VV_bin 1022
      have hu:52+1022=UUn:=rfl
      rw [hu,UU_def,show (1022+1) * 4503599627370496=1023 * 4503599627370496 from rfl] at e
      apply Classical.byContradiction
      intro hc
      have:=VV_lt (show r < 1023 * 4503599627370496 by omega)
      rw [e,hr] at this
      have:=Nat.le_mul_of_pos_left UU (show 0 < T by omega)
      omega
    have hhi:r≤1087 * 4503599627370496:=by
      have e:=VV_bin 1086
      have hu:52+1086=64+UUn:=rfl
      rw [hu,Nat.pow_add,UU_def,show (1086+1) * 4503599627370496=1087 * 4503599627370496 from rfl] at e
      apply Classical.byContradiction
      intro hc
      have:=VV_lt (show 1087 * 4503599627370496 < r by omega)
      rw [e,hr] at this
      have:=Nat.mul_le_mul_right UU (show T≤2 ^ 64 by omega)
      omega
    rw [nearR_small hr (by omega)]
    exact ⟨hlo,hhi⟩
  · have hl1:53≤T.log2:=(Nat.le_log2 h0).2 (by omega)
    have hl2:T.log2 < 64:=(Nat.log2_lt h0).2 h1
    have hc:=cutE_le (n:=T) (d:=T.log2 - 52) (by omega)
    have hq:T / 2 ^ (T.log2 - 52) < 2 ^ 53:=by
      refine Nat.div_lt_of_lt_mul ?_
      rw [← Nat.pow_add]
      exact Nat.lt_of_lt_of_le (log_hi T) (Nat.pow_le_pow_right (by decide) (by omega))
    rw [Zf9 (by omega)]
    have e53:(2:Nat) ^ 53=9007199254740992:=by decide
    rw [e53] at hq
    generalize T / 2 ^ (T.log2 - 52)=q at *
    generalize cutE T (T.log2 - 52)=c at *
    generalize T.log2=l at *
    omega
theorem Of_num (n:Nat) (hn:n < 2 ^ 256) (hn0:n ≠ 0):∃ drop R,drop=bitsN n - 64∧Zif (topW n drop) 0=R∧4503599627370496≤R∧R+drop * 4503599627370496=Zif n 0∧Zif n 0 < 9218868437227405312∧drop≤192:=by
  have hb:=Ze2 hn
  refine ⟨bitsN n - 64,Zif (topW n (bitsN n - 64)) 0,rfl,rfl, ?_⟩
  by_cases c:bitsN n≤64
  · have e0:bitsN n - 64=0:=by omega
    have hlt:n < 18446744073709551616:=by
      have:=log_hi n
      have h2:n.log2+1≤64:=by unfold bitsN at c; rw [if_neg hn0] at c; exact c
      exact Nat.lt_of_lt_of_le this (Nat.pow_le_pow_right (show 0 < 2 by decide) h2)
    have et:topW n 0=n:=by unfold topW stk; rw [Nat.pow_zero,Nat.div_one,Nat.mod_one]; simp
    rw [e0,et]
    have:=nearR_range hn0 hlt
    omega
  · have hl:n.log2=63+(bitsN n - 64):=by unfold bitsN at c ⊢; rw [if_neg hn0] at c ⊢; omega
    generalize hdr:bitsN n - 64=drop at *
    have hp:=Nat.two_pow_pos drop
    have hdm:=Nat.div_add_mod n (2 ^ drop)
    have hlow:=Nat.mod_lt n hp
    have ht:9223372036854775808≤n / 2 ^ drop:=by
      have:=log_lo hn0
      rw [hl,Nat.pow_add] at this
      have:=Nat.div_le_div_right (c:=2 ^ drop) this
      rwa [Nat.mul_div_cancel _ hp,show (2:Nat) ^ 63=9223372036854775808 by decide] at this
    have ht2:n / 2 ^ drop < 18446744073709551616:=by
      refine Nat.div_lt_of_lt_mul ?_
      have:=log_hi n
      rw [hl,show 63+drop+1=drop+64 by omega,Nat.pow_add] at this
      exact this
    obtain ⟨k1,k2,k3⟩:=nearR_sticky (t:=n / 2 ^ drop) (e:=drop) (low:=n % 2 ^ drop) hlow ht ht2 (by omega)
    rw [Nat.mul_comm,hdm] at k1
    have et:topW n drop=n / 2 ^ drop ||| (if n % 2 ^ drop ≠ 0 then 1 else 0):=rfl
    rw [et]
    generalize Zif (n / 2 ^ drop ||| (if n % 2 ^ drop ≠ 0 then 1 else 0)) 0=R at *
    omega
theorem rOf_ev (x:Int) (hx:(x.natAbs:Int) < TOP):Ev (fun N=>real_Of N (numN x)) ((wd (decide (x < 0)) (Zif x.natAbs 0):Nat):Int):=by
  have hT:TOP=((2 ^ 256:Nat):Int):=by decide
  have hn:x.natAbs < 2 ^ 256:=by rw [hT] at hx; exact Int.ofNat_lt.1 hx
  have hmag:(numN x).fMag=toL x.natAbs:=rfl
  have hneg:(numN x).fNeg=decide (x < 0):=rfl
  have hb:=Ze2 hn
  have htop:=fun drop hd=>top_loop (numN x) x.natAbs hmag hn _ rfl drop hd (toL x.natAbs) 0 rfl 0 (by simp [val])
  have hlen:=length_ev x.natAbs hn
  have fin:∀ R:Nat,R≤9218868437227405312→Ev (fun _=>if (numN x).fNeg=true then some (((Lift.fneg R):Nat):Int) else some ((R:Nat):Int)) ((wd (decide (x < 0)) R:Nat):Int):=fun R hR=>by
    rw [hneg]
    by_cases c:x < 0
    · rw [decide_eq_true c,fneg_eq (by omega)]
      refine Ev.pos rfl ?_
      have:=Zg4 R hR
      rw [this]
      exact Ev.now _
    · rw [decide_eq_false c,Z7k]
      exact Ev.neg (by simp) (Ev.now _)
  unfold real_Of
  refine Ev.bind (may_ev x hx) (Ev.neg (by simp) ?_)
  rw [hmag]
  refine Ev.bind hlen ?_
  by_cases h0:x.natAbs=0
  · have hd:=dropI (bitsN x.natAbs) 0 (by omega) (by rw [h0]; rfl)
    have ht:=htop 0 (by rw [h0]; rfl)
    have e0:topW 0 0=0:=rfl
    rw [e0] at ht
    refine Ev.bind (a:=((topW x.natAbs 0:Nat):Int)) ht ?_
    rw [hd,h0,e0]
    have hf:Lift.fint ((0:Nat):Int)=0:=by rw [fint_eq]; rfl
    rw [hf]
    have hl:Ev (fun N=>Z9l N 0 ((0:Nat):Int)) 0:=by
      have hB0:Ev (fun N=>Z5d N 0 ((0:Nat):Int)) (.inr ()):=by
        refine Ev.step ?_ (fun N=>by rw [Z5d])
        exact Ev.pos (by decide) (Ev.now _)
      exact Ev.bind (Ev.bind hB0 (Ev.now _)) (Ev.now _)
    have hz:Zif 0 0=0:=nearR_zero 0
    refine Ev.bind hl ?_
    rw [hz]
    exact fin 0 (by decide)
  · obtain ⟨drop,R,hdr,hR,hR1,hR2,hR3,hd192⟩:=Of_num x.natAbs hn h0
    have hd:=dropI (bitsN x.natAbs) drop (by omega) hdr
    have ht:=htop drop hdr
    have e0:topW 0 drop=0:=by unfold topW stk; rw [Nat.zero_div,Nat.zero_mod]; rfl
    rw [e0] at ht
    refine Ev.bind (a:=((topW x.natAbs drop:Nat):Int)) ht ?_
    rw [hd]
    have hf:Lift.fint ((topW x.natAbs drop:Nat):Int)=R:=by
      rw [fint_eq,decide_eq_false (by omega),Int.natAbs_natCast,hR,Z7k]
    rw [hf]
    refine Ev.bind (ldexp_up hR1 (by omega) (by omega)) ?_
    rw [hR2]
    exact fin _ (by omega)
end Go.Proofs.Ytllcnlonkloabaa.Sh
