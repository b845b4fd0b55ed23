import Derived.Test.YtllcnlonkloabaaPureNumE
set_option linter.unusedVariables false
set_option linter.unusedSimpArgs false
namespace Go.Proofs.Ytllcnlonkloabaa.Sh
open Go Lift Go.Proofs

theorem mul_l1 (p0 p1:Z06) (a28:List Int) (x:Int) (i A:Nat) (hi:i < A) (h8:A≤8) (hb8:p1.fMag.length≤8) (hx0:0≤x) (hx1:x < 4294967296) (hb:limbs p1.fMag):∀ (d j:Nat) (out:List Int) (c:Int),
    j+d=p1.fMag.length→limbs out→out.length=A+p1.fMag.length→0≤c→c < 4294967296 →
    ∃ out' c', Ev (fun N => Zah N p0 p1 a28 i x out j c) (out', c') ∧
      limbs out'∧out'.length=A+p1.fMag.length∧0≤c'∧c' < 4294967296∧val out'+4294967296 ^ (i+p1.fMag.length) * c'=val out+4294967296 ^ (i+j) * (c+x * val (p1.fMag.drop j))∧∀ m,i+p1.fMag.length≤m→dg out' m=dg out m:=by
  intro d
  induction d with
  | zero =>
    intro j out c hd hl hlen h0 h1
    refine ⟨out,c, ?_,hl,hlen,h0,h1, ?_,fun m _=>rfl⟩
    · refine Ev.step ?_ (fun N=>by rw [Zah])
      exact Ev.neg (by omega) (Ev.now _)
    · rw [List.drop_eq_nil_of_le (by omega),show j=p1.fMag.length by omega]
      simp [val]
  | succ d ih =>
    intro j out c hd hl hlen h0 h1
    have hj:IntKind.i64.wrap ((i:Int)+(j:Int))=((i+j:Nat):Int):=by rw [Zip _ (by omega) (by omega)]; omega
    have hw2:IntKind.i64.wrap ((j:Int)+1)=((j+1:Nat):Int):=Z5z (by omega)
    have rb:=Z34 hb j
    have ro:=Z34 hl (i+j)
    have p0':0≤x * dg p1.fMag j:=Int.mul_nonneg hx0 rb.1
    have p1':x * dg p1.fMag j≤4294967295 * 4294967295:=Int.mul_le_mul (by omega) (by omega) rb.1 (by omega)
    have hs:IntKind.u64.wrap (c+IntKind.u64.wrap (IntKind.u64.wrap (dg out (i+j))+IntKind.u64.wrap (IntKind.u64.wrap x * IntKind.u64.wrap (dg p1.fMag j))))=c+(dg out (i+j)+x * dg p1.fMag j):=by
      rw [Ziq x hx0 (by omega),Ziq (dg p1.fMag j) rb.1 (by omega),Ziq (x * dg p1.fMag j) p0' (by omega),Ziq (dg out (i+j)) ro.1 (by omega),Ziq (dg out (i+j)+x * dg p1.fMag j) (by omega) (by omega),Ziq _ (by omega) (by omega)]
    have e:=Int.emod_add_mul_ediv (c+(dg out (i+j)+x * dg p1.fMag j)) 4294967296
    obtain ⟨out',c',he,g1,g2,g3,g4,g5,g6⟩:=ih (j+1) (out.set (i+j) ((c+(dg out (i+j)+x * dg p1.fMag j)) % 4294967296)) ((c+(dg out (i+j)+x * dg p1.fMag j)) / 4294967296) (by omega)
      (limbs_set hl _ (by omega) (by omega)) (by rw [List.length_set]; exact hlen) (by omega) (by omega)
    refine ⟨out',c', ?_,g1,g2,g3,g4, ?_,fun m hm=>?_⟩
    · refine Ev.step ?_ (fun N=>by rw [Zah,hj,hw2,p32u])
      refine Ev.pos (by omega) (Ev.bindc (idx_dg (by omega)) (Ev.bindc (idx_dg (by omega)) (Ev.bindc (idx_dg (by omega)) ?_)))
      rw [hs,w32,fdiv32,Int.toNat_natCast]
      exact he
    · rw [g5,val_set _ _ _ (by omega),Z8y p1.fMag j,show i+(j+1)=(i+j)+1 by omega,Int.pow_succ]
      generalize (c+(dg out (i+j)+x * dg p1.fMag j)) % 4294967296=u at *
      generalize (c+(dg out (i+j)+x * dg p1.fMag j)) / 4294967296=q at *
      grind
    · rw [g6 m hm,dg_set _ _ _ _ (by omega),if_neg (by omega)]
theorem mul_l0 (p0 p1:Z06) (h8:p0.fMag.length≤8) (hb8:p1.fMag.length≤8) (ha:limbs p0.fMag) (hb:limbs p1.fMag):∀ (d i:Nat) (out:List Int),
    i+d=p0.fMag.length→limbs out→out.length=p0.fMag.length+p1.fMag.length→val out=val (p0.fMag.take i) * val p1.fMag→(∀ m,i+p1.fMag.length≤m→dg out m=0) →
    ∃ r,Ev (fun N=>Z8a N p0 p1 out i) r∧limbs r∧r.length=p0.fMag.length+p1.fMag.length∧val r=val p0.fMag * val p1.fMag:=by
  intro d
  induction d with
  | zero =>
    intro i out hd hl hlen hv hz
    refine ⟨out, ?_,hl,hlen, ?_⟩
    · refine Ev.step ?_ (fun N=>by rw [Z8a])
      exact Ev.neg (by omega) (Ev.now _)
    · rw [hv,List.take_of_length_le (by omega)]
  | succ d ih =>
    intro i out hd hl hlen hv hz
    have ra:=Z34 ha i
    have hw:IntKind.i64.wrap ((i:Int)+((p1.fMag.length:Nat):Int))=((i+p1.fMag.length:Nat):Int):=by rw [Zip _ (by omega) (by omega)]; omega
    have hw2:IntKind.i64.wrap ((i:Int)+1)=((i+1:Nat):Int):=Z5z (by omega)
    obtain ⟨out',c',he,g1,g2,g3,g4,g5,g6⟩:=mul_l1 p0 p1 out (dg p0.fMag i) i p0.fMag.length (by omega) h8 hb8 ra.1 ra.2 hb p1.fMag.length 0 out 0 (by omega) hl hlen (by omega) (by omega)
    have z:dg out' (i+p1.fMag.length)=0:=by rw [g6 _ (Nat.le_refl _)]; exact hz _ (Nat.le_refl _)
    obtain ⟨r,e,k1,k2,k3⟩:=ih (i+1) (out'.set (i+p1.fMag.length) c') (by omega) (limbs_set g1 _ g3 g4) (by rw [List.length_set]; exact g2) (by
      rw [val_set _ _ _ (by omega),z,Int.sub_zero,g5,hv,Zay p0.fMag i (by omega)]
      simp only [Nat.add_zero,Int.zero_add,List.drop_zero]
      grind) (by
      intro m hm
      rw [dg_set _ _ _ _ (by omega),if_neg (by omega),g6 m (by omega)]
      exact hz m (by omega))
    refine ⟨r, ?_,k1,k2,k3⟩
    refine Ev.step ?_ (fun N=>by rw [Z8a,hw,hw2])
    refine Ev.pos (by omega) (Ev.bindc (idx_dg (by omega)) (Ev.bind he ?_))
    have ec:IntKind.u32.wrap c'=c':=by rw [w32]; omega
    refine Ev.bindc (idx_dg (l:=out') (by omega)) ?_
    show Ev (fun N=>Z8a N p0 p1 (out'.set (Int.toNat ((i+p1.fMag.length:Nat):Int)) (IntKind.u32.wrap c')) ((i+1:Nat):Int)) r
    rw [ec,Int.toNat_natCast]
    exact e
theorem Ev.eta {α β:Type} (v:α × β):Ev (fun _=>some (v.1,v.2)) v:=Ev.now v
theorem nmul_ev (x y:Int) (hx:(x.natAbs:Int) < TOP) (hy:(y.natAbs:Int) < TOP):Ev (fun N=>num_Mul N (numN x) (numN y)) (res (x * y)):=by
  have lx:=Z7y x hx
  have ly:=Z7y y hy
  have vx:=Zbf x
  have vy:=Zbf y
  have hw:IntKind.i64.wrap ((((numN x).fMag.length:Nat):Int)+(((numN y).fMag.length:Nat):Int))=(((numN x).fMag.length+(numN y).fMag.length:Nat):Int):=by rw [Zip _ (by omega) (by omega)]; omega
  obtain ⟨r,e,k1,k2,k3⟩:=mul_l0 (numN x) (numN y) lx ly (Z8k x) (Z8k y) (numN x).fMag.length 0 (List.replicate ((numN x).fMag.length+(numN y).fMag.length) 0) (by omega)
    (limbs_zeros _) (by simp) (by rw [val_zeros]; simp [val]) (fun m _=>dg_zeros _ _)
  refine Ev.bind (may_ev x hx) (Ev.neg (by simp) (Ev.bind (may_ev y hy) (Ev.neg (by simp) ?_)))
  show Ev (fun N=>(mk (0:Int) (IntKind.wrap .i64 ((((numN x).fMag.length:Nat):Int)+(((numN y).fMag.length:Nat):Int)))).bind fun x5=>(Z8a N (numN x) (numN y) x5 (0:Int)).bind fun r14=>(Zax N ((numN x).fNeg != (numN y).fNeg) r14).bind fun r15=>some (r15.1,r15.2)) _
  rw [hw]
  refine Ev.bindc (mk_eq (by omega)) (Ev.bind e (Ev.bind (made_ev _ r k1 (by omega)) ?_))
  rw [k3,vx,vy]
  have em:madeV ((numN x).fNeg != (numN y).fNeg) ((x.natAbs:Int) * (y.natAbs:Int))=res (x * y):=by
    refine Zbb _ _ (Int.mul_nonneg (by omega) (by omega)) _ ?_
    have ex:x=if x < 0 then -(x.natAbs:Int) else (x.natAbs:Int):=by split <;> omega
    have ey:y=if y < 0 then -(y.natAbs:Int) else (y.natAbs:Int):=by split <;> omega
    have c:∀ (p q:Int),x=p→y=q→x * y=p * q:=fun p q hp hq=>by rw [hp,hq]
    unfold numN
    by_cases sx:x < 0
    · by_cases sy:y < 0
      · rw [if_pos sx] at ex; rw [if_pos sy] at ey
        rw [c _ _ ex ey,decide_eq_true sx,decide_eq_true sy]
        simp [Int.neg_mul,Int.mul_neg]
      · rw [if_pos sx] at ex; rw [if_neg sy] at ey
        rw [c _ _ ex ey,decide_eq_true sx,decide_eq_false sy]
        simp [Int.neg_mul,Int.mul_neg]
    · by_cases sy:y < 0
      · rw [if_neg sx] at ex; rw [if_pos sy] at ey
        rw [c _ _ ex ey,decide_eq_false sx,decide_eq_true sy]
        simp [Int.neg_mul,Int.mul_neg]
      · rw [if_neg sx] at ex; rw [if_neg sy] at ey
        rw [c _ _ ex ey,decide_eq_false sx,decide_eq_false sy]
        simp [Int.neg_mul,Int.mul_neg]
  rw [em]
  exact Ev.eta _
theorem nadd_ev (x y:Int) (hx:(x.natAbs:Int) < TOP) (hy:(y.natAbs:Int) < TOP):Ev (fun N=>num_Add N (numN x) (numN y)) (res (x+y)):=by
  have lx:=Z7y x hx
  have ly:=Z7y y hy
  have vx:=Zbf x
  have vy:=Zbf y
  have bx:=Z8k x
  have by_:=Z8k y
  have nx:=Zfn x
  have ny:=Zfn y
  have s1:(numN x).fNeg=decide (x < 0):=rfl
  have s2:(numN y).fNeg=decide (y < 0):=rfl
  refine Ev.bind (may_ev x hx) (Ev.neg (by simp) (Ev.bind (may_ev y hy) (Ev.neg (by simp) ?_)))
  by_cases hs:(numN x).fNeg=(numN y).fNeg
  · obtain ⟨r,e,hr,hl,hv⟩:=plus_ev (numN x).fMag (numN y).fMag bx by_ (by omega) (by omega)
    refine Ev.pos hs (Ev.bind e (Ev.bind (made_ev _ r hr (by omega)) ?_))
    have em:madeV (numN x).fNeg (val r)=res (x+y):=by
      rw [hv,vx,vy]
      refine Zbb _ _ (by omega) _ ?_
      rw [s1,s2] at hs
      rw [s1]
      by_cases sx:x < 0
      · by_cases sy:y < 0
        · simp [sx]; omega
        · simp [sx,sy] at hs
      · by_cases sy:y < 0
        · simp [sx,sy] at hs
        · simp [sx]; omega
    rw [em]
    exact Ev.eta _
  · refine Ev.neg hs (Ev.bind (cmpMag_ev _ _ nx ny (by omega) (by omega)) ?_)
    rw [s1,s2] at hs
    rw [vx,vy]
    by_cases hge:(y.natAbs:Int)≤(x.natAbs:Int)
    · have c:sgn ((x.natAbs:Int) - (y.natAbs:Int)) ≥ 0:=by unfold sgn; split <;> (try split) <;> omega
      have hlen:(numN y).fMag.length≤(numN x).fMag.length:=by
        rw [Zfm ny,vy]
        have:=val_lt bx
        rw [vx] at this
        omega
      obtain ⟨r,e,hr,hl,hv⟩:=minus_ev (numN x).fMag (numN y).fMag bx by_ (by omega) hlen (by omega)
      refine Ev.pos c (Ev.bind e (Ev.bind (made_ev _ r hr (by omega)) ?_))
      have em:madeV (numN x).fNeg (val r)=res (x+y):=by
        rw [hv,vx,vy]
        refine Zbb _ _ (by omega) _ ?_
        rw [s1]
        by_cases sx:x < 0
        · by_cases sy:y < 0
          · simp [sx,sy] at hs
          · simp [sx]; omega
        · by_cases sy:y < 0
          · simp [sx]; omega
          · simp [sx,sy] at hs
      rw [em]
      exact Ev.eta _
    · have c:¬ sgn ((x.natAbs:Int) - (y.natAbs:Int)) ≥ 0:=by rw [Zeu (by omega)]; omega
      have hlen:(numN x).fMag.length≤(numN y).fMag.length:=by
        rw [Zfm nx,vx]
        have:=val_lt by_
        rw [vy] at this
        omega
      obtain ⟨r,e,hr,hl,hv⟩:=minus_ev (numN y).fMag (numN x).fMag by_ bx (by omega) hlen (by omega)
      refine Ev.neg c (Ev.bind e (Ev.bind (made_ev _ r hr (by omega)) ?_))
      have em:madeV (numN y).fNeg (val r)=res (x+y):=by
        rw [hv,vx,vy]
        refine Zbb _ _ (by omega) _ ?_
        rw [s2]
        by_cases sx:x < 0
        · by_cases sy:y < 0
          · simp [sx,sy] at hs
          · simp [sy]; omega
        · by_cases sy:y < 0
          · simp [sy]; omega
          · simp [sx,sy] at hs
      rw [em]
      exact Ev.eta _
end Go.Proofs.Ytllcnlonkloabaa.Sh
