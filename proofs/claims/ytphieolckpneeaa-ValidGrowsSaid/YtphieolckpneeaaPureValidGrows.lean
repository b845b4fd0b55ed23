import Derived.Test.YtphieolckpneeaaPureValidC
set_option linter.unusedVariables false
set_option linter.unusedSimpArgs false
namespace Go.Proofs.Ytphieolckpneeaa.Sh
open Go Lift Go.Proofs
theorem opV_zero (nc no:Int) : opV nc no ⟨0,0,0,0⟩ = true := by
  rfl
theorem firstBad_all (nc no:Int) : ∀ (l:List Tapi_Op) (i:Nat),(∀ o ∈ l,opV nc no o = true) → firstBad nc no l i = none
  | [],i,h => rfl
  | o :: os,i,h => by
    rw [firstBad,if_pos (h o (by simp))]
    exact firstBad_all nc no os (i + 1) (fun x hx => h x (by simp [hx]))
theorem firstBad_none (nc no:Int) : ∀ (l:List Tapi_Op) (i:Nat),firstBad nc no l i = none → ∀ o ∈ l,opV nc no o = true
  | [],i,h => fun o ho => by cases ho
  | o :: os,i,h => by
    rw [firstBad] at h
    by_cases hv : opV nc no o = true
    · rw [if_pos hv] at h
      intro x hx
      rcases List.mem_cons.1 hx with rfl | hx
      · exact hv
      · exact firstBad_none nc no os (i + 1) h x hx
    · rw [if_neg hv] at h; cases h
theorem fixed_of_right {q : Tapi_Program} (h1:q.fOps.length ≤ 120) (h2 : ∀ o ∈ q.fOps,opV q.fConsts.length q.fOps.length o = true) (h3:q.fConsts.length ≤ 16) (h4 : ∀ t ∈ q.fConsts,mayT t = true) : fixP q = q := by
  obtain ⟨ops,cs⟩ := q
  unfold fixP
  rw [List.take_of_length_le h1,List.take_of_length_le h3]
  congr 1
  · conv => rhs; rw [← List.map_id ops]
    refine List.map_congr_left fun o ho => ?_
    unfold fixO
    rw [if_pos (h2 o ho)]; rfl
  · conv => rhs; rw [← List.map_id cs]
    refine List.map_congr_left fun t ht => ?_
    unfold fixC
    rw [if_pos (h4 t ht)]; rfl
theorem right_of_why {q : Tapi_Program} (h:whyV q = -1) : fixP q = q := by
  unfold whyV at h
  by_cases h1 : q.fOps.length ≤ 120
  · rw [if_pos h1] at h
    cases hb : firstBad q.fConsts.length q.fOps.length q.fOps 0 with
    | some i => rw [hb] at h; simp only at h; omega
    | none =>
      rw [hb] at h
      simp only at h
      unfold tailW at h
      rw [if_neg (by omega)] at h
      by_cases h3 : q.fConsts.length > 16 ∨ q.fConsts.all mayT = false
      · rw [if_pos h3] at h; omega
      · have h4 : ¬ q.fConsts.length > 16 := fun x => h3 (Or.inl x)
        have h5 : q.fConsts.all mayT = true := by
          cases ha : q.fConsts.all mayT with
          | true => rfl
          | false => exact absurd (Or.inr ha) h3
        exact fixed_of_right h1 (firstBad_none _ _ _ _ hb) (by omega) (List.all_eq_true.1 h5)
  · rw [if_neg h1] at h
    unfold tailW at h
    rw [if_pos (by omega)] at h
    omega
theorem lowE (x n:Int) (hx:InR .i64 x) (h0:0 < n) (h1:n < 9223372036854775808) : ∃ r,Ev (fun N => beehivelaw0_Low N x n) r ∧ 0 ≤ r ∧ r < n ∧ r = IntKind.u64.wrap x % n := by
  have hu := wrapU_eq x
  have e1 : IntKind.u64.wrap n = n := wrapU n (by omega) (by omega)
  have hp : 0 ≤ IntKind.u64.wrap x := by omega
  have e2 : (IntKind.u64.wrap x).tmod n = IntKind.u64.wrap x % n := Int.tmod_eq_emod_of_nonneg hp
  have b0 := Int.emod_nonneg (IntKind.u64.wrap x) (show n ≠ 0 by omega)
  have b1 := Int.emod_lt_of_pos (IntKind.u64.wrap x) h0
  refine ⟨IntKind.u64.wrap x % n, ?_,b0,b1,rfl⟩
  refine Ev.bindc (a := IntKind.u64.wrap x % n) (by rw [e1,rem_eq (by omega),e2]) ?_
  have e3 : IntKind.i64.wrap (IntKind.u64.wrap x % n) = IntKind.u64.wrap x % n := wrapI _ (by omega) (by omega)
  show Ev (fun _ => some (IntKind.i64.wrap (IntKind.u64.wrap x % n))) _
  rw [e3]
  exact Ev.now _
structure Good (q:Tapi_Program) : Prop where
  no : q.fOps.length ≤ 120
  ops : ∀ o ∈ q.fOps,opV q.fConsts.length q.fOps.length o = true
  nc : q.fConsts.length ≤ 16
  may : ∀ t ∈ q.fConsts,mayT t = true
theorem good_of_why {q : Tapi_Program} (h:whyV q = -1) : Good q := by
  unfold whyV at h
  by_cases h1 : q.fOps.length ≤ 120
  · rw [if_pos h1] at h
    cases hb : firstBad q.fConsts.length q.fOps.length q.fOps 0 with
    | some i => rw [hb] at h; simp only at h; omega
    | none =>
      rw [hb] at h
      simp only at h
      unfold tailW at h
      rw [if_neg (by omega)] at h
      by_cases h3 : q.fConsts.length > 16 ∨ q.fConsts.all mayT = false
      · rw [if_pos h3] at h; omega
      · have h4 : ¬ q.fConsts.length > 16 := fun x => h3 (Or.inl x)
        have h5 : q.fConsts.all mayT = true := by
          cases ha : q.fConsts.all mayT with
          | true => rfl
          | false => exact absurd (Or.inr ha) h3
        exact ⟨h1,firstBad_none _ _ _ _ hb,by omega,List.all_eq_true.1 h5⟩
  · rw [if_neg h1] at h
    unfold tailW at h
    rw [if_pos (by omega)] at h
    omega
theorem why_of_good {q : Tapi_Program} (g:Good q) : whyV q = -1 := by
  have h1 := g.no
  have h2 := g.nc
  have ha : q.fConsts.all mayT = true := List.all_eq_true.2 g.may
  unfold whyV
  rw [if_pos h1,firstBad_all _ _ _ _ g.ops]
  show tailW q = -1
  unfold tailW
  rw [if_neg (by omega),if_neg (by rintro (h | h); omega; rw [ha] at h; cases h)]
theorem firstBad_at (nc no:Int) (o:Tapi_Op) (ho:opV nc no o = false) : ∀ (l:List Tapi_Op) (i:Nat),(∀ x ∈ l,opV nc no x = true) → firstBad nc no (l++[o]) i = some (i + l.length)
  | [],i,h => by
    rw [List.nil_append,firstBad,ho,if_neg Bool.false_ne_true,List.length_nil,Nat.add_zero]
  | x :: xs,i,h => by
    rw [List.cons_append,firstBad,if_pos (h x (by simp)),firstBad_at nc no o ho xs (i + 1) (fun y hy => h y (by simp [hy])),List.length_cons]
    congr 1
    omega
theorem thereV_mono {nc no nc' no' f n : Int} (h1:nc ≤ nc') (h2:no ≤ no') (h:thereV nc no f n = true) : thereV nc' no' f n = true := by
  unfold thereV at h ⊢
  split
  · rename_i k; rw [if_pos k] at h; exact h
  rename_i k1; rw [if_neg k1] at h
  split
  · rename_i k; rw [if_pos k] at h; exact h
  rename_i k2; rw [if_neg k2] at h
  split
  · rename_i k; rw [if_pos k,decide_eq_true_eq] at h; exact decide_eq_true (by omega)
  rename_i k3; rw [if_neg k3] at h
  split
  · rename_i k; rw [if_pos k,decide_eq_true_eq] at h; exact decide_eq_true (by omega)
  rename_i k4; rw [if_neg k4] at h
  exact h
theorem opV_mono {nc no nc' no' : Int} {o : Tapi_Op} (h1:nc ≤ nc') (h2:no ≤ no') (h:opV nc no o = true) : opV nc' no' o = true := by
  unfold opV at h ⊢
  cases hf : frm o.fK with
  | none => rw [hf] at h; cases h
  | some x =>
    obtain ⟨a,b,c⟩ := x
    rw [hf] at h
    simp only [Bool.and_eq_true] at h ⊢
    exact ⟨⟨⟨thereV_mono h1 h2 h.1.1.1,thereV_mono h1 h2 h.1.1.2⟩,thereV_mono h1 h2 h.1.2⟩,h.2⟩
theorem frm27 : frm 27 = some (4,0,0) := by decide
theorem opV_jump (nc no n:Int) : opV nc no ⟨27,n,0,0⟩ = decide (0 ≤ n ∧ n ≤ no - 1) := by
  unfold opV
  rw [frm27]
  simp [thereV]
theorem growO_loop (r11:Int) (x13:List Tapi_Term) (m:Nat) (hm:m ≤ 1000) : ∀ (d:Nat) (a:List Tapi_Op) (i:Nat),i + d = m → a.length + d ≤ 10000 → Ev (fun N => beehivelaw18_ValidGrows_L1 N (m:Int) r11 x13 a (i:Int)) (a++List.replicate d ⟨0,0,0,0⟩)
  | 0,a,i,hd,hl => by
    rw [List.replicate_zero,List.append_nil]
    refine Ev.step ?_ (fun N => by rw [beehivelaw18_ValidGrows_L1])
    exact Ev.neg (by omega) (Ev.now _)
  | d + 1,a,i,hd,hl => by
    have h := growO_loop r11 x13 m hm d (a++[⟨0,0,0,0⟩]) (i + 1) (by omega) (by simp; omega)
    rw [List.append_assoc,List.singleton_append, ← List.replicate_succ] at h
    refine Ev.step ?_ (fun N => by rw [beehivelaw18_ValidGrows_L1,wrap_succ (by omega)])
    exact Ev.pos (by omega) (Ev.bindc (app_snoc (by omega)) h)
theorem growC_loop (r10:Int) (r16:List Tapi_Op) (m:Nat) (hm:m ≤ 1000) : ∀ (d:Nat) (a:List Tapi_Term) (i:Nat),i + d = m → a.length + d ≤ 10000 → Ev (fun N => beehivelaw18_ValidGrows_L2 N r10 (m:Int) r16 a (i:Int)) (a++List.replicate d nilT)
  | 0,a,i,hd,hl => by
    rw [List.replicate_zero,List.append_nil]
    refine Ev.step ?_ (fun N => by rw [beehivelaw18_ValidGrows_L2])
    exact Ev.neg (by omega) (Ev.now _)
  | d + 1,a,i,hd,hl => by
    have h := growC_loop r10 r16 m hm d (a++[nilT]) (i + 1) (by omega) (by simp; omega)
    rw [List.append_assoc,List.singleton_append, ← List.replicate_succ] at h
    refine Ev.step ?_ (fun N => by rw [beehivelaw18_ValidGrows_L2,wrap_succ (by omega)])
    exact Ev.pos (by omega) (Ev.bindc (app_snoc (x := nilT) (by omega)) h)
theorem cnts_nil : ∀ d : Nat,cnts (List.replicate d nilT) = d
  | 0 => by simp [cnts]
  | d + 1 => by
    have : cnt nilT = 1 := by rw [nilT,cnt,cnts]
    rw [List.replicate_succ,cnts,cnts_nil d,this]; omega
theorem greatP2_ev (p:Tapi_Program) (w:wTapi_Program p) : ∃ b,Ev (fun N => beehivelaw0_GreatProgram N p) b ∧ (b = false → Few p ∧ p.fConsts.length ≤ 20 ∧ cnts p.fConsts ≤ 700) := by
  by_cases h1 : ((p.fOps.length : Nat) : Int) > 140
  · exact ⟨true,Ev.pos h1 (Ev.now _),fun h => by cases h⟩
  by_cases h2 : ((p.fConsts.length : Nat) : Int) > 20
  · exact ⟨true,Ev.neg h1 (Ev.pos h2 (Ev.now _)),fun h => by cases h⟩
  obtain ⟨b,hb,hs⟩ := greats_ev p.fConsts w.Consts 700 (by omega) (by omega)
  refine ⟨b,Ev.neg h1 (Ev.neg h2 (Ev.bind hb (Ev.now _))),fun e => ?_⟩
  obtain ⟨s1,s2⟩ := hs e
  exact ⟨⟨by omega,s1,w.Consts.all,by omega⟩,by omega,by omega⟩
namespace Pure
theorem ValidGrows (x0:Tapi_Program) (x1:Int) (x2:Int) (w0:wTapi_Program x0) (w1:(InR .i64) x1) (w2:(InR .i64) x2) : ∃ N,beehivelaw18_ValidGrows N x0 x1 x2 = some true := by
  refine Ev.ex (f := fun N => beehivelaw18_ValidGrows N x0 x1 x2) ?_
  have haw : Ev (fun N => (beehivelaw18_awake N).bind fun r3 => some r3) true := Ev.bind awake_ev (Ev.now _)
  obtain ⟨b,hb,hf⟩ := greatP2_ev x0 w0
  cases b with
  | true =>
    have hB : Ev (fun N => beehivelaw18_ValidGrows_B0 N x0 x1 x2) (.inr true) := by
      refine Ev.step ?_ (fun N => by rw [beehivelaw18_ValidGrows_B0])
      exact Ev.bind hb (Ev.pos rfl (Ev.bind awake_ev (Ev.now _)))
    exact Ev.bind hB (Ev.now _)
  | false =>
    obtain ⟨hF,hc20,hcn⟩ := hf rfl
    have z1 := (why_ev x0 hF (by omega)).1
    by_cases hw : whyV x0 = -1
    · have hB : Ev (fun N => beehivelaw18_ValidGrows_B0 N x0 x1 x2) (.inl ()) := by
        refine Ev.step ?_ (fun N => by rw [beehivelaw18_ValidGrows_B0])
        exact Ev.bind hb (Ev.neg (by simp) (Ev.bind z1 (Ev.neg (fun h => h hw) (Ev.now _))))
      have g := good_of_why hw
      have g1 := g.no
      have g2 := g.nc
      have e1 : IntKind.wrap .i64 ((IntKind.wrap .i64 ((120:Int) - ((x0.fOps.length : Nat) : Int))) + (1:Int)) = 121 - (x0.fOps.length : Int) := by rw [wrapI ((120:Int) - _) (by omega) (by omega),wrapI _ (by omega) (by omega)]; omega
      have e2 : IntKind.wrap .i64 ((IntKind.wrap .i64 ((16:Int) - ((x0.fConsts.length : Nat) : Int))) + (1:Int)) = 17 - (x0.fConsts.length : Int) := by rw [wrapI ((16:Int) - _) (by omega) (by omega),wrapI _ (by omega) (by omega)]; omega
      obtain ⟨r,hr,r0,r1,_⟩ := lowE x1 (121 - (x0.fOps.length : Int)) w1 (by omega) (by omega)
      obtain ⟨s,hs,s0,s1,_⟩ := lowE x2 (17 - (x0.fConsts.length : Int)) w2 (by omega) (by omega)
      rw [← e1] at hr
      rw [← e2] at hs
      obtain ⟨m,rfl⟩ := Int.eq_ofNat_of_zero_le r0
      obtain ⟨c,rfl⟩ := Int.eq_ofNat_of_zero_le s0
      have l1 := growO_loop (c:Int) x0.fConsts m (by omega) m x0.fOps 0 (by omega) (by omega)
      have l2 := growC_loop (m:Int) (x0.fOps++List.replicate m ⟨0,0,0,0⟩) c (by omega) c x0.fConsts 0 (by omega) (by omega)
      refine Ev.bind hB (Ev.bind hr (Ev.bind hs (Ev.bindc (app0_eq (by rw [lim_eq]; omega)) (Ev.bindc (app0_eq (by rw [lim_eq]; omega)) (Ev.bind l1 (Ev.bind l2 ?_))))))
      have qo : (x0.fOps++List.replicate m (⟨0,0,0,0⟩ : Tapi_Op)).length = x0.fOps.length + m := by simp
      have qc : (x0.fConsts++List.replicate c nilT).length = x0.fConsts.length + c := by simp
      have gops : ∀ o ∈ x0.fOps++List.replicate m (⟨0,0,0,0⟩ : Tapi_Op),opV (x0.fConsts++List.replicate c nilT).length (x0.fOps++List.replicate m (⟨0,0,0,0⟩ : Tapi_Op)).length o = true := fun o ho => by
        rcases List.mem_append.1 ho with ho | ho
        · exact opV_mono (by omega) (by omega) (g.ops o ho)
        · rw [List.eq_of_mem_replicate ho]; exact opV_zero _ _
      have gmay : ∀ t ∈ x0.fConsts++List.replicate c nilT,mayT t = true := fun t ht => by
        rcases List.mem_append.1 ht with ht | ht
        · exact g.may t ht
        · rw [List.eq_of_mem_replicate ht]; exact nilT_may
      have few : ∀ ops : List Tapi_Op,ops.length = x0.fOps.length + m → Few ⟨ops,x0.fConsts++List.replicate c nilT⟩ := fun ops hl => by
        refine ⟨by show ops.length ≤ 140; omega,fun t ht => ?_,fun t ht => ?_, ?_⟩
        · rcases List.mem_append.1 ht with ht | ht
          · exact hF.small t ht
          · rw [List.eq_of_mem_replicate ht]; exact nilT_small
        · rcases List.mem_append.1 ht with ht | ht
          · exact hF.wt t ht
          · rw [List.eq_of_mem_replicate ht]; exact nilT_w
        · show cnts (x0.fConsts++List.replicate c nilT) ≤ 10000
          rw [cnts_append,cnts_nil]; omega
      generalize hOps : x0.fOps++List.replicate m (⟨0,0,0,0⟩ : Tapi_Op) = O at *
      generalize hCs : x0.fConsts++List.replicate c nilT = C at *
      have gq : Good ⟨O,C⟩ := ⟨by show O.length ≤ 120; omega,gops,by show C.length ≤ 16; omega,gmay⟩
      have fq := few O qo
      have y1 := (why_ev ⟨O,C⟩ fq (by show C.length ≤ 1000; omega)).1
      rw [why_of_good gq] at y1
      have y2 := fix_ev ⟨O,C⟩ fq
      rw [right_of_why (why_of_good gq)] at y2
      have y3 := sameProg_self ⟨O,C⟩ fq
      have b3 : Ev (fun N => beehivelaw18_ValidGrows_B3 N (m:Int) O C) (.inl ()) := by
        refine Ev.step ?_ (fun N => by rw [beehivelaw18_ValidGrows_B3])
        exact Ev.bind y1 (Ev.neg (by simp) (Ev.bind y2 (Ev.bind y3 (Ev.neg (by simp) (Ev.now _)))))
      refine Ev.bind b3 ?_
      by_cases hm0 : (m:Int) = 0
      · exact Ev.pos hm0 haw
      · refine Ev.neg hm0 ?_
        obtain ⟨n,hn⟩ : ∃ n,O.length = n + 1 := ⟨O.length - 1,by omega⟩
        have en : IntKind.wrap .i64 (((O.length : Nat) : Int) - (1:Int)) = (n:Int) := by rw [wrapI _ (by omega) (by omega)]; omega
        have en1 : IntKind.wrap .i64 ((n:Int) + (1:Int)) = ((n + 1 : Nat) : Int) := by rw [wrapI _ (by omega) (by omega)]; omega
        simp only [en,en1,Int.toNat_natCast]
        have hset : ∀ o : Tapi_Op,O.set n o = O.take n++[o] := fun o => by
          rw [List.set_eq_take_append_cons_drop,if_pos (by omega),List.drop_eq_nil_of_le (by omega)]
        have hset2 : ∀ o o' : Tapi_Op,(O.take n++[o]).set n o' = O.take n++[o'] := fun o o' => by rw [← hset o,List.set_set,hset]
        have htl : (O.take n).length = n := by rw [List.length_take]; omega
        have hlen : ∀ o : Tapi_Op,(O.take n++[o]).length = n + 1 := fun o => by simp [htl]
        have htake : ∀ o ∈ O.take n,opV (C.length : Nat) ((n + 1 : Nat) : Int) o = true := fun o ho => by
          have := gops o (List.mem_of_mem_take ho)
          rw [hn] at this
          exact this
        have ej : opV (C.length : Nat) ((n + 1 : Nat) : Int) ⟨27,(n:Int),0,0⟩ = true := by rw [opV_jump]; exact decide_eq_true (by omega)
        have ej2 : opV (C.length : Nat) ((n + 1 : Nat) : Int) ⟨27,((n + 1 : Nat) : Int),0,0⟩ = false := by rw [opV_jump]; exact decide_eq_false (by omega)
        have g2 : Good ⟨O.take n++[⟨27,(n:Int),0,0⟩],C⟩ := by
          refine ⟨by show (O.take n++_).length ≤ 120; rw [hlen]; omega,fun o ho => ?_,by show C.length ≤ 16; omega,gmay⟩
          show opV (C.length : Nat) ((O.take n++[(⟨27,(n:Int),0,0⟩ : Tapi_Op)]).length : Nat) o = true
          rw [hlen]
          rcases List.mem_append.1 ho with ho | ho
          · exact htake o ho
          · rw [List.mem_singleton.1 ho]; exact ej
        have f2 := few (O.take n++[⟨27,(n:Int),0,0⟩]) (by rw [hlen]; omega)
        have f3 := few (O.take n++[⟨27,((n + 1 : Nat) : Int),0,0⟩]) (by rw [hlen]; omega)
        have k1 := (why_ev _ f2 (by show C.length ≤ 1000; omega)).1
        rw [why_of_good g2] at k1
        have k3 := (why_ev _ f3 (by show C.length ≤ 1000; omega)).1
        have ew : whyV ⟨O.take n++[⟨27,((n + 1 : Nat) : Int),0,0⟩],C⟩ = (n:Int) := by
          unfold whyV
          have h0 : (O.take n++[(⟨27,((n + 1 : Nat) : Int),0,0⟩ : Tapi_Op)]).length ≤ 120 := by rw [hlen]; omega
          have hfb : firstBad (C.length : Nat) ((O.take n++[(⟨27,((n + 1 : Nat) : Int),0,0⟩ : Tapi_Op)]).length : Nat) (O.take n++[(⟨27,((n + 1 : Nat) : Int),0,0⟩ : Tapi_Op)]) 0 = some n := by
            rw [hlen,firstBad_at _ _ _ ej2 _ 0 htake,htl,Nat.zero_add]
          show (if (O.take n++[(⟨27,((n + 1 : Nat) : Int),0,0⟩ : Tapi_Op)]).length ≤ 120 then (match firstBad (C.length : Nat) ((O.take n++[(⟨27,((n + 1 : Nat) : Int),0,0⟩ : Tapi_Op)]).length : Nat) (O.take n++[(⟨27,((n + 1 : Nat) : Int),0,0⟩ : Tapi_Op)]) 0 with | some i => (i:Int) | none => tailW _) else tailW _) = (n:Int)
          rw [if_pos h0,hfb]
        rw [ew] at k3
        have opn : ∀ x : Int,Ev (fun N => valid_Op N ⟨O.take n++[⟨27,x,0,0⟩],C⟩ (n:Int)) (opV (C.length : Nat) ((n + 1 : Nat) : Int) ⟨27,x,0,0⟩) := fun x => by
          have := (op_ev ⟨O.take n++[⟨27,x,0,0⟩],C⟩ (by show C.length ≤ 1000; omega) (by show (O.take n++_).length ≤ 1000; rw [hlen]; omega) n (by show n < (O.take n++_).length; rw [hlen]; omega)).1
          have e3 : (⟨O.take n++[⟨27,x,0,0⟩],C⟩ : Tapi_Program).fOps[n]'(by show n < (O.take n++_).length; rw [hlen]; omega) = ⟨27,x,0,0⟩ := by
            show (O.take n++[(⟨27,x,0,0⟩ : Tapi_Op)])[n]'_ = _
            rw [List.getElem_append_right (by omega)]
            simp [htl]
          rw [e3] at this
          have e4 : (((⟨O.take n++[⟨27,x,0,0⟩],C⟩ : Tapi_Program).fOps.length : Nat) : Int) = ((n + 1 : Nat) : Int) := by
            show (((O.take n++[(⟨27,x,0,0⟩ : Tapi_Op)]).length : Nat) : Int) = _
            rw [hlen]
          rw [e4] at this
          exact this
        have o1 := opn (n:Int)
        have o2 := opn ((n + 1 : Nat) : Int)
        rw [ej] at o1
        rw [ej2] at o2
        have ix : ∀ l : List Tapi_Op,l.length = n + 1 → ∃ y,idx l (n:Int) = some y := fun l hl => ⟨_,idx_eq (by omega)⟩
        obtain ⟨y0,hy0⟩ := ix O hn
        have hy1 : idx (O.take n++[(⟨27,(n:Int),0,0⟩ : Tapi_Op)]) (n:Int) = some ⟨27,(n:Int),0,0⟩ := by
          rw [idx_eq (show n < (O.take n++[(⟨27,(n:Int),0,0⟩ : Tapi_Op)]).length by rw [hlen]; omega),List.getElem_append_right (by omega)]
          simp [htl]
        simp only [hset,hset2]
        refine Ev.bindc hy0 (Ev.bind k1 (Ev.pos rfl (Ev.bind o1 (Ev.bindc hy1 (Ev.pos rfl ?_)))))
        simp only [hset,hset2]
        exact Ev.bind k3 (Ev.pos rfl (Ev.bind o2 (Ev.pos (by simp) haw)))
    · have hB : Ev (fun N => beehivelaw18_ValidGrows_B0 N x0 x1 x2) (.inr true) := by
        refine Ev.step ?_ (fun N => by rw [beehivelaw18_ValidGrows_B0])
        exact Ev.bind hb (Ev.neg (by simp) (Ev.bind z1 (Ev.pos hw (Ev.bind awake_ev (Ev.now _)))))
      exact Ev.bind hB (Ev.now _)
end Pure
end Go.Proofs.Ytphieolckpneeaa.Sh
