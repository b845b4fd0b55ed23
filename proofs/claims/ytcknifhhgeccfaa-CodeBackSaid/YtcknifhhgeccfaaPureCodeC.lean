import Derived.Test.YtcknifhhgeccfaaPureCodeB
import Derived.Test.YtcknifhhgeccfaaPureWireH
set_option linter.unusedVariables false
set_option linter.unusedSimpArgs false
namespace Go.Proofs.Ytcknifhhgeccfaa.Sh
open Go Lift Go.Proofs
/-! ### The reader of programs -/
abbrev crd (b:List Int) (p:Nat) : Tcode_reader := ⟨b,(p:Int)⟩
theorem cnum_ok {b : List Int} {p : Nat} {x : Int} {rest : List Int} (hb:b.length ≤ 500000) (hbb:bytesL b) (hd:b.drop p = x :: rest) : Ev (fun N => code_reader_num N (crd b p)) (some (x,crd b (p + 1))) := by
  have hlen := drop_len hd
  have hx := (mem_bytes (xs := [x]) hbb hd).head
  have e1 : IntKind.i64.wrap ((p:Int) + 1) = ((p + 1 : Nat) : Int) := wrap_succ (by omega)
  have e2 : IntKind.i64.wrap (((p + 1 : Nat) : Int) - 1) = (p:Int) := by rw [wrapI _ (by omega) (by omega)]; omega
  refine Ev.neg (by show ¬ ((p:Int) ≥ ((b.length : Nat) : Int)); omega) ?_
  show Ev (fun N => (idx b (IntKind.wrap .i64 ((IntKind.wrap .i64 ((p:Int) + (1:Int))) - (1:Int)))).bind fun x2 => some (some (IntKind.wrap .i64 x2,(Tcode_reader.mk b (IntKind.wrap .i64 ((p:Int) + (1:Int))))))) _
  rw [e1,e2]
  refine Ev.bindc (idx_at hd) ?_
  rw [wrapI x (by omega) (by omega)]
  exact Ev.now _
theorem cnum_no {b : List Int} {p : Nat} (h:b.length ≤ p) : Ev (fun N => code_reader_num N (crd b p)) none :=
  Ev.pos (by show ((p:Int) ≥ ((b.length : Nat) : Int)); omega) (Ev.now _)
theorem cnum_tot (b:List Int) (p:Nat) (hb:b.length ≤ 500000) (hbb:bytesL b) : (Ev (fun N => code_reader_num N (crd b p)) none) ∨ ∃ x rest,b.drop p = x :: rest ∧ (0 ≤ x ∧ x < 256) ∧ p + 1 ≤ b.length ∧ Ev (fun N => code_reader_num N (crd b p)) (some (x,crd b (p + 1))) := by
  by_cases h : b.length ≤ p
  · exact .inl (cnum_no h)
  · cases hd : b.drop p with
    | nil => have := drop_end hd; omega
    | cons x rest => exact .inr ⟨x,rest,rfl,(mem_bytes (xs := [x]) hbb hd).head,by omega,cnum_ok hb hbb hd⟩
theorem bor_i64 {a b : Nat} (ha:a < 4611686018427387904) (hb:b < 4611686018427387904) : bor .i64 (a:Int) (b:Int) = ((a ||| b : Nat) : Int) := by
  unfold bor
  rw [BitVec.toNat_or,ofI (k := IntKind.bits .i64) (by show a < 2 ^ 64; omega),ofI (k := IntKind.bits .i64) (by show b < 2 ^ 64; omega)]
  have : a ||| b < 2 ^ 62 := Nat.or_lt_two_pow (show a < 2 ^ 62 by omega) (show b < 2 ^ 62 by omega)
  exact wrapI _ (by omega) (by omega)
theorem join2 {x y : Int} (hx:0 ≤ x ∧ x < 256) (hy:0 ≤ y ∧ y < 256) : bor .i64 (IntKind.wrap .i64 (x * 2 ^ (min (Int.toNat (8:Int)) (IntKind.bits .i64)))) y = ((x.toNat * 256 + y.toNat : Nat) : Int) := by
  rw [show (2:Int) ^ (min (Int.toNat (8:Int)) (IntKind.bits .i64)) = 256 by decide,wrapI _ (by omega) (by omega)]
  obtain ⟨m,rfl⟩ := Int.eq_ofNat_of_zero_le hx.1
  obtain ⟨n,rfl⟩ := Int.eq_ofNat_of_zero_le hy.1
  have e : (m:Int) * 256 = ((m * 256 : Nat) : Int) := by omega
  rw [e,bor_i64 (by omega) (by omega),or_byte m n (by omega),Int.toNat_natCast,Int.toNat_natCast]
theorem mayO_bytes {o : Tapi_Op} (h:mayO o = true) : opB o = [o.fK,o.fA,o.fB,o.fC] := by
  have h := of_decide_eq_true h
  unfold opB
  rw [wrapU8,wrapU8,wrapU8,wrapU8,show o.fK % 256 = o.fK by omega,show o.fA % 256 = o.fA by omega,show o.fB % 256 = o.fB by omega,show o.fC % 256 = o.fC by omega]
theorem cops_back (b:List Int) (hb:b.length ≤ 500000) (hbb:bytesL b) (q2 q4:Int × Tcode_reader) (n:Nat) (hn:n ≤ 120) (hq:bor .i64 (IntKind.wrap .i64 (q2.1 * 2 ^ (min (Int.toNat (8:Int)) (IntKind.bits .i64)))) q4.1 = (n:Int)) (rest:List Int) : ∀ (os:List Tapi_Op) (acc:List Tapi_Op) (v p:Nat),os.all mayO = true → v + os.length = n → acc.length = v → b.drop p = opsB os++rest →
    Ev (fun N => code_reader_program_L0 N q2 q4 acc b (p:Int) (v:Int)) (.inr (acc++os,b,((p + 4 * os.length : Nat) : Int)))
  | [],acc,v,p,hm,hv,ha,hd => by
    refine Ev.step ?_ (fun N => by rw [code_reader_program_L0,hq])
    rw [List.append_nil]
    exact Ev.neg (by simp at hv; omega) (Ev.now _)
  | o :: os,acc,v,p,hm,hv,ha,hd => by
    rw [List.length_cons] at hv
    rw [List.all_cons,Bool.and_eq_true] at hm
    rw [opsB,mayO_bytes hm.1] at hd
    have d0 : b.drop p = o.fK :: (o.fA :: o.fB :: o.fC :: (opsB os++rest)) := hd
    have d1 : b.drop (p + 1) = o.fA :: o.fB :: o.fC :: (opsB os++rest) := drop_next d0
    have d2 : b.drop (p + 1 + 1) = o.fB :: o.fC :: (opsB os++rest) := drop_next d1
    have d3 : b.drop (p + 1 + 1 + 1) = o.fC :: (opsB os++rest) := drop_next d2
    have d4 : b.drop (p + 1 + 1 + 1 + 1) = opsB os++rest := drop_next d3
    have ih := cops_back b hb hbb q2 q4 n hn hq rest os (acc++[o]) (v + 1) (p + 1 + 1 + 1 + 1) hm.2 (by omega) (by rw [List.length_append]; show acc.length + 1 = _; omega) d4
    rw [List.append_assoc] at ih
    refine Ev.step ?_ (fun N => by rw [code_reader_program_L0,hq,wrap_succ (by omega)])
    rw [List.length_cons,show p + 4 * (os.length + 1) = p + 1 + 1 + 1 + 1 + 4 * os.length by omega]
    exact Ev.pos (by omega) (Ev.bind (cnum_ok hb hbb d0) (Ev.bind (cnum_ok hb hbb d1) (Ev.bind (cnum_ok hb hbb d2) (Ev.bind (cnum_ok hb hbb d3) (Ev.bindc (app_eq (by rw [lim_eq]; show acc.length + 1 ≤ _; omega)) ih)))))
theorem cops_tot (b:List Int) (hb:b.length ≤ 500000) (hbb:bytesL b) (q2 q4:Int × Tcode_reader) (n:Nat) (hn:n ≤ 120) (hq:bor .i64 (IntKind.wrap .i64 (q2.1 * 2 ^ (min (Int.toNat (8:Int)) (IntKind.bits .i64)))) q4.1 = (n:Int)) : ∀ (d:Nat) (acc:List Tapi_Op) (v p:Nat),v + d = n → acc.length = v → acc.all mayO = true → p ≤ b.length →
    ∃ r,Ev (fun N => code_reader_program_L0 N q2 q4 acc b (p:Int) (v:Int)) r ∧ (r = .inl () ∨ ∃ os p',r = .inr (os,b,((p' : Nat) : Int)) ∧ os.length = n ∧ os.all mayO = true ∧ p' ≤ b.length)
  | 0,acc,v,p,hv,ha,hm,hp => by
    refine ⟨_, ?_,.inr ⟨acc,p,rfl,by omega,hm,hp⟩⟩
    refine Ev.step ?_ (fun N => by rw [code_reader_program_L0,hq])
    exact Ev.neg (by omega) (Ev.now _)
  | d + 1,acc,v,p,hv,ha,hm,hp => by
    rcases cnum_tot b p hb hbb with h | ⟨x0,r0,d0,b0,p0,h0⟩
    · refine ⟨_, ?_,.inl rfl⟩
      refine Ev.step ?_ (fun N => by rw [code_reader_program_L0,hq])
      exact Ev.pos (by omega) (Ev.bind h (Ev.now _))
    rcases cnum_tot b (p + 1) hb hbb with h | ⟨x1,r1,d1,b1,p1,h1⟩
    · refine ⟨_, ?_,.inl rfl⟩
      refine Ev.step ?_ (fun N => by rw [code_reader_program_L0,hq])
      exact Ev.pos (by omega) (Ev.bind h0 (Ev.bind h (Ev.now _)))
    rcases cnum_tot b (p + 1 + 1) hb hbb with h | ⟨x2,r2,d2,b2,p2,h2⟩
    · refine ⟨_, ?_,.inl rfl⟩
      refine Ev.step ?_ (fun N => by rw [code_reader_program_L0,hq])
      exact Ev.pos (by omega) (Ev.bind h0 (Ev.bind h1 (Ev.bind h (Ev.now _))))
    rcases cnum_tot b (p + 1 + 1 + 1) hb hbb with h | ⟨x3,r3,d3,b3,p3,h3⟩
    · refine ⟨_, ?_,.inl rfl⟩
      refine Ev.step ?_ (fun N => by rw [code_reader_program_L0,hq])
      exact Ev.pos (by omega) (Ev.bind h0 (Ev.bind h1 (Ev.bind h2 (Ev.bind h (Ev.now _)))))
    have hmo : mayO ⟨x0,x1,x2,x3⟩ = true := decide_eq_true (by show 0 ≤ x0 ∧ x0 ≤ 255 ∧ 0 ≤ x1 ∧ x1 ≤ 255 ∧ 0 ≤ x2 ∧ x2 ≤ 255 ∧ 0 ≤ x3 ∧ x3 ≤ 255; omega)
    obtain ⟨r,hr,ho⟩ := cops_tot b hb hbb q2 q4 n hn hq d (acc++[⟨x0,x1,x2,x3⟩]) (v + 1) (p + 1 + 1 + 1 + 1) (by omega) (by rw [List.length_append]; show acc.length + 1 = _; omega) (by rw [List.all_append,hm]; simp [hmo]) p3
    refine ⟨r, ?_,ho⟩
    refine Ev.step ?_ (fun N => by rw [code_reader_program_L0,hq,wrap_succ (by omega)])
    exact Ev.pos (by omega) (Ev.bind h0 (Ev.bind h1 (Ev.bind h2 (Ev.bind h3 (Ev.bindc (app_eq (by rw [lim_eq]; show acc.length + 1 ≤ _; omega)) hr)))))
theorem ccon_back (b:List Int) (hb:b.length ≤ 500000) (hbb:bytesL b) (r18:(List Tapi_Op) × (List Int) × Int) (q20:Int × Tcode_reader) (n:Nat) (hn:n ≤ 16) (hq:q20.1 = (n:Int)) (rest:List Int) : ∀ (ts:List Tapi_Term) (acc:List Tapi_Term) (v p:Nat),ts.all mayT = true → (∀ x ∈ ts,Small x) → (∀ x ∈ ts,wTapi_Term x) → v + ts.length = n → acc.length = v → p ≤ b.length → b.drop p = layTs ts++rest →
    Ev (fun N => code_reader_program_L1 N r18 q20 acc b (p:Int) (v:Int)) (.inr (acc++ts,b,((p + (layTs ts).length : Nat) : Int)))
  | [],acc,v,p,hm,hs,hw,hv,ha,hp,hd => by
    refine Ev.step ?_ (fun N => by rw [code_reader_program_L1,hq])
    rw [List.append_nil,layTs]
    exact Ev.neg (by simp at hv; omega) (Ev.now _)
  | x :: xs,acc,v,p,hm,hs,hw,hv,ha,hp,hd => by
    rw [List.length_cons] at hv
    rw [List.all_cons,Bool.and_eq_true] at hm
    rw [layTs,List.append_assoc] at hd
    have hR := Read_ok hb hbb hp (hs x (by simp)) (hw x (by simp)) hm.1 hd
    have hroom := drop_room hd (layT_pos x)
    have hterm : Ev (fun N => code_reader_term N (crd b p)) (some (x,crd b (p + (layT x).length))) := Ev.bind hR (Ev.neg (fun h => h rfl) (Ev.now _))
    have ih := ccon_back b hb hbb r18 q20 n hn hq rest xs (acc++[x]) (v + 1) (p + (layT x).length) hm.2 (fun y hy => hs y (by simp [hy])) (fun y hy => hw y (by simp [hy])) (by omega) (by rw [List.length_append]; show acc.length + 1 = _; omega) (by omega) (drop_more hd)
    rw [List.append_assoc] at ih
    rw [layTs,List.length_append, ← Nat.add_assoc]
    refine Ev.step ?_ (fun N => by rw [code_reader_program_L1,hq,wrap_succ (by omega)])
    exact Ev.pos (by omega) (Ev.bind hterm (Ev.bindc (app_eq (by rw [lim_eq]; show acc.length + 1 ≤ _; omega)) ih))
theorem ccon_tot (b:List Int) (hb:b.length ≤ 500000) (hbb:bytesL b) (r18:(List Tapi_Op) × (List Int) × Int) (q20:Int × Tcode_reader) (n:Nat) (hn:n ≤ 16) (hq:q20.1 = (n:Int)) : ∀ (d:Nat) (acc:List Tapi_Term) (v p:Nat),v + d = n → acc.length = v → acc.all mayT = true → (∀ x ∈ acc,Small x ∧ wTapi_Term x) → p ≤ b.length →
    ∃ r,Ev (fun N => code_reader_program_L1 N r18 q20 acc b (p:Int) (v:Int)) r ∧ (r = .inl () ∨ ∃ ts p',r = .inr (ts,b,((p' : Nat) : Int)) ∧ ts.length = n ∧ ts.all mayT = true ∧ ∀ x ∈ ts,Small x ∧ wTapi_Term x)
  | 0,acc,v,p,hv,ha,hm,hs,hp => by
    refine ⟨_, ?_,.inr ⟨acc,p,rfl,by omega,hm,hs⟩⟩
    refine Ev.step ?_ (fun N => by rw [code_reader_program_L1,hq])
    exact Ev.neg (by omega) (Ev.now _)
  | d + 1,acc,v,p,hv,ha,hm,hs,hp => by
    obtain ⟨w,hw,ho⟩ := Read_tot b p hb hbb hp
    rcases ho with rfl | ⟨t,rest,rfl,h1,h2,h3,h4⟩
    · have hterm : Ev (fun N => code_reader_term N (crd b p)) none := Ev.bind hw (Ev.pos Bool.false_ne_true (Ev.now _))
      refine ⟨_, ?_,.inl rfl⟩
      refine Ev.step ?_ (fun N => by rw [code_reader_program_L1,hq])
      exact Ev.pos (by omega) (Ev.bind hterm (Ev.now _))
    · have hterm : Ev (fun N => code_reader_term N (crd b p)) (some (t,crd b (p + (layT t).length))) := Ev.bind hw (Ev.neg (fun h => h rfl) (Ev.now _))
      have hroom := drop_room h1 (layT_pos t)
      obtain ⟨r,hr,ho⟩ := ccon_tot b hb hbb r18 q20 n hn hq d (acc++[t]) (v + 1) (p + (layT t).length) (by omega) (by rw [List.length_append]; show acc.length + 1 = _; omega) (by rw [List.all_append,hm]; simp [h2]) (fun x hx => by
        rcases List.mem_append.1 hx with hx | hx
        · exact hs x hx
        · rw [List.mem_singleton.1 hx]; exact ⟨h3,h4⟩) (by omega)
      refine ⟨r, ?_,ho⟩
      refine Ev.step ?_ (fun N => by rw [code_reader_program_L1,hq,wrap_succ (by omega)])
      exact Ev.pos (by omega) (Ev.bind hterm (Ev.bindc (app_eq (by rw [lim_eq]; show acc.length + 1 ≤ _; omega)) hr))
/-- What may be laid. -/
structure Fits (p:Tapi_Program) : Prop where
  ops : p.fOps.length ≤ 120
  cons : p.fConsts.length ≤ 16
  mayo : p.fOps.all mayO = true
  mayt : p.fConsts.all mayT = true
  small : ∀ x ∈ p.fConsts,Small x
  w : ∀ x ∈ p.fConsts,wTapi_Term x
theorem Fits.laid {p : Tapi_Program} (h:Fits p) : laidP p = (bodyP p,0) := by
  unfold laidP
  rw [if_neg (by have := h.ops; have := h.cons; omega),if_pos ⟨h.mayo,h.mayt⟩]
theorem fits_of {p : Tapi_Program} (h:(laidP p).2 = 0) (hs : ∀ x ∈ p.fConsts,Small x) (hw : ∀ x ∈ p.fConsts,wTapi_Term x) : Fits p := by
  unfold laidP at h
  split at h
  · cases h
  · rename_i h1
    split at h
    · rename_i h2; exact ⟨by omega,by omega,h2.1,h2.2,hs,hw⟩
    · cases h
theorem opsB_bytes : ∀ l : List Tapi_Op,bytesL (opsB l)
  | [] => nil_bytes
  | o :: os => (cons_bytes (wrapU8_bytes _) (cons_bytes (wrapU8_bytes _) (cons_bytes (wrapU8_bytes _) (cons_bytes (wrapU8_bytes _) nil_bytes)))).app (opsB_bytes os)
theorem Fits.bytes {p : Tapi_Program} (h:Fits p) : bytesL (bodyP p) := by
  have h1 := h.ops
  have h2 := h.cons
  unfold bodyP headP
  exact (((cons_bytes (by omega) (cons_bytes (by omega) nil_bytes)).app (opsB_bytes _)).app (cons_bytes (by omega) nil_bytes)).app (layTs_bytes _)
theorem Fits.len {p : Tapi_Program} (h:Fits p) : (bodyP p).length ≤ 60000 := by
  have := laidP_len p
  rw [h.laid] at this
  exact this
theorem program_back {b : List Int} {p : Tapi_Program} {rest : List Int} (hb:b.length ≤ 500000) (hbb:bytesL b) (hf:Fits p) (hd:b = bodyP p++rest) : Ev (fun N => code_reader_program N (crd b 0)) (some (p,crd b (bodyP p).length)) := by
  have h1 := hf.ops
  have h2 := hf.cons
  have hlen := bodyP_len p
  have hbl : b.length = (bodyP p).length + rest.length := by rw [hd,List.length_append]
  have hd' : b.drop 0 = ((p.fOps.length / 256 : Nat) : Int) :: (((p.fOps.length % 256 : Nat) : Int) :: (opsB p.fOps++([((p.fConsts.length : Nat) : Int)]++(layTs p.fConsts++rest)))) := by
    rw [List.drop_zero,hd]
    unfold bodyP headP
    simp
  have d1 := drop_next hd'
  have d2 := drop_next d1
  have d3 := drop_more d2
  rw [opsB_len] at d3
  have d4 := drop_next (x := ((p.fConsts.length : Nat) : Int)) d3
  have n1 := cnum_ok hb hbb hd'
  have n2 := cnum_ok hb hbb d1
  have n3 := cnum_ok (x := ((p.fConsts.length : Nat) : Int)) hb hbb d3
  have hq : bor .i64 (IntKind.wrap .i64 (((p.fOps.length / 256 : Nat) : Int) * 2 ^ (min (Int.toNat (8:Int)) (IntKind.bits .i64)))) ((p.fOps.length % 256 : Nat) : Int) = ((p.fOps.length : Nat) : Int) := by
    rw [join2 (by omega) (by omega),Int.toNat_natCast,Int.toNat_natCast]
    omega
  have l0 := cops_back b hb hbb (((p.fOps.length / 256 : Nat) : Int),crd b 1) (((p.fOps.length % 256 : Nat) : Int),crd b (0 + 1 + 1)) p.fOps.length h1 hq ([((p.fConsts.length : Nat) : Int)]++(layTs p.fConsts++rest)) p.fOps [] 0 (0 + 1 + 1) hf.mayo (by omega) rfl d2
  rw [List.nil_append] at l0
  have l1 := ccon_back b hb hbb (p.fOps,b,((0 + 1 + 1 + 4 * p.fOps.length : Nat) : Int)) (((p.fConsts.length : Nat) : Int),crd b (0 + 1 + 1 + 4 * p.fOps.length + 1)) p.fConsts.length h2 rfl rest p.fConsts [] 0 (0 + 1 + 1 + 4 * p.fOps.length + 1) hf.mayt hf.small hf.w (by omega) rfl (by omega) d4
  rw [List.nil_append] at l1
  refine Ev.bind n1 (Ev.bind n2 (Ev.neg ?_ (Ev.bind l0 (Ev.bind n3 (Ev.neg ?_ (Ev.bind l1 ?_))))))
  · show ¬ (bor .i64 (IntKind.wrap .i64 (((p.fOps.length / 256 : Nat) : Int) * 2 ^ (min (Int.toNat (8:Int)) (IntKind.bits .i64)))) ((p.fOps.length % 256 : Nat) : Int) > 120)
    rw [hq]; omega
  · show ¬ (((p.fConsts.length : Nat) : Int) > 16)
    omega
  · have e : (bodyP p).length = 0 + 1 + 1 + 4 * p.fOps.length + 1 + (layTs p.fConsts).length := by omega
    rw [e]
    exact Ev.now _
theorem program_tot (b:List Int) (hb:b.length ≤ 500000) (hbb:bytesL b) : ∃ r,Ev (fun N => code_reader_program N (crd b 0)) r ∧ (r = none ∨ ∃ q s,r = some (q,s) ∧ Fits q) := by
  rcases cnum_tot b 0 hb hbb with h | ⟨x0,r0,d0,b0,p0,h0⟩
  · exact ⟨_,Ev.bind h (Ev.now _),.inl rfl⟩
  rcases cnum_tot b (0 + 1) hb hbb with h | ⟨x1,r1,d1,b1,p1,h1⟩
  · exact ⟨_,Ev.bind h0 (Ev.bind h (Ev.now _)),.inl rfl⟩
  have hq := join2 b0 b1
  by_cases hn : x0.toNat * 256 + x1.toNat ≤ 120
  · obtain ⟨r,hr,ho⟩ := cops_tot b hb hbb (x0,crd b (0 + 1)) (x1,crd b (0 + 1 + 1)) (x0.toNat * 256 + x1.toNat) hn hq (x0.toNat * 256 + x1.toNat) [] 0 (0 + 1 + 1) (by omega) rfl rfl p1
    have hneg : ¬ (bor .i64 (IntKind.wrap .i64 (x0 * 2 ^ (min (Int.toNat (8:Int)) (IntKind.bits .i64)))) x1 > 120) := by rw [hq]; omega
    rcases ho with rfl | ⟨os,p',rfl,o1,o2,o3⟩
    · exact ⟨_,Ev.bind h0 (Ev.bind h1 (Ev.neg hneg (Ev.bind hr (Ev.now _)))),.inl rfl⟩
    rcases cnum_tot b p' hb hbb with h | ⟨x2,r2,d2,b2,p2,h2⟩
    · exact ⟨_,Ev.bind h0 (Ev.bind h1 (Ev.neg hneg (Ev.bind hr (Ev.bind h (Ev.now _))))),.inl rfl⟩
    by_cases h16 : x2 > 16
    · exact ⟨_,Ev.bind h0 (Ev.bind h1 (Ev.neg hneg (Ev.bind hr (Ev.bind h2 (Ev.pos h16 (Ev.now _)))))),.inl rfl⟩
    obtain ⟨r,hr2,ho⟩ := ccon_tot b hb hbb (os,b,((p' : Nat) : Int)) (x2,crd b (p' + 1)) x2.toNat (by omega) (by show x2 = _; omega) x2.toNat [] 0 (p' + 1) (by omega) rfl rfl (fun x hx => by cases hx) p2
    rcases ho with rfl | ⟨ts,p'',rfl,t1,t2,t3⟩
    · exact ⟨_,Ev.bind h0 (Ev.bind h1 (Ev.neg hneg (Ev.bind hr (Ev.bind h2 (Ev.neg h16 (Ev.bind hr2 (Ev.now _))))))),.inl rfl⟩
    · exact ⟨_,Ev.bind h0 (Ev.bind h1 (Ev.neg hneg (Ev.bind hr (Ev.bind h2 (Ev.neg h16 (Ev.bind hr2 (Ev.now _))))))),.inr ⟨⟨os,ts⟩,crd b p'',rfl,⟨by show os.length ≤ 120; omega,by show ts.length ≤ 16; omega,o2,t2,fun x hx => (t3 x hx).1,fun x hx => (t3 x hx).2⟩⟩⟩
  · have hpos : bor .i64 (IntKind.wrap .i64 (x0 * 2 ^ (min (Int.toNat (8:Int)) (IntKind.bits .i64)))) x1 > 120 := by rw [hq]; omega
    exact ⟨_,Ev.bind h0 (Ev.bind h1 (Ev.pos hpos (Ev.now _))),.inl rfl⟩
theorem bequal_ev (a b:List Int) (ha:bytesL a) (hb:bytesL b) : Ev (fun N => bytes_Equal N a b) (decide (a = b)) := by
  have e : ((Lift.bstr a).toList == (Lift.bstr b).toList) = decide (a = b) := by
    rw [Bool.eq_iff_iff,str_iff,decide_eq_true_eq]
    constructor
    · intro h
      have := congrArg sbytes h
      rwa [sbytes_bstr ha,sbytes_bstr hb] at this
    · intro h; rw [h]
  show Ev (fun _ => some ((Lift.bstr a).toList == (Lift.bstr b).toList)) _
  rw [e]
  exact Ev.now _
theorem pRead_ok {p : Tapi_Program} (hf:Fits p) : Ev (fun N => code_Read N (bodyP p)) (p,0) := by
  have hl := hf.len
  have h := program_back (rest := []) (by omega) hf.bytes hf (by rw [List.append_nil])
  have hL := pLay_ev p hf.small hf.w
  rw [hf.laid] at hL
  have he := bequal_ev (bodyP p) (bodyP p) hf.bytes hf.bytes
  rw [decide_eq_true rfl] at he
  exact Ev.bind h (Ev.bind hL (Ev.bind he (Ev.neg (fun k => k rfl) (Ev.bind (Ev.now _) (Ev.now _)))))
theorem pRead_tot (b:List Int) (hb:b.length ≤ 500000) (hbb:bytesL b) : ∃ v,Ev (fun N => code_Read N b) v ∧ (v = (⟨[],[]⟩,5) ∨ ∃ q,v = (q,0) ∧ b = bodyP q ∧ Fits q) := by
  obtain ⟨r,hr,ho⟩ := program_tot b hb hbb
  rcases ho with rfl | ⟨q,s,rfl,hf⟩
  · exact ⟨_,Ev.bind hr (Ev.bind (Ev.now _) (Ev.now _)),.inl rfl⟩
  · have hL := pLay_ev q hf.small hf.w
    rw [hf.laid] at hL
    have he := bequal_ev (bodyP q) b hf.bytes hbb
    by_cases h : bodyP q = b
    · rw [decide_eq_true h] at he
      exact ⟨_,Ev.bind hr (Ev.bind hL (Ev.bind he (Ev.neg (fun k => k rfl) (Ev.bind (Ev.now _) (Ev.now _))))),.inr ⟨q,rfl,h.symm,hf⟩⟩
    · rw [decide_eq_false h] at he
      exact ⟨_,Ev.bind hr (Ev.bind hL (Ev.bind he (Ev.pos Bool.false_ne_true (Ev.bind (Ev.now _) (Ev.now _))))),.inl rfl⟩
/-- No program's bytes go on as another's. -/
theorem no_prefix {p q : Tapi_Program} {d : List Int} (hp:Fits p) (hq:Fits q) (h:bodyP p = bodyP q++d) : d = [] := by
  have hl := hp.len
  have e1 := program_back (b := bodyP p) (rest := []) (by omega) hp.bytes hp (by rw [List.append_nil])
  have e2 := program_back (b := bodyP p) (rest := d) (by omega) hp.bytes hq h
  have e := Option.some.inj (Ev.det e1 e2)
  have e : p = q := congrArg Prod.fst e
  subst e
  have := congrArg List.length h
  rw [List.length_append] at this
  exact len0 (by omega)
theorem pRead_other {b : List Int} (hb:b.length ≤ 500000) (hbb:bytesL b) (h : ∀ q,Fits q → b ≠ bodyP q) : Ev (fun N => code_Read N b) (⟨[],[]⟩,5) := by
  obtain ⟨v,hv,ho⟩ := pRead_tot b hb hbb
  rcases ho with rfl | ⟨q,rfl,e,hf⟩
  · exact hv
  · exact absurd e (h q hf)
theorem sameOps_loop : ∀ (ts l:List Tapi_Op) (i:Nat),l.drop i = ts → l.length ≤ 100000 → Ev (fun N => beehivelaw0_SameOps_L0 N l l i) (.inl ())
  | [],l,i,hd,hl => by
    have := drop_end hd
    refine Ev.step ?_ (fun N => by rw [beehivelaw0_SameOps_L0])
    exact Ev.neg (by omega) (Ev.now _)
  | x :: xs,l,i,hd,hl => by
    have := drop_len hd
    refine Ev.step ?_ (fun N => by rw [beehivelaw0_SameOps_L0,wrap_succ (by omega)])
    exact Ev.pos (by omega) (Ev.bindc (idx_at hd) (Ev.bindc (idx_at hd) (Ev.neg (fun h => h (eq_Tapi_Op_iff.2 rfl)) (sameOps_loop xs l (i + 1) (drop_next hd) hl))))
theorem sameProg_self (p:Tapi_Program) (h1:p.fOps.length ≤ 100000) (hs : ∀ x ∈ p.fConsts,Small x) (hc:cnts p.fConsts ≤ 100000) : Ev (fun N => beehivelaw0_SameProgram N p p) true := by
  have hl := cnts_len p.fConsts
  have ho : Ev (fun N => beehivelaw0_SameOps N p.fOps p.fOps) true := Ev.neg (fun h => h rfl) (Ev.bind (sameOps_loop p.fOps p.fOps 0 rfl h1) (Ev.now _))
  have ht : Ev (fun N => beehivelaw0_SameTerms N p.fConsts p.fConsts) true := by
    refine Ev.step ?_ (fun N => by rw [beehivelaw0_SameTerms])
    exact Ev.neg (fun h => h rfl) (Ev.bind (sameTerms_loop p.fConsts hs hc p.fConsts 0 rfl (by omega)) (Ev.now _))
  exact Ev.bind ho (Ev.pos rfl (Ev.bind ht (Ev.now _)))
end Go.Proofs.Ytcknifhhgeccfaa.Sh
