import Derived.Test.YtcknifhhgeccfaaPureWireB
set_option linter.unusedVariables false
set_option linter.unusedSimpArgs false
namespace Go.Proofs.Ytcknifhhgeccfaa.Sh
open Go Lift Go.Proofs
theorem right_parts {t:Z03} (h:rightT t=true):okT t=true∧bareT t=true∧rightsT t.fArgs=true:=by
  rw [rightT_eq,Bool.and_eq_true,Bool.and_eq_true] at h
  exact ⟨h.1.1,h.1.2,h.2⟩
theorem rights_cons {x:Z03} {xs:List Z03} (h:rightsT (x::xs)=true):rightT x=true∧rightsT xs=true:=by rw [rightsT,Bool.and_eq_true] at h; exact h
theorem beB_one (x:Int):beB (u64n x) 1=[IntKind.u8.wrap x]:=by
  rw [beB,beB]
  congr 1
  rw [wrapU8]
  unfold u64n
  rw [Nat.pow_zero,Nat.div_one]
  omega
mutual
theorem rlay_ev:∀ (t:Z03),Z14 t→rightT t=true→wt t≤1000→∀ b:List Int,b.length+(layT t).length≤500000→Ev (fun N=>beehiveref7_lay N b t) (b++layT t)
  | ⟨k,n,m,bi,s,args⟩,w,hr,hw,b,hl=>by
    have hp:=wt_pos ⟨k,n,m,bi,s,args⟩
    have hb32:lim32 m.fMag:=lim32_of w.Num.Mag
    have hwt:=wt_eq ⟨k,n,m,bi,s,args⟩
    have hbi:=bits_u64 w
    obtain ⟨ho,hbare,hrs⟩:=right_parts hr
    have hloop:=rlays_ev args w.Args hrs ⟨k,n,m,bi,s,args⟩ 0 rfl w.ArgsLen
    have hhl:=headB_len ⟨k,n,m,bi,s,args⟩
    have hnn:=Z71 args
    rw [layT_eq]
    have hne:¬ (k=6∨k=8)→args=[]:=fun h=>bare_args hbare (fun e=>h (.inl e)) (fun e=>h (.inr e))
    have hs:∀ v,Ev (fun N=>beehiveref7_lay_B0 N ⟨k,n,m,bi,s,args⟩ (b++[IntKind.u8.wrap k])) ((b++[IntKind.u8.wrap k])++headB ⟨k,n,m,bi,s,args⟩)→Ev (fun N=>beehiveref7_lay_L3 N ⟨k,n,m,bi,s,args⟩ ((b++[IntKind.u8.wrap k])++headB ⟨k,n,m,bi,s,args⟩) 0) (((b++[IntKind.u8.wrap k])++headB ⟨k,n,m,bi,s,args⟩)++v)→Ev (fun N=>beehiveref7_lay N b ⟨k,n,m,bi,s,args⟩) (b++(IntKind.u8.wrap k::(headB ⟨k,n,m,bi,s,args⟩++v))):=fun v h h'=>by
      have e:b++(IntKind.u8.wrap k::(headB ⟨k,n,m,bi,s,args⟩++v))=((b++[IntKind.u8.wrap k])++headB ⟨k,n,m,bi,s,args⟩)++v:=by rw [List.append_assoc,List.append_assoc]; rfl
      rw [e]
      refine Ev.step ?_ (fun N=>by rw [beehiveref7_lay])
      exact Ev.bindc (app9 (by show b.length+1≤_; omega)) (Ev.bind h (Ev.bind h' (Ev.now _)))
    refine hs _ ?_ ?_
    · have hL:(b++[IntKind.u8.wrap k]).length=b.length+1:=by rw [List.length_append]; rfl
      generalize b++[IntKind.u8.wrap k]=b1 at hL
      refine Ev.step ?_ (fun N=>by rw [beehiveref7_lay_B0])
      unfold headB
      by_cases k1:k=1
      · rw [if_pos (show (⟨k,n,m,bi,s,args⟩:Z03).fKind=1 from k1)]
        exact Ev.pos k1 (Ev.bind (Zd5 (u64n n) 8 _ 8 b1 (Z9j n) rfl (by omega) (by omega)) (Ev.now _))
      rw [if_neg (show ¬ (⟨k,n,m,bi,s,args⟩:Z03).fKind=1 from k1)]
      refine Ev.neg k1 ?_
      have h45:Ev (fun N=>beehiveref7_lay_B1 N ⟨k,n,m,bi,s,args⟩ b1) (decide (k=4∨k=5)):=by
        refine Ev.step ?_ (fun N=>by rw [beehiveref7_lay_B1])
        by_cases k4:k=4
        · rw [decide_eq_true (.inl k4)]
          refine (Ev.pos k4 ?_ )
          have:((⟨k,n,m,bi,s,args⟩:Z03).fKind == (4:Int))=true:=by simpa using k4
          rw [this]
          exact Ev.now _
        · have e:decide (k=4∨k=5)=((⟨k,n,m,bi,s,args⟩:Z03).fKind == (5:Int)):=by by_cases k5:k=5 <;> simp [k4,k5]
          rw [e]
          exact Ev.neg k4 (Ev.now _)
      refine Ev.bind h45 ?_
      by_cases k45:k=4∨k=5
      · rw [decide_eq_true k45,if_neg (show ¬ (⟨k,n,m,bi,s,args⟩:Z03).fKind=2 by show ¬ k=2; omega),if_neg (show ¬ (⟨k,n,m,bi,s,args⟩:Z03).fKind=3 by show ¬ k=3; omega),if_pos (show (⟨k,n,m,bi,s,args⟩:Z03).fKind=4∨(⟨k,n,m,bi,s,args⟩:Z03).fKind=5 from k45)]
        have h:=Zd5 (u64n n) 1 _ 1 b1 (Z9j n) rfl (by omega) (by omega)
        rw [beB_one] at h
        exact Ev.pos rfl (Ev.bind h (Ev.now _))
      rw [decide_eq_false k45,if_neg (show ¬ ((⟨k,n,m,bi,s,args⟩:Z03).fKind=4∨(⟨k,n,m,bi,s,args⟩:Z03).fKind=5) from k45)]
      refine Ev.neg Bool.false_ne_true ?_
      by_cases k2:k=2
      · have hmw:(m.fMag.length:Int)≤1000:=by rw [if_pos (show (⟨k,n,m,bi,s,args⟩:Z03).fKind=2 from k2)] at hwt; have hwt:wt ⟨k,n,m,bi,s,args⟩=1+(m.fMag.length:Int):=hwt; omega
        have hmm:m.fMag.length≤1000:=by omega
        rw [if_pos (show (⟨k,n,m,bi,s,args⟩:Z03).fKind=2 from k2)]
        refine Ev.pos k2 ?_
        have hf:Ev (fun N=>Z8p N m.fNeg) (if m.fNeg=true then 1 else 0):=by
          cases m.fNeg with
          | true=>exact Ev.pos rfl (Ev.now _)
          | false=>exact Ev.neg Bool.false_ne_true (Ev.now _)
        have hx:(if m.fNeg=true then (1:Int) else 0)=0∨(if m.fNeg=true then (1:Int) else 0)=1:=by split; exact .inr rfl; exact .inl rfl
        refine Ev.bind hf ?_
        show Ev _ (b1++((if m.fNeg=true then (1:Int) else 0)::IntKind.u8.wrap (m.fMag.length:Int)::magB m.fMag))
        generalize (if m.fNeg=true then (1:Int) else 0)=x at hx
        have h1:=Zd5 (u64n x) 1 x 1 b1 (by rw [u64n_nn (by omega) (by omega)]; omega) rfl (by omega) (by omega)
        have ex:IntKind.u8.wrap x=x:=by rw [wrapU8]; omega
        rw [beB_one,ex] at h1
        have h2:=Zd5 (u64n (m.fMag.length:Int)) 1 _ 1 (b1++[x]) (Z9j _) rfl (by omega) (by rw [List.length_append]; show b1.length+1+1≤_; omega)
        rw [beB_one] at h2
        have ih:=rmag_loop ⟨k,n,m,bi,s,args⟩ hmm hb32 m.fMag 0 rfl (b1++[x]++[IntKind.u8.wrap (m.fMag.length:Int)]) (by rw [List.length_append,List.length_append]; show b1.length+1+1+_≤_; omega)
        have e:b1++(x::IntKind.u8.wrap (m.fMag.length:Int)::magB m.fMag)=b1++[x]++[IntKind.u8.wrap (m.fMag.length:Int)]++magB m.fMag:=by rw [List.append_assoc,List.append_assoc]; rfl
        rw [e]
        exact Ev.bind h1 (Ev.bind h2 (Ev.bind ih (Ev.now _)))
      rw [if_neg (show ¬ (⟨k,n,m,bi,s,args⟩:Z03).fKind=2 from k2)]
      refine Ev.neg k2 ?_
      by_cases k3:k=3
      · rw [if_pos (show (⟨k,n,m,bi,s,args⟩:Z03).fKind=3 from k3)]
        exact Ev.pos k3 (Ev.bind (Zd5 (u64n bi) 8 _ 8 b1 hbi rfl (by omega) (by omega)) (Ev.now _))
      rw [if_neg (show ¬ (⟨k,n,m,bi,s,args⟩:Z03).fKind=3 from k3)]
      refine Ev.neg k3 ?_
      by_cases k6:k=6
      · rw [if_pos (show (⟨k,n,m,bi,s,args⟩:Z03).fKind=6 from k6)]
        have h:=Zd5 (u64n (args.length:Int)) 1 _ 1 b1 (Z9j _) rfl (by omega) (by omega)
        rw [beB_one] at h
        exact Ev.pos k6 (Ev.bind h (Ev.now _))
      rw [if_neg (show ¬ (⟨k,n,m,bi,s,args⟩:Z03).fKind=6 from k6)]
      refine Ev.neg k6 ?_
      by_cases k9:k=9
      · rw [if_neg (show ¬ (⟨k,n,m,bi,s,args⟩:Z03).fKind=2 from k2),if_pos (show (⟨k,n,m,bi,s,args⟩:Z03).fKind=9 from k9)] at hwt
        have hwt:wt ⟨k,n,m,bi,s,args⟩=1+(s.size:Int) / 8:=hwt
        rw [if_pos (show (⟨k,n,m,bi,s,args⟩:Z03).fKind=9 from k9), ← List.append_assoc]
        refine Ev.pos k9 (Ev.bind (Zd5 (u64n (s.size:Int)) 2 _ 2 b1 (Z9j _) rfl (by omega) (by omega)) (Ev.bindc (app9 ?_) (Ev.now _)))
        rw [List.length_append,Zc3,sbytes_len]
        show b1.length+2+s.size≤_
        omega
      · rw [if_neg (show ¬ (⟨k,n,m,bi,s,args⟩:Z03).fKind=9 from k9),List.append_nil]
        exact Ev.neg k9 (Ev.now _)
    · have e:(if (⟨k,n,m,bi,s,args⟩:Z03).fKind=6∨(⟨k,n,m,bi,s,args⟩:Z03).fKind=8 then layTs (⟨k,n,m,bi,s,args⟩:Z03).fArgs else [])=layTs args:=by
        by_cases k6:k=6∨k=8
        · rw [if_pos (show (⟨k,n,m,bi,s,args⟩:Z03).fKind=6∨(⟨k,n,m,bi,s,args⟩:Z03).fKind=8 from k6)]
        · rw [if_neg (show ¬ ((⟨k,n,m,bi,s,args⟩:Z03).fKind=6∨(⟨k,n,m,bi,s,args⟩:Z03).fKind=8) from k6),hne k6]
          rfl
      rw [e]
      have hwa:wts args≤wt ⟨k,n,m,bi,s,args⟩:=by
        by_cases k6:k=6∨k=8
        · rw [if_neg (show ¬ (⟨k,n,m,bi,s,args⟩:Z03).fKind=2 by show ¬ k=2; omega),if_neg (show ¬ (⟨k,n,m,bi,s,args⟩:Z03).fKind=9 by show ¬ k=9; omega),if_pos (show (⟨k,n,m,bi,s,args⟩:Z03).fKind=6∨(⟨k,n,m,bi,s,args⟩:Z03).fKind=8 from k6)] at hwt
          have hwt:wt ⟨k,n,m,bi,s,args⟩=1+wts args:=hwt
          omega
        · have:wts args=0:=by rw [hne k6,wts]
          omega
      refine hloop (by omega) _ ?_
      rw [layT_eq,e,List.length_cons,List.length_append] at hl
      rw [List.length_append,List.length_append]
      show b.length+1+_+_≤_
      omega
theorem rlays_ev:∀ (ts:List Z03),(∀ x ∈ ts,Z14 x)→rightsT ts=true→∀ (t:Z03) (i:Nat),t.fArgs.drop i=ts→t.fArgs.length≤maxLen→wts ts≤1000→∀ b:List Int,b.length+(layTs ts).length≤500000 →
    Ev (fun N=>beehiveref7_lay_L3 N t b (i:Int)) (b++layTs ts)
  | [],hw,hr,t,i,hd,hm,ht,b,hl=>by
    have:=Z7h hd
    rw [layTs,List.append_nil]
    refine Ev.step ?_ (fun N=>by rw [beehiveref7_lay_L3])
    exact Ev.neg (by omega) (Ev.now _)
  | x::xs,hw,hr,t,i,hd,hm,ht,b,hl=>by
    have hlen:=Z7c hd
    rw [Z57] at hm
    rw [wts] at ht
    rw [layTs,List.length_append] at hl
    have hp:=wt_pos x
    have hn:=Z71 xs
    have hx:=rlay_ev x (hw x (by simp)) (rights_cons hr).1 (by omega) b (by omega)
    have hlx:=Ze9 x
    have ih:=rlays_ev xs (fun y hy=>hw y (by simp [hy])) (rights_cons hr).2 t (i+1) (Z5r hd) (by rw [Z57]; exact hm) (by omega) (b++layT x) (by rw [List.length_append]; omega)
    rw [List.append_assoc] at ih
    rw [layTs]
    refine Ev.step ?_ (fun N=>by rw [beehiveref7_lay_L3,Z4p (by omega)])
    exact Ev.pos (by omega) (Ev.bindc (idx_at hd) (Ev.bind hx ih))
end
theorem may_wt {t:Z03} (h:mayT t=true):wt t≤300∧rightT t=true:=by
  unfold mayT at h
  rw [Bool.and_eq_true] at h
  have h1:=of_decide_eq_true h.1
  unfold lo at h1
  refine ⟨?_,h.2⟩
  split at h1 <;> omega
def laid (t:Z03):List Int × Int:=if mayT t=true then (layT t,0) else ([],2)
theorem Lay_ev (t:Z03) (s:Small t) (w:Z14 t):Ev (fun N=>wire_Lay N t) (laid t):=by
  unfold laid
  have hm:=mayT_ev t s w
  by_cases h:mayT t=true
  · rw [if_pos h]
    have hw:=(may_wt h).1
    have hl:=lay_ev t w (by omega) [] (by show 0+_≤_; omega)
    rw [List.nil_append] at hl
    exact Ev.bind hm (Ev.neg (fun k=>k h) (Ev.bind hl (Ev.now _)))
  · rw [if_neg h]
    exact Ev.bind hm (Ev.pos h (Ev.now _))
theorem rLay_ev (t:Z03) (s:Small t) (w:Z14 t):Ev (fun N=>Z95 N t) (laid t):=by
  unfold laid
  have hm:=rmayT_ev t s w
  by_cases h:mayT t=true
  · rw [if_pos h]
    have hw:=may_wt h
    have hlen:=Ze9 t
    have hl:=rlay_ev t w hw.2 (by omega) [] (by show 0+_≤_; omega)
    rw [List.nil_append] at hl
    exact Ev.bind hm (Ev.neg (fun k=>k h) (Ev.bind hl (Ev.now _)))
  · rw [if_neg h]
    exact Ev.bind hm (Ev.pos h (Ev.now _))
theorem laid_len (t:Z03):(laid t).1.length≤3000:=by
  unfold laid
  split
  · rename_i h
    have:=Ze9 t
    have:=(may_wt h).1
    show (layT t).length≤3000
    omega
  · exact Nat.zero_le _
theorem sameB_loop:∀ (ts l:List Int) (i:Nat),l.drop i=ts→l.length≤100000→Ev (fun N=>Z2z N l l i) (.inl ())
  | [],l,i,hd,hl=>by
    have:=Z7h hd
    refine Ev.step ?_ (fun N=>by rw [Z2z])
    exact Ev.neg (by omega) (Ev.now _)
  | x::xs,l,i,hd,hl=>by
    have:=Z7c hd
    refine Ev.step ?_ (fun N=>by rw [Z2z,Z4p (by omega)])
    exact Ev.pos (by omega) (Ev.bindc (idx_at hd) (Ev.bindc (idx_at hd) (Ev.neg (fun h=>h rfl) (sameB_loop xs l (i+1) (Z5r hd) hl))))
theorem sameB_self (l:List Int) (hl:l.length≤100000):Ev (fun N=>Z4o N l l) true :=
  Ev.neg (fun h=>h rfl) (Ev.bind (sameB_loop l l 0 rfl hl) (Ev.now _))
theorem overB_loop:∀ (d:Nat) (l:List Int) (i:Nat),i+d=l.length→l.length≤100000→∃ r,Ev (fun N=>Z2y N l i) r∧r.length=l.length
  | 0,l,i,hd,hl=>by
    refine ⟨l, ?_,rfl⟩
    refine Ev.step ?_ (fun N=>by rw [Z2y])
    exact Ev.neg (by omega) (Ev.now _)
  | d+1,l,i,hd,hl=>by
    obtain ⟨r,hr,hrl⟩:=overB_loop d (l.set i 238) (i+1) (by rw [List.length_set]; omega) (by rw [List.length_set]; exact hl)
    refine ⟨r, ?_,by rw [hrl,List.length_set]⟩
    refine Ev.step ?_ (fun N=>by rw [Z2y,Z4p (by omega)])
    refine Ev.pos (by omega) (Ev.bindc (idx_eq (show i < l.length by omega)) ?_)
    rw [Int.toNat_natCast]
    exact hr
theorem overB_ev (l:List Int) (hl:l.length≤100000):Ev (fun N=>Z6l N l) ():=by
  obtain ⟨r,hr,hrl⟩:=overB_loop l.length l 0 (by omega) hl
  exact Ev.bind hr (Ev.bindc (app9 (by show r.length+1≤_; omega)) (Ev.now _))
end Go.Proofs.Ytcknifhhgeccfaa.Sh
