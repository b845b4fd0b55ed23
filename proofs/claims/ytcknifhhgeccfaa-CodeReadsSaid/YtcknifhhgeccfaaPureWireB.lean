import Derived.Test.YtcknifhhgeccfaaPureWireA
import Derived.Test.YtcknifhhgeccfaaPureGreat
set_option linter.unusedVariables false
set_option linter.unusedSimpArgs false
namespace Go.Proofs.Ytcknifhhgeccfaa.Sh
open Go Lift Go.Proofs
theorem app9 {xs ys:List Int} (h:xs.length+ys.length≤900000):app xs ys=some (xs++ys):=app_eq (by rw [lim_eq]; omega)
theorem mag_loop (t:Z02) (hm:t.fNum.fMag.length≤1000) (hb:lim32 t.fNum.fMag):∀ (ts:List Int) (i:Nat),t.fNum.fMag.drop i=ts→∀ a:List Int,a.length+4 * ts.length≤800000→Ev (fun N=>wire_lay_L1 N t a (i:Int)) (a++magB ts)
  | [],i,hd,a,hl=>by
    have:=Z84 hd
    refine Ev.step ?_ (fun N=>by rw [wire_lay_L1])
    rw [magB,List.append_nil]
    exact Ev.neg (by omega) (Ev.now _)
  | x::xs,i,hd,a,hl=>by
    have hlen:=Z8i hd
    rw [List.length_cons] at hl
    have hx := hb x (by have : x ∈ t.fNum.fMag.drop i := by rw [hd]; exact List.mem_cons_self
                        exact List.mem_of_mem_drop this)
    have ih:=mag_loop t hm hb xs (i+1) (Z55 hd) (a++beB (u64n x) 4) (by rw [List.length_append,Z5f]; omega)
    rw [List.append_assoc] at ih
    refine Ev.step ?_ (fun N=>by rw [wire_lay_L1,Z36 (by omega)])
    exact Ev.pos (by omega) (Ev.bindc (Zfr hd) (Ev.bind (put_ev (u64n x) 4 _ 4 a (wrap_u64n x) rfl (by omega) (by omega)) ih))
theorem bits_u64 {t:Z02} (w:Z0t t):t.fBits=((u64n t.fBits:Nat):Int):=by
  have:=inU w.Bits
  rw [Zc0 this.1 (by omega)]; omega
mutual
theorem lay_ev:∀ (t:Z02),Z0t t→wt t≤1000→∀ b:List Int,b.length+10 * (wt t).toNat≤500000→Ev (fun N=>wire_lay N b t) (b++layT t)
  | ⟨k,n,m,bi,s,args⟩,w,hw,b,hl=>by
    have hp:=wt_pos ⟨k,n,m,bi,s,args⟩
    have hb32:lim32 m.fMag:=Zf2 w.Num.Mag
    have hwt:=wt_eq ⟨k,n,m,bi,s,args⟩
    have hbi:=bits_u64 w
    have hloop:=lays_ev args w.Args
    rw [Z7j]
    have hs:∀ v,Ev (fun N=>wire_lay_B0 N ⟨k,n,m,bi,s,args⟩ (b++[IntKind.u8.wrap k])) ((b++[IntKind.u8.wrap k])++v)→Ev (fun N=>wire_lay N b ⟨k,n,m,bi,s,args⟩) (b++(IntKind.u8.wrap k::v)):=fun v h=>by
      have e:b++(IntKind.u8.wrap k::v)=(b++[IntKind.u8.wrap k])++v:=by rw [List.append_assoc]; rfl
      rw [e]
      refine Ev.step ?_ (fun N=>by rw [wire_lay])
      exact Ev.bindc (app9 (by show b.length+1≤_; omega)) (Ev.bind h (Ev.now _))
    refine hs _ ?_
    have hL:(b++[IntKind.u8.wrap k]).length=b.length+1:=by rw [List.length_append]; rfl
    generalize b++[IntKind.u8.wrap k]=b1 at hL
    refine Ev.step ?_ (fun N=>by rw [wire_lay_B0])
    unfold headB
    by_cases k1:k=1
    · rw [if_pos (show (⟨k,n,m,bi,s,args⟩:Z02).fKind=1 from k1),if_neg (show ¬ (k=6∨k=8) by omega),List.append_nil]
      exact Ev.pos k1 (Ev.bind (put_ev (u64n n) 8 _ 8 b1 (wrap_u64n n) rfl (by omega) (by omega)) (Ev.now _))
    rw [if_neg (show ¬ (⟨k,n,m,bi,s,args⟩:Z02).fKind=1 from k1)]
    refine Ev.neg k1 ?_
    by_cases k2:k=2
    · have hmw:(m.fMag.length:Int)≤1000:=by rw [if_pos (show (⟨k,n,m,bi,s,args⟩:Z02).fKind=2 from k2)] at hwt; have hwt:wt ⟨k,n,m,bi,s,args⟩=1+(m.fMag.length:Int):=hwt; omega
      have hmm:m.fMag.length≤1000:=by omega
      rw [if_pos (show (⟨k,n,m,bi,s,args⟩:Z02).fKind=2 from k2),if_neg (show ¬ (k=6∨k=8) by omega),List.append_nil]
      refine Ev.pos k2 ?_
      have key:∀ x:Int,Ev (fun N=>(app b1 ([x,IntKind.wrap .u8 ((m.fMag.length:Nat):Int)]:List Int)).bind fun x6=>(wire_lay_L1 N ⟨k,n,m,bi,s,args⟩ x6 (0:Int)).bind fun r10=>some r10) (b1++(x::IntKind.u8.wrap (m.fMag.length:Int)::magB m.fMag)):=fun x=>by
        have ih:=mag_loop ⟨k,n,m,bi,s,args⟩ hmm hb32 m.fMag 0 rfl (b1++[x,IntKind.wrap .u8 ((m.fMag.length:Nat):Int)]) (by rw [List.length_append]; show b1.length+2+_≤_; omega)
        rw [List.append_assoc] at ih
        exact Ev.bindc (app9 (by show b1.length+2≤_; omega)) (Ev.bind ih (Ev.now _))
      cases hn:m.fNeg with
      | true=>rw [if_pos rfl]; exact Ev.pos rfl (key 1)
      | false=>rw [if_neg Bool.false_ne_true]; exact Ev.neg Bool.false_ne_true (key 0)
    rw [if_neg (show ¬ (⟨k,n,m,bi,s,args⟩:Z02).fKind=2 from k2)]
    refine Ev.neg k2 ?_
    by_cases k3:k=3
    · rw [if_pos (show (⟨k,n,m,bi,s,args⟩:Z02).fKind=3 from k3),if_neg (show ¬ (k=6∨k=8) by omega),List.append_nil]
      exact Ev.pos k3 (Ev.bind (put_ev (u64n bi) 8 _ 8 b1 hbi rfl (by omega) (by omega)) (Ev.now _))
    rw [if_neg (show ¬ (⟨k,n,m,bi,s,args⟩:Z02).fKind=3 from k3)]
    refine Ev.neg k3 ?_
    have one:app b1 ([IntKind.wrap .u8 n]:List Int)=some (b1++[IntKind.u8.wrap n]):=app9 (by show b1.length+1≤_; omega)
    by_cases k4:k=4
    · rw [if_pos (show (⟨k,n,m,bi,s,args⟩:Z02).fKind=4∨(⟨k,n,m,bi,s,args⟩:Z02).fKind=5 from .inl k4),if_neg (show ¬ (k=6∨k=8) by omega),List.append_nil]
      exact Ev.pos k4 (Ev.bindc one (Ev.now _))
    refine Ev.neg k4 ?_
    by_cases k5:k=5
    · rw [if_pos (show (⟨k,n,m,bi,s,args⟩:Z02).fKind=4∨(⟨k,n,m,bi,s,args⟩:Z02).fKind=5 from .inr k5),if_neg (show ¬ (k=6∨k=8) by omega),List.append_nil]
      exact Ev.pos k5 (Ev.bindc one (Ev.now _))
    rw [if_neg (show ¬ ((⟨k,n,m,bi,s,args⟩:Z02).fKind=4∨(⟨k,n,m,bi,s,args⟩:Z02).fKind=5) from fun h=>by rcases h with h | h; exact k4 h; exact k5 h)]
    refine Ev.neg k5 ?_
    by_cases k6:k=6
    · rw [if_pos (show (⟨k,n,m,bi,s,args⟩:Z02).fKind=6 from k6),if_pos (show k=6∨k=8 from .inl k6)]
      rw [if_neg (show ¬ (⟨k,n,m,bi,s,args⟩:Z02).fKind=2 from k2),if_neg (show ¬ (⟨k,n,m,bi,s,args⟩:Z02).fKind=9 by show ¬ k=9; omega),if_pos (show (⟨k,n,m,bi,s,args⟩:Z02).fKind=6∨(⟨k,n,m,bi,s,args⟩:Z02).fKind=8 from .inl k6)] at hwt
      have hwt:wt ⟨k,n,m,bi,s,args⟩=1+wts args:=hwt
      have hnn:=Z81 args
      have ih:=(hloop ⟨k,n,m,bi,s,args⟩ 0 rfl w.ArgsLen (by omega) (b1++[IntKind.wrap .u8 ((args.length:Nat):Int)]) (by rw [List.length_append]; show b1.length+1+_≤_; omega)).1
      rw [List.append_assoc] at ih
      exact Ev.pos k6 (Ev.bindc (app9 (by show b1.length+1≤_; omega)) (Ev.bind ih (Ev.now _)))
    rw [if_neg (show ¬ (⟨k,n,m,bi,s,args⟩:Z02).fKind=6 from k6)]
    refine Ev.neg k6 ?_
    by_cases k8:k=8
    · rw [if_neg (show ¬ (⟨k,n,m,bi,s,args⟩:Z02).fKind=9 by show ¬ k=9; omega),if_pos (show k=6∨k=8 from .inr k8)]
      rw [if_neg (show ¬ (⟨k,n,m,bi,s,args⟩:Z02).fKind=2 from k2),if_neg (show ¬ (⟨k,n,m,bi,s,args⟩:Z02).fKind=9 by show ¬ k=9; omega),if_pos (show (⟨k,n,m,bi,s,args⟩:Z02).fKind=6∨(⟨k,n,m,bi,s,args⟩:Z02).fKind=8 from .inr k8)] at hwt
      have hwt:wt ⟨k,n,m,bi,s,args⟩=1+wts args:=hwt
      have hnn:=Z81 args
      have ih:=(hloop ⟨k,n,m,bi,s,args⟩ 0 rfl w.ArgsLen (by omega) b1 (by omega)).2
      exact Ev.pos k8 (Ev.bind ih (Ev.now _))
    rw [if_neg (show ¬ (k=6∨k=8) by omega),List.append_nil]
    refine Ev.neg k8 ?_
    by_cases k9:k=9
    · rw [if_neg (show ¬ (⟨k,n,m,bi,s,args⟩:Z02).fKind=2 from k2),if_pos (show (⟨k,n,m,bi,s,args⟩:Z02).fKind=9 from k9)] at hwt
      have hwt:wt ⟨k,n,m,bi,s,args⟩=1+(s.size:Int) / 8:=hwt
      rw [if_pos (show (⟨k,n,m,bi,s,args⟩:Z02).fKind=9 from k9), ← List.append_assoc]
      refine Ev.pos k9 (Ev.bind (put_ev (u64n (s.size:Int)) 2 _ 2 b1 (wrap_u64n _) rfl (by omega) (by omega)) (Ev.bindc (app9 ?_) (Ev.now _)))
      rw [List.length_append,Z5f,Z99]
      show b1.length+2+s.size≤_
      omega
    · rw [if_neg (show ¬ (⟨k,n,m,bi,s,args⟩:Z02).fKind=9 from k9),List.append_nil]
      exact Ev.neg k9 (Ev.now _)
theorem lays_ev:∀ (ts:List Z02),(∀ x ∈ ts,Z0t x)→∀ (t:Z02) (i:Nat),t.fArgs.drop i=ts→t.fArgs.length≤maxLen→wts ts≤1000→∀ b:List Int,b.length+10 * (wts ts).toNat≤500000 →
    Ev (fun N=>wire_lay_L2 N t b (i:Int)) (b++layTs ts)∧Ev (fun N=>wire_lay_L3 N t b (i:Int)) (b++layTs ts)
  | [],hw,t,i,hd,hm,ht,b,hl=>by
    have:=Z84 hd
    rw [layTs,List.append_nil]
    constructor
    · refine Ev.step ?_ (fun N=>by rw [wire_lay_L2])
      exact Ev.neg (by omega) (Ev.now _)
    · refine Ev.step ?_ (fun N=>by rw [wire_lay_L3])
      exact Ev.neg (by omega) (Ev.now _)
  | x::xs,hw,t,i,hd,hm,ht,b,hl=>by
    have hlen:=Z8i hd
    rw [Z5j] at hm
    rw [wts] at ht hl
    have hp:=wt_pos x
    have hn:=Z81 xs
    have hx:=lay_ev x (hw x (by simp)) (by omega) b (by omega)
    have hlx:=layT_len x
    have ih:=lays_ev xs (fun y hy=>hw y (by simp [hy])) t (i+1) (Z55 hd) (by rw [Z5j]; exact hm) (by omega) (b++layT x) (by rw [List.length_append]; omega)
    rw [List.append_assoc] at ih
    rw [layTs]
    constructor
    · refine Ev.step ?_ (fun N=>by rw [wire_lay_L2,Z36 (by omega)])
      exact Ev.pos (by omega) (Ev.bindc (Zfr hd) (Ev.bind hx ih.1))
    · refine Ev.step ?_ (fun N=>by rw [wire_lay_L3,Z36 (by omega)])
      exact Ev.pos (by omega) (Ev.bindc (Zfr hd) (Ev.bind hx ih.2))
end
end Go.Proofs.Ytcknifhhgeccfaa.Sh
