import Derived.Test.YtllcnlonkloabaaPureArithT
import Derived.Test.YtllcnlonkloabaaPureGreat
set_option linter.unusedVariables false
set_option linter.unusedSimpArgs false
namespace Go.Proofs.Ytllcnlonkloabaa.Sh
open Go Lift Go.Proofs
theorem awake6_ev:Ev (fun N=>Z5j N) true:=Ev.from 60 (fun N=>by kernel_rfl)
theorem doG_cases (op:Int) (a b:Z02):(∃ z:Int,(z.natAbs:Int) < TOP∧doG op a b=(intT z, -1))∨(∃ x,doG op a b=(fltT x, -1))∨doG op a b=(noT,1):=by
  unfold doG doW
  split
  · split
    · split
      · split
        · rename_i h; exact .inl ⟨_,h,rfl⟩
        · exact .inr (.inr rfl)
      · exact .inr (.inl ⟨_,rfl⟩)
    · exact .inr (.inr rfl)
  · exact .inr (.inr rfl)
theorem doG_small (op:Int) (a b:Z02):Small (doG op a b).1∧(doG op a b).1.fArgs=[]∧(doG op a b).1.fNum.fMag.length≤8∧Z02.mk (doG op a b).1.fKind (doG op a b).1.fN (doG op a b).1.fNum (doG op a b).1.fBits (doG op a b).1.fBytes []=(doG op a b).1:=by
  rcases doG_cases op a b with ⟨z,hz,e⟩ | ⟨x,e⟩ | e
  · rw [e]
    have hl:=Z7y z hz
    unfold intT
    split
    · exact ⟨Small.mk (by simp) (by show 0≤5000; omega) (by simp) (fun x h=>by cases h),rfl,Nat.zero_le _,rfl⟩
    · exact ⟨Small.mk (by show (numN z).fMag.length≤300; omega) (by show 0≤5000; omega) (by simp) (fun x h=>by cases h),rfl,hl,rfl⟩
  · rw [e]; exact ⟨Small.mk (by simp [fltT]) (by show 0≤5000; omega) (by simp [fltT]) (fun x h=>by cases h),rfl,Nat.zero_le _,rfl⟩
  · rw [e]; exact ⟨Small.mk (by simp [noT]) (by show 0≤5000; omega) (by simp [noT]) (fun x h=>by cases h),rfl,Nat.zero_le _,rfl⟩
theorem doG_same (op:Int) (a b:Z02):Ev (fun N=>beehivelaw0_SameTerm N (doG op a b).1 (doG op a b).1) true:=by
  obtain ⟨h1,h2,_,_⟩:=doG_small op a b
  exact Zh1 _ h1 (by rw [cnt_eq,h2]; show 1+cnts []≤100000; rw [cnts]; omega)
theorem overT_ev (t:Z02) (h:t.fNum.fMag.length≤100000):Ev (fun N=>beehivelaw0_OverTerm N t) ():=by
  refine Ev.step ?_ (fun N=>by rw [beehivelaw0_OverTerm])
  have hL:Ev (fun N=>beehivelaw0_OverTerm_L0 N t) ():=by
    refine Ev.step ?_ (fun N=>by rw [beehivelaw0_OverTerm_L0])
    exact Ev.neg (by decide) (Ev.now _)
  exact Ev.bind (overL_ev _ h) (Ev.bind hL (Ev.now _))
namespace Pure
theorem ArithTells (x0:Int) (x1:Z02) (x2:Z02) (w0:(InR .i64) x0) (w1:Z0m x1) (w2:Z0m x2):∃ N,Z5x N x0 x1 x2=some true:=by
  refine Ev.ex (f:=fun N=>Z5x N x0 x1 x2) ?_
  obtain ⟨g0,e0,k0⟩:=great_ev x1 w1 400 (by omega) (by omega)
  obtain ⟨g1,e1,k1⟩:=great_ev x2 w2 400 (by omega) (by omega)
  cases g0 with
  | true =>
    have hB:Ev (fun N=>Z1g N x0 x1 x2) (.inr true):=by
      refine Ev.step ?_ (fun N=>by rw [Z1g])
      exact Ev.bind e0 (Ev.pos rfl (Ev.bind awake6_ev (Ev.now _)))
    exact Ev.bind hB (Ev.now _)
  | false =>
    cases g1 with
    | true =>
      have hB:Ev (fun N=>Z1g N x0 x1 x2) (.inr true):=by
        refine Ev.step ?_ (fun N=>by rw [Z1g])
        exact Ev.bind e0 (Ev.neg Bool.false_ne_true (Ev.bind e1 (Ev.pos rfl (Ev.bind awake6_ev (Ev.now _)))))
      exact Ev.bind hB (Ev.now _)
    | false =>
      have hB:Ev (fun N=>Z1g N x0 x1 x2) (.inl ()):=by
        refine Ev.step ?_ (fun N=>by rw [Z1g])
        exact Ev.bind e0 (Ev.neg Bool.false_ne_true (Ev.bind e1 (Ev.neg Bool.false_ne_true (Ev.now _))))
      have s1:=(k0 rfl).1
      have s2:=(k1 rfl).1
      have hd:=doG_ev x0 s1 w1 s2 w2
      have hr:=rdo_ev x0 s1 w1 s2 w2
      obtain ⟨_,_,hl,hw⟩:=doG_small x0 x1 x2
      have hs:=doG_same x0 x1 x2
      generalize doG x0 x1 x2=v at hd hr hl hw hs
      refine Ev.bind hB (Ev.bind hd (Ev.bind hr ?_))
      simp only [hw]
      exact Ev.bind hs (Ev.pos rfl (Ev.bind (overT_ev _ (by omega)) (Ev.bind hd (Ev.pos trivial (by simp only [hw]; exact Ev.bind hs (Ev.pos rfl (Ev.bind awake6_ev (Ev.now _))))))))
end Pure
end Go.Proofs.Ytllcnlonkloabaa.Sh
