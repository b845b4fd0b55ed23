import Derived.Test.YtllcnlonkloabaaPureTellsC
import Derived.Test.YtllcnlonkloabaaPureGreats
import Derived.Test.YtllcnlonkloabaaPureGreat
import Derived.Test.YtllcnlonkloabaaPureAwake5
set_option linter.unusedVariables false
set_option linter.unusedSimpArgs false
namespace Go.Proofs.Ytllcnlonkloabaa.Sh
open Go Lift Go.Proofs
open Go.IntKind (wrap)
theorem rCmp_fine {a b:Z00} (ha:Fine a) (hb:Fine b):Ev (fun N=>Z67 N a b) (cmpT a b):=by
 have h1:=Zfx a ha.s ha.w
 have h2:=Zfx b hb.s hb.w
 rw [ha.m] at h1
 rw [hb.m] at h2
 exact Ev.bind h1 (Ev.neg (by simp) (Ev.bind h2 (Ev.neg (by simp) (Ev.bind (rcompare_ev a ha b hb) (Ev.now _)))))
theorem rless_ev {a b:Z00} (ha:Fine a) (hb:Fine b):Ev (fun N=>Z5e N a b) (decide (cmpT a b < 0)):=Ev.bind (rCmp_fine ha hb) (Ev.now _)
theorem both_cmp {a b:Z00} (sa:Small a) (wa:Z0l a) (sb:Small b) (wb:Z0l b):∃ c,Ev (fun N=>Z8h N a b) c∧Ev (fun N=>Z67 N a b) c:=by
 have h1:=Zhn a sa wa
 have h2:=Zhn b sb wb
 have r1:=Zfx a sa wa
 have r2:=Zfx b sb wb
 cases ha:mayT a with
 |false =>
  rw [ha] at h1 r1
  exact ⟨0,Ev.bind h1 (Ev.pos (by simp) (Ev.now _)),Ev.bind r1 (Ev.pos (by simp) (Ev.now _))⟩
 |true =>
  cases hb:mayT b with
  |false =>
   rw [ha] at h1 r1
   rw [hb] at h2 r2
   exact ⟨0,Ev.bind h1 (Ev.neg (by simp) (Ev.bind h2 (Ev.pos (by simp) (Ev.now _)))),Ev.bind r1 (Ev.neg (by simp) (Ev.bind r2 (Ev.pos (by simp) (Ev.now _))))⟩
  |true=>exact ⟨cmpT a b,ocmp_ev ⟨sa,wa,ha⟩ ⟨sb,wb,hb⟩,rCmp_fine ⟨sa,wa,ha⟩ ⟨sb,wb,hb⟩⟩
theorem rins_loop (p0:List Z00) (i:Nat) (x:Z00) (hi:idx p0 (i:Int)=some x) (hx:Fine x):∀ (k:Nat) (S B:List Z00),S.length=k→AllF S→S.length+B.length≤100000 →
  ∃ j,j≤k∧Ev (fun N=>Z2q N p0 (S++B) (i:Int) (k:Int)) (j:Int)∧insR x S=S.take j++[x]++S.drop j
 |0,S,B,hk,hF,hl=>by
  have:=xy hk
  subst this
  refine ⟨0,xw _,Ev.step ?_ (fun N=>by rw [Z2q]),rfl⟩
  exact Ev.neg (by omega) (Ev.now _)
 |k+1,S,B,hk,hF,hl=>by
  obtain ⟨S',y,rfl,hk'⟩:=snoc_of hk
  have hw:wrap .i64 (((k+1:Nat):Int) - (1:Int))=(k:Int):=by rw [Zk1 _ (by omega) (by omega)]; omega
  have iy:idx (S'++[y]++B) (k:Int)=some y:=by
   rw [idx_eq (by simp; omega)]
   subst hk'
   simp
  have hlt:=rless_ev hx (hF y (by simp))
  by_cases h:cmpT x y < 0
  ·rw [decide_eq_true h] at hlt
   obtain ⟨j,h1,h2,h3⟩:=rins_loop p0 i x hi hx k S' (y::B) hk' (hF.left) (by simp at hl ⊢; omega)
   refine ⟨j,by omega,Ev.step ?_ (fun N=>by rw [Z2q,hw]), ?_⟩
   ·refine Ev.pos (by omega) (Ev.bindc hi (Ev.bindc iy (Ev.bind hlt (Ev.pos rfl ?_))))
    rw [show S'++[y]++B=S'++(y::B) by simp]
    exact h2
   ·rw [Zdf,if_pos h,h3,List.take_append_of_le_length (by omega),List.drop_append_of_le_length (by omega)]
    simp
  ·rw [decide_eq_false h] at hlt
   refine ⟨k+1,xw _,Ev.step ?_ (fun N=>by rw [Z2q,hw]), ?_⟩
   ·exact Ev.pos (by omega) (Ev.bindc hi (Ev.bindc iy (Ev.bind hlt (Ev.neg (by simp) (Ev.now _)))))
   ·rw [Zdf,if_neg h,uy (by omega),jw (by omega),xm]
theorem rsort_loop (p0:List Z00) (hs:∀ x ∈ p0,Small x) (hw:∀ x ∈ p0,Z0l x) (hl:p0.length≤50000):∀ (R S:List Z00) (i:Nat),p0.drop i=R→AllF S→S.length≤i →
  Ev (fun N=>Z32 N p0 S (i:Int)) (if R.all mayT=true then .inl (isort S R) else .inr ())
 |[],S,i,hd,hF,hi=>by
  have:=Z6l hd
  refine Ev.step ?_ (fun N=>by rw [Z32])
  exact Ev.neg (by omega) (Ev.now _)
 |x::R,S,i,hd,hF,hi=>by
  have hlen:=Z5o hd
  have hx:x ∈ p0:=List.mem_of_mem_drop (i:=i) (by rw [hd]; simp)
  have hm:=Zfx x (hs x hx) (hw x hx)
  refine Ev.step ?_ (fun N=>by rw [Z32,Z3a (by omega)])
  refine Ev.pos (by omega) (Ev.bindc (Zjg hd) (Ev.bind hm ?_))
  rw [zm]
  cases hmx:mayT x with
  |false =>
   rw [qm,if_neg (by simp)]
   exact Ev.pos (by simp) (Ev.now _)
  |true =>
   rw [vg]
   have fx:Fine x:=⟨hs x hx,hw x hx,hmx⟩
   obtain ⟨j,h1,h2,h3⟩:=rins_loop p0 i x (Zjg hd) fx S.length S [] rfl hF (by simp; omega)
   rw [xm] at h2
   have hp:=Zf9 x _ S rfl
   have hF':AllF (insR x S):=(hF.app (fun y hy=>by rw [List.mem_singleton.1 hy]; exact fx)).perm hp
   have ih:=rsort_loop p0 hs hw hl R (insR x S) (i+1) (Z50 hd) hF' (by rw [hp.length_eq]; simp; omega)
   have tl:(S.take j).length≤S.length:=by rw [qy]; omega
   have dl:(S.drop j).length≤S.length:=by rw [List.length_drop]; omega
   refine Ev.neg (by simp) (Ev.bind h2 (Ev.bindc (cut_front h1) (Ev.bindc (cut_back h1) (Ev.bindc (app0_eq (by rw [lim_eq]; omega)) (Ev.bindc (app_eq (by rw [lim_eq]; simp; omega)) (Ev.bindc (app_eq (by rw [lim_eq]; simp; omega)) ?_))))))
   rw [← h3]
   exact ih
theorem rsort_ev (l:List Z00) (hs:∀ x ∈ l,Small x) (hw:∀ x ∈ l,Z0l x) (hl:l.length≤50000):Ev (fun N=>Z4f N l) (if l.all mayT=true then isort [] l else []):=by
 refine Ev.bind (rsort_loop l hs hw hl l [] 0 rfl (fun x hx=>by cases hx) (by simp)) ?_
 by_cases h:l.all mayT=true
 ·rw [if_pos h,if_pos h]; exact Ev.now _
 ·rw [if_neg h,if_neg h]; exact Ev.now _
theorem both_sort (l:List Z00) (hs:∀ x ∈ l,Small x) (hw:∀ x ∈ l,Z0l x) (hc:cnts l≤50000):∃ r,Ev (fun N=>Z86 N l) r∧Ev (fun N=>Z4f N l) r∧(∀ x ∈ r,Small x)∧cnts r≤50000:=by
 have hl:=Zdl l
 have hr:=rsort_ev l hs hw (by omega)
 cases h:l.all mayT with
 |false =>
  rw [h,if_neg (by simp)] at hr
  exact ⟨[],sort_none l hs hw (by omega) h,hr,(fun x hx=>nomatch hx),by rw [cnts]; omega⟩
 |true =>
  rw [h,if_pos rfl] at hr
  have hF:AllF l:=fun x hx=>⟨hs x hx,hw x hx,List.all_eq_true.1 h x hx⟩
  obtain ⟨r,e,hS⟩:=sort_ev l hF hc
  have hI:=Zho l [] (fun x hx=>by cases hx) hF List.Pairwise.nil
  rw [uo] at hI
  have hFr:=hF.perm hS.perm
  have e2:=srt_one_way hFr (hS.perm.trans hI.perm.symm) hS.srt hI.srt
  rw [← e2] at hr
  refine ⟨r,e,hr,fun x hx=>(hFr x hx).s, ?_⟩
  rw [cnts_perm hS.perm]
  exact hc
namespace Pure
theorem OrderTells (x0:Z00) (x1:Z00) (x2:(List Z00)) (w0:Z0l x0) (w1:Z0l x1) (w2:(ListR Z0l) x2):∃ N,Z3s N x0 x1 x2=some true:=by
 refine Ev.ex (f:=fun N=>Z3s N x0 x1 x2) ?_
 obtain ⟨g0,e0,k0⟩:=great_ev x0 w0 400 (by omega) (by omega)
 obtain ⟨g1,e1,k1⟩:=great_ev x1 w1 400 (by omega) (by omega)
 obtain ⟨g2,e2,k2⟩:=greats_ev x2 w2 400 (by omega) (by omega)
 have out:Ev (fun N=>Z1h N x0 x1 x2) (.inr true)→Ev (fun N=>Z3s N x0 x1 x2) true:=fun h=>Ev.bind h (Ev.now _)
 cases g0 with
 |true =>
  refine out (Ev.step ?_ (fun N=>by rw [Z1h]))
  exact Ev.bind e0 (Ev.pos rfl (Ev.bind Zi5 (Ev.now _)))
 |false =>
 cases g1 with
 |true =>
  refine out (Ev.step ?_ (fun N=>by rw [Z1h]))
  exact Ev.bind e0 (Ev.neg (by simp) (Ev.bind e1 (Ev.pos rfl (Ev.bind Zi5 (Ev.now _)))))
 |false =>
 cases g2 with
 |true =>
  refine out (Ev.step ?_ (fun N=>by rw [Z1h]))
  exact Ev.bind e0 (Ev.neg (by simp) (Ev.bind e1 (Ev.neg (by simp) (Ev.bind e2 (Ev.pos rfl (Ev.bind Zi5 (Ev.now _)))))))
 |false =>
  have hb0:Ev (fun N=>Z1h N x0 x1 x2) (.inl ()):=by
   refine Ev.step ?_ (fun N=>by rw [Z1h])
   exact Ev.bind e0 (Ev.neg (by simp) (Ev.bind e1 (Ev.neg (by simp) (Ev.bind e2 (Ev.neg (by simp) (Ev.now _))))))
  obtain ⟨hs,hc⟩:=k2 rfl
  obtain ⟨r,er,rr,hrs,hrc⟩:=both_sort x2 hs w2.all (by omega)
  have hrl:=Zdl r
  obtain ⟨c,ec,rc⟩:=both_cmp (k0 rfl).1 w0 (k1 rfl).1 w1
  have hsame:Ev (fun N=>beehivelaw0_SameTerms N r r) true:=by
   have h:=Zcz r hrs (by omega) r 0 rfl (by omega)
   refine Ev.step ?_ (fun N=>by rw [beehivelaw0_SameTerms])
   exact Ev.neg (by simp) (Ev.bind h (Ev.now _))
  have el:Ev (fun N=>Zbl N x0 x1) (decide (c < 0)):=Ev.bind ec (Ev.now _)
  have rl:Ev (fun N=>Z5e N x0 x1) (decide (c < 0)):=Ev.bind rc (Ev.now _)
  have hb1:Ev (fun N=>Z2x N x0 x1 x2 r) true:=by
   refine Ev.step ?_ (fun N=>by rw [Z2x])
   exact Ev.bind ec (Ev.bind rc (Ev.pos rfl (Ev.bind el (Ev.bind rl (Ev.pos rfl (Ev.bind rr (Ev.bind hsame (Ev.now _))))))))
  have hfit:r.length≤1000000000000∧fitsTs r=true:=⟨by omega,(Zex r).2 fun x hx=>fits_small x (hrs x hx) (by have:=cnt_mem hx; omega)⟩
  exact Ev.bind hb0 (Ev.bind er (Ev.bind hb1 (Ev.pos hfit (Ev.pos rfl (Ev.bind rr (Ev.bind hsame (Ev.pos rfl (Ev.bind Zi5 (Ev.now _)))))))))
end Pure
end Go.Proofs.Ytllcnlonkloabaa.Sh
