import Derived.Test.YtllcnlonkloabaaPureSortE
import Derived.Test.YtllcnlonkloabaaPureGreats
import Derived.Test.YtllcnlonkloabaaPureAwake5
set_option linter.unusedVariables false
set_option linter.unusedSimpArgs false
namespace Go.Proofs.Ytllcnlonkloabaa.Sh
open Go Lift Go.Proofs
theorem Zd9:∀ (ts l m:List Int) (i:Nat),l.drop i=ts→l.length=m.length→l.length≤100000→∃ b,Ev (fun N=>Z1h N l m i) b
  | [],l,m,i,hd,h,hl=>by
    have:=Z64 hd
    refine ⟨.inl (),Ev.step ?_ (fun N=>by rw [Z1h])⟩
    exact Ev.neg (by omega) (Ev.now _)
  | x::xs,l,m,i,hd,h,hl=>by
    have hlen:=Z5t hd
    obtain ⟨b,hb⟩:=Zd9 xs l m (i+1) (Z5c hd) h hl
    by_cases e:x ≠ m[i]'(by omega)
    · refine ⟨.inr (),Ev.step ?_ (fun N=>by rw [Z1h])⟩
      exact Ev.pos (by omega) (Ev.bindc (Zej hd) (Ev.bindc (idx_eq (by omega)) (Ev.pos e (Ev.now _))))
    · refine ⟨b,Ev.step ?_ (fun N=>by rw [Z1h,Z49 (by omega)])⟩
      exact Ev.pos (by omega) (Ev.bindc (Zej hd) (Ev.bindc (idx_eq (by omega)) (Ev.neg e hb)))
theorem sameNum_tot (a b:Z0a) (hl:a.fMag.length≤100000):∃ r,Ev (fun N=>Z5p N a b) r:=by
  by_cases h:a.fNeg=b.fNeg
  · by_cases e:((a.fMag.length:Nat):Int) ≠ ((b.fMag.length:Nat):Int)
    · exact ⟨false,Ev.pos h (Ev.bind (Ev.pos e (Ev.now _)) (Ev.now _))⟩
    · obtain ⟨r,hr⟩:=Zd9 a.fMag a.fMag b.fMag 0 rfl (by omega) hl
      cases r with
      | inl u=>exact ⟨true,Ev.pos h (Ev.bind (Ev.neg e (Ev.bind hr (Ev.now _))) (Ev.now _))⟩
      | inr u=>exact ⟨false,Ev.pos h (Ev.bind (Ev.neg e (Ev.bind hr (Ev.now _))) (Ev.now _))⟩
  · exact ⟨false,Ev.neg h (Ev.now _)⟩
mutual
theorem sameTerm_tot:∀ (t u:Z01),Small t→cnt t≤100000→∃ r,Ev (fun N=>beehivelaw0_SameTerm N t u) r
  | ⟨k,n,m,b,s,args⟩,u,hs,hc=>by
    have hm:m.fMag.length≤300:=hs.mag
    rw [cnt] at hc
    have hl:=Zc9 args
    suffices h:∃ r,Ev (fun N=>beehivelaw0_SameTerm_B0 N ⟨k,n,m,b,s,args⟩ u) r by
      obtain ⟨r,hr⟩:=h
      exact ⟨r,by refine Ev.step ?_ (fun N=>by rw [beehivelaw0_SameTerm]); exact Ev.bind hr (Ev.now _)⟩
    by_cases h1:k=u.fKind
    · by_cases h2:n=u.fN
      · obtain ⟨r3,e3⟩:=sameNum_tot m u.fNum (by omega)
        cases r3 with
        | false=>exact ⟨false,by refine Ev.step ?_ (fun N=>by rw [beehivelaw0_SameTerm_B0]); exact Ev.pos h1 (Ev.pos h2 (Ev.bind e3 (Ev.neg Bool.false_ne_true (Ev.now _))))⟩
        | true =>
          by_cases h4:b=u.fBits
          · by_cases h5:s=u.fBytes
            · have hS:∃ r,Ev (fun N=>beehivelaw0_SameTerms N args u.fArgs) r:=by
                by_cases e:((args.length:Nat):Int) ≠ ((u.fArgs.length:Nat):Int)
                · exact ⟨false,by refine Ev.step ?_ (fun N=>by rw [beehivelaw0_SameTerms]); exact Ev.pos e (Ev.now _)⟩
                · obtain ⟨r,hr⟩:=Zdv args hs.args (by omega) args u.fArgs 0 rfl (by omega) (by omega)
                  cases r with
                  | inl q=>exact ⟨true,by refine Ev.step ?_ (fun N=>by rw [beehivelaw0_SameTerms]); exact Ev.neg e (Ev.bind hr (Ev.now _))⟩
                  | inr q=>exact ⟨false,by refine Ev.step ?_ (fun N=>by rw [beehivelaw0_SameTerms]); exact Ev.neg e (Ev.bind hr (Ev.now _))⟩
              obtain ⟨r7,e7⟩:=hS
              exact ⟨r7,by refine Ev.step ?_ (fun N=>by rw [beehivelaw0_SameTerm_B0]); exact Ev.pos h1 (Ev.pos h2 (Ev.bind e3 (Ev.pos rfl (Ev.pos h4 (Ev.pos h5 (Ev.bind e7 (Ev.now _)))))))⟩
            · exact ⟨false,by refine Ev.step ?_ (fun N=>by rw [beehivelaw0_SameTerm_B0]); exact Ev.pos h1 (Ev.pos h2 (Ev.bind e3 (Ev.pos rfl (Ev.pos h4 (Ev.neg h5 (Ev.now _))))))⟩
          · exact ⟨false,by refine Ev.step ?_ (fun N=>by rw [beehivelaw0_SameTerm_B0]); exact Ev.pos h1 (Ev.pos h2 (Ev.bind e3 (Ev.pos rfl (Ev.neg h4 (Ev.now _)))))⟩
      · exact ⟨false,by refine Ev.step ?_ (fun N=>by rw [beehivelaw0_SameTerm_B0]); exact Ev.pos h1 (Ev.neg h2 (Ev.now _))⟩
    · exact ⟨false,by refine Ev.step ?_ (fun N=>by rw [beehivelaw0_SameTerm_B0]); exact Ev.neg h1 (Ev.now _)⟩
theorem Zdv:∀ (ts:List Z01),(∀ x ∈ ts,Small x)→cnts ts≤100000→∀ (l m:List Z01) (i:Nat),l.drop i=ts→l.length=m.length→l.length≤100000→∃ b,Ev (fun N=>beehivelaw0_SameTerms_L0 N l m i) b
  | [],hs,hc,l,m,i,hd,h,hl=>by
    have:=Z64 hd
    refine ⟨.inl (),Ev.step ?_ (fun N=>by rw [beehivelaw0_SameTerms_L0])⟩
    exact Ev.neg (by omega) (Ev.now _)
  | x::xs,hs,hc,l,m,i,hd,h,hl=>by
    have hlen:=Z5t hd
    rw [cnts] at hc
    obtain ⟨b,hb⟩:=Zdv xs (fun y hy=>hs y (by simp [hy])) (by omega) l m (i+1) (Z5c hd) h hl
    obtain ⟨r,hr⟩:=sameTerm_tot x (m[i]'(by omega)) (hs x (by simp)) (by omega)
    cases r with
    | false =>
      refine ⟨.inr (),Ev.step ?_ (fun N=>by rw [beehivelaw0_SameTerms_L0])⟩
      exact Ev.pos (by omega) (Ev.bindc (Zej hd) (Ev.bindc (idx_eq (by omega)) (Ev.bind hr (Ev.pos Bool.false_ne_true (Ev.now _)))))
    | true =>
      refine ⟨b,Ev.step ?_ (fun N=>by rw [beehivelaw0_SameTerms_L0,Z49 (by omega)])⟩
      exact Ev.pos (by omega) (Ev.bindc (Zej hd) (Ev.bindc (idx_eq (by omega)) (Ev.bind hr (Ev.neg (by simp) hb))))
end
theorem cnt_in:∀ {ts:List Z01} {x:Z01},x ∈ ts→cnt x≤cnts ts
  | y::ys,x,h=>by
    rw [cnts]
    rcases List.mem_cons.1 h with rfl | h
    · omega
    · have:=cnt_in h; omega
theorem cnts_perm {a b:List Z01} (h:a.Perm b):cnts a=cnts b:=by
  induction h with
  | nil=>rfl
  | cons x _ ih=>rw [cnts,cnts,ih]
  | swap x y l=>rw [cnts,cnts,cnts,cnts]; omega
  | trans _ _ h1 h2=>exact h1.trans h2
theorem count_loop (f:Z01→Z01→Bool) (p0 r:List Z01) (i:Nat) (v:Z01) (hi:r[i]? = some v) (hl:p0.length=r.length) (hm:r.length≤10000) (hf:∀ x,x ∈ r∨x ∈ p0→Ev (fun N=>beehivelaw0_SameTerm N x v) (f x v)) :
    ∀ (A B : List Z01) (k : Nat) (z : Int), r.drop k = A → p0.drop k = B → -20000 ≤ z - A.length → z + A.length ≤ 20000 →
      Ev (fun N=>Z1n N p0 r (i:Int) z (k:Int)) (z+((A.countP (f · v):Nat):Int) - ((B.countP (f · v):Nat):Int))
  | [],B,k,z,hA,hB,z1,z2=>by
    have h1:=Z64 hA
    have:B=[]:=by rw [← hB]; exact List.drop_eq_nil_of_le (by omega)
    subst this
    refine Ev.step ?_ (fun N=>by rw [Z1n])
    refine Ev.neg (by omega) ?_
    have e:z+((([]:List Z01).countP (f · v):Nat):Int) - ((([]:List Z01).countP (f · v):Nat):Int)=z:=by simp
    rw [e]
    exact Ev.now _
  | x::A,[],k,z,hA,hB,z1,z2=>by
    have h1:=Z5t hA
    have h2:=Z64 hB
    omega
  | x::A,y::B,k,z,hA,hB,z1,z2=>by
    have h1:=Z5t hA
    have h2:=Z5t hB
    simp only [List.length_cons] at z1 z2
    have hx:x ∈ r:=List.mem_of_mem_drop (i:=k) (by rw [hA]; simp)
    have hy:y ∈ p0:=List.mem_of_mem_drop (i:=k) (by rw [hB]; simp)
    have ex:=hf x (.inl hx)
    have ey:=hf y (.inr hy)
    have iv:idx r (i:Int)=some v:=by
      obtain ⟨hlt,he⟩:=List.getElem?_eq_some_iff.1 hi
      rw [idx_eq hlt,he]
    have ih:=fun z'=>count_loop f p0 r i v hi hl hm hf A B (k+1) z' (Z5c hA) (Z5c hB)
    have w1:IntKind.wrap .i64 (z+(1:Int))=z+1:=Zf2 _ (by omega) (by omega)
    have w2:IntKind.wrap .i64 ((z+1) - (1:Int))=z:=by rw [Zf2 _ (by omega) (by omega)]; omega
    have w3:IntKind.wrap .i64 (z - (1:Int))=z - 1:=Zf2 _ (by omega) (by omega)
    have w4:IntKind.wrap .i64 ((k:Int)+(1:Int))=((k+1:Nat):Int):=Z49 (by omega)
    refine Ev.step ?_ (fun N=>by rw [Z1n,w1,w2,w3,w4])
    rw [List.countP_cons,List.countP_cons]
    refine Ev.pos (by omega) (Ev.bindc (Zej hA) (Ev.bindc iv (Ev.bind ex ?_)))
    cases hfx:f x v with
    | true =>
      refine Ev.pos rfl (Ev.bindc (Zej hB) (Ev.bindc iv (Ev.bind ey ?_)))
      cases hfy:f y v with
      | true =>
        refine Ev.pos rfl ((ih z (by omega) (by omega)).eq ?_)
        simp; omega
      | false =>
        refine Ev.neg Bool.false_ne_true ((ih (z+1) (by omega) (by omega)).eq ?_)
        simp; omega
    | false =>
      refine Ev.neg Bool.false_ne_true (Ev.bindc (Zej hB) (Ev.bindc iv (Ev.bind ey ?_)))
      cases hfy:f y v with
      | true =>
        refine Ev.pos rfl ((ih (z - 1) (by omega) (by omega)).eq ?_)
        simp; omega
      | false =>
        refine Ev.neg Bool.false_ne_true ((ih z (by omega) (by omega)).eq ?_)
        simp
theorem each_loop (p0 r:List Z01) (hF:AllF p0) (hr:Sorts r p0) (hm:r.length≤10000) (hc:cnts p0≤50000):∀ (A:List Z01) (i:Nat),r.drop i=A→Ev (fun N=>Z2c N p0 r (i:Int)) (.inl ())
  | [],i,hA=>by
    have h1:=Z64 hA
    refine Ev.step ?_ (fun N=>by rw [Z2c])
    exact Ev.neg (by omega) (Ev.now _)
  | v::A,i,hA=>by
    have h1:=Z5t hA
    have ih:=each_loop p0 r hF hr hm hc A (i+1) (Z5c hA)
    have hFr:AllF r:=hF.perm hr.perm
    have hv:r[i]? = some v:=by
      have:=congrArg (fun z=>z[0]?) hA
      simpa using this
    have tot:∀ x,x ∈ r∨x ∈ p0→∃ b,Ev (fun N=>beehivelaw0_SameTerm N x v) b:=fun x hx=>by
      have hx':x ∈ p0:=by
        rcases hx with h | h
        · exact hr.perm.mem_iff.1 h
        · exact h
      have:=cnt_in hx'
      exact sameTerm_tot x v (hF x hx').s (by omega)
    have hf:∃ f:Z01→Z01→Bool, ∀ x,x ∈ r∨x ∈ p0→Ev (fun N=>beehivelaw0_SameTerm N x v) (f x v):=by
      refine ⟨fun x _=>@dite Bool (x ∈ r∨x ∈ p0) (Classical.propDecidable _) (fun h=>Classical.choose (tot x h)) (fun _=>false),fun x hx=>?_⟩
      have:=Classical.choose_spec (tot x hx)
      simp only [dif_pos hx]
      exact this
    obtain ⟨f,hf⟩:=hf
    have hcount:=count_loop f p0 r i v hv hr.perm.length_eq.symm hm hf r p0 0 0 rfl rfl (by omega) (by omega)
    have e0:(0:Int)+((r.countP (f · v):Nat):Int) - ((p0.countP (f · v):Nat):Int)=0:=by rw [hr.perm.countP_eq]; omega
    rw [e0] at hcount
    have w4:IntKind.wrap .i64 ((i:Int)+(1:Int))=((i+1:Nat):Int):=Z49 (by omega)
    refine Ev.step ?_ (fun N=>by rw [Z2c,w4])
    refine Ev.pos (by omega) (Ev.bind hcount (Ev.neg (by simp) ?_))
    cases i with
    | zero=>exact Ev.neg (by simp) ih
    | succ j =>
      have hw:IntKind.wrap .i64 (((j+1:Nat):Int) - (1:Int))=(j:Int):=wpred (by omega)
      rw [hw]
      obtain ⟨hlt,he⟩:=List.getElem?_eq_some_iff.1 hv
      have hle:leT (r[j]'(by omega)) v:=by
        have:=List.pairwise_iff_getElem.1 hr.srt j (j+1) (by omega) hlt (by omega)
        rwa [he] at this
      have hu:Fine (r[j]'(by omega)):=hFr _ (List.getElem_mem _)
      have hvF:Fine v:=hFr v (List.mem_of_getElem? hv)
      refine Ev.pos (by omega) (Ev.bindc (idx_eq (show j < r.length by omega)) (Ev.bindc (by rw [idx_eq hlt,he]) (Ev.bind (ocmp_ev hu hvF) (Ev.neg ?_ ih))))
      unfold leT at hle
      omega
theorem mays_loop (p0:List Z01) (hs:∀ x ∈ p0,Small x) (hw:∀ x ∈ p0,Z1l x) (hl:p0.length≤100000):∀ (A:List Z01) (i:Nat),p0.drop i=A→(A.all mayT=true→Ev (fun N=>Z1o N p0 (i:Int)) (.inl ()))∧(A.all mayT=false→Ev (fun N=>Z1o N p0 (i:Int)) (.inr true))
  | [],i,hA=>by
    have h1:=Z64 hA
    refine ⟨fun _=>?_,fun h=>(by simp at h)⟩
    refine Ev.step ?_ (fun N=>by rw [Z1o])
    exact Ev.neg (by omega) (Ev.now _)
  | x::A,i,hA=>by
    have h1:=Z5t hA
    have hx:x ∈ p0:=List.mem_of_mem_drop (i:=i) (by rw [hA]; simp)
    have ih:=mays_loop p0 hs hw hl A (i+1) (Z5c hA)
    have hm:=mayT_ev x (hs x hx) (hw x hx)
    have w4:IntKind.wrap .i64 ((i:Int)+(1:Int))=((i+1:Nat):Int):=Z49 (by omega)
    rw [List.all_cons]
    cases hmx:mayT x with
    | true =>
      rw [hmx] at hm
      rw [Bool.true_and]
      refine ⟨fun h=>?_,fun h=>?_⟩
      · refine Ev.step ?_ (fun N=>by rw [Z1o,w4])
        exact Ev.pos (by omega) (Ev.bindc (Zej hA) (Ev.bind hm (Ev.neg (by simp) (ih.1 h))))
      · refine Ev.step ?_ (fun N=>by rw [Z1o,w4])
        exact Ev.pos (by omega) (Ev.bindc (Zej hA) (Ev.bind hm (Ev.neg (by simp) (ih.2 h))))
    | false =>
      rw [hmx] at hm
      rw [Bool.false_and]
      refine ⟨fun h=>(by cases h),fun _=>?_⟩
      have hall:p0.all mayT=false:=by
        cases ha:p0.all mayT with
        | false=>rfl
        | true=>rw [List.all_eq_true.1 ha x hx] at hmx; cases hmx
      have hn:=sort_none p0 hs hw hl hall
      refine Ev.step ?_ (fun N=>by rw [Z1o,w4])
      exact Ev.pos (by omega) (Ev.bindc (Zej hA) (Ev.bind hm (Ev.pos Bool.false_ne_true (Ev.bind hn (Ev.pos rfl (Ev.bind awake5_ev (Ev.now _)))))))
namespace Pure
theorem OrderSorts (x0:(List Z01)) (w0:(ListR Z1l) x0):∃ N,Z5r N x0=some true:=by
  refine Ev.ex (f:=fun N=>Z5r N x0) ?_
  obtain ⟨b,hb,hf⟩:=greats_ev x0 w0 300 (by omega) (by omega)
  cases b with
  | true=>exact Ev.bind hb (Ev.pos rfl (Ev.bind awake5_ev (Ev.now _)))
  | false =>
    obtain ⟨hs,hc⟩:=hf rfl
    have hl:=Zc9 x0
    refine Ev.bind hb (Ev.neg (by simp) ?_)
    obtain ⟨m1,m2⟩:=mays_loop x0 hs w0.all (by omega) x0 0 rfl
    cases hall:x0.all mayT with
    | false=>exact Ev.bind (m2 hall) (Ev.now _)
    | true =>
      refine Ev.bind (m1 hall) ?_
      have hF:AllF x0:=fun x hx=>⟨hs x hx,w0.all x hx,List.all_eq_true.1 hall x hx⟩
      obtain ⟨r,e,hr⟩:=sort_ev x0 hF (by omega)
      have hlr:=hr.perm.length_eq
      have hFr:AllF r:=hF.perm hr.perm
      have hcr:=cnts_perm hr.perm
      obtain ⟨r',e',hr'⟩:=sort_ev r hFr (by omega)
      rw [hr'.stay hr.srt] at e'
      have hsame:Ev (fun N=>beehivelaw0_SameTerms N r r) true:=by
        have h:=Zal r (fun x hx=>(hFr x hx).s) (by omega) r 0 rfl (by omega)
        refine Ev.step ?_ (fun N=>by rw [beehivelaw0_SameTerms])
        exact Ev.neg (by simp) (Ev.bind h (Ev.now _))
      exact Ev.bind e (Ev.neg (by omega) (Ev.bind (each_loop x0 r hF hr (by omega) (by omega) r 0 rfl) (Ev.bind e' (Ev.bind hsame (Ev.pos rfl (Ev.bind awake5_ev (Ev.now _)))))))
end Pure
end Go.Proofs.Ytllcnlonkloabaa.Sh
