import Derived.Test.YtllcnlonkloabaaPureFine
import Derived.Test.YtllcnlonkloabaaPureArD
import Derived.Test.YtllcnlonkloabaaPureRealA
import Derived.Test.YtllcnlonkloabaaPureOfB
import Derived.Test.YtllcnlonkloabaaPureSame
import Derived.Test.YtllcnlonkloabaaPureNumTerm
import Derived.Test.YtllcnlonkloabaaPureRefNumR
import Derived.Test.YtllcnlonkloabaaPureRefOfB
set_option linter.unusedVariables false
set_option linter.unusedSimpArgs false
namespace Go.Proofs.Ytllcnlonkloabaa.Sh
open Go Lift Go.Proofs
def noT:Z02:=⟨0,0,⟨false,[]⟩,0,ByteArray.mk #[],[]⟩
def fltT (b:Int):Z02:=⟨3,0,⟨false,[]⟩,b,ByteArray.mk #[],[]⟩
def intT (x:Int):Z02:=if -1152921504606846976≤x∧x≤1152921504606846975 then ⟨1,x,⟨false,[]⟩,0,ByteArray.mk #[],[]⟩ else ⟨2,0,numN x,0,ByteArray.mk #[],[]⟩
theorem lim_num' (n:Int):lim32 (numN n).fMag:=fun x hx=>Z8k n x hx
theorem val2_val':∀ {l:List Int},l.length≤2→val2 l=val l
  | [],_=>rfl
  | [a],_=>by rw [val2,val,val]; omega
  | [a,b],_=>by rw [val2,val,val,val]; omega
  | a::b::c::l,h=>by simp at h
theorem smallN_num {x:Int} (hx:(x.natAbs:Int) < TOP):smallN (numN x)=if -1152921504606846976≤x∧x≤1152921504606846975 then (x,true) else (0,false):=by
  have hm:mayN (numN x)=true:=Ev.det (nmay_ev (numN x)) (may_ev x hx)
  have hl:=Zgr (x.natAbs:Int) 2 (by omega)
  rw [Int.toNat_natCast] at hl
  have hl:(numN x).fMag.length≤2 ↔ (x.natAbs:Int) < 4294967296 ^ 2:=hl
  rw [show (4294967296:Int) ^ 2=18446744073709551616 by decide] at hl
  unfold smallN
  by_cases c:(numN x).fMag.length≤2
  · rw [if_pos ⟨hm,c⟩,val2_val' c,Zbf]
    have hn:(numN x).fNeg=decide (x < 0):=rfl
    by_cases s:x < 0
    · rw [if_pos (by rw [hn]; exact decide_eq_true s)]
      by_cases d:-1152921504606846976≤x
      · rw [if_pos (by omega),if_pos (by omega),show -((x.natAbs:Nat):Int)=x by omega]
      · rw [if_neg (by omega),if_neg (by omega)]
    · rw [if_neg (by rw [hn]; simpa using s)]
      by_cases d:x≤1152921504606846975
      · rw [if_pos (by omega),if_pos (by omega),show ((x.natAbs:Nat):Int)=x by omega]
      · rw [if_neg (by omega),if_neg (by omega)]
  · rw [if_neg (fun h=>c h.2),if_neg (fun h=>c (hl.2 (by omega)))]
theorem ofNum_ev {x:Int} (hx:(x.natAbs:Int) < TOP):Ev (fun N=>Z89 N (numN x)) (intT x,true):=by
  refine Ev.bind (may_ev x hx) (Ev.neg (by simp) ?_)
  have hs:=small_ev (numN x) (lim_num' x)
  rw [smallN_num hx] at hs
  unfold intT
  by_cases c:-1152921504606846976≤x∧x≤1152921504606846975
  · rw [if_pos c] at hs ⊢
    exact Ev.bind hs (Ev.pos rfl (Ev.now _))
  · rw [if_neg c] at hs ⊢
    have hl:=Z7y x hx
    exact Ev.bind hs (Ev.neg (by simp) (Ev.bind (Zdl _ (by rw [lim_eq]; omega)) (Ev.now _)))
theorem wrap_int (z:Int):Z02.mk (intT z).fKind (intT z).fN (intT z).fNum (intT z).fBits (intT z).fBytes []=intT z:=by unfold intT; split <;> rfl
theorem now_int (z:Int):Ev (fun _=>some (some (Z02.mk (intT z).fKind (intT z).fN (intT z).fNum (intT z).fBits (intT z).fBytes []))) (some (intT z)):=by rw [wrap_int]; exact Ev.now _
theorem now_int2 (z e:Int):Ev (fun _=>some (Z02.mk (intT z).fKind (intT z).fN (intT z).fNum (intT z).fBits (intT z).fBytes [],e)) (intT z,e):=by rw [wrap_int]; exact Ev.now _
def isN (k:Int):Bool:=decide (k=1∨k=2∨k=3)
def wdOf (x:Int):Int:=((wd (decide (x < 0)) (Zif x.natAbs 0):Nat):Int)
def bitsT (t:Z02):Int:=if t.fKind=3 then t.fBits else wdOf (numV t)
def opF (op x y:Int):Int:=opW (if op=5 then fadd x.toNat y.toNat else if op=6 then fsub x.toNat y.toNat else if op=7 then fmul x.toNat y.toNat else fdiv x.toNat y.toNat)
def opZ (op x y:Int):Int:=if op=5 then x+y else if op=6 then x - y else x * y
def doW (op:Int) (a b:Z02):Z02 × Int :=
  if isN a.fKind=true∧isN b.fKind=true∧5≤op∧op≤8 then
    if a.fKind ≠ 3∧b.fKind ≠ 3∧op ≠ 8 then (if ((opZ op (numV a) (numV b)).natAbs:Int) < TOP then (intT (opZ op (numV a) (numV b)), -1) else (noT,1))
    else (fltT (opF op (bitsT a) (bitsT b)), -1)
  else (noT,1)
theorem number_ev {t:Z02} (h:Fine t):Ev (fun N=>Z9m N t) (isN t.fKind):=by
  have hm:=mayT_ev t h.s h.w
  rw [h.m] at hm
  refine Ev.bind hm (Ev.pos rfl ?_)
  unfold isN
  by_cases h1:t.fKind=1
  · rw [decide_eq_true (.inl h1)]; exact Ev.pos h1 (Ev.now _)
  · by_cases h2:t.fKind=2
    · rw [decide_eq_true (.inr (.inl h2))]; exact Ev.neg h1 (Ev.pos h2 (Ev.now _))
    · have:decide (t.fKind=1∨t.fKind=2∨t.fKind=3)=(t.fKind == 3):=by by_cases h3:t.fKind=3 <;> simp [h1,h2,h3]
      rw [this]
      exact Ev.neg h1 (Ev.neg h2 (Ev.now _))
theorem fail_t:Ev (fun N=>Z5m N true) (some ()):=Ev.neg (by simp) (Ev.now _)
theorem fail_f:Ev (fun N=>Z5m N false) none:=Ev.pos (by simp) (Ev.now _)
theorem abits_ev {t:Z02} (h:Fine t) (hk:isN t.fKind=true):Ev (fun N=>Z6x N t) (bitsT t):=by
  have hk:=of_decide_eq_true hk
  unfold bitsT
  by_cases h3:t.fKind=3
  · rw [if_pos h3]
    exact Ev.bind (Zcc h h3) (Ev.neg (by simp) (Ev.now _))
  · rw [if_neg h3]
    exact Ev.bind (Zdg h (by omega)) (Ev.pos rfl (Ev.bind (rOf_ev _ (h.numV_top (by omega))) (Ev.now _)))
theorem floats_ev (op x y:Int):Ev (fun N=>Z7o N op x y) (fltT (opF op x y)):=by
  unfold opF
  by_cases h5:op=5
  · rw [if_pos h5]; exact Ev.pos h5 (Ev.bind (add_ev' x y) (Ev.now _))
  · rw [if_neg h5]
    by_cases h6:op=6
    · rw [if_pos h6]; exact Ev.neg h5 (Ev.pos h6 (Ev.bind (sub_ev' x y) (Ev.now _)))
    · rw [if_neg h6]
      by_cases h7:op=7
      · rw [if_pos h7]; exact Ev.neg h5 (Ev.neg h6 (Ev.pos h7 (Ev.bind (mul_ev' x y) (Ev.now _))))
      · rw [if_neg h7]; exact Ev.neg h5 (Ev.neg h6 (Ev.neg h7 (Ev.bind (div_ev' x y) (Ev.now _))))
theorem whole_res {f:Nat→Option (Z06 × Bool)} {z:Int} (h:Ev f (res z)):Ev (fun N=>(f N).bind fun r2=>(Z5m N r2.2).bind fun r3=>(match r3 with | .none=>some (.none:Option Z02) | .some q4=>(Z89 N r2.1).bind fun r5=>some (.some (Z02.mk r5.1.fKind r5.1.fN r5.1.fNum r5.1.fBits r5.1.fBytes [])))) (if (z.natAbs:Int) < TOP then some (intT z) else none):=by
  refine Ev.bind h ?_
  unfold res
  by_cases c:(z.natAbs:Int) < TOP
  · rw [if_pos c,if_pos c]
    exact Ev.bind fail_t (Ev.bind (ofNum_ev c) (now_int _))
  · rw [if_neg c,if_neg c]
    exact Ev.bind fail_f (Ev.now _)
theorem awhole_ev {op x y:Int} (h0:5≤op) (h1:op≤7) (hx:(x.natAbs:Int) < TOP) (hy:(y.natAbs:Int) < TOP):Ev (fun N=>Zdx N op (numN x) (numN y)) (if ((opZ op x y).natAbs:Int) < TOP then some (intT (opZ op x y)) else none):=by
  unfold opZ
  by_cases h5:op=5
  · rw [if_pos h5]; exact Ev.pos h5 (whole_res (nadd_ev x y hx hy))
  · rw [if_neg h5]
    by_cases h6:op=6
    · rw [if_pos h6]; exact Ev.neg h5 (Ev.pos h6 (whole_res (nsub_ev x y hx hy)))
    · rw [if_neg h6]; exact Ev.neg h5 (Ev.neg h6 (Ev.pos (by omega) (whole_res (nmul_ev x y hx hy))))
def reckonW (op:Int) (a b:Z02):Option Z02 :=
  if isN a.fKind=true∧isN b.fKind=true∧5≤op∧op≤8 then
    if a.fKind ≠ 3∧b.fKind ≠ 3∧op ≠ 8 then (if ((opZ op (numV a) (numV b)).natAbs:Int) < TOP then some (intT (opZ op (numV a) (numV b))) else none)
    else some (fltT (opF op (bitsT a) (bitsT b)))
  else none
theorem reckonB_ev (op:Int) {a b:Z02} (ha:Fine a) (hb:Fine b):Ev (fun N=>Z5r N op a b) (if isN a.fKind=true∧isN b.fKind=true∧5≤op∧op≤8 then .inr () else .inl ()):=by
  refine Ev.step ?_ (fun N=>by rw [Z5r])
  have hA:=number_ev ha
  have hB:=number_ev hb
  by_cases c1:isN a.fKind=true
  · rw [c1] at hA
    refine Ev.bind hA (Ev.pos rfl ?_)
    by_cases c2:isN b.fKind=true
    · rw [c2] at hB
      refine Ev.bind hB (Ev.pos rfl ?_)
      by_cases c3:5≤op
      · refine Ev.pos c3 ?_
        by_cases c4:op≤8
        · rw [if_pos ⟨c1,c2,c3,c4⟩,decide_eq_true c4]; exact Ev.bind fail_t (Ev.now _)
        · rw [if_neg (fun h=>c4 h.2.2.2),decide_eq_false c4]; exact Ev.bind fail_f (Ev.now _)
      · rw [if_neg (fun h=>c3 h.2.2.1)]; exact Ev.neg c3 (Ev.bind fail_f (Ev.now _))
    · rw [if_neg (fun h=>c2 h.2.1)]
      exact Ev.bind hB (Ev.neg c2 (Ev.bind fail_f (Ev.now _)))
  · rw [if_neg (fun h=>c1 h.1)]
    exact Ev.bind hA (Ev.neg c1 (Ev.bind fail_f (Ev.now _)))
theorem reckon_ev (op:Int) {a b:Z02} (ha:Fine a) (hb:Fine b):Ev (fun N=>Zb2 N op a b) (reckonW op a b):=by
  refine Ev.bind (reckonB_ev op ha hb) ?_
  unfold reckonW
  by_cases c:isN a.fKind=true∧isN b.fKind=true∧5≤op∧op≤8
  · rw [if_pos c,if_pos c]
    have ka:=of_decide_eq_true c.1
    have kb:=of_decide_eq_true c.2.1
    have hfl:Ev (fun N=>(Z6x N a).bind fun r27=>(Z6x N b).bind fun r28=>(Z7o N op r27 r28).bind fun r29=>some (some (Z02.mk r29.fKind r29.fN r29.fNum r29.fBits r29.fBytes []))) (some (fltT (opF op (bitsT a) (bitsT b)))) :=
      Ev.bind (abits_ev ha c.1) (Ev.bind (abits_ev hb c.2.1) (Ev.bind (floats_ev op _ _) (Ev.now _)))
    by_cases a3:a.fKind=3
    · rw [if_neg (fun h=>h.1 a3)]
      have hy:∃ v,Ev (fun N=>Zbo N b) v:=by
        by_cases b3:b.fKind=3
        · exact ⟨_,Zcc hb b3⟩
        · exact ⟨_,Zdg hb (by omega)⟩
      obtain ⟨v,hv⟩:=hy
      exact Ev.bind (Zcc ha a3) (Ev.bind hv (Ev.neg (by simp) hfl))
    · refine Ev.bind (Zdg ha (by omega)) ?_
      by_cases b3:b.fKind=3
      · rw [if_neg (fun h=>h.2.1 b3)]
        exact Ev.bind (Zcc hb b3) (Ev.pos rfl (Ev.neg (by simp) hfl))
      · refine Ev.bind (Zdg hb (by omega)) (Ev.pos rfl (Ev.pos rfl ?_))
        by_cases o8:op=8
        · rw [if_neg (fun h=>h.2.2 o8)]
          exact Ev.neg (fun h=>h o8) hfl
        · rw [if_pos ⟨a3,b3,o8⟩]
          refine Ev.pos o8 (Ev.bind (awhole_ev c.2.2.1 (by omega) (ha.numV_top (by omega)) (hb.numV_top (by omega))) ?_)
          by_cases d:((opZ op (numV a) (numV b)).natAbs:Int) < TOP
          · rw [if_pos d]; exact now_int _
          · rw [if_neg d]; exact Ev.now _
  · rw [if_neg c,if_neg c]
    exact Ev.now _
theorem do_ev (op:Int) {a b:Z02} (ha:Fine a) (hb:Fine b):Ev (fun N=>Zar N op a b) (doW op a b):=by
  refine Ev.bind (reckon_ev op ha hb) ?_
  unfold reckonW doW
  by_cases c:isN a.fKind=true∧isN b.fKind=true∧5≤op∧op≤8
  · rw [if_pos c,if_pos c]
    by_cases d:a.fKind ≠ 3∧b.fKind ≠ 3∧op ≠ 8
    · rw [if_pos d,if_pos d]
      by_cases e:((opZ op (numV a) (numV b)).natAbs:Int) < TOP
      · rw [if_pos e,if_pos e]; exact Ev.bind (Ev.now _) (by show Ev (fun _=>some (Z02.mk (intT _).fKind (intT _).fN (intT _).fNum (intT _).fBits (intT _).fBytes [],(-1:Int))) _; exact now_int2 _ _)
      · rw [if_neg e,if_neg e]; exact Ev.bind (Ev.now _) (Ev.now _)
    · rw [if_neg d,if_neg d]; exact Ev.bind (Ev.now _) (Ev.now _)
  · rw [if_neg c,if_neg c]
    exact Ev.bind (Ev.now _) (Ev.now _)
def numB (t:Z02):Bool:=mayT t && isN t.fKind
def doG (op:Int) (a b:Z02):Z02 × Int:=if numB a=true∧numB b=true then doW op a b else (noT,1)
theorem Zhm {t:Z02} (s:Small t) (w:Z0m t) (h:numB t=true):Fine t∧isN t.fKind=true:=by
  unfold numB at h
  rw [Bool.and_eq_true] at h
  exact ⟨⟨s,w,h.1⟩,h.2⟩
theorem numberB_ev {t:Z02} (s:Small t) (w:Z0m t):Ev (fun N=>Z9m N t) (numB t):=by
  cases hm:mayT t with
  | true =>
    have:=number_ev (t:=t) ⟨s,w,hm⟩
    unfold numB
    rw [hm,Bool.true_and]
    exact this
  | false =>
    have h:=mayT_ev t s w
    unfold numB
    rw [hm] at h ⊢
    exact Ev.bind h (Ev.neg Bool.false_ne_true (Ev.now _))
theorem doG_ev (op:Int) {a b:Z02} (sa:Small a) (wa:Z0m a) (sb:Small b) (wb:Z0m b):Ev (fun N=>Zar N op a b) (doG op a b):=by
  unfold doG
  by_cases c:numB a=true∧numB b=true
  · rw [if_pos c]
    exact do_ev op (Zhm sa wa c.1).1 (Zhm sb wb c.2).1
  · rw [if_neg c]
    have hB:Ev (fun N=>Z5r N op a b) (.inl ()):=by
      refine Ev.step ?_ (fun N=>by rw [Z5r])
      have hA:=numberB_ev sa wa
      have hB:=numberB_ev sb wb
      cases ca:numB a with
      | false =>
        rw [ca] at hA
        exact Ev.bind hA (Ev.neg Bool.false_ne_true (Ev.bind fail_f (Ev.now _)))
      | true =>
        have cb:numB b=false:=by
          cases cb:numB b with
          | false=>rfl
          | true=>exact absurd ⟨ca,cb⟩ c
        rw [ca] at hA
        rw [cb] at hB
        exact Ev.bind hA (Ev.pos rfl (Ev.bind hB (Ev.neg Bool.false_ne_true (Ev.bind fail_f (Ev.now _)))))
    have hR:Ev (fun N=>Zb2 N op a b) none:=Ev.bind hB (Ev.now _)
    exact Ev.bind hR (Ev.bind (Ev.now _) (Ev.now _))
theorem rofNum_ev {x:Int} (hx:(x.natAbs:Int) < TOP):Ev (fun N=>Z8d N (numN x)) (intT x,true):=by
  refine Ev.bind (R1.rmayN_ev x hx) (Ev.neg (by simp) ?_)
  have hs:=rsmall_ev (numN x) (lim_num' x)
  rw [smallN_num hx] at hs
  unfold intT
  by_cases c:-1152921504606846976≤x∧x≤1152921504606846975
  · rw [if_pos c] at hs ⊢
    exact Ev.bind hs (Ev.pos rfl (Ev.now _))
  · rw [if_neg c] at hs ⊢
    have hl:=Z7y x hx
    exact Ev.bind hs (Ev.neg (by simp) (Ev.bindc (app0_eq (by rw [lim_eq]; omega)) (Ev.now _)))
def flT (t:Z02):Int × Bool:=if mayT t=true then (if isN t.fKind=true then (bitsT t,true) else (wdOf 0,false)) else (0,false)
theorem flT_2 (t:Z02):(flT t).2=numB t:=by
  unfold flT numB
  cases mayT t <;> cases isN t.fKind <;> rfl
theorem numT_fine {t:Z02} (h:Fine t) (hk:t.fKind=1∨t.fKind=2):numT t=(numN (numV t),true):=Ev.det (tNum_ev t h.s h.w) (Zdg h hk)
theorem rfloat_ev {t:Z02} (s:Small t) (w:Z0m t):Ev (fun N=>Z6y N t) (flT t):=by
  have hm:=rmayT_ev t s w
  unfold flT
  cases m:mayT t with
  | false =>
    rw [m] at hm
    exact Ev.bind hm (Ev.pos Bool.false_ne_true (Ev.now _))
  | true =>
    rw [m] at hm
    rw [if_pos rfl]
    refine Ev.bind hm (Ev.neg (by simp) ?_)
    have hf:Fine t:=⟨s,w,m⟩
    have hn:=rtNum_ev t s w
    by_cases h3:t.fKind=3
    · have:isN t.fKind=true:=decide_eq_true (.inr (.inr h3))
      rw [if_pos this]
      unfold bitsT
      rw [if_pos h3]
      exact Ev.pos h3 (Ev.now _)
    · refine Ev.neg h3 ?_
      by_cases hk:t.fKind=1∨t.fKind=2
      · have:isN t.fKind=true:=decide_eq_true (by omega)
        rw [if_pos this]
        unfold bitsT
        rw [if_neg h3]
        rw [numT_fine hf hk] at hn
        have ht:=hf.numV_top hk
        exact Ev.bind hn (Ev.bind (r2Of_ev _ ht (R1.rmayN_ev _ ht)) (Ev.now _))
      · have:isN t.fKind=false:=decide_eq_false (by omega)
        rw [this,if_neg Bool.false_ne_true]
        have hz:numT t=(numN 0,false):=by
          unfold numT
          rw [m,if_pos rfl,if_neg (by omega),if_neg (by omega),num_zero]
        rw [hz] at hn
        have ht:((0:Int).natAbs:Int) < TOP:=by unfold TOP; decide
        exact Ev.bind hn (Ev.bind (r2Of_ev 0 ht (R1.rmayN_ev 0 ht)) (Ev.now _))
theorem rwhole_ev {op x y:Int} (h0:5≤op) (h1:op≤7) (hx:(x.natAbs:Int) < TOP) (hy:(y.natAbs:Int) < TOP):Ev (fun N=>Z84 N op (numN x) (numN y)) (if ((opZ op x y).natAbs:Int) < TOP then (intT (opZ op x y), -1) else (noT,1)):=by
  have hB:Ev (fun N=>Z56 N op (numN x) (numN y)) ((res (opZ op x y)).1.fNeg,(res (opZ op x y)).1.fMag,(res (opZ op x y)).2):=by
    refine Ev.step ?_ (fun N=>by rw [Z56])
    unfold opZ
    by_cases h5:op=5
    · rw [if_pos h5]; exact Ev.pos h5 (Ev.bind (R1.radd_ev x y hx hy) (Ev.now _))
    · rw [if_neg h5]
      by_cases h6:op=6
      · rw [if_pos h6]; exact Ev.neg h5 (Ev.pos h6 (Ev.bind (R1.rsub_ev x y hx hy) (Ev.now _)))
      · rw [if_neg h6]; exact Ev.neg h5 (Ev.neg h6 (Ev.pos (by omega) (Ev.bind (R1.rmul_ev x y hx hy) (Ev.now _))))
  refine Ev.bind hB ?_
  generalize opZ op x y=z
  unfold res
  by_cases c:(z.natAbs:Int) < TOP
  · rw [if_pos c,if_pos c]
    exact Ev.neg (by simp) (Ev.bind (rofNum_ev c) (Ev.now _))
  · rw [if_neg c,if_neg c]
    exact Ev.pos (by simp) (Ev.now _)
theorem rdo_ev (op:Int) {a b:Z02} (sa:Small a) (wa:Z0m a) (sb:Small b) (wb:Z0m b):Ev (fun N=>Zat N op a b) (doG op a b):=by
  refine Ev.bind (rfloat_ev sa wa) (Ev.bind (rfloat_ev sb wb) ?_)
  have ha:=flT_2 a
  have hb:=flT_2 b
  have hB1:Ev (fun N=>Z6r N op a b (flT a) (flT b)) (!(numB a && numB b && decide (5≤op∧op≤8))):=by
    refine Ev.step ?_ (fun N=>by rw [Z6r])
    rw [ha,hb]
    cases numB a with
    | false=>exact Ev.pos Bool.false_ne_true (Ev.now _)
    | true =>
      refine Ev.neg (by simp) ?_
      cases numB b with
      | false=>exact Ev.pos Bool.false_ne_true (Ev.now _)
      | true =>
        refine Ev.neg (by simp) ?_
        by_cases h:op < 5
        · rw [decide_eq_false (show ¬ (5≤op∧op≤8) by omega)]
          exact Ev.pos h (Ev.now _)
        · refine Ev.neg h ?_
          by_cases h8:op≤8
          · rw [decide_eq_true (show 5≤op∧op≤8 by omega),decide_eq_false (show ¬ op > 8 by omega)]; exact Ev.now _
          · rw [decide_eq_false (show ¬ (5≤op∧op≤8) by omega),decide_eq_true (show op > 8 by omega)]; exact Ev.now _
  by_cases c:(numB a=true∧numB b=true)∧5≤op∧op≤8
  · obtain ⟨⟨c1,c2⟩,c3,c4⟩:=c
    rw [c1,c2,decide_eq_true ⟨c3,c4⟩] at hB1
    have hB0:Ev (fun N=>Z4k N op a b (flT a) (flT b)) (.inl ()):=by
      refine Ev.step ?_ (fun N=>by rw [Z4k])
      exact Ev.bind hB1 (Ev.neg Bool.false_ne_true (Ev.now _))
    refine Ev.bind hB0 ?_
    obtain ⟨fa,ka⟩:=Zhm sa wa c1
    obtain ⟨fb,kb⟩:=Zhm sb wb c2
    have ka':=of_decide_eq_true ka
    have kb':=of_decide_eq_true kb
    have xa:flT a=(bitsT a,true):=by unfold flT; rw [fa.m,if_pos rfl,if_pos ka]
    have xb:flT b=(bitsT b,true):=by unfold flT; rw [fb.m,if_pos rfl,if_pos kb]
    unfold doG doW
    rw [if_pos ⟨c1,c2⟩,if_pos ⟨ka,kb,c3,c4⟩]
    by_cases d:a.fKind ≠ 3∧b.fKind ≠ 3∧op ≠ 8
    · rw [if_pos d]
      have na:=rtNum_ev a sa wa
      have nb:=rtNum_ev b sb wb
      rw [numT_fine fa (by omega)] at na
      rw [numT_fine fb (by omega)] at nb
      have hw:=rwhole_ev (op:=op) (x:=numV a) (y:=numV b) c3 (by omega) (fa.numV_top (by omega)) (fb.numV_top (by omega))
      generalize (if ((opZ op (numV a) (numV b)).natAbs:Int) < TOP then (intT (opZ op (numV a) (numV b)),(-1:Int)) else (noT,1))=v at hw ⊢
      have hB2:Ev (fun N=>Z4j N op a b (flT a) (flT b)) (.inr (v.1.fKind,v.1.fN,v.1.fNum.fNeg,v.1.fNum.fMag,v.1.fBits,v.1.fBytes,v.1.fArgs,v.2)):=by
        refine Ev.step ?_ (fun N=>by rw [Z4j])
        exact Ev.pos d.1 (Ev.pos d.2.1 (Ev.pos d.2.2 (Ev.bind na (Ev.bind nb (Ev.bind hw (Ev.now _))))))
      obtain ⟨⟨vk,vn,⟨vg,vm⟩,vb,vs,va⟩,ve⟩:=v
      exact Ev.bind hB2 (Ev.now _)
    · rw [if_neg d]
      have hB2:Ev (fun N=>Z4j N op a b (flT a) (flT b)) (.inl ()):=by
        refine Ev.step ?_ (fun N=>by rw [Z4j])
        by_cases a3:a.fKind=3
        · exact Ev.neg (fun h=>h a3) (Ev.now _)
        · refine Ev.pos a3 ?_
          by_cases b3:b.fKind=3
          · exact Ev.neg (fun h=>h b3) (Ev.now _)
          · exact Ev.pos b3 (Ev.neg (fun h=>d ⟨a3,b3,h⟩) (Ev.now _))
      refine Ev.bind hB2 ?_
      rw [xa,xb]
      refine Ev.bind (rdiv_ev (bitsT a) (bitsT b)) ?_
      unfold opF
      by_cases h5:op=5
      · rw [if_pos h5]; exact Ev.pos h5 (Ev.bind (radd_ev (bitsT a) (bitsT b)) (Ev.now _))
      · rw [if_neg h5]
        by_cases h6:op=6
        · rw [if_pos h6]; exact Ev.neg h5 (Ev.pos h6 (Ev.bind (rsub_ev (bitsT a) (bitsT b)) (Ev.now _)))
        · rw [if_neg h6]
          by_cases h7:op=7
          · rw [if_pos h7]; exact Ev.neg h5 (Ev.neg h6 (Ev.pos h7 (Ev.bind (rmul_ev (bitsT a) (bitsT b)) (Ev.now _))))
          · rw [if_neg h7]; exact Ev.neg h5 (Ev.neg h6 (Ev.neg h7 (Ev.now _)))
  · have e:(!(numB a && numB b && decide (5≤op∧op≤8)))=true:=by
      cases h1:numB a <;> cases h2:numB b <;> first | rfl | (rw [decide_eq_false (fun h=>c ⟨⟨h1,h2⟩,h⟩)]; rfl)
    rw [e] at hB1
    have hB0:Ev (fun N=>Z4k N op a b (flT a) (flT b)) (.inr ()):=by
      refine Ev.step ?_ (fun N=>by rw [Z4k])
      exact Ev.bind hB1 (Ev.pos rfl (Ev.now _))
    have hv:doG op a b=(noT,1):=by
      unfold doG doW
      by_cases h:numB a=true∧numB b=true
      · rw [if_pos h,if_neg (fun k=>c ⟨h,k.2.2⟩)]
      · rw [if_neg h]
    rw [hv]
    exact Ev.bind hB0 (Ev.now _)
end Go.Proofs.Ytllcnlonkloabaa.Sh
