import Derived.Test.YtllcnlonkloabaaPureSortE
import Derived.Test.YtllcnlonkloabaaPureOvD
set_option linter.unusedVariables false
set_option linter.unusedSimpArgs false
namespace Go.Proofs.Ytllcnlonkloabaa.Sh
open Go Lift Go.Proofs
theorem zNum_of {t:Z00} (h:zNum t=true):t.fNum=⟨false,[]⟩:=by
 unfold zNum at h
 rw [yx,decide_eq_true_eq,qj] at h
 obtain ⟨k,n,⟨ng,mg⟩,f,s,args⟩:=t
 obtain ⟨h1,h2⟩:=h
 have h1:=xy h1
 simp only at h1 h2
 rw [h1,h2]
theorem zN_of {t:Z00} (h:zN t=true):t.fN=0:=by unfold zN at h; exact of_decide_eq_true h
theorem zB_of {t:Z00} (h:zB t=true):t.fBits=0:=by unfold zB at h; exact of_decide_eq_true h
theorem zS_of {t:Z00} (h:zS t=true):t.fBytes=ByteArray.mk #[]:=by unfold zS at h; exact of_decide_eq_true h
theorem zA_of {t:Z00} (h:zA t=true):t.fArgs=[]:=by unfold zA at h; exact xy (of_decide_eq_true h)
theorem Zi4 {t:Z00} (h:bareT t=true):(¬ (t.fKind=1∨t.fKind=4∨t.fKind=5)→t.fN=0)∧(t.fKind ≠ 2→t.fNum=⟨false,[]⟩)∧(t.fKind ≠ 3→t.fBits=0)∧(t.fKind ≠ 9→t.fBytes=ByteArray.mk #[])∧(¬ (t.fKind=6∨t.fKind=8)→t.fArgs=[]):=by
 unfold bareT at h
 repeat' split at h
 all_goals simp only [yx] at h
 ·obtain ⟨⟨⟨a,b⟩,c⟩,d⟩:=h
  exact ⟨fun q=>absurd ‹_› q,fun _=>zNum_of a,fun _=>zB_of b,fun _=>zS_of c,fun _=>zA_of d⟩
 ·obtain ⟨⟨⟨a,b⟩,c⟩,d⟩:=h
  exact ⟨fun _=>zN_of a,fun q=>absurd ‹_› q,fun _=>zB_of b,fun _=>zS_of c,fun _=>zA_of d⟩
 ·obtain ⟨⟨⟨a,b⟩,c⟩,d⟩:=h
  exact ⟨fun _=>zN_of a,fun _=>zNum_of b,fun q=>absurd ‹_› q,fun _=>zS_of c,fun _=>zA_of d⟩
 ·obtain ⟨⟨⟨a,b⟩,c⟩,d⟩:=h
  exact ⟨fun _=>zN_of a,fun _=>zNum_of b,fun _=>zB_of c,fun q=>absurd ‹_› q,fun _=>zA_of d⟩
 ·obtain ⟨⟨⟨a,b⟩,c⟩,d⟩:=h
  exact ⟨fun _=>zN_of a,fun _=>zNum_of b,fun _=>zB_of c,fun _=>zS_of d,fun q=>absurd ‹_› q⟩
 ·obtain ⟨⟨⟨⟨a,b⟩,c⟩,d⟩,e⟩:=h
  exact ⟨fun _=>zN_of a,fun _=>zNum_of b,fun _=>zB_of c,fun _=>zS_of d,fun _=>zA_of e⟩
theorem Ziv {a b:Z00} (ha:bareT a=true) (hb:bareT b=true) (hk:a.fKind=b.fKind) (h1:(a.fKind=1∨a.fKind=4∨a.fKind=5)→a.fN=b.fN) (h2:a.fKind=2→a.fNum=b.fNum) (h3:a.fKind=3→a.fBits=b.fBits) (h6:(a.fKind=6∨a.fKind=8)→a.fArgs=b.fArgs) (h9:a.fKind=9→a.fBytes=b.fBytes):a=b:=by
 obtain ⟨a1,a2,a3,a4,a5⟩:=Zi4 ha
 obtain ⟨b1,b2,b3,b4,b5⟩:=Zi4 hb
 rw [← hk] at b1 b2 b3 b4 b5
 have e1:a.fN=b.fN:=by
  by_cases h:a.fKind=1∨a.fKind=4∨a.fKind=5
  ·exact h1 h
  ·rw [a1 h,b1 h]
 have e2:a.fNum=b.fNum:=by
  by_cases h:a.fKind=2
  ·exact h2 h
  ·rw [a2 h,b2 h]
 have e3:a.fBits=b.fBits:=by
  by_cases h:a.fKind=3
  ·exact h3 h
  ·rw [a3 h,b3 h]
 have e4:a.fBytes=b.fBytes:=by
  by_cases h:a.fKind=9
  ·exact h9 h
  ·rw [a4 h,b4 h]
 have e5:a.fArgs=b.fArgs:=by
  by_cases h:a.fKind=6∨a.fKind=8
  ·exact h6 h
  ·rw [a5 h,b5 h]
 cases a
 cases b
 simp only at hk e1 e2 e3 e4 e5
 subst hk e1 e2 e3 e4 e5
 rfl
theorem lex_zero {p q:Int} (h:lex p q=0):p=0∧q=0:=by
 unfold lex at h
 split at h
 ·exact absurd h ‹_›
 ·exact ⟨by omega,h⟩
mutual
theorem cmpT_same:∀ (a:Z00),Fine a→∀ b,Fine b→cmpT a b=0→a=b
 |⟨k,n,m,f,s,args⟩,ha,b,hb,h=>by
  have hA:=cmpA_same args ha.arg b.fArgs hb.arg
  have ba:=ha.right.2.1
  have bb:=hb.right.2.1
  rw [Zcc] at h
  obtain ⟨hc,hr⟩:=lex_zero h
  have ka:=ha.kind
  rcases cls_num ka hb.kind hc with ⟨k1,k2⟩ | ⟨hk,h4⟩
  ·rw [Zhb b k1] at hr
   obtain ⟨q1,q2,q3,q4⟩:=(key_zero ha hb k1 k2).1 hr
   exact Ziv ba bb q1 (fun h=>q2 (by omega)) q3 q4 (fun h=>by omega) (fun h=>by omega)
  ·rcases kinds_of ka with hn | h6 | h8 | h9 | ho
   ·omega
   ·rw [Zhs b h6] at hr
    exact Ziv ba bb hk (fun h=>by omega) (fun h=>by omega) (fun h=>by omega) (fun _=>hA (lex_zero hr).2) (fun h=>by omega)
   ·rw [Zhp b h8] at hr
    exact Ziv ba bb hk (fun h=>by omega) (fun h=>by omega) (fun h=>by omega) (fun _=>hA hr) (fun h=>by omega)
   ·rw [Zhd b h9] at hr
    have e:=(lexB_zero _ _).1 hr
    exact Ziv ba bb hk (fun h=>by omega) (fun h=>by omega) (fun h=>by omega) (fun h=>by omega) (fun _=>ByteArray.ext (Array.toList_inj.1 e))
   ·rw [Zhr b ho,Z80] at hr
    exact Ziv ba bb hk (fun h=>by omega) (fun h=>by omega) (fun h=>by omega) (fun h=>by omega) (fun h=>by omega)
theorem cmpA_same:∀ (xs:List Z00),(∀ x ∈ xs,Fine x)→∀ ys,(∀ y ∈ ys,Fine y)→cmpA xs ys=0→xs=ys
 |[],_,[],_,_=>rfl
 |[],_,_::_,_,h=>by rw [cmpA] at h; omega
 |_::_,_,[],_,h=>by rw [cmpA] at h; omega
 |x::xs,hx,y::ys,hy,h=>by
  rw [Zb3] at h
  obtain ⟨h1,h2⟩:=lex_zero h
  rw [cmpT_same x (hx x (by simp)) y (hy y (by simp)) h1,cmpA_same xs (fun z hz=>hx z (by simp [hz])) ys (fun z hz=>hy z (by simp [hz])) h2]
end
theorem cnts_perm {a b:List Z00} (h:a.Perm b):cnts a=cnts b:=by
 induction h with
 |nil=>rfl
 |cons x _ ih=>rw [cnts,cnts,ih]
 |swap x y l=>rw [cnts,cnts,cnts,cnts]; omega
 |trans _ _ h1 h2=>exact h1.trans h2
theorem srt_one_way {r q:List Z00} (hF:AllF r) (hp:r.Perm q) (hr:Srt r) (hq:Srt q):r=q :=
 hp.eq_of_pairwise (fun a b ha hb h1 h2=>by
  have fa:=hF a ha
  have fb:=hF b (hp.mem_iff.2 hb)
  refine cmpT_same a fa b fb ?_
  have:=Zf4 a fa b fb
  unfold leT at h1 h2
  omega) hr hq
theorem cnt_mem:∀ {ts:List Z00} {x:Z00},x ∈ ts→cnt x≤cnts ts
 |y::ys,x,h=>by
  rw [cnts]
  rcases List.mem_cons.1 h with rfl | h
  ·omega
  ·have:=cnt_mem h; omega
theorem fits_small:∀ (t:Z00),Small t→cnt t≤100000→fitsT t=true
 |t,hs,hc=>by
  rw [fitsT_eq]
  have hm:=hs.mag
  rw [cnt_eq] at hc
  have hl:=Zdl t.fArgs
  refine ⟨by omega,by omega,fun y hy=>?_⟩
  have h1:cnt y≤cnts t.fArgs:=cnt_mem hy
  exact fits_small y (hs.args y hy) (by omega)
termination_by t=>cnt t
decreasing_by rw [cnt_eq t]; omega
end Go.Proofs.Ytllcnlonkloabaa.Sh
