import Derived.Test.YtcknifhhgeccfaaPureCodeD
set_option linter.unusedVariables false
set_option linter.unusedSimpArgs false
namespace Go.Proofs.Ytcknifhhgeccfaa.Sh
open Go Lift Go.Proofs
theorem mays_cnt:∀ ts:List Z02,ts.all mayT=true→cnts ts≤300 * ts.length
  | [],_=>by rw [cnts]; omega
  | x::xs,h=>by
    rw [List.all_cons,Bool.and_eq_true] at h
    have a:=may_cnt h.1
    have c:=mays_cnt xs h.2
    rw [cnts,List.length_cons]; omega
namespace Pure
theorem CodeReads (x0:(List Int)) (w0:(ListR (InR .u8)) x0):∃ N,Z6m N x0=some true:=by
  refine Ev.ex (f:=fun N=>Z6m N x0) ?_
  by_cases hl:((x0.length:Nat):Int) > 4000
  · exact Ev.pos hl (Ev.bind awake17_ev (Ev.now _))
  have hbb:=bytes_of w0
  have key:∃ v:Z0c × Int,Ev (fun N=>Zcb N x0) v∧Ev (fun N=>Z5k N x0) v∧Ev (fun N=>Z4b N v.1 v.1) true:=by
    have hz:Ev (fun N=>Z4b N ⟨[],[]⟩ ⟨[],[]⟩) true:=Zf0 ⟨[],[]⟩ (by show 0≤100000; omega) (fun x hx=>by cases hx) (by show cnts []≤_; rw [cnts]; omega)
    rcases both_prog x0 (by omega) hbb with ⟨h1,h2⟩ | ⟨q,rest,hf,hbody,h1,h2⟩
    · exact ⟨(⟨[],[]⟩,5),Ev.bind h1 (Ev.bind (Ev.now _) (Ev.now _)),h2,hz⟩
    · have hL:=pLay_ev q hf.small hf.w
      rw [hf.laid] at hL
      have he:=bequal_ev (bodyP q) x0 hf.bytes hbb
      by_cases c:(bodyP q).length=x0.length
      · have hr:rest=[]:=by
          have:=congrArg List.length hbody
          rw [List.length_append] at this
          exact len0 (by omega)
        subst hr
        rw [List.append_nil] at hbody
        rw [if_pos c] at h2
        rw [decide_eq_true hbody.symm] at he
        refine ⟨(q,0),Ev.bind h1 (Ev.bind hL (Ev.bind he (Ev.neg (fun k=>k rfl) (Ev.bind (Ev.now _) (Ev.now _))))),h2, ?_⟩
        have hc:=mays_cnt q.fConsts hf.mayt
        have h16:=hf.cons
        exact Zf0 q (by have:=hf.ops; omega) hf.small (by omega)
      · rw [if_neg c] at h2
        rw [decide_eq_false (fun e=>c (by rw [e]))] at he
        exact ⟨(⟨[],[]⟩,5),Ev.bind h1 (Ev.bind hL (Ev.bind he (Ev.pos Bool.false_ne_true (Ev.bind (Ev.now _) (Ev.now _))))),h2,hz⟩
  obtain ⟨v,h1,h2,h3⟩:=key
  have c0:x0.length≤(x0++[(119:Int),119,119]).length:=by simp
  have t0:(x0++[(119:Int),119,119]).take x0.length=x0:=List.take_left
  refine Ev.neg hl (Ev.bind (blend_ev x0 (by omega)) (Ev.pos c0 ?_))
  simp only [t0]
  exact Ev.bind h1 (Ev.bind h2 (Ev.pos c0 (Ev.bind (overB_ev x0 (by omega)) (Ev.bind h3 (Ev.pos (by trivial) (Ev.bind (Ev.now v.2) (Ev.pos (by trivial) (Ev.bind awake17_ev (Ev.now _)))))))))
end Pure
end Go.Proofs.Ytcknifhhgeccfaa.Sh
