import Derived.Test.YtllcnlonkloabaaPureForm
set_option linter.unusedVariables false
set_option linter.unusedSimpArgs false
namespace Go.Proofs.Ytllcnlonkloabaa.Sh
open Go Lift Go.Proofs
def okT (t:Z01):Bool :=
  if t.fKind=1 then decide (-1152921504606846976≤t.fN∧t.fN≤1152921504606846975)
  else if t.fKind=2 then mayN t.fNum && !(smallN t.fNum).2
  else if t.fKind=3 then realMay t.fBits
  else if t.fKind=4 then decide (0≤t.fN∧t.fN≤255)
  else if t.fKind=5 then decide (0≤t.fN∧t.fN≤63)
  else if t.fKind=6 then decide (t.fArgs.length≤8)
  else if t.fKind=8 then decide (t.fArgs.length=2)
  else if t.fKind=7 then true
  else if t.fKind=9 then decide (t.fBytes.size≤400)
  else false
mutual
def rightT:Z01→Bool
  | ⟨k,n,m,b,s,args⟩=>okT ⟨k,n,m,b,s,args⟩ && bareT ⟨k,n,m,b,s,args⟩ && rightsT args
def rightsT:List Z01→Bool
  | []=>true
  | x::xs=>rightT x && rightsT xs
end
theorem rightT_eq (t:Z01):rightT t=(okT t && bareT t && rightsT t.fArgs):=by cases t; rw [rightT]
theorem two_le {a b x:Int}:Ev (fun _=>if x ≥ a then some (decide (x≤b)) else some false) (decide (a≤x∧x≤b)):=by
  by_cases h:x ≥ a
  · rw [show decide (a≤x∧x≤b)=decide (x≤b) from decide_eq_decide.2 (by omega)]
    exact Ev.pos h (Ev.now _)
  · rw [show decide (a≤x∧x≤b)=false from decide_eq_false (by omega)]
    exact Ev.neg h (Ev.now _)
theorem ok_ev (t:Z01) (w:Z1l t):Ev (fun N=>term_right_B0 N t) (okT t):=by
  refine Ev.step ?_ (fun N=>by rw [term_right_B0])
  unfold okT
  refine Ev.iff (fun _=>two_le) fun _=>Ev.iff (fun _=>?_) fun _=>Ev.iff (fun _=>Ev.bind (realMay_ev _ w.Bits) (Ev.now _)) fun _=>Ev.iff (fun _=>two_le) fun _=>Ev.iff (fun _=>two_le) fun _=>Ev.iff (fun _=>?_) fun _=>Ev.iff (fun _=>?_) fun _=>Ev.iff (fun _=>Ev.now _) fun _=>Ev.iff (fun _=>?_) fun _=>Ev.now _
  · refine Ev.bind (small_ev _ (lim32_of w.Num.Mag)) (Ev.bind (nmay_ev _) ?_)
    cases mayN t.fNum with
    | true=>rw [Bool.true_and]; exact Ev.pos rfl (Ev.now _)
    | false=>rw [Bool.false_and]; exact Ev.neg (by simp) (Ev.now _)
  · rw [show decide (t.fArgs.length≤8)=decide (((t.fArgs.length:Nat):Int)≤8) from decide_eq_decide.2 (by omega)]; exact Ev.now _
  · rw [show decide (t.fArgs.length=2)=(((t.fArgs.length:Nat):Int) == 2) from by rw [Bool.eq_iff_iff]; simp; omega]; exact Ev.now _
  · rw [show decide (t.fBytes.size≤400)=decide (((t.fBytes.size:Nat):Int)≤400) from decide_eq_decide.2 (by omega)]; exact Ev.now _
mutual
theorem right_ev:∀ (t:Z01),Z1l t→Ev (fun N=>term_right N t) (rightT t)
  | ⟨k,n,m,b,s,args⟩,w=>by
    have ho:=ok_ev _ w
    have hb:=bare_ev ⟨k,n,m,b,s,args⟩
    have hr:=rights_loop args w.Args args 0 rfl w.ArgsLen
    refine Ev.step ?_ (fun N=>by rw [term_right])
    rw [rightT]
    refine Ev.bind ho ?_
    cases okT ⟨k,n,m,b,s,args⟩ with
    | false=>rw [Bool.false_and,Bool.false_and]; exact Ev.neg (by simp) (Ev.now _)
    | true =>
      refine Ev.pos rfl (Ev.bind hb ?_)
      cases bareT ⟨k,n,m,b,s,args⟩ with
      | false=>rw [Bool.true_and,Bool.false_and]; exact Ev.neg (by simp) (Ev.now _)
      | true =>
        refine Ev.pos rfl ?_
        rw [Bool.true_and,Bool.true_and]
        obtain ⟨r,h1,h2⟩:=hr
        have hc:Ev (fun N=>slices_ContainsFunc_api_Term_api_Term N args) (!rightsT args):=by
          refine Ev.step ?_ (fun N=>by rw [slices_ContainsFunc_api_Term_api_Term])
          cases r with
          | inl u =>
            have h2:rightsT args=true:=h2
            rw [h2]
            refine Ev.bind (a:=-1) ?_ (Ev.now _)
            refine Ev.step ?_ (fun N=>by rw [slices_IndexFunc_api_Term_api_Term])
            exact Ev.bind h1 (Ev.now _)
          | inr i =>
            obtain ⟨h2,h3⟩:rightsT args=false∧0≤i:=h2
            rw [h2]
            refine Ev.bind (a:=i) ?_ ?_
            · refine Ev.step ?_ (fun N=>by rw [slices_IndexFunc_api_Term_api_Term])
              exact Ev.bind h1 (Ev.now _)
            · rw [decide_eq_true (show i ≥ 0 from h3)]; exact Ev.now _
        refine Ev.bind hc ?_
        rw [Bool.not_not]
        exact Ev.now _
theorem rights_loop:∀ (ts:List Z01),(∀ x ∈ ts,Z1l x)→∀ (l:List Z01) (i:Nat),l.drop i=ts→l.length≤maxLen →
    ∃ r,Ev (fun N=>slices_IndexFunc_api_Term_api_Term_L0 N l i) r∧(match r with | .inl _=>rightsT ts=true | .inr j=>rightsT ts=false∧0≤j)
  | [],hw,l,i,hd,hl=>by
    have:=Z64 hd
    refine ⟨.inl (), ?_,by rw [rightsT]⟩
    refine Ev.step ?_ (fun N=>by rw [slices_IndexFunc_api_Term_api_Term_L0])
    exact Ev.neg (by omega) (Ev.now _)
  | x::xs,hw,l,i,hd,hl=>by
    have hlen:=Z5t hd
    rw [Z8r] at hl
    have hx:=right_ev x (hw x (by simp))
    have h1:Ev (fun N=>term_right_1 N x) (!rightT x):=by
      refine Ev.step ?_ (fun N=>by rw [term_right_1])
      exact Ev.bind hx (Ev.now _)
    obtain ⟨r,e,hr⟩:=rights_loop xs (fun y hy=>hw y (by simp [hy])) l (i+1) (Z5c hd) (by rw [Z8r]; exact hl)
    cases hxx:rightT x with
    | true =>
      rw [hxx] at h1
      refine ⟨r, ?_, ?_⟩
      · refine Ev.step ?_ (fun N=>by rw [slices_IndexFunc_api_Term_api_Term_L0,Z49 (by omega)])
        exact Ev.pos (by omega) (Ev.bindc (Zej hd) (Ev.bind h1 (Ev.neg (by simp) e)))
      · rw [rightsT,hxx,Bool.true_and]; exact hr
    | false =>
      rw [hxx] at h1
      refine ⟨.inr i, ?_,by rw [rightsT,hxx,Bool.false_and]; exact ⟨rfl,by omega⟩⟩
      refine Ev.step ?_ (fun N=>by rw [slices_IndexFunc_api_Term_api_Term_L0])
      exact Ev.pos (by omega) (Ev.bindc (Zej hd) (Ev.bind h1 (Ev.pos (by simp) (Ev.now _))))
end
theorem bare_args {t:Z01} (h:bareT t=true) (h6:t.fKind ≠ 6) (h8:t.fKind ≠ 8):t.fArgs=[]:=by
  have:zA t=true:=by
    unfold bareT at h
    revert h
    generalize zNum t=a
    generalize zN t=b
    generalize zB t=c
    generalize zS t=d
    generalize zA t=e
    split
    · cases e <;> simp
    · split
      · cases e <;> simp
      · split
        · cases e <;> simp
        · split
          · cases e <;> simp
          · split
            · rename_i hh; exact absurd hh (by omega)
            · cases e <;> simp
  unfold zA at this
  exact List.eq_nil_of_length_eq_zero (by simpa using this)
end Go.Proofs.Ytllcnlonkloabaa.Sh
