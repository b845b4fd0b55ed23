import Derived.Test.YtllcnlonkloabaaPureForm
set_option linter.unusedVariables false
set_option linter.unusedSimpArgs false
namespace Go.Proofs.Ytllcnlonkloabaa.Sh
open Go Lift Go.Proofs
def okT (t:Z00):Bool :=
 if t.fKind=1 then decide (-1152921504606846976≤t.fN∧t.fN≤1152921504606846975)
 else if t.fKind=2 then mayN t.fNum && !(smallN t.fNum).2
 else if t.fKind=3 then realMay t.fBits
 else if t.fKind=4 then decide (0≤t.fN∧t.fN≤255)
 else if t.fKind=5 then decide (0≤t.fN∧t.fN≤63)
 else if t.fKind=6 then decide (t.fArgs.length≤8)
 else if t.fKind=8 then decide (t.fArgs.length=2)
 else if t.fKind=7 then true
 else if t.fKind=9 then decide (t.fBytes.size≤400)
 else false
mutual
def rightT:Z00→Bool
 |⟨k,n,m,b,s,args⟩=>okT ⟨k,n,m,b,s,args⟩ && bareT ⟨k,n,m,b,s,args⟩ && rightsT args
def rightsT:List Z00→Bool
 |[]=>true
 |x::xs=>rightT x && rightsT xs
end
theorem rightT_eq (t:Z00):rightT t=(okT t && bareT t && rightsT t.fArgs):=by cases t; rw [rightT]
theorem two_le {a b x:Int}:Ev (fun _=>if x ≥ a then some (decide (x≤b)) else some false) (decide (a≤x∧x≤b)):=by
 by_cases h:x ≥ a
 ·rw [show decide (a≤x∧x≤b)=decide (x≤b) from decide_eq_decide.2 (by omega)]
  exact Ev.pos h (Ev.now _)
 ·rw [show decide (a≤x∧x≤b)=false from decide_eq_false (by omega)]
  exact Ev.neg h (Ev.now _)
theorem ok_ev (t:Z00) (w:Z0l t):Ev (fun N=>term_right_B0 N t) (okT t):=by
 refine Ev.step ?_ (fun N=>by rw [term_right_B0])
 unfold okT
 refine Ev.iff (fun _=>two_le) fun _=>Ev.iff (fun _=>?_) fun _=>Ev.iff (fun _=>Ev.bind (realMay_ev _ w.Bits) (Ev.now _)) fun _=>Ev.iff (fun _=>two_le) fun _=>Ev.iff (fun _=>two_le) fun _=>Ev.iff (fun _=>?_) fun _=>Ev.iff (fun _=>?_) fun _=>Ev.iff (fun _=>Ev.now _) fun _=>Ev.iff (fun _=>?_) fun _=>Ev.now _
 ·refine Ev.bind (small_ev _ (lim32_of w.Num.Mag)) (Ev.bind (nmay_ev _) ?_)
  cases mayN t.fNum with
  |true=>rw [vg]; exact Ev.pos rfl (Ev.now _)
  |false=>rw [qm]; exact Ev.neg (by simp) (Ev.now _)
 ·rw [show decide (t.fArgs.length≤8)=decide (((t.fArgs.length:Nat):Int)≤8) from decide_eq_decide.2 (by omega)]; exact Ev.now _
 ·rw [show decide (t.fArgs.length=2)=(((t.fArgs.length:Nat):Int) == 2) from by rw [uh]; simp; omega]; exact Ev.now _
 ·rw [show decide (t.fBytes.size≤400)=decide (((t.fBytes.size:Nat):Int)≤400) from decide_eq_decide.2 (by omega)]; exact Ev.now _
mutual
theorem right_ev:∀ (t:Z00),Z0l t→Ev (fun N=>term_right N t) (rightT t)
 |⟨k,n,m,b,s,args⟩,w=>by
  have ho:=ok_ev _ w
  have hb:=bare_ev ⟨k,n,m,b,s,args⟩
  have hr:=rights_loop args w.Args args 0 rfl w.ArgsLen
  refine Ev.step ?_ (fun N=>by rw [term_right])
  rw [rightT]
  refine Ev.bind ho ?_
  cases okT ⟨k,n,m,b,s,args⟩ with
  |false=>rw [qm,qm]; exact Ev.neg (by simp) (Ev.now _)
  |true =>
   refine Ev.pos rfl (Ev.bind hb ?_)
   cases bareT ⟨k,n,m,b,s,args⟩ with
   |false=>rw [vg,qm]; exact Ev.neg (by simp) (Ev.now _)
   |true =>
    refine Ev.pos rfl ?_
    rw [vg,vg]
    obtain ⟨r,h1,h2⟩:=hr
    have hc:Ev (fun N=>slices_ContainsFunc_api_Term_api_Term N args) (!rightsT args):=by
     refine Ev.step ?_ (fun N=>by rw [slices_ContainsFunc_api_Term_api_Term])
     cases r with
     |inl u =>
      have h2:rightsT args=true:=h2
      rw [h2]
      refine Ev.bind (a:=-1) ?_ (Ev.now _)
      refine Ev.step ?_ (fun N=>by rw [slices_IndexFunc_api_Term_api_Term])
      exact Ev.bind h1 (Ev.now _)
     |inr i =>
      obtain ⟨h2,h3⟩:rightsT args=false∧0≤i:=h2
      rw [h2]
      refine Ev.bind (a:=i) ?_ ?_
      ·refine Ev.step ?_ (fun N=>by rw [slices_IndexFunc_api_Term_api_Term])
       exact Ev.bind h1 (Ev.now _)
      ·rw [decide_eq_true (show i ≥ 0 from h3)]; exact Ev.now _
    refine Ev.bind hc ?_
    rw [Bool.not_not]
    exact Ev.now _
theorem rights_loop:∀ (ts:List Z00),(∀ x ∈ ts,Z0l x)→∀ (l:List Z00) (i:Nat),l.drop i=ts→l.length≤maxLen →
  ∃ r,Ev (fun N=>slices_IndexFunc_api_Term_api_Term_L0 N l i) r∧(match r with | .inl _=>rightsT ts=true | .inr j=>rightsT ts=false∧0≤j)
 |[],hw,l,i,hd,hl=>by
  have:=Z6l hd
  refine ⟨.inl (), ?_,by rw [rightsT]⟩
  refine Ev.step ?_ (fun N=>by rw [slices_IndexFunc_api_Term_api_Term_L0])
  exact Ev.neg (by omega) (Ev.now _)
 |x::xs,hw,l,i,hd,hl=>by
  have hlen:=Z5o hd
  rw [Z4k] at hl
  have hx:=right_ev x (hw x (by simp))
  have h1:Ev (fun N=>term_right_1 N x) (!rightT x):=by
   refine Ev.step ?_ (fun N=>by rw [term_right_1])
   exact Ev.bind hx (Ev.now _)
  obtain ⟨r,e,hr⟩:=rights_loop xs (fun y hy=>hw y (by simp [hy])) l (i+1) (Z50 hd) (by rw [Z4k]; exact hl)
  cases hxx:rightT x with
  |true =>
   rw [hxx] at h1
   refine ⟨r, ?_, ?_⟩
   ·refine Ev.step ?_ (fun N=>by rw [slices_IndexFunc_api_Term_api_Term_L0,Z3a (by omega)])
    exact Ev.pos (by omega) (Ev.bindc (Zjg hd) (Ev.bind h1 (Ev.neg (by simp) e)))
   ·rw [rightsT,hxx,vg]; exact hr
  |false =>
   rw [hxx] at h1
   refine ⟨.inr i, ?_,by rw [rightsT,hxx,qm]; exact ⟨rfl,by omega⟩⟩
   refine Ev.step ?_ (fun N=>by rw [slices_IndexFunc_api_Term_api_Term_L0])
   exact Ev.pos (by omega) (Ev.bindc (Zjg hd) (Ev.bind h1 (Ev.pos (by simp) (Ev.now _))))
end
theorem bare_args {t:Z00} (h:bareT t=true) (h6:t.fKind ≠ 6) (h8:t.fKind ≠ 8):t.fArgs=[]:=by
 have:zA t=true:=by
  unfold bareT at h
  revert h
  generalize zNum t=a
  generalize zN t=b
  generalize zB t=c
  generalize zS t=d
  generalize zA t=e
  split
  ·cases e <;> simp
  ·split
   ·cases e <;> simp
   ·split
    ·cases e <;> simp
    ·split
     ·cases e <;> simp
     ·split
      ·rename_i hh; exact absurd hh (by omega)
      ·cases e <;> simp
 unfold zA at this
 exact xy (by simpa using this)
mutual
theorem form_ev:∀ (t:Z00),Z0l t→Ev (fun N=>beehiveref4_form N t) (rightT t)
 |⟨k,n,m,b,s,args⟩,w=>by
  have hb:=blank_ev ⟨k,n,m,b,s,args⟩
  have hf:∃ r,Ev (fun N=>beehiveref4_form_L0 N ⟨k,n,m,b,s,args⟩ 0) r∧(match r with | .inl _=>rightsT args=true | .inr _=>rightsT args=false):=forms_loop args w.Args ⟨k,n,m,b,s,args⟩ 0 rfl w.ArgsLen
  have hba:=bare_args (t:=⟨k,n,m,b,s,args⟩)
  refine Ev.step ?_ (fun N=>by rw [beehiveref4_form])
  rw [rightT]
  refine Ev.bind hb ?_
  cases hbb:bareT ⟨k,n,m,b,s,args⟩ with
  |false=>rw [Bool.and_false,qm]; exact Ev.pos (by simp) (Ev.now _)
  |true =>
   have hba:=hba hbb
   rw [kw]
   refine Ev.neg (by simp) ?_
   have key:k ≠ 6→k ≠ 8→rightsT args=true:=fun h6 h8=>by
    have:args=[]:=hba h6 h8
    rw [this,rightsT]
   by_cases k1:k=1
   ·rw [key (by omega) (by omega),kw]
    have e:okT ⟨k,n,m,b,s,args⟩=decide (-1152921504606846976≤n∧n≤1152921504606846975):=by simp [okT,k1]
    rw [e]
    exact Ev.pos k1 two_le
   by_cases k2:k=2
   ·rw [key (by omega) (by omega),kw]
    have e:okT ⟨k,n,m,b,s,args⟩=(mayN m && !(smallN m).2):=by simp [okT,k2]
    rw [e]
    refine Ev.neg k1 (Ev.pos k2 (Ev.bind (rsmall_ev m (lim32_of w.Num.Mag)) (Ev.bind (rnmay_ev m) ?_)))
    cases mayN m with
    |true=>rw [vg]; exact Ev.pos rfl (Ev.now _)
    |false=>rw [qm]; exact Ev.neg (by simp) (Ev.now _)
   by_cases k3:k=3
   ·rw [key (by omega) (by omega),kw]
    have e:okT ⟨k,n,m,b,s,args⟩=realMay b:=by simp [okT,k3]
    rw [e]
    exact Ev.neg k1 (Ev.neg k2 (Ev.pos k3 (Ev.bind (rrealMay_ev b w.Bits) (Ev.now _))))
   by_cases k4:k=4
   ·rw [key (by omega) (by omega),kw]
    have e:okT ⟨k,n,m,b,s,args⟩=decide (0≤n∧n≤255):=by simp [okT,k4]
    rw [e]
    exact Ev.neg k1 (Ev.neg k2 (Ev.neg k3 (Ev.pos k4 two_le)))
   by_cases k5:k=5
   ·rw [key (by omega) (by omega),kw]
    have e:okT ⟨k,n,m,b,s,args⟩=decide (0≤n∧n≤63):=by simp [okT,k5]
    rw [e]
    exact Ev.neg k1 (Ev.neg k2 (Ev.neg k3 (Ev.neg k4 (Ev.pos k5 two_le))))
   by_cases k7:k=7
   ·rw [key (by omega) (by omega),kw]
    have e:okT ⟨k,n,m,b,s,args⟩=true:=by simp [okT,k7]
    rw [e]
    exact Ev.neg k1 (Ev.neg k2 (Ev.neg k3 (Ev.neg k4 (Ev.neg k5 (Ev.pos k7 (Ev.now _))))))
   by_cases k9:k=9
   ·rw [key (by omega) (by omega),kw]
    have e:okT ⟨k,n,m,b,s,args⟩=decide (((s.size:Nat):Int)≤400):=by simp [okT,k9]; omega
    rw [e]
    exact Ev.neg k1 (Ev.neg k2 (Ev.neg k3 (Ev.neg k4 (Ev.neg k5 (Ev.neg k7 (Ev.pos k9 (Ev.now _)))))))
   obtain ⟨r,h1,h2⟩:=hf
   by_cases k6:k=6
   ·refine Ev.neg k1 (Ev.neg k2 (Ev.neg k3 (Ev.neg k4 (Ev.neg k5 (Ev.neg k7 (Ev.neg k9 (Ev.pos k6 ?_)))))))
    have e:okT ⟨k,n,m,b,s,args⟩=decide (args.length≤8):=by simp [okT,k6]
    rw [e]
    by_cases hl:args.length≤8
    ·rw [decide_eq_true hl,vg]
     refine Ev.neg (by show ¬ ((args.length:Nat):Int) > 8; omega) (Ev.bind h1 ?_)
     cases r with
     |inl u=>rw [show rightsT args=true from h2]; exact Ev.now _
     |inr u=>rw [show rightsT args=false from h2]; exact Ev.now _
    ·rw [decide_eq_false hl,qm]
     exact Ev.pos (by show ((args.length:Nat):Int) > 8; omega) (Ev.now _)
   by_cases k8:k=8
   ·refine Ev.neg k1 (Ev.neg k2 (Ev.neg k3 (Ev.neg k4 (Ev.neg k5 (Ev.neg k7 (Ev.neg k9 (Ev.neg k6 (Ev.pos k8 ?_))))))))
    have e:okT ⟨k,n,m,b,s,args⟩=decide (args.length=2):=by simp [okT,k8]
    rw [e]
    by_cases hl:args.length=2
    ·rw [decide_eq_true hl,vg]
     refine Ev.neg (by show ¬ ((args.length:Nat):Int) ≠ 2; omega) (Ev.bind h1 ?_)
     cases r with
     |inl u=>rw [show rightsT args=true from h2]; exact Ev.now _
     |inr u=>rw [show rightsT args=false from h2]; exact Ev.now _
    ·rw [decide_eq_false hl,qm]
     exact Ev.pos (by show ((args.length:Nat):Int) ≠ 2; omega) (Ev.now _)
   ·have e:okT ⟨k,n,m,b,s,args⟩=false:=by simp [okT,k1,k2,k3,k4,k5,k6,k7,k8,k9]
    rw [e,qm]
    exact Ev.neg k1 (Ev.neg k2 (Ev.neg k3 (Ev.neg k4 (Ev.neg k5 (Ev.neg k7 (Ev.neg k9 (Ev.neg k6 (Ev.neg k8 (Ev.now _)))))))))
theorem forms_loop:∀ (ts:List Z00),(∀ x ∈ ts,Z0l x)→∀ (t:Z00) (i:Nat),t.fArgs.drop i=ts→t.fArgs.length≤maxLen →
  ∃ r,Ev (fun N=>beehiveref4_form_L0 N t i) r∧(match r with | .inl _=>rightsT ts=true | .inr _=>rightsT ts=false)
 |[],hw,l,i,hd,hl=>by
  have:=Z6l hd
  refine ⟨.inl (), ?_,by rw [rightsT]⟩
  refine Ev.step ?_ (fun N=>by rw [beehiveref4_form_L0])
  exact Ev.neg (by omega) (Ev.now _)
 |x::xs,hw,l,i,hd,hl=>by
  have hlen:=Z5o hd
  rw [Z4k] at hl
  have h1:=form_ev x (hw x (by simp))
  obtain ⟨r,e,hr⟩:=forms_loop xs (fun y hy=>hw y (by simp [hy])) l (i+1) (Z50 hd) (by rw [Z4k]; exact hl)
  cases hxx:rightT x with
  |true =>
   rw [hxx] at h1
   refine ⟨r, ?_, ?_⟩
   ·refine Ev.step ?_ (fun N=>by rw [beehiveref4_form_L0,Z3a (by omega)])
    exact Ev.pos (by omega) (Ev.bindc (Zjg hd) (Ev.bind h1 (Ev.neg (by simp) e)))
   ·rw [rightsT,hxx,vg]; exact hr
  |false =>
   rw [hxx] at h1
   refine ⟨.inr (), ?_,by rw [rightsT,hxx,qm]⟩
   refine Ev.step ?_ (fun N=>by rw [beehiveref4_form_L0])
   exact Ev.pos (by omega) (Ev.bindc (Zjg hd) (Ev.bind h1 (Ev.pos (by simp) (Ev.now _))))
end
end Go.Proofs.Ytllcnlonkloabaa.Sh
