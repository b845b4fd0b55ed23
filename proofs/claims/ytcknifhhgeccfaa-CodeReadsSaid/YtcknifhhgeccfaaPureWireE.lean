import Derived.Test.YtcknifhhgeccfaaPureWireD
set_option linter.unusedVariables false
set_option linter.unusedSimpArgs false
namespace Go.Proofs.Ytcknifhhgeccfaa.Sh
open Go Lift Go.Proofs
theorem bare_all {t:Z02} (h:bareT t=true):(t.fKind ≠ 2→t.fNum=⟨false,[]⟩)∧(¬ (t.fKind=1∨t.fKind=4∨t.fKind=5)→t.fN=0)∧(t.fKind ≠ 3→t.fBits=0)∧(t.fKind ≠ 9→t.fBytes=ByteArray.mk #[]):=by
  have hz:zNum t=true→t.fNum=⟨false,[]⟩:=fun h=>by
    unfold zNum at h
    rw [Bool.and_eq_true] at h
    have h1:=len0 (of_decide_eq_true h.1)
    have h2:t.fNum.fNeg=false:=by simpa using h.2
    cases hm:t.fNum with
    | mk a b=>rw [hm] at h1 h2; cases h1; cases h2; rfl
  have hn:zN t=true→t.fN=0:=fun h=>of_decide_eq_true h
  have hb:zB t=true→t.fBits=0:=fun h=>of_decide_eq_true h
  have hs:zS t=true→t.fBytes=ByteArray.mk #[]:=fun h=>of_decide_eq_true h
  unfold bareT at h
  split at h
  · simp only [Bool.and_eq_true] at h; exact ⟨fun _=>hz h.1.1.1,fun k=>absurd ‹_› k,fun _=>hb h.1.1.2,fun _=>hs h.1.2⟩
  split at h
  · simp only [Bool.and_eq_true] at h; exact ⟨fun k=>absurd ‹_› k,fun k=>hn h.1.1.1,fun _=>hb h.1.1.2,fun _=>hs h.1.2⟩
  split at h
  · simp only [Bool.and_eq_true] at h; exact ⟨fun _=>hz h.1.1.2,fun k=>hn h.1.1.1,fun k=>absurd ‹_› k,fun _=>hs h.1.2⟩
  split at h
  · simp only [Bool.and_eq_true] at h; exact ⟨fun _=>hz h.1.1.2,fun k=>hn h.1.1.1,fun _=>hb h.1.2,fun k=>absurd ‹_› k⟩
  split at h
  · simp only [Bool.and_eq_true] at h; exact ⟨fun _=>hz h.1.1.2,fun k=>hn h.1.1.1,fun _=>hb h.1.2,fun _=>hs h.2⟩
  · simp only [Bool.and_eq_true] at h; exact ⟨fun _=>hz h.1.1.1.2,fun k=>hn h.1.1.1.1,fun _=>hb h.1.1.2,fun _=>hs h.1.2⟩
theorem push_list:∀ (ys:List Int) (r:ByteArray),(ys.foldl (fun r n=>r.push (UInt8.ofNat n.toNat)) r).data.toList=r.data.toList++ys.map fun n=>UInt8.ofNat n.toNat
  | [],r=>by simp
  | y::ys,r=>by
    rw [List.foldl_cons,push_list ys]
    show (r.data.push (UInt8.ofNat y.toNat)).toList++_=_
    rw [Array.toList_push,List.append_assoc]
    rfl
theorem bstr_list (ys:List Int):(bstr ys).data.toList=ys.map fun n=>UInt8.ofNat n.toNat:=by
  unfold bstr
  rw [push_list]
  rfl
theorem bstr_len (ys:List Int):(bstr ys).size=ys.length:=by
  have:=congrArg List.length (bstr_list ys)
  rw [List.length_map] at this
  exact this
theorem Zco {ys:List Int} (h:bytesL ys):sbytes (bstr ys)=ys:=by
  unfold sbytes
  rw [bstr_list,List.map_map]
  conv=>rhs; rw [← List.map_id ys]
  refine List.map_congr_left fun y hy=>?_
  have:=h y hy
  show (((UInt8.ofNat y.toNat).toNat:Nat):Int)=y
  rw [UInt8.toNat_ofNat_of_lt' (show y.toNat < UInt8.size by show y.toNat < 256; omega)]
  omega
theorem bstr_sbytes (s:ByteArray):bstr (sbytes s)=s:=by
  apply ByteArray.ext
  apply Array.toList_inj.1
  rw [bstr_list]
  unfold sbytes
  rw [List.map_map]
  conv=>rhs; rw [← List.map_id s.data.toList]
  refine List.map_congr_left fun y hy=>?_
  show UInt8.ofNat ((y.toNat:Int)).toNat=y
  rw [Int.toNat_natCast,UInt8.ofNat_toNat]
theorem val8 {x:Int}:((valB 0 (beB (u64n x) 8):Nat):Int)=((u64n x:Nat):Int):=by
  rw [Zeq,show 256 ^ 8=18446744073709551616 by decide]
  have:u64n x < 18446744073709551616:=by unfold u64n; omega
  rw [Nat.mod_eq_of_lt this]
  omega
theorem back8 {x:Int} (h0:-9223372036854775808≤x) (h1:x≤9223372036854775807):IntKind.i64.wrap ((u64n x:Nat):Int)=x:=by
  rw [wrapI_eq]; unfold u64n; omega
abbrev rdr (b:List Int) (p:Nat) (left:Int):Z0a:=⟨b,(p:Int),left⟩
theorem Z8u {b:List Int} {p:Nat} {left k:Int} {rest:List Int} {v:Unit ⊕ (Int × Bool × (List Int) × Int × ByteArray × (List Z02) × (List Int) × Int × Int)} (hb:b.length≤500000) (hbb:bytesL b) (h1:1≤left) (h2:left≤1000) (hd:b.drop p=k::rest) (h:Ev (fun N=>wire_reader_term_B0 N (k,rdr b (p+1) (left - 1))) v) :
    Ev (fun N=>wire_reader_term N (rdr b p left)) (match (generalizing:=false) v with | .inl _=>none | .inr r=>some (⟨k,r.1,⟨r.2.1,r.2.2.1⟩,r.2.2.2.1,r.2.2.2.2.1,r.2.2.2.2.2.1⟩,⟨r.2.2.2.2.2.2.1,r.2.2.2.2.2.2.2.1,r.2.2.2.2.2.2.2.2⟩)):=by
  have hk:0≤k∧k < 256:=hbb k (List.mem_of_mem_drop (i:=p) (by rw [hd]; exact List.mem_cons_self))
  have hnum:=num_ok (xs:=[k]) (rest:=rest) 1 1 (left - 1) rfl hb hbb rfl (by omega) (by omega) hd
  rw [Z5h,Int.toNat_of_nonneg hk.1] at hnum
  refine Ev.step ?_ (fun N=>by rw [wire_reader_term])
  refine Ev.bind (Zc9 b (p:Int) left 1 (by omega) h1 h2) (Ev.bind hnum ?_)
  cases v with
  | inl u=>exact Ev.bind h (Ev.now _)
  | inr r =>
    refine Ev.bind h ?_
    show Ev (fun _=>some (some (Z02.mk (IntKind.i64.wrap k) _ _ _ _ _,_))) _
    rw [Zg6 k (by omega) (by omega)]
    exact Ev.now _
theorem kinds {t:Z02} (h:okT t=true):1≤t.fKind∧t.fKind≤9:=by
  unfold okT at h
  by_cases c:1≤t.fKind∧t.fKind≤9
  · exact c
  · rw [if_neg (by omega),if_neg (by omega),if_neg (by omega),if_neg (by omega),if_neg (by omega),if_neg (by omega),if_neg (by omega),if_neg (by omega),if_neg (by omega)] at h
    cases h
theorem big_ok {b:List Int} {p:Nat} {left:Int} {rest:List Int} (m:Z0m) (hb:b.length≤500000) (hbb:bytesL b) (h2:left≤1000) (hm:mayN m=true) (hs:(smallN m).2=false) (hl:lim32 m.fMag) (hw:(m.fMag.length:Int)≤left) (hd:b.drop p=((if m.fNeg=true then (1:Int) else 0)::IntKind.u8.wrap (m.fMag.length:Int)::magB m.fMag)++rest) :
    Ev (fun N=>Z42 N (rdr b p left)) (some (m,rdr b (p+2+4 * m.fMag.length) (left - m.fMag.length))):=by
  have h8:m.fMag.length≤8:=by
    unfold mayN at hm
    rw [Bool.and_eq_true] at hm
    exact of_decide_eq_true hm.1
  have ew:IntKind.u8.wrap (m.fMag.length:Int)=((m.fMag.length:Nat):Int):=by rw [Zg7]; omega
  rw [ew] at hd
  generalize hsg:(if m.fNeg=true then (1:Int) else 0)=sg at hd
  have hs01:sg=0∨sg=1:=by rw [← hsg]; split; exact .inr rfl; exact .inl rfl
  have n1:=num_ok (xs:=[sg]) (rest:=((m.fMag.length:Nat):Int)::(magB m.fMag++rest)) 1 1 left rfl hb hbb rfl (by omega) (by omega) hd
  rw [Z5h,Int.toNat_of_nonneg (by omega)] at n1
  have hd1:b.drop (p+1)=[((m.fMag.length:Nat):Int)]++(magB m.fMag++rest):=by
    have:=Z2u (xs:=[sg]) (rest:=((m.fMag.length:Nat):Int)::(magB m.fMag++rest)) hd
    exact this
  have n2:=num_ok (xs:=[((m.fMag.length:Nat):Int)]) 1 1 left rfl hb hbb rfl (by omega) (by omega) hd1
  rw [Z5h,Int.toNat_natCast] at n2
  have hd2:b.drop (p+1+1)=magB m.fMag++rest:=Z2u hd1
  have ll:=limbs_ok b hb hbb (sg,rdr b (p+1) left) (((m.fMag.length:Nat):Int),rdr b (p+1+1) left) m.fMag.length h8 rfl (left - m.fMag.length) rest m.fMag [] 0 (p+1+1) hl (by omega) rfl hd2
  rw [List.nil_append] at ll
  have hB0:=bigB0_ok (sg,rdr b (p+1) left) (((m.fMag.length:Nat):Int),rdr b (p+1+1) left) (by show ((m.fMag.length:Nat):Int) ≥ 0; omega) (by show ((m.fMag.length:Nat):Int) < 256; omega)
  rw [if_neg (by show ¬ (sg > 1∨((m.fMag.length:Nat):Int) > 8); omega)] at hB0
  have hneg:(sg == 1)=m.fNeg:=by rw [← hsg]; cases m.fNeg <;> rfl
  have hmk:(⟨sg == 1,m.fMag⟩:Z0m)=m:=by rw [hneg]
  refine Ev.bind n1 (Ev.bind n2 (Ev.bind hB0 ?_))
  have hwe:=Zc9 b ((p+1+1:Nat):Int) left (m.fMag.length:Int) (by omega) hw h2
  rw [← Z3t m.fMag.length (by omega)] at hwe
  refine Ev.bind hwe ?_
  rw [Z3t m.fMag.length (by omega)]
  refine Ev.bind ll ?_
  have hsm:=small_ev m hl
  have hmm:=nmay_ev m
  show Ev (fun N=>(Zca N ⟨sg == 1,m.fMag⟩).bind fun r19=>if r19.2=true then some none else (Zef N ⟨sg == 1,m.fMag⟩).bind fun r21=>if ¬ (r21=true) then some none else some (some ((⟨sg == 1,m.fMag⟩:Z0m),(Z0a.mk b ((p+1+1+4 * m.fMag.length:Nat):Int) (left - m.fMag.length))))) _
  rw [hmk]
  exact Ev.bind hsm (Ev.neg (by rw [hs]; exact Bool.false_ne_true) (Ev.bind hmm (Ev.neg (fun h=>h hm) (Ev.now _))))
end Go.Proofs.Ytcknifhhgeccfaa.Sh
