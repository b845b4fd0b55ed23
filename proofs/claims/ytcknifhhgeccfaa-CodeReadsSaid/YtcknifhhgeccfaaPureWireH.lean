import Derived.Test.YtcknifhhgeccfaaPureWireG
import Derived.Test.YtcknifhhgeccfaaPureSame
set_option linter.unusedVariables false
set_option linter.unusedSimpArgs false
namespace Go.Proofs.Ytcknifhhgeccfaa.Sh
open Go Lift Go.Proofs
def zT:Z02:=⟨0,0,⟨false,[]⟩,0,ByteArray.mk #[],[]⟩
theorem Read_ok {b:List Int} {p:Nat} {rest:List Int} {t:Z02} (hb:b.length≤500000) (hbb:bytesL b) (hp:p≤b.length) (s:Small t) (w:Z0t t) (hm:mayT t=true) (hd:b.drop p=layT t++rest):Ev (fun N=>Zc8 N b (p:Int)) (t,((p+(layT t).length:Nat):Int),true):=by
  obtain ⟨hw,hr⟩:=may_wt hm
  have h:=term_back b hb hbb t w hr p 300 rest hd hw (by omega)
  refine Ev.neg (by omega) (Ev.neg (by omega) (Ev.bind h (Ev.bind (mayT_ev t s w) (Ev.neg (fun k=>k hm) (Ev.bind (Ev.now _) (Ev.now _))))))
theorem Read_tot (b:List Int) (p:Nat) (hb:b.length≤500000) (hbb:bytesL b) (hp:p≤b.length) :
    ∃ v,Ev (fun N=>Zc8 N b (p:Int)) v∧(v=(zT,0,false)∨∃ t rest,v=(t,((p+(layT t).length:Nat):Int),true)∧b.drop p=layT t++rest∧mayT t=true∧Small t∧Z0t t):=by
  obtain ⟨r,hr,ho⟩:=term_tot b hb hbb 300 (by omega) p 300 hp (by omega) (by omega)
  rcases ho with rfl | ⟨t,rest,rfl,h1,h2,h3,h4⟩
  · exact ⟨_,Ev.neg (by omega) (Ev.neg (by omega) (Ev.bind hr (Ev.bind (Ev.now _) (Ev.now _)))),.inl rfl⟩
  · by_cases hm:mayT t=true
    · exact ⟨_,Ev.neg (by omega) (Ev.neg (by omega) (Ev.bind hr (Ev.bind (mayT_ev t h3 h4) (Ev.neg (fun k=>k hm) (Ev.bind (Ev.now _) (Ev.now _)))))),.inr ⟨t,rest,rfl,h1,hm,h3,h4⟩⟩
    · exact ⟨_,Ev.neg (by omega) (Ev.neg (by omega) (Ev.bind hr (Ev.bind (mayT_ev t h3 h4) (Ev.pos hm (Ev.bind (Ev.now _) (Ev.now _)))))),.inl rfl⟩
theorem bytes_of {l:List Int} (h:ListR (InR .u8) l):bytesL l:=fun x hx=>by
  have:(Lit.int .u8 x).wf=true:=h.all x hx
  simp [Lit.wf,IntKind.min,IntKind.max,IntKind.bits,IntKind.signed] at this
  omega
end Go.Proofs.Ytcknifhhgeccfaa.Sh
