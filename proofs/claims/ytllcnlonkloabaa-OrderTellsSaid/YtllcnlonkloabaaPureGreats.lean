import Derived.Test.YtllcnlonkloabaaPureParts
set_option linter.unusedVariables false
namespace Go.Proofs.Ytllcnlonkloabaa.Sh
open Go Lift Go.Proofs
theorem greats_ev (ts:List Z00) (hw:ListR Z0l ts) (p:Int) (h1:-1≤p) (h2:p≤100000) :
  ∃ b,Ev (fun N=>Z5a N ts p) b∧(b=false→(∀ x ∈ ts,Small x)∧(cnts ts:Int)≤p):=by
 obtain ⟨r,hr,r0,r1,r2⟩:=parts_top ts hw.all hw.len p h1 h2
 refine ⟨decide (r > p),Ev.bind hr (Ev.now _),fun h=>?_⟩
 simp at h
 obtain ⟨s1,s2⟩:=r2 h
 exact ⟨s1,by omega⟩
end Go.Proofs.Ytllcnlonkloabaa.Sh
