import Derived.Test.YtllcnlonkloabaaPureParts
set_option linter.unusedVariables false
namespace Go.Proofs.Ytllcnlonkloabaa.Sh
open Go Lift Go.Proofs
theorem great_ev (x:Z00) (hw:Z0l x) (p:Int) (h1:-1≤p) (h2:p≤100000) :
  ∃ b,Ev (fun N=>Z46 N x p) b∧(b=false→Small x∧(cnt x:Int)≤p):=by
 obtain ⟨r,hr,r0,r1,r2⟩:=parts_top [x] (fun y hy=>by simp at hy; subst hy; exact hw) (by simp [Z4k]) p h1 h2
 refine ⟨decide (r > p),Ev.bind hr (Ev.now _),fun h=>?_⟩
 simp at h
 obtain ⟨s1,s2⟩:=r2 h
 simp [cnts] at s2
 exact ⟨s1 x (by simp),by omega⟩
end Go.Proofs.Ytllcnlonkloabaa.Sh
