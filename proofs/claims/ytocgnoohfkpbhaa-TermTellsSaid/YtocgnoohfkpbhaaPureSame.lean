import Derived.Test.YtocgnoohfkpbhaaPureParts
import Derived.Test.YtocgnoohfkpbhaaLift3
set_option linter.unusedVariables false
set_option linter.unusedSimpArgs false
namespace Go.Proofs.Ytocgnoohfkpbhaa.Sh
open Go Lift Go.Proofs
theorem sameLimbs_loop : ∀ (ts l : List Int) (i : Nat), l.drop i = ts → l.length ≤ 100000 → Ev (fun N => beehivelaw0_SameLimbs_L0 N l l i) (.inl ())
  | [], l, i, hd, hl => by
    have := drop_end hd
    refine Ev.step ?_ (fun N => by rw [beehivelaw0_SameLimbs_L0])
    exact Ev.neg (by omega) (Ev.now _)
  | x :: xs, l, i, hd, hl => by
    have hlen := drop_len hd
    refine Ev.step ?_ (fun N => by rw [beehivelaw0_SameLimbs_L0, wrap_succ (by omega)])
    exact Ev.pos (by omega) (Ev.bindc (idx_at hd) (Ev.bindc (idx_at hd) (Ev.neg (by simp) (sameLimbs_loop xs l (i + 1) (drop_next hd) hl))))
theorem sameNum_self (n : Tapi_Num) (hl : n.fMag.length ≤ 100000) : Ev (fun N => beehivelaw0_SameNum N n n) true :=
  Ev.pos rfl (Ev.bind (Ev.neg (by simp) (Ev.bind (sameLimbs_loop n.fMag n.fMag 0 rfl hl) (Ev.now _))) (Ev.now _))
end Go.Proofs.Ytocgnoohfkpbhaa.Sh
