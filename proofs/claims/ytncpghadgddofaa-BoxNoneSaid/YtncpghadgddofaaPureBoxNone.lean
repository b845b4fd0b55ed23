import Derived.Test.YtncpghadgddofaaPureBoxA
set_option linter.unusedVariables false
namespace Go.Proofs.Ytncpghadgddofaa.Sh
open Go Lift Go.Proofs
namespace Pure
theorem BoxNone (x0 : Int) (w0 : (InR .i64) x0) : ∃ N, beehivelaw15_BoxNone N x0 = some true := by
  refine Ev.ex (f := fun N => beehivelaw15_BoxNone N x0) ?_
  have haw : Ev (fun N => (beehivelaw15_awake N).bind fun r3 => some r3) true := Ev.bind awake_ev (Ev.now _)
  refine Ev.bindc (a := ((0 : Int), false)) rfl (Ev.bindc (a := ((0 : Int), (0 : Int), false)) rfl (Ev.bind (a := true) ?_ (Ev.now _)))
  refine Ev.step ?_ (fun N => by rw [beehivelaw15_BoxNone_B0])
  exact Ev.bindc (a := false) rfl (Ev.pos (by simp) (Ev.pos rfl (Ev.pos (by simp) (Ev.bindc (a := false) rfl (Ev.pos (by simp) (Ev.pos rfl (Ev.pos rfl (Ev.pos (by simp) (Ev.bindc (a := (0 : Int)) rfl (Ev.pos rfl (Ev.bindc (a := []) rfl (Ev.pos rfl haw))))))))))))
end Pure
end Go.Proofs.Ytncpghadgddofaa.Sh
