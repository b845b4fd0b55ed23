import Derived.Test.YtncpghadgddofaaPureStoreA
set_option linter.unusedVariables false
namespace Go.Proofs.Ytncpghadgddofaa.Sh
open Go Lift Go.Proofs
namespace Pure
theorem StoreNone (x0 : Int) (w0 : (InR .i64) x0) : ∃ N, beehivelaw10_StoreNone N x0 = some true := by
  refine Ev.ex (f := fun N => beehivelaw10_StoreNone N x0) ?_
  refine Ev.bind (Ev.now _) (Ev.bind (Ev.pos (by decide) (Ev.now _)) (Ev.bind (a := true) ?_ (Ev.now _)))
  refine Ev.step ?_ (fun N => by rw [beehivelaw10_StoreNone_B0])
  refine Ev.pos rfl (Ev.pos rfl (Ev.pos rfl (Ev.pos rfl (Ev.pos rfl ?_))))
  refine Ev.bind (a := 1) (Ev.neg (by decide) (Ev.now _)) (Ev.pos rfl (Ev.bind (a := 1) (Ev.pos (by decide) (Ev.now _)) (Ev.pos rfl (Ev.bind (Ev.now _) (Ev.pos rfl ?_)))))
  have hb : Ev (fun N => store_Store_Bytes N) 0 := Ev.from 3 (fun N => by kernel_rfl)
  have hl : Ev (fun N => store_Store_Len N) 0 := Ev.from 3 (fun N => by kernel_rfl)
  exact Ev.bind hb (Ev.pos rfl (Ev.bind hl (Ev.pos rfl (Ev.bind awake_ev (Ev.now _)))))
end Pure
end Go.Proofs.Ytncpghadgddofaa.Sh
