/-
  NARROWER THAN 'FOR EVERY INPUT', by the rows' own cells (each row's printed sentence says how): OrderTotal: loops · OrderTells: loops · OrderSorts: loops · ArithTells: loops · ArithTurns: loops.
  DERIVED. THE GIVEN ROWS OF THIS SEAT. 8 by the template 'for every input the law returns true; each argument reads behind the call as it read before'; 0 by the template 'total and deterministic' (their statements: YtllcnlonkloabaaTotals.lean).
  GIVEN WITH THE SEED: the statements are not yours to turn. If you find one false, say at which input.
  Laid BY PROGRAM, IN A SANDBOX (cutbox-rows.mjs): the forced cells as the released guide's own fill.sh prints them over the translation 52748e4af176fe61… (all of the seat's roots in one cut). By AI agents, Wed Nov 11 2026. No macro, syntax, notation, axiom, sorry.
-/
import Derived.Test.YtllcnlonkloabaaChecked
import GoSem.Claim
import GoSem.ClaimJoined
import GoSem.ClaimMapViews
import Derived.JoinedTies
import Derived.KernelRfl
namespace Go.Proofs.Ytllcnlonkloabaa
/- THE CELL 'sum', in the pinned program and in every row, IS THE sha256 OF THE DUMP (.gsa) THAT YtllcnlonkloabaaProg.lean LOADS. Nothing in Lean hashes anything: it is a label: what it is worth is what the hold of that sum in a sandbox is worth. -/
noncomputable def Try.pinned : Pinned := { name := "ytllcnlonkloabaa", sum := "52748e4af176fe61ea876ec1b609d55320bc296038c73995816a41cfa5a94351", checked := Try.checked }
namespace Rows
def none {H : Type} : Left H := { results := [], args := [] }

/-- 'beehivelaw5.OrderLists': WHATEVER THE INPUT: true; the input reads as it did. -/
def orderListsSpec : ChangeSpec := { name := "orderLists", fn := fun _ => fun
  | [d1, d2] => { results := [.lit (.bool true)], args := [d1, d2] }
  | _ => none }
def orderListsRow : OpenClaim := { program := "ytllcnlonkloabaa", sum := "52748e4af176fe61ea876ec1b609d55320bc296038c73995816a41cfa5a94351", func := "beehive/beehivelaw5.OrderLists", spec := "orderLists", inPlace := ["math.Float64frombits", "math.Float64bits", "math.archTrunc", "internal/bytealg.abigen_runtime_cmpstring"], unfollowed := true, recurses := true, apart := false }
def OrderListsSaid : Prop := orderListsRow.holds Try.pinned (OpenSpec.ofChange orderListsSpec)

/-- ITS FALSE NEIGHBOUR: 'it returns false'. Refute it at one input. -/
def orderListsWrong : ChangeSpec := { name := "orderLists", fn := fun _ => fun
  | [d1, d2] => { results := [.lit (.bool false)], args := [d1, d2] }
  | _ => none }
def OrderListsWrongFalsely : Prop := orderListsRow.holds Try.pinned (OpenSpec.ofChange orderListsWrong)

/-- 'beehivelaw5.OrderClasses': WHATEVER THE INPUT: true; the input reads as it did. -/
def orderClassesSpec : ChangeSpec := { name := "orderClasses", fn := fun _ => fun
  | [d1, d2, d3, d4] => { results := [.lit (.bool true)], args := [d1, d2, d3, d4] }
  | _ => none }
def orderClassesRow : OpenClaim := { program := "ytllcnlonkloabaa", sum := "52748e4af176fe61ea876ec1b609d55320bc296038c73995816a41cfa5a94351", func := "beehive/beehivelaw5.OrderClasses", spec := "orderClasses", inPlace := ["math.Float64frombits", "math.Float64bits", "math.archTrunc", "internal/bytealg.abigen_runtime_cmpstring"], unfollowed := true, recurses := true, apart := false }
def OrderClassesSaid : Prop := orderClassesRow.holds Try.pinned (OpenSpec.ofChange orderClassesSpec)

/-- ITS FALSE NEIGHBOUR: 'it returns false'. Refute it at one input. -/
def orderClassesWrong : ChangeSpec := { name := "orderClasses", fn := fun _ => fun
  | [d1, d2, d3, d4] => { results := [.lit (.bool false)], args := [d1, d2, d3, d4] }
  | _ => none }
def OrderClassesWrongFalsely : Prop := orderClassesRow.holds Try.pinned (OpenSpec.ofChange orderClassesWrong)

/-- 'beehivelaw5.OrderTotal': WHATEVER THE INPUT: true; the input reads as it did. -/
def orderTotalSpec : ChangeSpec := { name := "orderTotal", fn := fun _ => fun
  | [d1, d2, d3] => { results := [.lit (.bool true)], args := [d1, d2, d3] }
  | _ => none }
def orderTotalRow : OpenClaim := { program := "ytllcnlonkloabaa", sum := "52748e4af176fe61ea876ec1b609d55320bc296038c73995816a41cfa5a94351", func := "beehive/beehivelaw5.OrderTotal", spec := "orderTotal", inPlace := ["math.Float64frombits", "math.Float64bits", "math.archTrunc", "internal/bytealg.abigen_runtime_cmpstring"], unfollowed := true, recurses := true, loops := true, apart := false }
def OrderTotalSaid : Prop := orderTotalRow.holds Try.pinned (OpenSpec.ofChange orderTotalSpec)

/-- ITS FALSE NEIGHBOUR: 'it returns false'. Refute it at one input. -/
def orderTotalWrong : ChangeSpec := { name := "orderTotal", fn := fun _ => fun
  | [d1, d2, d3] => { results := [.lit (.bool false)], args := [d1, d2, d3] }
  | _ => none }
def OrderTotalWrongFalsely : Prop := orderTotalRow.holds Try.pinned (OpenSpec.ofChange orderTotalWrong)

/-- 'beehivelaw5.OrderTells': WHATEVER THE INPUT: true; the input reads as it did. -/
def orderTellsSpec : ChangeSpec := { name := "orderTells", fn := fun _ => fun
  | [d1, d2, d3] => { results := [.lit (.bool true)], args := [d1, d2, d3] }
  | _ => none }
def orderTellsRow : OpenClaim := { program := "ytllcnlonkloabaa", sum := "52748e4af176fe61ea876ec1b609d55320bc296038c73995816a41cfa5a94351", func := "beehive/beehivelaw5.OrderTells", spec := "orderTells", inPlace := ["math.Float64frombits", "math.Float64bits", "math.archTrunc", "internal/bytealg.abigen_runtime_cmpstring"], unfollowed := true, recurses := true, loops := true, apart := false }
def OrderTellsSaid : Prop := orderTellsRow.holds Try.pinned (OpenSpec.ofChange orderTellsSpec)

/-- ITS FALSE NEIGHBOUR: 'it returns false'. Refute it at one input. -/
def orderTellsWrong : ChangeSpec := { name := "orderTells", fn := fun _ => fun
  | [d1, d2, d3] => { results := [.lit (.bool false)], args := [d1, d2, d3] }
  | _ => none }
def OrderTellsWrongFalsely : Prop := orderTellsRow.holds Try.pinned (OpenSpec.ofChange orderTellsWrong)

/-- 'beehivelaw5.OrderSorts': WHATEVER THE INPUT: true; the input reads as it did. -/
def orderSortsSpec : ChangeSpec := { name := "orderSorts", fn := fun _ => fun
  | [d] => { results := [.lit (.bool true)], args := [d] }
  | _ => none }
def orderSortsRow : OpenClaim := { program := "ytllcnlonkloabaa", sum := "52748e4af176fe61ea876ec1b609d55320bc296038c73995816a41cfa5a94351", func := "beehive/beehivelaw5.OrderSorts", spec := "orderSorts", inPlace := ["math.Float64frombits", "math.Float64bits", "math.archTrunc", "internal/bytealg.abigen_runtime_cmpstring"], unfollowed := true, recurses := true, loops := true, apart := false }
def OrderSortsSaid : Prop := orderSortsRow.holds Try.pinned (OpenSpec.ofChange orderSortsSpec)

/-- ITS FALSE NEIGHBOUR: 'it returns false'. Refute it at one input. -/
def orderSortsWrong : ChangeSpec := { name := "orderSorts", fn := fun _ => fun
  | [d] => { results := [.lit (.bool false)], args := [d] }
  | _ => none }
def OrderSortsWrongFalsely : Prop := orderSortsRow.holds Try.pinned (OpenSpec.ofChange orderSortsWrong)

/-- 'beehivelaw6.ArithTells': WHATEVER THE INPUT: true; the input reads as it did. -/
def arithTellsSpec : ChangeSpec := { name := "arithTells", fn := fun _ => fun
  | [d1, d2, d3] => { results := [.lit (.bool true)], args := [d1, d2, d3] }
  | _ => none }
def arithTellsRow : OpenClaim := { program := "ytllcnlonkloabaa", sum := "52748e4af176fe61ea876ec1b609d55320bc296038c73995816a41cfa5a94351", func := "beehive/beehivelaw6.ArithTells", spec := "arithTells", inPlace := ["math.Float64frombits", "math.Float64bits"], unfollowed := true, recurses := true, loops := true, apart := false }
def ArithTellsSaid : Prop := arithTellsRow.holds Try.pinned (OpenSpec.ofChange arithTellsSpec)

/-- ITS FALSE NEIGHBOUR: 'it returns false'. Refute it at one input. -/
def arithTellsWrong : ChangeSpec := { name := "arithTells", fn := fun _ => fun
  | [d1, d2, d3] => { results := [.lit (.bool false)], args := [d1, d2, d3] }
  | _ => none }
def ArithTellsWrongFalsely : Prop := arithTellsRow.holds Try.pinned (OpenSpec.ofChange arithTellsWrong)

/-- 'beehivelaw6.ArithTurns': WHATEVER THE INPUT: true; the input reads as it did. -/
def arithTurnsSpec : ChangeSpec := { name := "arithTurns", fn := fun _ => fun
  | [d1, d2] => { results := [.lit (.bool true)], args := [d1, d2] }
  | _ => none }
def arithTurnsRow : OpenClaim := { program := "ytllcnlonkloabaa", sum := "52748e4af176fe61ea876ec1b609d55320bc296038c73995816a41cfa5a94351", func := "beehive/beehivelaw6.ArithTurns", spec := "arithTurns", inPlace := ["math.Float64frombits", "math.Float64bits"], unfollowed := true, recurses := true, loops := true, apart := false }
def ArithTurnsSaid : Prop := arithTurnsRow.holds Try.pinned (OpenSpec.ofChange arithTurnsSpec)

/-- ITS FALSE NEIGHBOUR: 'it returns false'. Refute it at one input. -/
def arithTurnsWrong : ChangeSpec := { name := "arithTurns", fn := fun _ => fun
  | [d1, d2] => { results := [.lit (.bool false)], args := [d1, d2] }
  | _ => none }
def ArithTurnsWrongFalsely : Prop := arithTurnsRow.holds Try.pinned (OpenSpec.ofChange arithTurnsWrong)

/-- 'beehivelaw6.ArithRound': WHATEVER THE INPUT: true; the input reads as it did. -/
def arithRoundSpec : ChangeSpec := { name := "arithRound", fn := fun _ => fun
  | [d1, d2, d3] => { results := [.lit (.bool true)], args := [d1, d2, d3] }
  | _ => none }
def arithRoundRow : OpenClaim := { program := "ytllcnlonkloabaa", sum := "52748e4af176fe61ea876ec1b609d55320bc296038c73995816a41cfa5a94351", func := "beehive/beehivelaw6.ArithRound", spec := "arithRound", inPlace := ["math.Float64frombits", "math.Float64bits"], unfollowed := true, recurses := true, apart := false }
def ArithRoundSaid : Prop := arithRoundRow.holds Try.pinned (OpenSpec.ofChange arithRoundSpec)

/-- ITS FALSE NEIGHBOUR: 'it returns false'. Refute it at one input. -/
def arithRoundWrong : ChangeSpec := { name := "arithRound", fn := fun _ => fun
  | [d1, d2, d3] => { results := [.lit (.bool false)], args := [d1, d2, d3] }
  | _ => none }
def ArithRoundWrongFalsely : Prop := arithRoundRow.holds Try.pinned (OpenSpec.ofChange arithRoundWrong)

/- THE SECOND FORM. 'bulk': how many values and letters a reading holds, each counted each time it is reached (what is shared counts as often as it is met; a slice's spare places count too). A statement '..UptoSaid' is the law's where the arguments, and the package variables that the reading takes, are together of bulk at most 1048576: NARROWER than '..Said'. Prove '..Said' where nothing that the law and all that it calls make is longer than what came in: it says more and counts as full. Else prove '..UptoSaid'. A law counts once. -/
mutual
def uptoBulk {H : Type} : DataW H → Nat
  | .lit (.string bytes) => bytes.length + 1
  | .lit _ => 1
  | .nil => 1
  | .ptr d => uptoBulk d + 1
  | .slice elems spare => uptoBulkAll elems + uptoBulkAll spare + 1
  | .agg parts => uptoBulkAll parts + 1
  | .iface _ d => uptoBulk d + 1
  | .map entries => uptoBulkEntries entries + 1
  | .held _ => 1
def uptoBulkAll {H : Type} : List (DataW H) → Nat
  | [] => 0
  | d :: r => uptoBulk d + uptoBulkAll r
def uptoBulkEntries {H : Type} : List (Lit × DataW H) → Nat
  | [] => 0
  | x :: r => uptoBulkEntry x + uptoBulkEntries r
def uptoBulkEntry {H : Type} : Lit × DataW H → Nat
  | (.string bytes, d) => bytes.length + uptoBulk d + 1
  | (_, d) => uptoBulk d + 1
 end
def uptoSmall : (H : Type) → List (DataW H) → Bool := fun _ ds => decide (uptoBulkAll ds ≤ 1048576)
def OpenSpec.upto (s : _root_.Go.ChangeSpec) : _root_.Go.OpenSpec := { _root_.Go.OpenSpec.ofChange s with cond := some uptoSmall }

/-- 'beehivelaw5.OrderLists', WHERE WHAT IT READS IS OF BULK AT MOST 1048576: true; the input reads as it did. -/
def orderListsUptoRow : OpenClaim := { program := "ytllcnlonkloabaa", sum := "52748e4af176fe61ea876ec1b609d55320bc296038c73995816a41cfa5a94351", func := "beehive/beehivelaw5.OrderLists", spec := "orderLists", inPlace := ["math.Float64frombits", "math.Float64bits", "math.archTrunc", "internal/bytealg.abigen_runtime_cmpstring"], unfollowed := true, recurses := true, apart := false, narrowed := true }
def OrderListsUptoSaid : Prop := orderListsUptoRow.holds Try.pinned (OpenSpec.upto orderListsSpec)

/-- 'beehivelaw5.OrderClasses', WHERE WHAT IT READS IS OF BULK AT MOST 1048576: true; the input reads as it did. -/
def orderClassesUptoRow : OpenClaim := { program := "ytllcnlonkloabaa", sum := "52748e4af176fe61ea876ec1b609d55320bc296038c73995816a41cfa5a94351", func := "beehive/beehivelaw5.OrderClasses", spec := "orderClasses", inPlace := ["math.Float64frombits", "math.Float64bits", "math.archTrunc", "internal/bytealg.abigen_runtime_cmpstring"], unfollowed := true, recurses := true, apart := false, narrowed := true }
def OrderClassesUptoSaid : Prop := orderClassesUptoRow.holds Try.pinned (OpenSpec.upto orderClassesSpec)

/-- 'beehivelaw5.OrderTotal', WHERE WHAT IT READS IS OF BULK AT MOST 1048576: true; the input reads as it did. -/
def orderTotalUptoRow : OpenClaim := { program := "ytllcnlonkloabaa", sum := "52748e4af176fe61ea876ec1b609d55320bc296038c73995816a41cfa5a94351", func := "beehive/beehivelaw5.OrderTotal", spec := "orderTotal", inPlace := ["math.Float64frombits", "math.Float64bits", "math.archTrunc", "internal/bytealg.abigen_runtime_cmpstring"], unfollowed := true, recurses := true, loops := true, apart := false, narrowed := true }
def OrderTotalUptoSaid : Prop := orderTotalUptoRow.holds Try.pinned (OpenSpec.upto orderTotalSpec)

/-- 'beehivelaw5.OrderTells', WHERE WHAT IT READS IS OF BULK AT MOST 1048576: true; the input reads as it did. -/
def orderTellsUptoRow : OpenClaim := { program := "ytllcnlonkloabaa", sum := "52748e4af176fe61ea876ec1b609d55320bc296038c73995816a41cfa5a94351", func := "beehive/beehivelaw5.OrderTells", spec := "orderTells", inPlace := ["math.Float64frombits", "math.Float64bits", "math.archTrunc", "internal/bytealg.abigen_runtime_cmpstring"], unfollowed := true, recurses := true, loops := true, apart := false, narrowed := true }
def OrderTellsUptoSaid : Prop := orderTellsUptoRow.holds Try.pinned (OpenSpec.upto orderTellsSpec)

/-- 'beehivelaw5.OrderSorts', WHERE WHAT IT READS IS OF BULK AT MOST 1048576: true; the input reads as it did. -/
def orderSortsUptoRow : OpenClaim := { program := "ytllcnlonkloabaa", sum := "52748e4af176fe61ea876ec1b609d55320bc296038c73995816a41cfa5a94351", func := "beehive/beehivelaw5.OrderSorts", spec := "orderSorts", inPlace := ["math.Float64frombits", "math.Float64bits", "math.archTrunc", "internal/bytealg.abigen_runtime_cmpstring"], unfollowed := true, recurses := true, loops := true, apart := false, narrowed := true }
def OrderSortsUptoSaid : Prop := orderSortsUptoRow.holds Try.pinned (OpenSpec.upto orderSortsSpec)

/-- 'beehivelaw6.ArithTells', WHERE WHAT IT READS IS OF BULK AT MOST 1048576: true; the input reads as it did. -/
def arithTellsUptoRow : OpenClaim := { program := "ytllcnlonkloabaa", sum := "52748e4af176fe61ea876ec1b609d55320bc296038c73995816a41cfa5a94351", func := "beehive/beehivelaw6.ArithTells", spec := "arithTells", inPlace := ["math.Float64frombits", "math.Float64bits"], unfollowed := true, recurses := true, loops := true, apart := false, narrowed := true }
def ArithTellsUptoSaid : Prop := arithTellsUptoRow.holds Try.pinned (OpenSpec.upto arithTellsSpec)

/-- 'beehivelaw6.ArithTurns', WHERE WHAT IT READS IS OF BULK AT MOST 1048576: true; the input reads as it did. -/
def arithTurnsUptoRow : OpenClaim := { program := "ytllcnlonkloabaa", sum := "52748e4af176fe61ea876ec1b609d55320bc296038c73995816a41cfa5a94351", func := "beehive/beehivelaw6.ArithTurns", spec := "arithTurns", inPlace := ["math.Float64frombits", "math.Float64bits"], unfollowed := true, recurses := true, loops := true, apart := false, narrowed := true }
def ArithTurnsUptoSaid : Prop := arithTurnsUptoRow.holds Try.pinned (OpenSpec.upto arithTurnsSpec)

/-- 'beehivelaw6.ArithRound', WHERE WHAT IT READS IS OF BULK AT MOST 1048576: true; the input reads as it did. -/
def arithRoundUptoRow : OpenClaim := { program := "ytllcnlonkloabaa", sum := "52748e4af176fe61ea876ec1b609d55320bc296038c73995816a41cfa5a94351", func := "beehive/beehivelaw6.ArithRound", spec := "arithRound", inPlace := ["math.Float64frombits", "math.Float64bits"], unfollowed := true, recurses := true, apart := false, narrowed := true }
def ArithRoundUptoSaid : Prop := arithRoundUptoRow.holds Try.pinned (OpenSpec.upto arithRoundSpec)

end Rows
end Go.Proofs.Ytllcnlonkloabaa
