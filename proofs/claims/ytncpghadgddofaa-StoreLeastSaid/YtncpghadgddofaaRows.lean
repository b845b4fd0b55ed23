/-
  No cell of these rows narrows 'for every input' (looked for: loops, veiled, ifaces, maps, wideKeys, modest, calm, conditions, laid).
  DERIVED. THE GIVEN ROWS OF THIS SEAT. 11 by the template 'for every input the law returns true; each argument reads behind the call as it read before'; 0 by the template 'total and deterministic' (their statements: YtncpghadgddofaaTotals.lean).
  GIVEN WITH THE SEED: the statements are not yours to turn. If you find one false, say at which input.
  Laid BY PROGRAM, IN A SANDBOX (cutbox-rows.mjs): the forced cells as the released guide's own fill.sh prints them over the translation 1b37b7b73426cb46… (all of the seat's roots in one cut). By AI agents, Wed Nov 11 2026. No macro, syntax, notation, axiom, sorry.
-/
import Derived.Test.YtncpghadgddofaaChecked
import GoSem.Claim
import GoSem.ClaimJoined
import GoSem.ClaimMapViews
import Derived.JoinedTies
import Derived.KernelRfl
namespace Go.Proofs.Ytncpghadgddofaa
/- THE CELL 'sum', in the pinned program and in every row, IS THE sha256 OF THE DUMP (.gsa) THAT YtncpghadgddofaaProg.lean LOADS. Nothing in Lean hashes anything: it is a label: what it is worth is what the hold of that sum in a sandbox is worth. -/
noncomputable def Try.pinned : Pinned := { name := "ytncpghadgddofaa", sum := "1b37b7b73426cb46d164792f7feca2b6e9203c5cd503f66c033e528155809062", checked := Try.checked }
namespace Rows
def none {H : Type} : Left H := { results := [], args := [] }

/-- 'beehivelaw16.QueueScript': WHATEVER THE INPUT: true; the input reads as it did. -/
def queueScriptSpec : ChangeSpec := { name := "queueScript", fn := fun _ => fun
  | [d] => { results := [.lit (.bool true)], args := [d] }
  | _ => none }
def queueScriptRow : OpenClaim := { program := "ytncpghadgddofaa", sum := "1b37b7b73426cb46d164792f7feca2b6e9203c5cd503f66c033e528155809062", func := "beehive/beehivelaw16.QueueScript", spec := "queueScript", apart := false }
def QueueScriptSaid : Prop := queueScriptRow.holds Try.pinned (OpenSpec.ofChange queueScriptSpec)

/-- ITS FALSE NEIGHBOUR: 'it returns false'. Refute it at one input. -/
def queueScriptWrong : ChangeSpec := { name := "queueScript", fn := fun _ => fun
  | [d] => { results := [.lit (.bool false)], args := [d] }
  | _ => none }
def QueueScriptWrongFalsely : Prop := queueScriptRow.holds Try.pinned (OpenSpec.ofChange queueScriptWrong)

/-- 'beehivelaw16.QueueTurns': WHATEVER THE INPUT: true; the input reads as it did. -/
def queueTurnsSpec : ChangeSpec := { name := "queueTurns", fn := fun _ => fun
  | [d1, d2] => { results := [.lit (.bool true)], args := [d1, d2] }
  | _ => none }
def queueTurnsRow : OpenClaim := { program := "ytncpghadgddofaa", sum := "1b37b7b73426cb46d164792f7feca2b6e9203c5cd503f66c033e528155809062", func := "beehive/beehivelaw16.QueueTurns", spec := "queueTurns", apart := false }
def QueueTurnsSaid : Prop := queueTurnsRow.holds Try.pinned (OpenSpec.ofChange queueTurnsSpec)

/-- ITS FALSE NEIGHBOUR: 'it returns false'. Refute it at one input. -/
def queueTurnsWrong : ChangeSpec := { name := "queueTurns", fn := fun _ => fun
  | [d1, d2] => { results := [.lit (.bool false)], args := [d1, d2] }
  | _ => none }
def QueueTurnsWrongFalsely : Prop := queueTurnsRow.holds Try.pinned (OpenSpec.ofChange queueTurnsWrong)

/-- 'beehivelaw16.QueueFair': WHATEVER THE INPUT: true; the input reads as it did. -/
def queueFairSpec : ChangeSpec := { name := "queueFair", fn := fun _ => fun
  | [d1, d2] => { results := [.lit (.bool true)], args := [d1, d2] }
  | _ => none }
def queueFairRow : OpenClaim := { program := "ytncpghadgddofaa", sum := "1b37b7b73426cb46d164792f7feca2b6e9203c5cd503f66c033e528155809062", func := "beehive/beehivelaw16.QueueFair", spec := "queueFair", apart := false }
def QueueFairSaid : Prop := queueFairRow.holds Try.pinned (OpenSpec.ofChange queueFairSpec)

/-- ITS FALSE NEIGHBOUR: 'it returns false'. Refute it at one input. -/
def queueFairWrong : ChangeSpec := { name := "queueFair", fn := fun _ => fun
  | [d1, d2] => { results := [.lit (.bool false)], args := [d1, d2] }
  | _ => none }
def QueueFairWrongFalsely : Prop := queueFairRow.holds Try.pinned (OpenSpec.ofChange queueFairWrong)

/-- 'beehivelaw15.BoxScript': WHATEVER THE INPUT: true; the input reads as it did. -/
def boxScriptSpec : ChangeSpec := { name := "boxScript", fn := fun _ => fun
  | [d1, d2] => { results := [.lit (.bool true)], args := [d1, d2] }
  | _ => none }
def boxScriptRow : OpenClaim := { program := "ytncpghadgddofaa", sum := "1b37b7b73426cb46d164792f7feca2b6e9203c5cd503f66c033e528155809062", func := "beehive/beehivelaw15.BoxScript", spec := "boxScript", apart := false }
def BoxScriptSaid : Prop := boxScriptRow.holds Try.pinned (OpenSpec.ofChange boxScriptSpec)

/-- ITS FALSE NEIGHBOUR: 'it returns false'. Refute it at one input. -/
def boxScriptWrong : ChangeSpec := { name := "boxScript", fn := fun _ => fun
  | [d1, d2] => { results := [.lit (.bool false)], args := [d1, d2] }
  | _ => none }
def BoxScriptWrongFalsely : Prop := boxScriptRow.holds Try.pinned (OpenSpec.ofChange boxScriptWrong)

/-- 'beehivelaw15.BoxSelects': WHATEVER THE INPUT: true; the input reads as it did. -/
def boxSelectsSpec : ChangeSpec := { name := "boxSelects", fn := fun _ => fun
  | [d1, d2] => { results := [.lit (.bool true)], args := [d1, d2] }
  | _ => none }
def boxSelectsRow : OpenClaim := { program := "ytncpghadgddofaa", sum := "1b37b7b73426cb46d164792f7feca2b6e9203c5cd503f66c033e528155809062", func := "beehive/beehivelaw15.BoxSelects", spec := "boxSelects", apart := false }
def BoxSelectsSaid : Prop := boxSelectsRow.holds Try.pinned (OpenSpec.ofChange boxSelectsSpec)

/-- ITS FALSE NEIGHBOUR: 'it returns false'. Refute it at one input. -/
def boxSelectsWrong : ChangeSpec := { name := "boxSelects", fn := fun _ => fun
  | [d1, d2] => { results := [.lit (.bool false)], args := [d1, d2] }
  | _ => none }
def BoxSelectsWrongFalsely : Prop := boxSelectsRow.holds Try.pinned (OpenSpec.ofChange boxSelectsWrong)

/-- 'beehivelaw15.BoxNone': WHATEVER THE INPUT: true; the input reads as it did. -/
def boxNoneSpec : ChangeSpec := { name := "boxNone", fn := fun _ => fun
  | [d] => { results := [.lit (.bool true)], args := [d] }
  | _ => none }
def boxNoneRow : OpenClaim := { program := "ytncpghadgddofaa", sum := "1b37b7b73426cb46d164792f7feca2b6e9203c5cd503f66c033e528155809062", func := "beehive/beehivelaw15.BoxNone", spec := "boxNone", apart := false }
def BoxNoneSaid : Prop := boxNoneRow.holds Try.pinned (OpenSpec.ofChange boxNoneSpec)

/-- ITS FALSE NEIGHBOUR: 'it returns false'. Refute it at one input. -/
def boxNoneWrong : ChangeSpec := { name := "boxNone", fn := fun _ => fun
  | [d] => { results := [.lit (.bool false)], args := [d] }
  | _ => none }
def BoxNoneWrongFalsely : Prop := boxNoneRow.holds Try.pinned (OpenSpec.ofChange boxNoneWrong)

/-- 'beehivelaw15.BoxGrows': WHATEVER THE INPUT: true; the input reads as it did. -/
def boxGrowsSpec : ChangeSpec := { name := "boxGrows", fn := fun _ => fun
  | [d1, d2] => { results := [.lit (.bool true)], args := [d1, d2] }
  | _ => none }
def boxGrowsRow : OpenClaim := { program := "ytncpghadgddofaa", sum := "1b37b7b73426cb46d164792f7feca2b6e9203c5cd503f66c033e528155809062", func := "beehive/beehivelaw15.BoxGrows", spec := "boxGrows", apart := false }
def BoxGrowsSaid : Prop := boxGrowsRow.holds Try.pinned (OpenSpec.ofChange boxGrowsSpec)

/-- ITS FALSE NEIGHBOUR: 'it returns false'. Refute it at one input. -/
def boxGrowsWrong : ChangeSpec := { name := "boxGrows", fn := fun _ => fun
  | [d1, d2] => { results := [.lit (.bool false)], args := [d1, d2] }
  | _ => none }
def BoxGrowsWrongFalsely : Prop := boxGrowsRow.holds Try.pinned (OpenSpec.ofChange boxGrowsWrong)

/-- 'beehivelaw10.StoreScript': WHATEVER THE INPUT: true; the input reads as it did. -/
def storeScriptSpec : ChangeSpec := { name := "storeScript", fn := fun _ => fun
  | [d] => { results := [.lit (.bool true)], args := [d] }
  | _ => none }
def storeScriptRow : OpenClaim := { program := "ytncpghadgddofaa", sum := "1b37b7b73426cb46d164792f7feca2b6e9203c5cd503f66c033e528155809062", func := "beehive/beehivelaw10.StoreScript", spec := "storeScript", unfollowed := true, recurses := true, apart := false }
def StoreScriptSaid : Prop := storeScriptRow.holds Try.pinned (OpenSpec.ofChange storeScriptSpec)

/-- ITS FALSE NEIGHBOUR: 'it returns false'. Refute it at one input. -/
def storeScriptWrong : ChangeSpec := { name := "storeScript", fn := fun _ => fun
  | [d] => { results := [.lit (.bool false)], args := [d] }
  | _ => none }
def StoreScriptWrongFalsely : Prop := storeScriptRow.holds Try.pinned (OpenSpec.ofChange storeScriptWrong)

/-- 'beehivelaw10.StoreLeast': WHATEVER THE INPUT: true; the input reads as it did. -/
def storeLeastSpec : ChangeSpec := { name := "storeLeast", fn := fun _ => fun
  | [d1, d2, d3] => { results := [.lit (.bool true)], args := [d1, d2, d3] }
  | _ => none }
def storeLeastRow : OpenClaim := { program := "ytncpghadgddofaa", sum := "1b37b7b73426cb46d164792f7feca2b6e9203c5cd503f66c033e528155809062", func := "beehive/beehivelaw10.StoreLeast", spec := "storeLeast", unfollowed := true, recurses := true, apart := false }
def StoreLeastSaid : Prop := storeLeastRow.holds Try.pinned (OpenSpec.ofChange storeLeastSpec)

/-- ITS FALSE NEIGHBOUR: 'it returns false'. Refute it at one input. -/
def storeLeastWrong : ChangeSpec := { name := "storeLeast", fn := fun _ => fun
  | [d1, d2, d3] => { results := [.lit (.bool false)], args := [d1, d2, d3] }
  | _ => none }
def StoreLeastWrongFalsely : Prop := storeLeastRow.holds Try.pinned (OpenSpec.ofChange storeLeastWrong)

/-- 'beehivelaw10.StoreCounts': WHATEVER THE INPUT: true; the input reads as it did. -/
def storeCountsSpec : ChangeSpec := { name := "storeCounts", fn := fun _ => fun
  | [d1, d2] => { results := [.lit (.bool true)], args := [d1, d2] }
  | _ => none }
def storeCountsRow : OpenClaim := { program := "ytncpghadgddofaa", sum := "1b37b7b73426cb46d164792f7feca2b6e9203c5cd503f66c033e528155809062", func := "beehive/beehivelaw10.StoreCounts", spec := "storeCounts", unfollowed := true, recurses := true, apart := false }
def StoreCountsSaid : Prop := storeCountsRow.holds Try.pinned (OpenSpec.ofChange storeCountsSpec)

/-- ITS FALSE NEIGHBOUR: 'it returns false'. Refute it at one input. -/
def storeCountsWrong : ChangeSpec := { name := "storeCounts", fn := fun _ => fun
  | [d1, d2] => { results := [.lit (.bool false)], args := [d1, d2] }
  | _ => none }
def StoreCountsWrongFalsely : Prop := storeCountsRow.holds Try.pinned (OpenSpec.ofChange storeCountsWrong)

/-- 'beehivelaw10.StoreNone': WHATEVER THE INPUT: true; the input reads as it did. -/
def storeNoneSpec : ChangeSpec := { name := "storeNone", fn := fun _ => fun
  | [d] => { results := [.lit (.bool true)], args := [d] }
  | _ => none }
def storeNoneRow : OpenClaim := { program := "ytncpghadgddofaa", sum := "1b37b7b73426cb46d164792f7feca2b6e9203c5cd503f66c033e528155809062", func := "beehive/beehivelaw10.StoreNone", spec := "storeNone", unfollowed := true, recurses := true, apart := false }
def StoreNoneSaid : Prop := storeNoneRow.holds Try.pinned (OpenSpec.ofChange storeNoneSpec)

/-- ITS FALSE NEIGHBOUR: 'it returns false'. Refute it at one input. -/
def storeNoneWrong : ChangeSpec := { name := "storeNone", fn := fun _ => fun
  | [d] => { results := [.lit (.bool false)], args := [d] }
  | _ => none }
def StoreNoneWrongFalsely : Prop := storeNoneRow.holds Try.pinned (OpenSpec.ofChange storeNoneWrong)

/- THE SECOND FORM. 'bulk': how many values and letters a reading holds, each counted each time it is reached (what is shared counts as often as it is met; a slice's spare places count too). A statement '..UptoSaid' is the law's where the arguments, and the package variables that the reading takes, are together of bulk at most 1048576: NARROWER than '..Said'. Prove '..Said' where nothing that the law and all that it calls make is longer than what came in: it says more and counts as full. Else prove '..UptoSaid'. A law counts once. -/
mutual
def uptoBulk {H : Type} : DataW H → Nat
  | .lit (.string bytes) => bytes.length + 1
  | .lit _ => 1
  | .nil => 1
  | .ptr d => uptoBulk d + 1
  | .slice elems spare => uptoBulkAll elems + uptoBulkAll spare + 1
  | .agg parts => uptoBulkAll parts + 1
  | .iface _ d => uptoBulk d + 1
  | .map entries => uptoBulkEntries entries + 1
  | .held _ => 1
def uptoBulkAll {H : Type} : List (DataW H) → Nat
  | [] => 0
  | d :: r => uptoBulk d + uptoBulkAll r
def uptoBulkEntries {H : Type} : List (Lit × DataW H) → Nat
  | [] => 0
  | x :: r => uptoBulkEntry x + uptoBulkEntries r
def uptoBulkEntry {H : Type} : Lit × DataW H → Nat
  | (.string bytes, d) => bytes.length + uptoBulk d + 1
  | (_, d) => uptoBulk d + 1
 end
def uptoSmall : (H : Type) → List (DataW H) → Bool := fun _ ds => decide (uptoBulkAll ds ≤ 1048576)
def OpenSpec.upto (s : _root_.Go.ChangeSpec) : _root_.Go.OpenSpec := { _root_.Go.OpenSpec.ofChange s with cond := some uptoSmall }

/-- 'beehivelaw16.QueueScript', WHERE WHAT IT READS IS OF BULK AT MOST 1048576: true; the input reads as it did. -/
def queueScriptUptoRow : OpenClaim := { program := "ytncpghadgddofaa", sum := "1b37b7b73426cb46d164792f7feca2b6e9203c5cd503f66c033e528155809062", func := "beehive/beehivelaw16.QueueScript", spec := "queueScript", apart := false, narrowed := true }
def QueueScriptUptoSaid : Prop := queueScriptUptoRow.holds Try.pinned (OpenSpec.upto queueScriptSpec)

/-- 'beehivelaw16.QueueTurns', WHERE WHAT IT READS IS OF BULK AT MOST 1048576: true; the input reads as it did. -/
def queueTurnsUptoRow : OpenClaim := { program := "ytncpghadgddofaa", sum := "1b37b7b73426cb46d164792f7feca2b6e9203c5cd503f66c033e528155809062", func := "beehive/beehivelaw16.QueueTurns", spec := "queueTurns", apart := false, narrowed := true }
def QueueTurnsUptoSaid : Prop := queueTurnsUptoRow.holds Try.pinned (OpenSpec.upto queueTurnsSpec)

/-- 'beehivelaw16.QueueFair', WHERE WHAT IT READS IS OF BULK AT MOST 1048576: true; the input reads as it did. -/
def queueFairUptoRow : OpenClaim := { program := "ytncpghadgddofaa", sum := "1b37b7b73426cb46d164792f7feca2b6e9203c5cd503f66c033e528155809062", func := "beehive/beehivelaw16.QueueFair", spec := "queueFair", apart := false, narrowed := true }
def QueueFairUptoSaid : Prop := queueFairUptoRow.holds Try.pinned (OpenSpec.upto queueFairSpec)

/-- 'beehivelaw15.BoxScript', WHERE WHAT IT READS IS OF BULK AT MOST 1048576: true; the input reads as it did. -/
def boxScriptUptoRow : OpenClaim := { program := "ytncpghadgddofaa", sum := "1b37b7b73426cb46d164792f7feca2b6e9203c5cd503f66c033e528155809062", func := "beehive/beehivelaw15.BoxScript", spec := "boxScript", apart := false, narrowed := true }
def BoxScriptUptoSaid : Prop := boxScriptUptoRow.holds Try.pinned (OpenSpec.upto boxScriptSpec)

/-- 'beehivelaw15.BoxSelects', WHERE WHAT IT READS IS OF BULK AT MOST 1048576: true; the input reads as it did. -/
def boxSelectsUptoRow : OpenClaim := { program := "ytncpghadgddofaa", sum := "1b37b7b73426cb46d164792f7feca2b6e9203c5cd503f66c033e528155809062", func := "beehive/beehivelaw15.BoxSelects", spec := "boxSelects", apart := false, narrowed := true }
def BoxSelectsUptoSaid : Prop := boxSelectsUptoRow.holds Try.pinned (OpenSpec.upto boxSelectsSpec)

/-- 'beehivelaw15.BoxNone', WHERE WHAT IT READS IS OF BULK AT MOST 1048576: true; the input reads as it did. -/
def boxNoneUptoRow : OpenClaim := { program := "ytncpghadgddofaa", sum := "1b37b7b73426cb46d164792f7feca2b6e9203c5cd503f66c033e528155809062", func := "beehive/beehivelaw15.BoxNone", spec := "boxNone", apart := false, narrowed := true }
def BoxNoneUptoSaid : Prop := boxNoneUptoRow.holds Try.pinned (OpenSpec.upto boxNoneSpec)

/-- 'beehivelaw15.BoxGrows', WHERE WHAT IT READS IS OF BULK AT MOST 1048576: true; the input reads as it did. -/
def boxGrowsUptoRow : OpenClaim := { program := "ytncpghadgddofaa", sum := "1b37b7b73426cb46d164792f7feca2b6e9203c5cd503f66c033e528155809062", func := "beehive/beehivelaw15.BoxGrows", spec := "boxGrows", apart := false, narrowed := true }
def BoxGrowsUptoSaid : Prop := boxGrowsUptoRow.holds Try.pinned (OpenSpec.upto boxGrowsSpec)

/-- 'beehivelaw10.StoreScript', WHERE WHAT IT READS IS OF BULK AT MOST 1048576: true; the input reads as it did. -/
def storeScriptUptoRow : OpenClaim := { program := "ytncpghadgddofaa", sum := "1b37b7b73426cb46d164792f7feca2b6e9203c5cd503f66c033e528155809062", func := "beehive/beehivelaw10.StoreScript", spec := "storeScript", unfollowed := true, recurses := true, apart := false, narrowed := true }
def StoreScriptUptoSaid : Prop := storeScriptUptoRow.holds Try.pinned (OpenSpec.upto storeScriptSpec)

/-- 'beehivelaw10.StoreLeast', WHERE WHAT IT READS IS OF BULK AT MOST 1048576: true; the input reads as it did. -/
def storeLeastUptoRow : OpenClaim := { program := "ytncpghadgddofaa", sum := "1b37b7b73426cb46d164792f7feca2b6e9203c5cd503f66c033e528155809062", func := "beehive/beehivelaw10.StoreLeast", spec := "storeLeast", unfollowed := true, recurses := true, apart := false, narrowed := true }
def StoreLeastUptoSaid : Prop := storeLeastUptoRow.holds Try.pinned (OpenSpec.upto storeLeastSpec)

/-- 'beehivelaw10.StoreCounts', WHERE WHAT IT READS IS OF BULK AT MOST 1048576: true; the input reads as it did. -/
def storeCountsUptoRow : OpenClaim := { program := "ytncpghadgddofaa", sum := "1b37b7b73426cb46d164792f7feca2b6e9203c5cd503f66c033e528155809062", func := "beehive/beehivelaw10.StoreCounts", spec := "storeCounts", unfollowed := true, recurses := true, apart := false, narrowed := true }
def StoreCountsUptoSaid : Prop := storeCountsUptoRow.holds Try.pinned (OpenSpec.upto storeCountsSpec)

/-- 'beehivelaw10.StoreNone', WHERE WHAT IT READS IS OF BULK AT MOST 1048576: true; the input reads as it did. -/
def storeNoneUptoRow : OpenClaim := { program := "ytncpghadgddofaa", sum := "1b37b7b73426cb46d164792f7feca2b6e9203c5cd503f66c033e528155809062", func := "beehive/beehivelaw10.StoreNone", spec := "storeNone", unfollowed := true, recurses := true, apart := false, narrowed := true }
def StoreNoneUptoSaid : Prop := storeNoneUptoRow.holds Try.pinned (OpenSpec.upto storeNoneSpec)

end Rows
end Go.Proofs.Ytncpghadgddofaa
