/-
  No cell of these rows narrows 'for every input' (looked for: loops, veiled, ifaces, maps, wideKeys, modest, calm, conditions, laid).
  DERIVED. THE GIVEN ROWS OF THIS SEAT. 6 by the template 'for every input the law returns true; each argument reads behind the call as it read before'; 0 by the template 'total and deterministic' (their statements: YtehocjeeaigkeaaTotals.lean).
  GIVEN WITH THE SEED: the statements are not yours to turn. If you find one false, say at which input.
  Laid BY PROGRAM, IN A SANDBOX (cutbox-rows.mjs): the forced cells as the released guide's own fill.sh prints them over the translation 34e111e75495cebd… (all of the seat's roots in one cut). By AI agents, Wed Nov 11 2026. No macro, syntax, notation, axiom, sorry.
-/
import Derived.Test.YtehocjeeaigkeaaChecked
import GoSem.Claim
import GoSem.ClaimJoined
import GoSem.ClaimMapViews
import Derived.JoinedTies
import Derived.KernelRfl
namespace Go.Proofs.Ytehocjeeaigkeaa
/- THE CELL 'sum', in the pinned program and in every row, IS THE sha256 OF THE DUMP (.gsa) THAT YtehocjeeaigkeaaProg.lean LOADS. Nothing in Lean hashes anything: it is a label: what it is worth is what the hold of that sum in a sandbox is worth. -/
noncomputable def Try.pinned : Pinned := { name := "ytehocjeeaigkeaa", sum := "34e111e75495cebddab0086d2be90b481595e840b372f4ded2fde4b6eae452b0", checked := Try.checked }
namespace Rows
def none {H : Type} : Left H := { results := [], args := [] }

/-- 'beehivelaw2.RealOrder': WHATEVER THE INPUT: true; the input reads as it did. -/
def realOrderSpec : ChangeSpec := { name := "realOrder", fn := fun _ => fun
  | [d1, d2, d3] => { results := [.lit (.bool true)], args := [d1, d2, d3] }
  | _ => none }
def realOrderRow : OpenClaim := { program := "ytehocjeeaigkeaa", sum := "34e111e75495cebddab0086d2be90b481595e840b372f4ded2fde4b6eae452b0", func := "beehive/beehivelaw2.RealOrder", spec := "realOrder", inPlace := ["math.Float64frombits", "math.Float64bits", "math.archTrunc"], apart := false }
def RealOrderSaid : Prop := realOrderRow.holds Try.pinned (OpenSpec.ofChange realOrderSpec)

/-- ITS FALSE NEIGHBOUR: 'it returns false'. Refute it at one input. -/
def realOrderWrong : ChangeSpec := { name := "realOrder", fn := fun _ => fun
  | [d1, d2, d3] => { results := [.lit (.bool false)], args := [d1, d2, d3] }
  | _ => none }
def RealOrderWrongFalsely : Prop := realOrderRow.holds Try.pinned (OpenSpec.ofChange realOrderWrong)

/-- 'beehivelaw2.RealTells': WHATEVER THE INPUT: true; the input reads as it did. -/
def realTellsSpec : ChangeSpec := { name := "realTells", fn := fun _ => fun
  | [d1, d2] => { results := [.lit (.bool true)], args := [d1, d2] }
  | _ => none }
def realTellsRow : OpenClaim := { program := "ytehocjeeaigkeaa", sum := "34e111e75495cebddab0086d2be90b481595e840b372f4ded2fde4b6eae452b0", func := "beehive/beehivelaw2.RealTells", spec := "realTells", inPlace := ["math.Float64frombits", "math.Float64bits", "math.archTrunc"], apart := false }
def RealTellsSaid : Prop := realTellsRow.holds Try.pinned (OpenSpec.ofChange realTellsSpec)

/-- ITS FALSE NEIGHBOUR: 'it returns false'. Refute it at one input. -/
def realTellsWrong : ChangeSpec := { name := "realTells", fn := fun _ => fun
  | [d1, d2] => { results := [.lit (.bool false)], args := [d1, d2] }
  | _ => none }
def RealTellsWrongFalsely : Prop := realTellsRow.holds Try.pinned (OpenSpec.ofChange realTellsWrong)

/-- 'beehivelaw2.RealEdges': WHATEVER THE INPUT: true; the input reads as it did. -/
def realEdgesSpec : ChangeSpec := { name := "realEdges", fn := fun _ => fun
  | [d1, d2] => { results := [.lit (.bool true)], args := [d1, d2] }
  | _ => none }
def realEdgesRow : OpenClaim := { program := "ytehocjeeaigkeaa", sum := "34e111e75495cebddab0086d2be90b481595e840b372f4ded2fde4b6eae452b0", func := "beehive/beehivelaw2.RealEdges", spec := "realEdges", inPlace := ["math.Float64frombits", "math.Float64bits", "math.archTrunc"], apart := false }
def RealEdgesSaid : Prop := realEdgesRow.holds Try.pinned (OpenSpec.ofChange realEdgesSpec)

/-- ITS FALSE NEIGHBOUR: 'it returns false'. Refute it at one input. -/
def realEdgesWrong : ChangeSpec := { name := "realEdges", fn := fun _ => fun
  | [d1, d2] => { results := [.lit (.bool false)], args := [d1, d2] }
  | _ => none }
def RealEdgesWrongFalsely : Prop := realEdgesRow.holds Try.pinned (OpenSpec.ofChange realEdgesWrong)

/-- 'beehivelaw2.RealMirrors': WHATEVER THE INPUT: true; the input reads as it did. -/
def realMirrorsSpec : ChangeSpec := { name := "realMirrors", fn := fun _ => fun
  | [d1, d2] => { results := [.lit (.bool true)], args := [d1, d2] }
  | _ => none }
def realMirrorsRow : OpenClaim := { program := "ytehocjeeaigkeaa", sum := "34e111e75495cebddab0086d2be90b481595e840b372f4ded2fde4b6eae452b0", func := "beehive/beehivelaw2.RealMirrors", spec := "realMirrors", inPlace := ["math.Float64frombits", "math.Float64bits", "math.archTrunc"], apart := false }
def RealMirrorsSaid : Prop := realMirrorsRow.holds Try.pinned (OpenSpec.ofChange realMirrorsSpec)

/-- ITS FALSE NEIGHBOUR: 'it returns false'. Refute it at one input. -/
def realMirrorsWrong : ChangeSpec := { name := "realMirrors", fn := fun _ => fun
  | [d1, d2] => { results := [.lit (.bool false)], args := [d1, d2] }
  | _ => none }
def RealMirrorsWrongFalsely : Prop := realMirrorsRow.holds Try.pinned (OpenSpec.ofChange realMirrorsWrong)

/-- 'beehivelaw2.RealMixed': WHATEVER THE INPUT: true; the input reads as it did. -/
def realMixedSpec : ChangeSpec := { name := "realMixed", fn := fun _ => fun
  | [d1, d2, d3] => { results := [.lit (.bool true)], args := [d1, d2, d3] }
  | _ => none }
def realMixedRow : OpenClaim := { program := "ytehocjeeaigkeaa", sum := "34e111e75495cebddab0086d2be90b481595e840b372f4ded2fde4b6eae452b0", func := "beehive/beehivelaw2.RealMixed", spec := "realMixed", inPlace := ["math.Float64frombits", "math.Float64bits", "math.archTrunc"], apart := false }
def RealMixedSaid : Prop := realMixedRow.holds Try.pinned (OpenSpec.ofChange realMixedSpec)

/-- ITS FALSE NEIGHBOUR: 'it returns false'. Refute it at one input. -/
def realMixedWrong : ChangeSpec := { name := "realMixed", fn := fun _ => fun
  | [d1, d2, d3] => { results := [.lit (.bool false)], args := [d1, d2, d3] }
  | _ => none }
def RealMixedWrongFalsely : Prop := realMixedRow.holds Try.pinned (OpenSpec.ofChange realMixedWrong)

/-- 'beehivelaw2.RealHalves': WHATEVER THE INPUT: true; the input reads as it did. -/
def realHalvesSpec : ChangeSpec := { name := "realHalves", fn := fun _ => fun
  | [d1, d2] => { results := [.lit (.bool true)], args := [d1, d2] }
  | _ => none }
def realHalvesRow : OpenClaim := { program := "ytehocjeeaigkeaa", sum := "34e111e75495cebddab0086d2be90b481595e840b372f4ded2fde4b6eae452b0", func := "beehive/beehivelaw2.RealHalves", spec := "realHalves", inPlace := ["math.Float64bits", "math.Float64frombits", "math.archTrunc"], apart := false }
def RealHalvesSaid : Prop := realHalvesRow.holds Try.pinned (OpenSpec.ofChange realHalvesSpec)

/-- ITS FALSE NEIGHBOUR: 'it returns false'. Refute it at one input. -/
def realHalvesWrong : ChangeSpec := { name := "realHalves", fn := fun _ => fun
  | [d1, d2] => { results := [.lit (.bool false)], args := [d1, d2] }
  | _ => none }
def RealHalvesWrongFalsely : Prop := realHalvesRow.holds Try.pinned (OpenSpec.ofChange realHalvesWrong)

/- THE SECOND FORM. 'bulk': how many values and letters a reading holds, each counted each time it is reached (what is shared counts as often as it is met; a slice's spare places count too). A statement '..UptoSaid' is the law's where the arguments, and the package variables that the reading takes, are together of bulk at most 1048576: NARROWER than '..Said'. Prove '..Said' where nothing that the law and all that it calls make is longer than what came in: it says more and counts as full. Else prove '..UptoSaid'. A law counts once. -/
mutual
def uptoBulk {H : Type} : DataW H → Nat
  | .lit (.string bytes) => bytes.length + 1
  | .lit _ => 1
  | .nil => 1
  | .ptr d => uptoBulk d + 1
  | .slice elems spare => uptoBulkAll elems + uptoBulkAll spare + 1
  | .agg parts => uptoBulkAll parts + 1
  | .iface _ d => uptoBulk d + 1
  | .map entries => uptoBulkEntries entries + 1
  | .held _ => 1
def uptoBulkAll {H : Type} : List (DataW H) → Nat
  | [] => 0
  | d :: r => uptoBulk d + uptoBulkAll r
def uptoBulkEntries {H : Type} : List (Lit × DataW H) → Nat
  | [] => 0
  | x :: r => uptoBulkEntry x + uptoBulkEntries r
def uptoBulkEntry {H : Type} : Lit × DataW H → Nat
  | (.string bytes, d) => bytes.length + uptoBulk d + 1
  | (_, d) => uptoBulk d + 1
 end
def uptoSmall : (H : Type) → List (DataW H) → Bool := fun _ ds => decide (uptoBulkAll ds ≤ 1048576)
def OpenSpec.upto (s : _root_.Go.ChangeSpec) : _root_.Go.OpenSpec := { _root_.Go.OpenSpec.ofChange s with cond := some uptoSmall }

/-- 'beehivelaw2.RealOrder', WHERE WHAT IT READS IS OF BULK AT MOST 1048576: true; the input reads as it did. -/
def realOrderUptoRow : OpenClaim := { program := "ytehocjeeaigkeaa", sum := "34e111e75495cebddab0086d2be90b481595e840b372f4ded2fde4b6eae452b0", func := "beehive/beehivelaw2.RealOrder", spec := "realOrder", inPlace := ["math.Float64frombits", "math.Float64bits", "math.archTrunc"], apart := false, narrowed := true }
def RealOrderUptoSaid : Prop := realOrderUptoRow.holds Try.pinned (OpenSpec.upto realOrderSpec)

/-- 'beehivelaw2.RealTells', WHERE WHAT IT READS IS OF BULK AT MOST 1048576: true; the input reads as it did. -/
def realTellsUptoRow : OpenClaim := { program := "ytehocjeeaigkeaa", sum := "34e111e75495cebddab0086d2be90b481595e840b372f4ded2fde4b6eae452b0", func := "beehive/beehivelaw2.RealTells", spec := "realTells", inPlace := ["math.Float64frombits", "math.Float64bits", "math.archTrunc"], apart := false, narrowed := true }
def RealTellsUptoSaid : Prop := realTellsUptoRow.holds Try.pinned (OpenSpec.upto realTellsSpec)

/-- 'beehivelaw2.RealEdges', WHERE WHAT IT READS IS OF BULK AT MOST 1048576: true; the input reads as it did. -/
def realEdgesUptoRow : OpenClaim := { program := "ytehocjeeaigkeaa", sum := "34e111e75495cebddab0086d2be90b481595e840b372f4ded2fde4b6eae452b0", func := "beehive/beehivelaw2.RealEdges", spec := "realEdges", inPlace := ["math.Float64frombits", "math.Float64bits", "math.archTrunc"], apart := false, narrowed := true }
def RealEdgesUptoSaid : Prop := realEdgesUptoRow.holds Try.pinned (OpenSpec.upto realEdgesSpec)

/-- 'beehivelaw2.RealMirrors', WHERE WHAT IT READS IS OF BULK AT MOST 1048576: true; the input reads as it did. -/
def realMirrorsUptoRow : OpenClaim := { program := "ytehocjeeaigkeaa", sum := "34e111e75495cebddab0086d2be90b481595e840b372f4ded2fde4b6eae452b0", func := "beehive/beehivelaw2.RealMirrors", spec := "realMirrors", inPlace := ["math.Float64frombits", "math.Float64bits", "math.archTrunc"], apart := false, narrowed := true }
def RealMirrorsUptoSaid : Prop := realMirrorsUptoRow.holds Try.pinned (OpenSpec.upto realMirrorsSpec)

/-- 'beehivelaw2.RealMixed', WHERE WHAT IT READS IS OF BULK AT MOST 1048576: true; the input reads as it did. -/
def realMixedUptoRow : OpenClaim := { program := "ytehocjeeaigkeaa", sum := "34e111e75495cebddab0086d2be90b481595e840b372f4ded2fde4b6eae452b0", func := "beehive/beehivelaw2.RealMixed", spec := "realMixed", inPlace := ["math.Float64frombits", "math.Float64bits", "math.archTrunc"], apart := false, narrowed := true }
def RealMixedUptoSaid : Prop := realMixedUptoRow.holds Try.pinned (OpenSpec.upto realMixedSpec)

/-- 'beehivelaw2.RealHalves', WHERE WHAT IT READS IS OF BULK AT MOST 1048576: true; the input reads as it did. -/
def realHalvesUptoRow : OpenClaim := { program := "ytehocjeeaigkeaa", sum := "34e111e75495cebddab0086d2be90b481595e840b372f4ded2fde4b6eae452b0", func := "beehive/beehivelaw2.RealHalves", spec := "realHalves", inPlace := ["math.Float64bits", "math.Float64frombits", "math.archTrunc"], apart := false, narrowed := true }
def RealHalvesUptoSaid : Prop := realHalvesUptoRow.holds Try.pinned (OpenSpec.upto realHalvesSpec)

end Rows
end Go.Proofs.Ytehocjeeaigkeaa
