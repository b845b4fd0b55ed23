/-
  No cell of these rows narrows 'for every input' (looked for: loops, veiled, ifaces, maps, wideKeys, modest, calm, conditions, laid).
  DERIVED. THE GIVEN ROWS OF THIS SEAT. 5 by the template 'for every input the law returns true; each argument reads behind the call as it read before'; 0 by the template 'total and deterministic' (their statements: YthoamfpjoinkpaaTotals.lean).
  GIVEN WITH THE SEED: the statements are not yours to turn. If you find one false, say at which input.
  Laid BY PROGRAM, IN A SANDBOX (cutbox-rows.mjs): the forced cells as the released guide's own fill.sh prints them over the translation 4f9650ae8cc8f88b… (all of the seat's roots in one cut). By AI agents, Wed Nov 11 2026. No macro, syntax, notation, axiom, sorry.
-/
import Derived.Test.YthoamfpjoinkpaaChecked
import GoSem.Claim
import GoSem.ClaimJoined
import GoSem.ClaimMapViews
import Derived.JoinedTies
import Derived.KernelRfl
namespace Go.Proofs.Ythoamfpjoinkpaa
/- THE CELL 'sum', in the pinned program and in every row, IS THE sha256 OF THE DUMP (.gsa) THAT YthoamfpjoinkpaaProg.lean LOADS. Nothing in Lean hashes anything: it is a label: what it is worth is what the hold of that sum in a sandbox is worth. -/
noncomputable def Try.pinned : Pinned := { name := "ythoamfpjoinkpaa", sum := "4f9650ae8cc8f88b627fd8fc24648d592cc33d5ff38b6e60f4aaf2f4d97b2dc9", checked := Try.checked }
namespace Rows
def none {H : Type} : Left H := { results := [], args := [] }

/-- 'beehivelaw1.NumRoom': WHATEVER THE INPUT: true; the input reads as it did. -/
def numRoomSpec : ChangeSpec := { name := "numRoom", fn := fun _ => fun
  | [d1, d2] => { results := [.lit (.bool true)], args := [d1, d2] }
  | _ => none }
def numRoomRow : OpenClaim := { program := "ythoamfpjoinkpaa", sum := "4f9650ae8cc8f88b627fd8fc24648d592cc33d5ff38b6e60f4aaf2f4d97b2dc9", func := "beehive/beehivelaw1.NumRoom", spec := "numRoom", apart := false }
def NumRoomSaid : Prop := numRoomRow.holds Try.pinned (OpenSpec.ofChange numRoomSpec)

/-- ITS FALSE NEIGHBOUR: 'it returns false'. Refute it at one input. -/
def numRoomWrong : ChangeSpec := { name := "numRoom", fn := fun _ => fun
  | [d1, d2] => { results := [.lit (.bool false)], args := [d1, d2] }
  | _ => none }
def NumRoomWrongFalsely : Prop := numRoomRow.holds Try.pinned (OpenSpec.ofChange numRoomWrong)

/-- 'beehivelaw1.NumTells': WHATEVER THE INPUT: true; the input reads as it did. -/
def numTellsSpec : ChangeSpec := { name := "numTells", fn := fun _ => fun
  | [d1, d2, d3] => { results := [.lit (.bool true)], args := [d1, d2, d3] }
  | _ => none }
def numTellsRow : OpenClaim := { program := "ythoamfpjoinkpaa", sum := "4f9650ae8cc8f88b627fd8fc24648d592cc33d5ff38b6e60f4aaf2f4d97b2dc9", func := "beehive/beehivelaw1.NumTells", spec := "numTells", apart := false }
def NumTellsSaid : Prop := numTellsRow.holds Try.pinned (OpenSpec.ofChange numTellsSpec)

/-- ITS FALSE NEIGHBOUR: 'it returns false'. Refute it at one input. -/
def numTellsWrong : ChangeSpec := { name := "numTells", fn := fun _ => fun
  | [d1, d2, d3] => { results := [.lit (.bool false)], args := [d1, d2, d3] }
  | _ => none }
def NumTellsWrongFalsely : Prop := numTellsRow.holds Try.pinned (OpenSpec.ofChange numTellsWrong)

/-- 'beehivelaw1.NumRing': WHATEVER THE INPUT: true; the input reads as it did. -/
def numRingSpec : ChangeSpec := { name := "numRing", fn := fun _ => fun
  | [d1, d2, d3] => { results := [.lit (.bool true)], args := [d1, d2, d3] }
  | _ => none }
def numRingRow : OpenClaim := { program := "ythoamfpjoinkpaa", sum := "4f9650ae8cc8f88b627fd8fc24648d592cc33d5ff38b6e60f4aaf2f4d97b2dc9", func := "beehive/beehivelaw1.NumRing", spec := "numRing", apart := false }
def NumRingSaid : Prop := numRingRow.holds Try.pinned (OpenSpec.ofChange numRingSpec)

/-- ITS FALSE NEIGHBOUR: 'it returns false'. Refute it at one input. -/
def numRingWrong : ChangeSpec := { name := "numRing", fn := fun _ => fun
  | [d1, d2, d3] => { results := [.lit (.bool false)], args := [d1, d2, d3] }
  | _ => none }
def NumRingWrongFalsely : Prop := numRingRow.holds Try.pinned (OpenSpec.ofChange numRingWrong)

/-- 'beehivelaw1.NumSmall': WHATEVER THE INPUT: true; the input reads as it did. -/
def numSmallSpec : ChangeSpec := { name := "numSmall", fn := fun _ => fun
  | [d1, d2] => { results := [.lit (.bool true)], args := [d1, d2] }
  | _ => none }
def numSmallRow : OpenClaim := { program := "ythoamfpjoinkpaa", sum := "4f9650ae8cc8f88b627fd8fc24648d592cc33d5ff38b6e60f4aaf2f4d97b2dc9", func := "beehive/beehivelaw1.NumSmall", spec := "numSmall", apart := false }
def NumSmallSaid : Prop := numSmallRow.holds Try.pinned (OpenSpec.ofChange numSmallSpec)

/-- ITS FALSE NEIGHBOUR: 'it returns false'. Refute it at one input. -/
def numSmallWrong : ChangeSpec := { name := "numSmall", fn := fun _ => fun
  | [d1, d2] => { results := [.lit (.bool false)], args := [d1, d2] }
  | _ => none }
def NumSmallWrongFalsely : Prop := numSmallRow.holds Try.pinned (OpenSpec.ofChange numSmallWrong)

/-- 'beehivelaw1.NumMirrors': WHATEVER THE INPUT: true; the input reads as it did. -/
def numMirrorsSpec : ChangeSpec := { name := "numMirrors", fn := fun _ => fun
  | [d1, d2] => { results := [.lit (.bool true)], args := [d1, d2] }
  | _ => none }
def numMirrorsRow : OpenClaim := { program := "ythoamfpjoinkpaa", sum := "4f9650ae8cc8f88b627fd8fc24648d592cc33d5ff38b6e60f4aaf2f4d97b2dc9", func := "beehive/beehivelaw1.NumMirrors", spec := "numMirrors", apart := false }
def NumMirrorsSaid : Prop := numMirrorsRow.holds Try.pinned (OpenSpec.ofChange numMirrorsSpec)

/-- ITS FALSE NEIGHBOUR: 'it returns false'. Refute it at one input. -/
def numMirrorsWrong : ChangeSpec := { name := "numMirrors", fn := fun _ => fun
  | [d1, d2] => { results := [.lit (.bool false)], args := [d1, d2] }
  | _ => none }
def NumMirrorsWrongFalsely : Prop := numMirrorsRow.holds Try.pinned (OpenSpec.ofChange numMirrorsWrong)

/- THE SECOND FORM. 'bulk': how many values and letters a reading holds, each counted each time it is reached (what is shared counts as often as it is met; a slice's spare places count too). A statement '..UptoSaid' is the law's where the arguments, and the package variables that the reading takes, are together of bulk at most 1048576: NARROWER than '..Said'. Prove '..Said' where nothing that the law and all that it calls make is longer than what came in: it says more and counts as full. Else prove '..UptoSaid'. A law counts once. -/
mutual
def uptoBulk {H : Type} : DataW H → Nat
  | .lit (.string bytes) => bytes.length + 1
  | .lit _ => 1
  | .nil => 1
  | .ptr d => uptoBulk d + 1
  | .slice elems spare => uptoBulkAll elems + uptoBulkAll spare + 1
  | .agg parts => uptoBulkAll parts + 1
  | .iface _ d => uptoBulk d + 1
  | .map entries => uptoBulkEntries entries + 1
  | .held _ => 1
def uptoBulkAll {H : Type} : List (DataW H) → Nat
  | [] => 0
  | d :: r => uptoBulk d + uptoBulkAll r
def uptoBulkEntries {H : Type} : List (Lit × DataW H) → Nat
  | [] => 0
  | x :: r => uptoBulkEntry x + uptoBulkEntries r
def uptoBulkEntry {H : Type} : Lit × DataW H → Nat
  | (.string bytes, d) => bytes.length + uptoBulk d + 1
  | (_, d) => uptoBulk d + 1
 end
def uptoSmall : (H : Type) → List (DataW H) → Bool := fun _ ds => decide (uptoBulkAll ds ≤ 1048576)
def OpenSpec.upto (s : _root_.Go.ChangeSpec) : _root_.Go.OpenSpec := { _root_.Go.OpenSpec.ofChange s with cond := some uptoSmall }

/-- 'beehivelaw1.NumRoom', WHERE WHAT IT READS IS OF BULK AT MOST 1048576: true; the input reads as it did. -/
def numRoomUptoRow : OpenClaim := { program := "ythoamfpjoinkpaa", sum := "4f9650ae8cc8f88b627fd8fc24648d592cc33d5ff38b6e60f4aaf2f4d97b2dc9", func := "beehive/beehivelaw1.NumRoom", spec := "numRoom", apart := false, narrowed := true }
def NumRoomUptoSaid : Prop := numRoomUptoRow.holds Try.pinned (OpenSpec.upto numRoomSpec)

/-- 'beehivelaw1.NumTells', WHERE WHAT IT READS IS OF BULK AT MOST 1048576: true; the input reads as it did. -/
def numTellsUptoRow : OpenClaim := { program := "ythoamfpjoinkpaa", sum := "4f9650ae8cc8f88b627fd8fc24648d592cc33d5ff38b6e60f4aaf2f4d97b2dc9", func := "beehive/beehivelaw1.NumTells", spec := "numTells", apart := false, narrowed := true }
def NumTellsUptoSaid : Prop := numTellsUptoRow.holds Try.pinned (OpenSpec.upto numTellsSpec)

/-- 'beehivelaw1.NumRing', WHERE WHAT IT READS IS OF BULK AT MOST 1048576: true; the input reads as it did. -/
def numRingUptoRow : OpenClaim := { program := "ythoamfpjoinkpaa", sum := "4f9650ae8cc8f88b627fd8fc24648d592cc33d5ff38b6e60f4aaf2f4d97b2dc9", func := "beehive/beehivelaw1.NumRing", spec := "numRing", apart := false, narrowed := true }
def NumRingUptoSaid : Prop := numRingUptoRow.holds Try.pinned (OpenSpec.upto numRingSpec)

/-- 'beehivelaw1.NumSmall', WHERE WHAT IT READS IS OF BULK AT MOST 1048576: true; the input reads as it did. -/
def numSmallUptoRow : OpenClaim := { program := "ythoamfpjoinkpaa", sum := "4f9650ae8cc8f88b627fd8fc24648d592cc33d5ff38b6e60f4aaf2f4d97b2dc9", func := "beehive/beehivelaw1.NumSmall", spec := "numSmall", apart := false, narrowed := true }
def NumSmallUptoSaid : Prop := numSmallUptoRow.holds Try.pinned (OpenSpec.upto numSmallSpec)

/-- 'beehivelaw1.NumMirrors', WHERE WHAT IT READS IS OF BULK AT MOST 1048576: true; the input reads as it did. -/
def numMirrorsUptoRow : OpenClaim := { program := "ythoamfpjoinkpaa", sum := "4f9650ae8cc8f88b627fd8fc24648d592cc33d5ff38b6e60f4aaf2f4d97b2dc9", func := "beehive/beehivelaw1.NumMirrors", spec := "numMirrors", apart := false, narrowed := true }
def NumMirrorsUptoSaid : Prop := numMirrorsUptoRow.holds Try.pinned (OpenSpec.upto numMirrorsSpec)

end Rows
end Go.Proofs.Ythoamfpjoinkpaa
