/-
  NARROWER THAN 'FOR EVERY INPUT', by the rows' own cells (each row's printed sentence says how): WeighTells: loops · WeighGrows: loops.
  DERIVED. THE GIVEN ROWS OF THIS SEAT. 8 by the template 'for every input the law returns true; each argument reads behind the call as it read before'; 0 by the template 'total and deterministic' (their statements: YtopopkdnjpnafaaTotals.lean).
  GIVEN WITH THE SEED: the statements are not yours to turn. If you find one false, say at which input.
  Laid BY PROGRAM, IN A SANDBOX (cutbox-rows.mjs): the forced cells as the released guide's own fill.sh prints them over the translation 43cc9abb9394d7e5… (all of the seat's roots in one cut). By AI agents, Wed Nov 11 2026. No macro, syntax, notation, axiom, sorry.
-/
import Derived.Test.YtopopkdnjpnafaaChecked
import GoSem.Claim
import GoSem.ClaimJoined
import GoSem.ClaimMapViews
import Derived.JoinedTies
import Derived.KernelRfl
namespace Go.Proofs.Ytopopkdnjpnafaa
/- THE CELL 'sum', in the pinned program and in every row, IS THE sha256 OF THE DUMP (.gsa) THAT YtopopkdnjpnafaaProg.lean LOADS. Nothing in Lean hashes anything: it is a label: what it is worth is what the hold of that sum in a sandbox is worth. -/
noncomputable def Try.pinned : Pinned := { name := "ytopopkdnjpnafaa", sum := "43cc9abb9394d7e51c5269cce259d37b511a832e235bd027d4ca3d026171ec8e", checked := Try.checked }
namespace Rows
def none {H : Type} : Left H := { results := [], args := [] }

/-- 'beehivelaw9.SizesTell': WHATEVER THE INPUT: true; the input reads as it did. -/
def sizesTellSpec : ChangeSpec := { name := "sizesTell", fn := fun _ => fun
  | [d1, d2, d3, d4] => { results := [.lit (.bool true)], args := [d1, d2, d3, d4] }
  | _ => none }
def sizesTellRow : OpenClaim := { program := "ytopopkdnjpnafaa", sum := "43cc9abb9394d7e51c5269cce259d37b511a832e235bd027d4ca3d026171ec8e", func := "beehive/beehivelaw9.SizesTell", spec := "sizesTell", apart := false }
def SizesTellSaid : Prop := sizesTellRow.holds Try.pinned (OpenSpec.ofChange sizesTellSpec)

/-- ITS FALSE NEIGHBOUR: 'it returns false'. Refute it at one input. -/
def sizesTellWrong : ChangeSpec := { name := "sizesTell", fn := fun _ => fun
  | [d1, d2, d3, d4] => { results := [.lit (.bool false)], args := [d1, d2, d3, d4] }
  | _ => none }
def SizesTellWrongFalsely : Prop := sizesTellRow.holds Try.pinned (OpenSpec.ofChange sizesTellWrong)

/-- 'beehivelaw9.SizesLeast': WHATEVER THE INPUT: true; the input reads as it did. -/
def sizesLeastSpec : ChangeSpec := { name := "sizesLeast", fn := fun _ => fun
  | [d1, d2] => { results := [.lit (.bool true)], args := [d1, d2] }
  | _ => none }
def sizesLeastRow : OpenClaim := { program := "ytopopkdnjpnafaa", sum := "43cc9abb9394d7e51c5269cce259d37b511a832e235bd027d4ca3d026171ec8e", func := "beehive/beehivelaw9.SizesLeast", spec := "sizesLeast", apart := false }
def SizesLeastSaid : Prop := sizesLeastRow.holds Try.pinned (OpenSpec.ofChange sizesLeastSpec)

/-- ITS FALSE NEIGHBOUR: 'it returns false'. Refute it at one input. -/
def sizesLeastWrong : ChangeSpec := { name := "sizesLeast", fn := fun _ => fun
  | [d1, d2] => { results := [.lit (.bool false)], args := [d1, d2] }
  | _ => none }
def SizesLeastWrongFalsely : Prop := sizesLeastRow.holds Try.pinned (OpenSpec.ofChange sizesLeastWrong)

/-- 'beehivelaw9.SizesSums': WHATEVER THE INPUT: true; the input reads as it did. -/
def sizesSumsSpec : ChangeSpec := { name := "sizesSums", fn := fun _ => fun
  | [d1, d2, d3, d4] => { results := [.lit (.bool true)], args := [d1, d2, d3, d4] }
  | _ => none }
def sizesSumsRow : OpenClaim := { program := "ytopopkdnjpnafaa", sum := "43cc9abb9394d7e51c5269cce259d37b511a832e235bd027d4ca3d026171ec8e", func := "beehive/beehivelaw9.SizesSums", spec := "sizesSums", apart := false }
def SizesSumsSaid : Prop := sizesSumsRow.holds Try.pinned (OpenSpec.ofChange sizesSumsSpec)

/-- ITS FALSE NEIGHBOUR: 'it returns false'. Refute it at one input. -/
def sizesSumsWrong : ChangeSpec := { name := "sizesSums", fn := fun _ => fun
  | [d1, d2, d3, d4] => { results := [.lit (.bool false)], args := [d1, d2, d3, d4] }
  | _ => none }
def SizesSumsWrongFalsely : Prop := sizesSumsRow.holds Try.pinned (OpenSpec.ofChange sizesSumsWrong)

/-- 'beehivelaw3.WeighTells': WHATEVER THE INPUT: true; the input reads as it did. -/
def weighTellsSpec : ChangeSpec := { name := "weighTells", fn := fun _ => fun
  | [d1, d2, d3] => { results := [.lit (.bool true)], args := [d1, d2, d3] }
  | _ => none }
def weighTellsRow : OpenClaim := { program := "ytopopkdnjpnafaa", sum := "43cc9abb9394d7e51c5269cce259d37b511a832e235bd027d4ca3d026171ec8e", func := "beehive/beehivelaw3.WeighTells", spec := "weighTells", recurses := true, loops := true, apart := false }
def WeighTellsSaid : Prop := weighTellsRow.holds Try.pinned (OpenSpec.ofChange weighTellsSpec)

/-- ITS FALSE NEIGHBOUR: 'it returns false'. Refute it at one input. -/
def weighTellsWrong : ChangeSpec := { name := "weighTells", fn := fun _ => fun
  | [d1, d2, d3] => { results := [.lit (.bool false)], args := [d1, d2, d3] }
  | _ => none }
def WeighTellsWrongFalsely : Prop := weighTellsRow.holds Try.pinned (OpenSpec.ofChange weighTellsWrong)

/-- 'beehivelaw3.WeighGrows': WHATEVER THE INPUT: true; the input reads as it did. -/
def weighGrowsSpec : ChangeSpec := { name := "weighGrows", fn := fun _ => fun
  | [d1, d2] => { results := [.lit (.bool true)], args := [d1, d2] }
  | _ => none }
def weighGrowsRow : OpenClaim := { program := "ytopopkdnjpnafaa", sum := "43cc9abb9394d7e51c5269cce259d37b511a832e235bd027d4ca3d026171ec8e", func := "beehive/beehivelaw3.WeighGrows", spec := "weighGrows", recurses := true, loops := true, apart := false }
def WeighGrowsSaid : Prop := weighGrowsRow.holds Try.pinned (OpenSpec.ofChange weighGrowsSpec)

/-- ITS FALSE NEIGHBOUR: 'it returns false'. Refute it at one input. -/
def weighGrowsWrong : ChangeSpec := { name := "weighGrows", fn := fun _ => fun
  | [d1, d2] => { results := [.lit (.bool false)], args := [d1, d2] }
  | _ => none }
def WeighGrowsWrongFalsely : Prop := weighGrowsRow.holds Try.pinned (OpenSpec.ofChange weighGrowsWrong)

/-- 'beehivelaw3.WeighShared': WHATEVER THE INPUT: true; the input reads as it did. -/
def weighSharedSpec : ChangeSpec := { name := "weighShared", fn := fun _ => fun
  | [d] => { results := [.lit (.bool true)], args := [d] }
  | _ => none }
def weighSharedRow : OpenClaim := { program := "ytopopkdnjpnafaa", sum := "43cc9abb9394d7e51c5269cce259d37b511a832e235bd027d4ca3d026171ec8e", func := "beehive/beehivelaw3.WeighShared", spec := "weighShared", recurses := true, apart := false }
def WeighSharedSaid : Prop := weighSharedRow.holds Try.pinned (OpenSpec.ofChange weighSharedSpec)

/-- ITS FALSE NEIGHBOUR: 'it returns false'. Refute it at one input. -/
def weighSharedWrong : ChangeSpec := { name := "weighShared", fn := fun _ => fun
  | [d] => { results := [.lit (.bool false)], args := [d] }
  | _ => none }
def WeighSharedWrongFalsely : Prop := weighSharedRow.holds Try.pinned (OpenSpec.ofChange weighSharedWrong)

/-- 'beehivelaw8.WordTells': WHATEVER THE INPUT: true; the input reads as it did. -/
def wordTellsSpec : ChangeSpec := { name := "wordTells", fn := fun _ => fun
  | [d1, d2, d3, d4, d5] => { results := [.lit (.bool true)], args := [d1, d2, d3, d4, d5] }
  | _ => none }
def wordTellsRow : OpenClaim := { program := "ytopopkdnjpnafaa", sum := "43cc9abb9394d7e51c5269cce259d37b511a832e235bd027d4ca3d026171ec8e", func := "beehive/beehivelaw8.WordTells", spec := "wordTells", apart := false }
def WordTellsSaid : Prop := wordTellsRow.holds Try.pinned (OpenSpec.ofChange wordTellsSpec)

/-- ITS FALSE NEIGHBOUR: 'it returns false'. Refute it at one input. -/
def wordTellsWrong : ChangeSpec := { name := "wordTells", fn := fun _ => fun
  | [d1, d2, d3, d4, d5] => { results := [.lit (.bool false)], args := [d1, d2, d3, d4, d5] }
  | _ => none }
def WordTellsWrongFalsely : Prop := wordTellsRow.holds Try.pinned (OpenSpec.ofChange wordTellsWrong)

/-- 'beehivelaw8.WordBack': WHATEVER THE INPUT: true; the input reads as it did. -/
def wordBackSpec : ChangeSpec := { name := "wordBack", fn := fun _ => fun
  | [d1, d2, d3, d4, d5] => { results := [.lit (.bool true)], args := [d1, d2, d3, d4, d5] }
  | _ => none }
def wordBackRow : OpenClaim := { program := "ytopopkdnjpnafaa", sum := "43cc9abb9394d7e51c5269cce259d37b511a832e235bd027d4ca3d026171ec8e", func := "beehive/beehivelaw8.WordBack", spec := "wordBack", apart := false }
def WordBackSaid : Prop := wordBackRow.holds Try.pinned (OpenSpec.ofChange wordBackSpec)

/-- ITS FALSE NEIGHBOUR: 'it returns false'. Refute it at one input. -/
def wordBackWrong : ChangeSpec := { name := "wordBack", fn := fun _ => fun
  | [d1, d2, d3, d4, d5] => { results := [.lit (.bool false)], args := [d1, d2, d3, d4, d5] }
  | _ => none }
def WordBackWrongFalsely : Prop := wordBackRow.holds Try.pinned (OpenSpec.ofChange wordBackWrong)

/- THE SECOND FORM. 'bulk': how many values and letters a reading holds, each counted each time it is reached (what is shared counts as often as it is met; a slice's spare places count too). A statement '..UptoSaid' is the law's where the arguments, and the package variables that the reading takes, are together of bulk at most 1048576: NARROWER than '..Said'. Prove '..Said' where nothing that the law and all that it calls make is longer than what came in: it says more and counts as full. Else prove '..UptoSaid'. A law counts once. -/
mutual
def uptoBulk {H : Type} : DataW H → Nat
  | .lit (.string bytes) => bytes.length + 1
  | .lit _ => 1
  | .nil => 1
  | .ptr d => uptoBulk d + 1
  | .slice elems spare => uptoBulkAll elems + uptoBulkAll spare + 1
  | .agg parts => uptoBulkAll parts + 1
  | .iface _ d => uptoBulk d + 1
  | .map entries => uptoBulkEntries entries + 1
  | .held _ => 1
def uptoBulkAll {H : Type} : List (DataW H) → Nat
  | [] => 0
  | d :: r => uptoBulk d + uptoBulkAll r
def uptoBulkEntries {H : Type} : List (Lit × DataW H) → Nat
  | [] => 0
  | x :: r => uptoBulkEntry x + uptoBulkEntries r
def uptoBulkEntry {H : Type} : Lit × DataW H → Nat
  | (.string bytes, d) => bytes.length + uptoBulk d + 1
  | (_, d) => uptoBulk d + 1
 end
def uptoSmall : (H : Type) → List (DataW H) → Bool := fun _ ds => decide (uptoBulkAll ds ≤ 1048576)
def OpenSpec.upto (s : _root_.Go.ChangeSpec) : _root_.Go.OpenSpec := { _root_.Go.OpenSpec.ofChange s with cond := some uptoSmall }

/-- 'beehivelaw9.SizesTell', WHERE WHAT IT READS IS OF BULK AT MOST 1048576: true; the input reads as it did. -/
def sizesTellUptoRow : OpenClaim := { program := "ytopopkdnjpnafaa", sum := "43cc9abb9394d7e51c5269cce259d37b511a832e235bd027d4ca3d026171ec8e", func := "beehive/beehivelaw9.SizesTell", spec := "sizesTell", apart := false, narrowed := true }
def SizesTellUptoSaid : Prop := sizesTellUptoRow.holds Try.pinned (OpenSpec.upto sizesTellSpec)

/-- 'beehivelaw9.SizesLeast', WHERE WHAT IT READS IS OF BULK AT MOST 1048576: true; the input reads as it did. -/
def sizesLeastUptoRow : OpenClaim := { program := "ytopopkdnjpnafaa", sum := "43cc9abb9394d7e51c5269cce259d37b511a832e235bd027d4ca3d026171ec8e", func := "beehive/beehivelaw9.SizesLeast", spec := "sizesLeast", apart := false, narrowed := true }
def SizesLeastUptoSaid : Prop := sizesLeastUptoRow.holds Try.pinned (OpenSpec.upto sizesLeastSpec)

/-- 'beehivelaw9.SizesSums', WHERE WHAT IT READS IS OF BULK AT MOST 1048576: true; the input reads as it did. -/
def sizesSumsUptoRow : OpenClaim := { program := "ytopopkdnjpnafaa", sum := "43cc9abb9394d7e51c5269cce259d37b511a832e235bd027d4ca3d026171ec8e", func := "beehive/beehivelaw9.SizesSums", spec := "sizesSums", apart := false, narrowed := true }
def SizesSumsUptoSaid : Prop := sizesSumsUptoRow.holds Try.pinned (OpenSpec.upto sizesSumsSpec)

/-- 'beehivelaw3.WeighTells', WHERE WHAT IT READS IS OF BULK AT MOST 1048576: true; the input reads as it did. -/
def weighTellsUptoRow : OpenClaim := { program := "ytopopkdnjpnafaa", sum := "43cc9abb9394d7e51c5269cce259d37b511a832e235bd027d4ca3d026171ec8e", func := "beehive/beehivelaw3.WeighTells", spec := "weighTells", recurses := true, loops := true, apart := false, narrowed := true }
def WeighTellsUptoSaid : Prop := weighTellsUptoRow.holds Try.pinned (OpenSpec.upto weighTellsSpec)

/-- 'beehivelaw3.WeighGrows', WHERE WHAT IT READS IS OF BULK AT MOST 1048576: true; the input reads as it did. -/
def weighGrowsUptoRow : OpenClaim := { program := "ytopopkdnjpnafaa", sum := "43cc9abb9394d7e51c5269cce259d37b511a832e235bd027d4ca3d026171ec8e", func := "beehive/beehivelaw3.WeighGrows", spec := "weighGrows", recurses := true, loops := true, apart := false, narrowed := true }
def WeighGrowsUptoSaid : Prop := weighGrowsUptoRow.holds Try.pinned (OpenSpec.upto weighGrowsSpec)

/-- 'beehivelaw3.WeighShared', WHERE WHAT IT READS IS OF BULK AT MOST 1048576: true; the input reads as it did. -/
def weighSharedUptoRow : OpenClaim := { program := "ytopopkdnjpnafaa", sum := "43cc9abb9394d7e51c5269cce259d37b511a832e235bd027d4ca3d026171ec8e", func := "beehive/beehivelaw3.WeighShared", spec := "weighShared", recurses := true, apart := false, narrowed := true }
def WeighSharedUptoSaid : Prop := weighSharedUptoRow.holds Try.pinned (OpenSpec.upto weighSharedSpec)

/-- 'beehivelaw8.WordTells', WHERE WHAT IT READS IS OF BULK AT MOST 1048576: true; the input reads as it did. -/
def wordTellsUptoRow : OpenClaim := { program := "ytopopkdnjpnafaa", sum := "43cc9abb9394d7e51c5269cce259d37b511a832e235bd027d4ca3d026171ec8e", func := "beehive/beehivelaw8.WordTells", spec := "wordTells", apart := false, narrowed := true }
def WordTellsUptoSaid : Prop := wordTellsUptoRow.holds Try.pinned (OpenSpec.upto wordTellsSpec)

/-- 'beehivelaw8.WordBack', WHERE WHAT IT READS IS OF BULK AT MOST 1048576: true; the input reads as it did. -/
def wordBackUptoRow : OpenClaim := { program := "ytopopkdnjpnafaa", sum := "43cc9abb9394d7e51c5269cce259d37b511a832e235bd027d4ca3d026171ec8e", func := "beehive/beehivelaw8.WordBack", spec := "wordBack", apart := false, narrowed := true }
def WordBackUptoSaid : Prop := wordBackUptoRow.holds Try.pinned (OpenSpec.upto wordBackSpec)

end Rows
end Go.Proofs.Ytopopkdnjpnafaa
