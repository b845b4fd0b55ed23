/-
  NARROWER THAN 'FOR EVERY INPUT', by the rows' own cells (each row's printed sentence says how): TermLists: loops · TermOdd: loops · TermTells: loops · WireLays: loops · WireBack: loops · WireJoins: loops.
  DERIVED. THE GIVEN ROWS OF THIS SEAT. 8 by the template 'for every input the law returns true; each argument reads behind the call as it read before'; 0 by the template 'total and deterministic' (their statements: YtocgnoohfkpbhaaTotals.lean).
  GIVEN WITH THE SEED: the statements are not yours to turn. If you find one false, say at which input.
  Laid BY PROGRAM, IN A SANDBOX (cutbox-rows.mjs): the forced cells as the released guide's own fill.sh prints them over the translation 4a4f65441f845830… (all of the seat's roots in one cut). By AI agents, Wed Nov 11 2026. No macro, syntax, notation, axiom, sorry.
-/
import Derived.Test.YtocgnoohfkpbhaaChecked
import GoSem.Claim
import GoSem.ClaimJoined
import GoSem.ClaimMapViews
import Derived.JoinedTies
import Derived.KernelRfl
namespace Go.Proofs.Ytocgnoohfkpbhaa
/- THE CELL 'sum', in the pinned program and in every row, IS THE sha256 OF THE DUMP (.gsa) THAT YtocgnoohfkpbhaaProg.lean LOADS. Nothing in Lean hashes anything: it is a label: what it is worth is what the hold of that sum in a sandbox is worth. -/
noncomputable def Try.pinned : Pinned := { name := "ytocgnoohfkpbhaa", sum := "4a4f65441f845830126242a65e743bc6de5d3d2a5f8b866089f5ebd863861416", checked := Try.checked }
namespace Rows
def none {H : Type} : Left H := { results := [], args := [] }

/-- 'beehivelaw4.TermLists': WHATEVER THE INPUT: true; the input reads as it did. -/
def termListsSpec : ChangeSpec := { name := "termLists", fn := fun _ => fun
  | [d] => { results := [.lit (.bool true)], args := [d] }
  | _ => none }
def termListsRow : OpenClaim := { program := "ytocgnoohfkpbhaa", sum := "4a4f65441f845830126242a65e743bc6de5d3d2a5f8b866089f5ebd863861416", func := "beehive/beehivelaw4.TermLists", spec := "termLists", inPlace := ["math.Float64frombits"], unfollowed := true, recurses := true, loops := true, apart := false }
def TermListsSaid : Prop := termListsRow.holds Try.pinned (OpenSpec.ofChange termListsSpec)

/-- ITS FALSE NEIGHBOUR: 'it returns false'. Refute it at one input. -/
def termListsWrong : ChangeSpec := { name := "termLists", fn := fun _ => fun
  | [d] => { results := [.lit (.bool false)], args := [d] }
  | _ => none }
def TermListsWrongFalsely : Prop := termListsRow.holds Try.pinned (OpenSpec.ofChange termListsWrong)

/-- 'beehivelaw4.TermOdd': WHATEVER THE INPUT: true; the input reads as it did. -/
def termOddSpec : ChangeSpec := { name := "termOdd", fn := fun _ => fun
  | [d1, d2] => { results := [.lit (.bool true)], args := [d1, d2] }
  | _ => none }
def termOddRow : OpenClaim := { program := "ytocgnoohfkpbhaa", sum := "4a4f65441f845830126242a65e743bc6de5d3d2a5f8b866089f5ebd863861416", func := "beehive/beehivelaw4.TermOdd", spec := "termOdd", inPlace := ["math.Float64frombits"], unfollowed := true, recurses := true, loops := true, apart := false }
def TermOddSaid : Prop := termOddRow.holds Try.pinned (OpenSpec.ofChange termOddSpec)

/-- ITS FALSE NEIGHBOUR: 'it returns false'. Refute it at one input. -/
def termOddWrong : ChangeSpec := { name := "termOdd", fn := fun _ => fun
  | [d1, d2] => { results := [.lit (.bool false)], args := [d1, d2] }
  | _ => none }
def TermOddWrongFalsely : Prop := termOddRow.holds Try.pinned (OpenSpec.ofChange termOddWrong)

/-- 'beehivelaw4.TermTells': WHATEVER THE INPUT: true; the input reads as it did. -/
def termTellsSpec : ChangeSpec := { name := "termTells", fn := fun _ => fun
  | [d1, d2] => { results := [.lit (.bool true)], args := [d1, d2] }
  | _ => none }
def termTellsRow : OpenClaim := { program := "ytocgnoohfkpbhaa", sum := "4a4f65441f845830126242a65e743bc6de5d3d2a5f8b866089f5ebd863861416", func := "beehive/beehivelaw4.TermTells", spec := "termTells", inPlace := ["math.Float64frombits"], unfollowed := true, recurses := true, loops := true, apart := false }
def TermTellsSaid : Prop := termTellsRow.holds Try.pinned (OpenSpec.ofChange termTellsSpec)

/-- ITS FALSE NEIGHBOUR: 'it returns false'. Refute it at one input. -/
def termTellsWrong : ChangeSpec := { name := "termTells", fn := fun _ => fun
  | [d1, d2] => { results := [.lit (.bool false)], args := [d1, d2] }
  | _ => none }
def TermTellsWrongFalsely : Prop := termTellsRow.holds Try.pinned (OpenSpec.ofChange termTellsWrong)

/-- 'beehivelaw4.TermNums': WHATEVER THE INPUT: true; the input reads as it did. -/
def termNumsSpec : ChangeSpec := { name := "termNums", fn := fun _ => fun
  | [d1, d2] => { results := [.lit (.bool true)], args := [d1, d2] }
  | _ => none }
def termNumsRow : OpenClaim := { program := "ytocgnoohfkpbhaa", sum := "4a4f65441f845830126242a65e743bc6de5d3d2a5f8b866089f5ebd863861416", func := "beehive/beehivelaw4.TermNums", spec := "termNums", inPlace := ["math.Float64frombits"], unfollowed := true, recurses := true, apart := false }
def TermNumsSaid : Prop := termNumsRow.holds Try.pinned (OpenSpec.ofChange termNumsSpec)

/-- ITS FALSE NEIGHBOUR: 'it returns false'. Refute it at one input. -/
def termNumsWrong : ChangeSpec := { name := "termNums", fn := fun _ => fun
  | [d1, d2] => { results := [.lit (.bool false)], args := [d1, d2] }
  | _ => none }
def TermNumsWrongFalsely : Prop := termNumsRow.holds Try.pinned (OpenSpec.ofChange termNumsWrong)

/-- 'beehivelaw7.WireLays': WHATEVER THE INPUT: true; the input reads as it did. -/
def wireLaysSpec : ChangeSpec := { name := "wireLays", fn := fun _ => fun
  | [d] => { results := [.lit (.bool true)], args := [d] }
  | _ => none }
def wireLaysRow : OpenClaim := { program := "ytocgnoohfkpbhaa", sum := "4a4f65441f845830126242a65e743bc6de5d3d2a5f8b866089f5ebd863861416", func := "beehive/beehivelaw7.WireLays", spec := "wireLays", inPlace := ["math.Float64frombits"], unfollowed := true, recurses := true, loops := true, apart := false }
def WireLaysSaid : Prop := wireLaysRow.holds Try.pinned (OpenSpec.ofChange wireLaysSpec)

/-- ITS FALSE NEIGHBOUR: 'it returns false'. Refute it at one input. -/
def wireLaysWrong : ChangeSpec := { name := "wireLays", fn := fun _ => fun
  | [d] => { results := [.lit (.bool false)], args := [d] }
  | _ => none }
def WireLaysWrongFalsely : Prop := wireLaysRow.holds Try.pinned (OpenSpec.ofChange wireLaysWrong)

/-- 'beehivelaw7.WireReads': WHATEVER THE INPUT: true; the input reads as it did. -/
def wireReadsSpec : ChangeSpec := { name := "wireReads", fn := fun _ => fun
  | [d1, d2] => { results := [.lit (.bool true)], args := [d1, d2] }
  | _ => none }
def wireReadsRow : OpenClaim := { program := "ytocgnoohfkpbhaa", sum := "4a4f65441f845830126242a65e743bc6de5d3d2a5f8b866089f5ebd863861416", func := "beehive/beehivelaw7.WireReads", spec := "wireReads", inPlace := ["math.Float64frombits"], unfollowed := true, recurses := true, apart := false }
def WireReadsSaid : Prop := wireReadsRow.holds Try.pinned (OpenSpec.ofChange wireReadsSpec)

/-- ITS FALSE NEIGHBOUR: 'it returns false'. Refute it at one input. -/
def wireReadsWrong : ChangeSpec := { name := "wireReads", fn := fun _ => fun
  | [d1, d2] => { results := [.lit (.bool false)], args := [d1, d2] }
  | _ => none }
def WireReadsWrongFalsely : Prop := wireReadsRow.holds Try.pinned (OpenSpec.ofChange wireReadsWrong)

/-- 'beehivelaw7.WireBack': WHATEVER THE INPUT: true; the input reads as it did. -/
def wireBackSpec : ChangeSpec := { name := "wireBack", fn := fun _ => fun
  | [d1, d2, d3, d4] => { results := [.lit (.bool true)], args := [d1, d2, d3, d4] }
  | _ => none }
def wireBackRow : OpenClaim := { program := "ytocgnoohfkpbhaa", sum := "4a4f65441f845830126242a65e743bc6de5d3d2a5f8b866089f5ebd863861416", func := "beehive/beehivelaw7.WireBack", spec := "wireBack", inPlace := ["math.Float64frombits"], unfollowed := true, recurses := true, loops := true, apart := false }
def WireBackSaid : Prop := wireBackRow.holds Try.pinned (OpenSpec.ofChange wireBackSpec)

/-- ITS FALSE NEIGHBOUR: 'it returns false'. Refute it at one input. -/
def wireBackWrong : ChangeSpec := { name := "wireBack", fn := fun _ => fun
  | [d1, d2, d3, d4] => { results := [.lit (.bool false)], args := [d1, d2, d3, d4] }
  | _ => none }
def WireBackWrongFalsely : Prop := wireBackRow.holds Try.pinned (OpenSpec.ofChange wireBackWrong)

/-- 'beehivelaw7.WireJoins': WHATEVER THE INPUT: true; the input reads as it did. -/
def wireJoinsSpec : ChangeSpec := { name := "wireJoins", fn := fun _ => fun
  | [d1, d2] => { results := [.lit (.bool true)], args := [d1, d2] }
  | _ => none }
def wireJoinsRow : OpenClaim := { program := "ytocgnoohfkpbhaa", sum := "4a4f65441f845830126242a65e743bc6de5d3d2a5f8b866089f5ebd863861416", func := "beehive/beehivelaw7.WireJoins", spec := "wireJoins", inPlace := ["math.Float64frombits"], unfollowed := true, recurses := true, loops := true, apart := false }
def WireJoinsSaid : Prop := wireJoinsRow.holds Try.pinned (OpenSpec.ofChange wireJoinsSpec)

/-- ITS FALSE NEIGHBOUR: 'it returns false'. Refute it at one input. -/
def wireJoinsWrong : ChangeSpec := { name := "wireJoins", fn := fun _ => fun
  | [d1, d2] => { results := [.lit (.bool false)], args := [d1, d2] }
  | _ => none }
def WireJoinsWrongFalsely : Prop := wireJoinsRow.holds Try.pinned (OpenSpec.ofChange wireJoinsWrong)

/- THE SECOND FORM. 'bulk': how many values and letters a reading holds, each counted each time it is reached (what is shared counts as often as it is met; a slice's spare places count too). A statement '..UptoSaid' is the law's where the arguments, and the package variables that the reading takes, are together of bulk at most 1048576: NARROWER than '..Said'. Prove '..Said' where nothing that the law and all that it calls make is longer than what came in: it says more and counts as full. Else prove '..UptoSaid'. A law counts once. -/
mutual
def uptoBulk {H : Type} : DataW H → Nat
  | .lit (.string bytes) => bytes.length + 1
  | .lit _ => 1
  | .nil => 1
  | .ptr d => uptoBulk d + 1
  | .slice elems spare => uptoBulkAll elems + uptoBulkAll spare + 1
  | .agg parts => uptoBulkAll parts + 1
  | .iface _ d => uptoBulk d + 1
  | .map entries => uptoBulkEntries entries + 1
  | .held _ => 1
def uptoBulkAll {H : Type} : List (DataW H) → Nat
  | [] => 0
  | d :: r => uptoBulk d + uptoBulkAll r
def uptoBulkEntries {H : Type} : List (Lit × DataW H) → Nat
  | [] => 0
  | x :: r => uptoBulkEntry x + uptoBulkEntries r
def uptoBulkEntry {H : Type} : Lit × DataW H → Nat
  | (.string bytes, d) => bytes.length + uptoBulk d + 1
  | (_, d) => uptoBulk d + 1
 end
def uptoSmall : (H : Type) → List (DataW H) → Bool := fun _ ds => decide (uptoBulkAll ds ≤ 1048576)
def OpenSpec.upto (s : _root_.Go.ChangeSpec) : _root_.Go.OpenSpec := { _root_.Go.OpenSpec.ofChange s with cond := some uptoSmall }

/-- 'beehivelaw4.TermLists', WHERE WHAT IT READS IS OF BULK AT MOST 1048576: true; the input reads as it did. -/
def termListsUptoRow : OpenClaim := { program := "ytocgnoohfkpbhaa", sum := "4a4f65441f845830126242a65e743bc6de5d3d2a5f8b866089f5ebd863861416", func := "beehive/beehivelaw4.TermLists", spec := "termLists", inPlace := ["math.Float64frombits"], unfollowed := true, recurses := true, loops := true, apart := false, narrowed := true }
def TermListsUptoSaid : Prop := termListsUptoRow.holds Try.pinned (OpenSpec.upto termListsSpec)

/-- 'beehivelaw4.TermOdd', WHERE WHAT IT READS IS OF BULK AT MOST 1048576: true; the input reads as it did. -/
def termOddUptoRow : OpenClaim := { program := "ytocgnoohfkpbhaa", sum := "4a4f65441f845830126242a65e743bc6de5d3d2a5f8b866089f5ebd863861416", func := "beehive/beehivelaw4.TermOdd", spec := "termOdd", inPlace := ["math.Float64frombits"], unfollowed := true, recurses := true, loops := true, apart := false, narrowed := true }
def TermOddUptoSaid : Prop := termOddUptoRow.holds Try.pinned (OpenSpec.upto termOddSpec)

/-- 'beehivelaw4.TermTells', WHERE WHAT IT READS IS OF BULK AT MOST 1048576: true; the input reads as it did. -/
def termTellsUptoRow : OpenClaim := { program := "ytocgnoohfkpbhaa", sum := "4a4f65441f845830126242a65e743bc6de5d3d2a5f8b866089f5ebd863861416", func := "beehive/beehivelaw4.TermTells", spec := "termTells", inPlace := ["math.Float64frombits"], unfollowed := true, recurses := true, loops := true, apart := false, narrowed := true }
def TermTellsUptoSaid : Prop := termTellsUptoRow.holds Try.pinned (OpenSpec.upto termTellsSpec)

/-- 'beehivelaw4.TermNums', WHERE WHAT IT READS IS OF BULK AT MOST 1048576: true; the input reads as it did. -/
def termNumsUptoRow : OpenClaim := { program := "ytocgnoohfkpbhaa", sum := "4a4f65441f845830126242a65e743bc6de5d3d2a5f8b866089f5ebd863861416", func := "beehive/beehivelaw4.TermNums", spec := "termNums", inPlace := ["math.Float64frombits"], unfollowed := true, recurses := true, apart := false, narrowed := true }
def TermNumsUptoSaid : Prop := termNumsUptoRow.holds Try.pinned (OpenSpec.upto termNumsSpec)

/-- 'beehivelaw7.WireLays', WHERE WHAT IT READS IS OF BULK AT MOST 1048576: true; the input reads as it did. -/
def wireLaysUptoRow : OpenClaim := { program := "ytocgnoohfkpbhaa", sum := "4a4f65441f845830126242a65e743bc6de5d3d2a5f8b866089f5ebd863861416", func := "beehive/beehivelaw7.WireLays", spec := "wireLays", inPlace := ["math.Float64frombits"], unfollowed := true, recurses := true, loops := true, apart := false, narrowed := true }
def WireLaysUptoSaid : Prop := wireLaysUptoRow.holds Try.pinned (OpenSpec.upto wireLaysSpec)

/-- 'beehivelaw7.WireReads', WHERE WHAT IT READS IS OF BULK AT MOST 1048576: true; the input reads as it did. -/
def wireReadsUptoRow : OpenClaim := { program := "ytocgnoohfkpbhaa", sum := "4a4f65441f845830126242a65e743bc6de5d3d2a5f8b866089f5ebd863861416", func := "beehive/beehivelaw7.WireReads", spec := "wireReads", inPlace := ["math.Float64frombits"], unfollowed := true, recurses := true, apart := false, narrowed := true }
def WireReadsUptoSaid : Prop := wireReadsUptoRow.holds Try.pinned (OpenSpec.upto wireReadsSpec)

/-- 'beehivelaw7.WireBack', WHERE WHAT IT READS IS OF BULK AT MOST 1048576: true; the input reads as it did. -/
def wireBackUptoRow : OpenClaim := { program := "ytocgnoohfkpbhaa", sum := "4a4f65441f845830126242a65e743bc6de5d3d2a5f8b866089f5ebd863861416", func := "beehive/beehivelaw7.WireBack", spec := "wireBack", inPlace := ["math.Float64frombits"], unfollowed := true, recurses := true, loops := true, apart := false, narrowed := true }
def WireBackUptoSaid : Prop := wireBackUptoRow.holds Try.pinned (OpenSpec.upto wireBackSpec)

/-- 'beehivelaw7.WireJoins', WHERE WHAT IT READS IS OF BULK AT MOST 1048576: true; the input reads as it did. -/
def wireJoinsUptoRow : OpenClaim := { program := "ytocgnoohfkpbhaa", sum := "4a4f65441f845830126242a65e743bc6de5d3d2a5f8b866089f5ebd863861416", func := "beehive/beehivelaw7.WireJoins", spec := "wireJoins", inPlace := ["math.Float64frombits"], unfollowed := true, recurses := true, loops := true, apart := false, narrowed := true }
def WireJoinsUptoSaid : Prop := wireJoinsUptoRow.holds Try.pinned (OpenSpec.upto wireJoinsSpec)

end Rows
end Go.Proofs.Ytocgnoohfkpbhaa
