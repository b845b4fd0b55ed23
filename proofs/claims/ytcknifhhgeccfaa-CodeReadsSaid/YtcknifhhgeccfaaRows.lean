/-
  NARROWER THAN 'FOR EVERY INPUT', by the rows' own cells (each row's printed sentence says how): CodeLays: loops · CodeBack: loops · CodeSizes: loops.
  DERIVED. THE GIVEN ROWS OF THIS SEAT. 4 by the template 'for every input the law returns true; each argument reads behind the call as it read before'; 0 by the template 'total and deterministic' (their statements: YtcknifhhgeccfaaTotals.lean).
  GIVEN WITH THE SEED: the statements are not yours to turn. If you find one false, say at which input.
  Laid BY PROGRAM, IN A SANDBOX (cutbox-rows.mjs): the forced cells as the released guide's own fill.sh prints them over the translation 7eec8438f9211c25… (all of the seat's roots in one cut). By AI agents, Wed Nov 11 2026. No macro, syntax, notation, axiom, sorry.
-/
import Derived.Test.YtcknifhhgeccfaaChecked
import GoSem.Claim
import GoSem.ClaimJoined
import GoSem.ClaimMapViews
import Derived.JoinedTies
import Derived.KernelRfl
namespace Go.Proofs.Ytcknifhhgeccfaa
/- THE CELL 'sum', in the pinned program and in every row, IS THE sha256 OF THE DUMP (.gsa) THAT YtcknifhhgeccfaaProg.lean LOADS. Nothing in Lean hashes anything: it is a label: what it is worth is what the hold of that sum in a sandbox is worth. -/
noncomputable def Try.pinned : Pinned := { name := "ytcknifhhgeccfaa", sum := "7eec8438f9211c25bd5d1e8c1b087eaa7682035b00d5b047522fd82d9d1e0687", checked := Try.checked }
namespace Rows
def none {H : Type} : Left H := { results := [], args := [] }

/-- 'beehivelaw17.CodeLays': WHATEVER THE INPUT: true; the input reads as it did. -/
def codeLaysSpec : ChangeSpec := { name := "codeLays", fn := fun _ => fun
  | [d1, d2] => { results := [.lit (.bool true)], args := [d1, d2] }
  | _ => none }
def codeLaysRow : OpenClaim := { program := "ytcknifhhgeccfaa", sum := "7eec8438f9211c25bd5d1e8c1b087eaa7682035b00d5b047522fd82d9d1e0687", func := "beehive/beehivelaw17.CodeLays", spec := "codeLays", inPlace := ["math.Float64frombits"], unfollowed := true, recurses := true, loops := true, apart := false }
def CodeLaysSaid : Prop := codeLaysRow.holds Try.pinned (OpenSpec.ofChange codeLaysSpec)

/-- ITS FALSE NEIGHBOUR: 'it returns false'. Refute it at one input. -/
def codeLaysWrong : ChangeSpec := { name := "codeLays", fn := fun _ => fun
  | [d1, d2] => { results := [.lit (.bool false)], args := [d1, d2] }
  | _ => none }
def CodeLaysWrongFalsely : Prop := codeLaysRow.holds Try.pinned (OpenSpec.ofChange codeLaysWrong)

/-- 'beehivelaw17.CodeReads': WHATEVER THE INPUT: true; the input reads as it did. -/
def codeReadsSpec : ChangeSpec := { name := "codeReads", fn := fun _ => fun
  | [d] => { results := [.lit (.bool true)], args := [d] }
  | _ => none }
def codeReadsRow : OpenClaim := { program := "ytcknifhhgeccfaa", sum := "7eec8438f9211c25bd5d1e8c1b087eaa7682035b00d5b047522fd82d9d1e0687", func := "beehive/beehivelaw17.CodeReads", spec := "codeReads", inPlace := ["math.Float64frombits"], unfollowed := true, recurses := true, apart := false }
def CodeReadsSaid : Prop := codeReadsRow.holds Try.pinned (OpenSpec.ofChange codeReadsSpec)

/-- ITS FALSE NEIGHBOUR: 'it returns false'. Refute it at one input. -/
def codeReadsWrong : ChangeSpec := { name := "codeReads", fn := fun _ => fun
  | [d] => { results := [.lit (.bool false)], args := [d] }
  | _ => none }
def CodeReadsWrongFalsely : Prop := codeReadsRow.holds Try.pinned (OpenSpec.ofChange codeReadsWrong)

/-- 'beehivelaw17.CodeBack': WHATEVER THE INPUT: true; the input reads as it did. -/
def codeBackSpec : ChangeSpec := { name := "codeBack", fn := fun _ => fun
  | [d1, d2, d3] => { results := [.lit (.bool true)], args := [d1, d2, d3] }
  | _ => none }
def codeBackRow : OpenClaim := { program := "ytcknifhhgeccfaa", sum := "7eec8438f9211c25bd5d1e8c1b087eaa7682035b00d5b047522fd82d9d1e0687", func := "beehive/beehivelaw17.CodeBack", spec := "codeBack", inPlace := ["math.Float64frombits"], unfollowed := true, recurses := true, loops := true, apart := false }
def CodeBackSaid : Prop := codeBackRow.holds Try.pinned (OpenSpec.ofChange codeBackSpec)

/-- ITS FALSE NEIGHBOUR: 'it returns false'. Refute it at one input. -/
def codeBackWrong : ChangeSpec := { name := "codeBack", fn := fun _ => fun
  | [d1, d2, d3] => { results := [.lit (.bool false)], args := [d1, d2, d3] }
  | _ => none }
def CodeBackWrongFalsely : Prop := codeBackRow.holds Try.pinned (OpenSpec.ofChange codeBackWrong)

/-- 'beehivelaw17.CodeSizes': WHATEVER THE INPUT: true; the input reads as it did. -/
def codeSizesSpec : ChangeSpec := { name := "codeSizes", fn := fun _ => fun
  | [d] => { results := [.lit (.bool true)], args := [d] }
  | _ => none }
def codeSizesRow : OpenClaim := { program := "ytcknifhhgeccfaa", sum := "7eec8438f9211c25bd5d1e8c1b087eaa7682035b00d5b047522fd82d9d1e0687", func := "beehive/beehivelaw17.CodeSizes", spec := "codeSizes", inPlace := ["math.Float64frombits"], unfollowed := true, recurses := true, loops := true, apart := false }
def CodeSizesSaid : Prop := codeSizesRow.holds Try.pinned (OpenSpec.ofChange codeSizesSpec)

/-- ITS FALSE NEIGHBOUR: 'it returns false'. Refute it at one input. -/
def codeSizesWrong : ChangeSpec := { name := "codeSizes", fn := fun _ => fun
  | [d] => { results := [.lit (.bool false)], args := [d] }
  | _ => none }
def CodeSizesWrongFalsely : Prop := codeSizesRow.holds Try.pinned (OpenSpec.ofChange codeSizesWrong)

/- THE SECOND FORM. 'bulk': how many values and letters a reading holds, each counted each time it is reached (what is shared counts as often as it is met; a slice's spare places count too). A statement '..UptoSaid' is the law's where the arguments, and the package variables that the reading takes, are together of bulk at most 1048576: NARROWER than '..Said'. Prove '..Said' where nothing that the law and all that it calls make is longer than what came in: it says more and counts as full. Else prove '..UptoSaid'. A law counts once. -/
mutual
def uptoBulk {H : Type} : DataW H → Nat
  | .lit (.string bytes) => bytes.length + 1
  | .lit _ => 1
  | .nil => 1
  | .ptr d => uptoBulk d + 1
  | .slice elems spare => uptoBulkAll elems + uptoBulkAll spare + 1
  | .agg parts => uptoBulkAll parts + 1
  | .iface _ d => uptoBulk d + 1
  | .map entries => uptoBulkEntries entries + 1
  | .held _ => 1
def uptoBulkAll {H : Type} : List (DataW H) → Nat
  | [] => 0
  | d :: r => uptoBulk d + uptoBulkAll r
def uptoBulkEntries {H : Type} : List (Lit × DataW H) → Nat
  | [] => 0
  | x :: r => uptoBulkEntry x + uptoBulkEntries r
def uptoBulkEntry {H : Type} : Lit × DataW H → Nat
  | (.string bytes, d) => bytes.length + uptoBulk d + 1
  | (_, d) => uptoBulk d + 1
 end
def uptoSmall : (H : Type) → List (DataW H) → Bool := fun _ ds => decide (uptoBulkAll ds ≤ 1048576)
def OpenSpec.upto (s : _root_.Go.ChangeSpec) : _root_.Go.OpenSpec := { _root_.Go.OpenSpec.ofChange s with cond := some uptoSmall }

/-- 'beehivelaw17.CodeLays', WHERE WHAT IT READS IS OF BULK AT MOST 1048576: true; the input reads as it did. -/
def codeLaysUptoRow : OpenClaim := { program := "ytcknifhhgeccfaa", sum := "7eec8438f9211c25bd5d1e8c1b087eaa7682035b00d5b047522fd82d9d1e0687", func := "beehive/beehivelaw17.CodeLays", spec := "codeLays", inPlace := ["math.Float64frombits"], unfollowed := true, recurses := true, loops := true, apart := false, narrowed := true }
def CodeLaysUptoSaid : Prop := codeLaysUptoRow.holds Try.pinned (OpenSpec.upto codeLaysSpec)

/-- 'beehivelaw17.CodeReads', WHERE WHAT IT READS IS OF BULK AT MOST 1048576: true; the input reads as it did. -/
def codeReadsUptoRow : OpenClaim := { program := "ytcknifhhgeccfaa", sum := "7eec8438f9211c25bd5d1e8c1b087eaa7682035b00d5b047522fd82d9d1e0687", func := "beehive/beehivelaw17.CodeReads", spec := "codeReads", inPlace := ["math.Float64frombits"], unfollowed := true, recurses := true, apart := false, narrowed := true }
def CodeReadsUptoSaid : Prop := codeReadsUptoRow.holds Try.pinned (OpenSpec.upto codeReadsSpec)

/-- 'beehivelaw17.CodeBack', WHERE WHAT IT READS IS OF BULK AT MOST 1048576: true; the input reads as it did. -/
def codeBackUptoRow : OpenClaim := { program := "ytcknifhhgeccfaa", sum := "7eec8438f9211c25bd5d1e8c1b087eaa7682035b00d5b047522fd82d9d1e0687", func := "beehive/beehivelaw17.CodeBack", spec := "codeBack", inPlace := ["math.Float64frombits"], unfollowed := true, recurses := true, loops := true, apart := false, narrowed := true }
def CodeBackUptoSaid : Prop := codeBackUptoRow.holds Try.pinned (OpenSpec.upto codeBackSpec)

/-- 'beehivelaw17.CodeSizes', WHERE WHAT IT READS IS OF BULK AT MOST 1048576: true; the input reads as it did. -/
def codeSizesUptoRow : OpenClaim := { program := "ytcknifhhgeccfaa", sum := "7eec8438f9211c25bd5d1e8c1b087eaa7682035b00d5b047522fd82d9d1e0687", func := "beehive/beehivelaw17.CodeSizes", spec := "codeSizes", inPlace := ["math.Float64frombits"], unfollowed := true, recurses := true, loops := true, apart := false, narrowed := true }
def CodeSizesUptoSaid : Prop := codeSizesUptoRow.holds Try.pinned (OpenSpec.upto codeSizesSpec)

end Rows
end Go.Proofs.Ytcknifhhgeccfaa
