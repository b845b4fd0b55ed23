/-
  NARROWER THAN 'FOR EVERY INPUT', by the rows' own cells (each row's printed sentence says how): ValidTells: loops · ValidFixes: loops · ValidGrows: loops.
  DERIVED. THE GIVEN ROWS OF THIS SEAT. 4 by the template 'for every input the law returns true; each argument reads behind the call as it read before'; 0 by the template 'total and deterministic' (their statements: YtphieolckpneeaaTotals.lean).
  GIVEN WITH THE SEED: the statements are not yours to turn. If you find one false, say at which input.
  Laid BY PROGRAM, IN A SANDBOX (cutbox-rows.mjs): the forced cells as the released guide's own fill.sh prints them over the translation c70973fd17f5147b… (all of the seat's roots in one cut). By AI agents, Wed Nov 11 2026. No macro, syntax, notation, axiom, sorry.
-/
import Derived.Test.YtphieolckpneeaaChecked
import GoSem.Claim
import GoSem.ClaimJoined
import GoSem.ClaimMapViews
import Derived.JoinedTies
import Derived.KernelRfl
namespace Go.Proofs.Ytphieolckpneeaa
/- THE CELL 'sum', in the pinned program and in every row, IS THE sha256 OF THE DUMP (.gsa) THAT YtphieolckpneeaaProg.lean LOADS. Nothing in Lean hashes anything: it is a label: what it is worth is what the hold of that sum in a sandbox is worth. -/
noncomputable def Try.pinned : Pinned := { name := "ytphieolckpneeaa", sum := "c70973fd17f5147be8d1ae1f99d870d8dc1949b738c862ecaf44d23a3256122b", checked := Try.checked }
namespace Rows
def none {H : Type} : Left H := { results := [], args := [] }

/-- 'beehivelaw18.ValidBounds': WHATEVER THE INPUT: true; the input reads as it did. -/
def validBoundsSpec : ChangeSpec := { name := "validBounds", fn := fun _ => fun
  | [d1, d2, d3, d4] => { results := [.lit (.bool true)], args := [d1, d2, d3, d4] }
  | _ => none }
def validBoundsRow : OpenClaim := { program := "ytphieolckpneeaa", sum := "c70973fd17f5147be8d1ae1f99d870d8dc1949b738c862ecaf44d23a3256122b", func := "beehive/beehivelaw18.ValidBounds", spec := "validBounds", inPlace := ["math.Float64frombits"], unfollowed := true, recurses := true, apart := false }
def ValidBoundsSaid : Prop := validBoundsRow.holds Try.pinned (OpenSpec.ofChange validBoundsSpec)

/-- ITS FALSE NEIGHBOUR: 'it returns false'. Refute it at one input. -/
def validBoundsWrong : ChangeSpec := { name := "validBounds", fn := fun _ => fun
  | [d1, d2, d3, d4] => { results := [.lit (.bool false)], args := [d1, d2, d3, d4] }
  | _ => none }
def ValidBoundsWrongFalsely : Prop := validBoundsRow.holds Try.pinned (OpenSpec.ofChange validBoundsWrong)

/-- 'beehivelaw18.ValidTells': WHATEVER THE INPUT: true; the input reads as it did. -/
def validTellsSpec : ChangeSpec := { name := "validTells", fn := fun _ => fun
  | [d1, d2] => { results := [.lit (.bool true)], args := [d1, d2] }
  | _ => none }
def validTellsRow : OpenClaim := { program := "ytphieolckpneeaa", sum := "c70973fd17f5147be8d1ae1f99d870d8dc1949b738c862ecaf44d23a3256122b", func := "beehive/beehivelaw18.ValidTells", spec := "validTells", inPlace := ["math.Float64frombits"], unfollowed := true, recurses := true, loops := true, apart := false }
def ValidTellsSaid : Prop := validTellsRow.holds Try.pinned (OpenSpec.ofChange validTellsSpec)

/-- ITS FALSE NEIGHBOUR: 'it returns false'. Refute it at one input. -/
def validTellsWrong : ChangeSpec := { name := "validTells", fn := fun _ => fun
  | [d1, d2] => { results := [.lit (.bool false)], args := [d1, d2] }
  | _ => none }
def ValidTellsWrongFalsely : Prop := validTellsRow.holds Try.pinned (OpenSpec.ofChange validTellsWrong)

/-- 'beehivelaw18.ValidFixes': WHATEVER THE INPUT: true; the input reads as it did. -/
def validFixesSpec : ChangeSpec := { name := "validFixes", fn := fun _ => fun
  | [d] => { results := [.lit (.bool true)], args := [d] }
  | _ => none }
def validFixesRow : OpenClaim := { program := "ytphieolckpneeaa", sum := "c70973fd17f5147be8d1ae1f99d870d8dc1949b738c862ecaf44d23a3256122b", func := "beehive/beehivelaw18.ValidFixes", spec := "validFixes", inPlace := ["math.Float64frombits"], unfollowed := true, recurses := true, loops := true, apart := false }
def ValidFixesSaid : Prop := validFixesRow.holds Try.pinned (OpenSpec.ofChange validFixesSpec)

/-- ITS FALSE NEIGHBOUR: 'it returns false'. Refute it at one input. -/
def validFixesWrong : ChangeSpec := { name := "validFixes", fn := fun _ => fun
  | [d] => { results := [.lit (.bool false)], args := [d] }
  | _ => none }
def ValidFixesWrongFalsely : Prop := validFixesRow.holds Try.pinned (OpenSpec.ofChange validFixesWrong)

/-- 'beehivelaw18.ValidGrows': WHATEVER THE INPUT: true; the input reads as it did. -/
def validGrowsSpec : ChangeSpec := { name := "validGrows", fn := fun _ => fun
  | [d1, d2, d3] => { results := [.lit (.bool true)], args := [d1, d2, d3] }
  | _ => none }
def validGrowsRow : OpenClaim := { program := "ytphieolckpneeaa", sum := "c70973fd17f5147be8d1ae1f99d870d8dc1949b738c862ecaf44d23a3256122b", func := "beehive/beehivelaw18.ValidGrows", spec := "validGrows", inPlace := ["math.Float64frombits"], unfollowed := true, recurses := true, loops := true, apart := false }
def ValidGrowsSaid : Prop := validGrowsRow.holds Try.pinned (OpenSpec.ofChange validGrowsSpec)

/-- ITS FALSE NEIGHBOUR: 'it returns false'. Refute it at one input. -/
def validGrowsWrong : ChangeSpec := { name := "validGrows", fn := fun _ => fun
  | [d1, d2, d3] => { results := [.lit (.bool false)], args := [d1, d2, d3] }
  | _ => none }
def ValidGrowsWrongFalsely : Prop := validGrowsRow.holds Try.pinned (OpenSpec.ofChange validGrowsWrong)

/- THE SECOND FORM. 'bulk': how many values and letters a reading holds, each counted each time it is reached (what is shared counts as often as it is met; a slice's spare places count too). A statement '..UptoSaid' is the law's where the arguments, and the package variables that the reading takes, are together of bulk at most 1048576: NARROWER than '..Said'. Prove '..Said' where nothing that the law and all that it calls make is longer than what came in: it says more and counts as full. Else prove '..UptoSaid'. A law counts once. -/
mutual
def uptoBulk {H : Type} : DataW H → Nat
  | .lit (.string bytes) => bytes.length + 1
  | .lit _ => 1
  | .nil => 1
  | .ptr d => uptoBulk d + 1
  | .slice elems spare => uptoBulkAll elems + uptoBulkAll spare + 1
  | .agg parts => uptoBulkAll parts + 1
  | .iface _ d => uptoBulk d + 1
  | .map entries => uptoBulkEntries entries + 1
  | .held _ => 1
def uptoBulkAll {H : Type} : List (DataW H) → Nat
  | [] => 0
  | d :: r => uptoBulk d + uptoBulkAll r
def uptoBulkEntries {H : Type} : List (Lit × DataW H) → Nat
  | [] => 0
  | x :: r => uptoBulkEntry x + uptoBulkEntries r
def uptoBulkEntry {H : Type} : Lit × DataW H → Nat
  | (.string bytes, d) => bytes.length + uptoBulk d + 1
  | (_, d) => uptoBulk d + 1
 end
def uptoSmall : (H : Type) → List (DataW H) → Bool := fun _ ds => decide (uptoBulkAll ds ≤ 1048576)
def OpenSpec.upto (s : _root_.Go.ChangeSpec) : _root_.Go.OpenSpec := { _root_.Go.OpenSpec.ofChange s with cond := some uptoSmall }

/-- 'beehivelaw18.ValidBounds', WHERE WHAT IT READS IS OF BULK AT MOST 1048576: true; the input reads as it did. -/
def validBoundsUptoRow : OpenClaim := { program := "ytphieolckpneeaa", sum := "c70973fd17f5147be8d1ae1f99d870d8dc1949b738c862ecaf44d23a3256122b", func := "beehive/beehivelaw18.ValidBounds", spec := "validBounds", inPlace := ["math.Float64frombits"], unfollowed := true, recurses := true, apart := false, narrowed := true }
def ValidBoundsUptoSaid : Prop := validBoundsUptoRow.holds Try.pinned (OpenSpec.upto validBoundsSpec)

/-- 'beehivelaw18.ValidTells', WHERE WHAT IT READS IS OF BULK AT MOST 1048576: true; the input reads as it did. -/
def validTellsUptoRow : OpenClaim := { program := "ytphieolckpneeaa", sum := "c70973fd17f5147be8d1ae1f99d870d8dc1949b738c862ecaf44d23a3256122b", func := "beehive/beehivelaw18.ValidTells", spec := "validTells", inPlace := ["math.Float64frombits"], unfollowed := true, recurses := true, loops := true, apart := false, narrowed := true }
def ValidTellsUptoSaid : Prop := validTellsUptoRow.holds Try.pinned (OpenSpec.upto validTellsSpec)

/-- 'beehivelaw18.ValidFixes', WHERE WHAT IT READS IS OF BULK AT MOST 1048576: true; the input reads as it did. -/
def validFixesUptoRow : OpenClaim := { program := "ytphieolckpneeaa", sum := "c70973fd17f5147be8d1ae1f99d870d8dc1949b738c862ecaf44d23a3256122b", func := "beehive/beehivelaw18.ValidFixes", spec := "validFixes", inPlace := ["math.Float64frombits"], unfollowed := true, recurses := true, loops := true, apart := false, narrowed := true }
def ValidFixesUptoSaid : Prop := validFixesUptoRow.holds Try.pinned (OpenSpec.upto validFixesSpec)

/-- 'beehivelaw18.ValidGrows', WHERE WHAT IT READS IS OF BULK AT MOST 1048576: true; the input reads as it did. -/
def validGrowsUptoRow : OpenClaim := { program := "ytphieolckpneeaa", sum := "c70973fd17f5147be8d1ae1f99d870d8dc1949b738c862ecaf44d23a3256122b", func := "beehive/beehivelaw18.ValidGrows", spec := "validGrows", inPlace := ["math.Float64frombits"], unfollowed := true, recurses := true, loops := true, apart := false, narrowed := true }
def ValidGrowsUptoSaid : Prop := validGrowsUptoRow.holds Try.pinned (OpenSpec.upto validGrowsSpec)

end Rows
end Go.Proofs.Ytphieolckpneeaa
