/-
  No cell of these rows narrows 'for every input' (looked for: loops, veiled, ifaces, maps, wideKeys, modest, calm, conditions, laid).
  DERIVED. THE GIVEN ROWS OF THIS SEAT. 8 by the template 'for every input the law returns true; each argument reads behind the call as it read before'; 0 by the template 'total and deterministic' (their statements: YtnnikgdmdmbooaaGreatTotals.lean).
  GIVEN WITH THE SEED: the statements are not yours to turn. If you find one false, say at which input.
  Laid BY PROGRAM, IN A SANDBOX (cutbox-rows.mjs): the forced cells as the released guide's own fill.sh prints them over the translation 28722902bbbb59bf… (all of the seat's roots in one cut). By AI agents, Wed Nov 11 2026. No macro, syntax, notation, axiom, sorry.
-/
import Derived.Test.YtnnikgdmdmbooaaGreatChecked
import GoSem.Claim
import GoSem.ClaimJoined
import GoSem.ClaimMapViews
import Derived.JoinedTies
import Derived.KernelRfl
namespace Go.Proofs.YtnnikgdmdmbooaaGreat
/- THE CELL 'sum', in the pinned program and in every row, IS THE sha256 OF THE DUMP (.gsa) THAT YtnnikgdmdmbooaaGreatProg.lean LOADS. Nothing in Lean hashes anything: it is a label: what it is worth is what the hold of that sum in a sandbox is worth. -/
noncomputable def Tryz.pinned : Pinned := { name := "ytnnikgdmdmbooaagreat", sum := "28722902bbbb59bf191c661feef2c06177d563b8cf0aff94351cc12bb5c91e3e", checked := Tryz.checked }
namespace Rows
def none {H : Type} : Left H := { results := [], args := [] }

/-- 'quadformlaw40.SiegelCounts': WHATEVER THE INPUT: true; the input reads as it did. -/
def siegelCountsSpec : ChangeSpec := { name := "siegelCounts", fn := fun _ => fun
  | [d1, d2, d3, d4, d5, d6, d7, d8] => { results := [.lit (.bool true)], args := [d1, d2, d3, d4, d5, d6, d7, d8] }
  | _ => none }
def siegelCountsRow : OpenClaim := { program := "ytnnikgdmdmbooaagreat", sum := "28722902bbbb59bf191c661feef2c06177d563b8cf0aff94351cc12bb5c91e3e", func := "quadform/quadformlaw40.SiegelCounts", spec := "siegelCounts", unfollowed := true, recurses := true, apart := false }
def SiegelCountsSaid : Prop := siegelCountsRow.holds Tryz.pinned (OpenSpec.ofChange siegelCountsSpec)

/-- ITS FALSE NEIGHBOUR: 'it returns false'. Refute it at one input. -/
def siegelCountsWrong : ChangeSpec := { name := "siegelCounts", fn := fun _ => fun
  | [d1, d2, d3, d4, d5, d6, d7, d8] => { results := [.lit (.bool false)], args := [d1, d2, d3, d4, d5, d6, d7, d8] }
  | _ => none }
def SiegelCountsWrongFalsely : Prop := siegelCountsRow.holds Tryz.pinned (OpenSpec.ofChange siegelCountsWrong)

/-- 'quadformlaw40.SiegelSum': WHATEVER THE INPUT: true; the input reads as it did. -/
def siegelSumSpec : ChangeSpec := { name := "siegelSum", fn := fun _ => fun
  | [d1, d2, d3] => { results := [.lit (.bool true)], args := [d1, d2, d3] }
  | _ => none }
def siegelSumRow : OpenClaim := { program := "ytnnikgdmdmbooaagreat", sum := "28722902bbbb59bf191c661feef2c06177d563b8cf0aff94351cc12bb5c91e3e", func := "quadform/quadformlaw40.SiegelSum", spec := "siegelSum", unfollowed := true, recurses := true, apart := false }
def SiegelSumSaid : Prop := siegelSumRow.holds Tryz.pinned (OpenSpec.ofChange siegelSumSpec)

/-- ITS FALSE NEIGHBOUR: 'it returns false'. Refute it at one input. -/
def siegelSumWrong : ChangeSpec := { name := "siegelSum", fn := fun _ => fun
  | [d1, d2, d3] => { results := [.lit (.bool false)], args := [d1, d2, d3] }
  | _ => none }
def SiegelSumWrongFalsely : Prop := siegelSumRow.holds Tryz.pinned (OpenSpec.ofChange siegelSumWrong)

/-- 'quadformlaw40.SiegelDensity': WHATEVER THE INPUT: true; the input reads as it did. -/
def siegelDensitySpec : ChangeSpec := { name := "siegelDensity", fn := fun _ => fun
  | [d1, d2, d3, d4, d5, d6, d7, d8] => { results := [.lit (.bool true)], args := [d1, d2, d3, d4, d5, d6, d7, d8] }
  | _ => none }
def siegelDensityRow : OpenClaim := { program := "ytnnikgdmdmbooaagreat", sum := "28722902bbbb59bf191c661feef2c06177d563b8cf0aff94351cc12bb5c91e3e", func := "quadform/quadformlaw40.SiegelDensity", spec := "siegelDensity", unfollowed := true, recurses := true, apart := false }
def SiegelDensitySaid : Prop := siegelDensityRow.holds Tryz.pinned (OpenSpec.ofChange siegelDensitySpec)

/-- ITS FALSE NEIGHBOUR: 'it returns false'. Refute it at one input. -/
def siegelDensityWrong : ChangeSpec := { name := "siegelDensity", fn := fun _ => fun
  | [d1, d2, d3, d4, d5, d6, d7, d8] => { results := [.lit (.bool false)], args := [d1, d2, d3, d4, d5, d6, d7, d8] }
  | _ => none }
def SiegelDensityWrongFalsely : Prop := siegelDensityRow.holds Tryz.pinned (OpenSpec.ofChange siegelDensityWrong)

/-- 'quadformlaw40.SiegelExpected': WHATEVER THE INPUT: true; the input reads as it did. -/
def siegelExpectedSpec : ChangeSpec := { name := "siegelExpected", fn := fun _ => fun
  | [d1, d2, d3, d4, d5] => { results := [.lit (.bool true)], args := [d1, d2, d3, d4, d5] }
  | _ => none }
def siegelExpectedRow : OpenClaim := { program := "ytnnikgdmdmbooaagreat", sum := "28722902bbbb59bf191c661feef2c06177d563b8cf0aff94351cc12bb5c91e3e", func := "quadform/quadformlaw40.SiegelExpected", spec := "siegelExpected", unfollowed := true, recurses := true, apart := false }
def SiegelExpectedSaid : Prop := siegelExpectedRow.holds Tryz.pinned (OpenSpec.ofChange siegelExpectedSpec)

/-- ITS FALSE NEIGHBOUR: 'it returns false'. Refute it at one input. -/
def siegelExpectedWrong : ChangeSpec := { name := "siegelExpected", fn := fun _ => fun
  | [d1, d2, d3, d4, d5] => { results := [.lit (.bool false)], args := [d1, d2, d3, d4, d5] }
  | _ => none }
def SiegelExpectedWrongFalsely : Prop := siegelExpectedRow.holds Tryz.pinned (OpenSpec.ofChange siegelExpectedWrong)

/-- 'quadformlaw40.SiegelSquares': WHATEVER THE INPUT: true; the input reads as it did. -/
def siegelSquaresSpec : ChangeSpec := { name := "siegelSquares", fn := fun _ => fun
  | [] => { results := [.lit (.bool true)], args := [] }
  | _ => none }
def siegelSquaresRow : OpenClaim := { program := "ytnnikgdmdmbooaagreat", sum := "28722902bbbb59bf191c661feef2c06177d563b8cf0aff94351cc12bb5c91e3e", func := "quadform/quadformlaw40.SiegelSquares", spec := "siegelSquares", unfollowed := true, recurses := true, apart := false }
def SiegelSquaresSaid : Prop := siegelSquaresRow.holds Tryz.pinned (OpenSpec.ofChange siegelSquaresSpec)

/-- ITS FALSE NEIGHBOUR: 'it returns false'. Refute it at one input. -/
def siegelSquaresWrong : ChangeSpec := { name := "siegelSquares", fn := fun _ => fun
  | [] => { results := [.lit (.bool false)], args := [] }
  | _ => none }
def SiegelSquaresWrongFalsely : Prop := siegelSquaresRow.holds Tryz.pinned (OpenSpec.ofChange siegelSquaresWrong)

/-- 'quadformlaw40.SiegelStable': WHATEVER THE INPUT: true; the input reads as it did. -/
def siegelStableSpec : ChangeSpec := { name := "siegelStable", fn := fun _ => fun
  | [d1, d2, d3] => { results := [.lit (.bool true)], args := [d1, d2, d3] }
  | _ => none }
def siegelStableRow : OpenClaim := { program := "ytnnikgdmdmbooaagreat", sum := "28722902bbbb59bf191c661feef2c06177d563b8cf0aff94351cc12bb5c91e3e", func := "quadform/quadformlaw40.SiegelStable", spec := "siegelStable", unfollowed := true, recurses := true, apart := false }
def SiegelStableSaid : Prop := siegelStableRow.holds Tryz.pinned (OpenSpec.ofChange siegelStableSpec)

/-- ITS FALSE NEIGHBOUR: 'it returns false'. Refute it at one input. -/
def siegelStableWrong : ChangeSpec := { name := "siegelStable", fn := fun _ => fun
  | [d1, d2, d3] => { results := [.lit (.bool false)], args := [d1, d2, d3] }
  | _ => none }
def SiegelStableWrongFalsely : Prop := siegelStableRow.holds Tryz.pinned (OpenSpec.ofChange siegelStableWrong)

/-- 'quadformlaw40.SiegelGenus': WHATEVER THE INPUT: true; the input reads as it did. -/
def siegelGenusSpec : ChangeSpec := { name := "siegelGenus", fn := fun _ => fun
  | [d1, d2, d3] => { results := [.lit (.bool true)], args := [d1, d2, d3] }
  | _ => none }
def siegelGenusRow : OpenClaim := { program := "ytnnikgdmdmbooaagreat", sum := "28722902bbbb59bf191c661feef2c06177d563b8cf0aff94351cc12bb5c91e3e", func := "quadform/quadformlaw40.SiegelGenus", spec := "siegelGenus", unfollowed := true, recurses := true, apart := false }
def SiegelGenusSaid : Prop := siegelGenusRow.holds Tryz.pinned (OpenSpec.ofChange siegelGenusSpec)

/-- ITS FALSE NEIGHBOUR: 'it returns false'. Refute it at one input. -/
def siegelGenusWrong : ChangeSpec := { name := "siegelGenus", fn := fun _ => fun
  | [d1, d2, d3] => { results := [.lit (.bool false)], args := [d1, d2, d3] }
  | _ => none }
def SiegelGenusWrongFalsely : Prop := siegelGenusRow.holds Tryz.pinned (OpenSpec.ofChange siegelGenusWrong)

/-- 'quadformlaw40.SiegelRegular': WHATEVER THE INPUT: true; the input reads as it did. -/
def siegelRegularSpec : ChangeSpec := { name := "siegelRegular", fn := fun _ => fun
  | [d1, d2, d3, d4, d5, d6, d7, d8] => { results := [.lit (.bool true)], args := [d1, d2, d3, d4, d5, d6, d7, d8] }
  | _ => none }
def siegelRegularRow : OpenClaim := { program := "ytnnikgdmdmbooaagreat", sum := "28722902bbbb59bf191c661feef2c06177d563b8cf0aff94351cc12bb5c91e3e", func := "quadform/quadformlaw40.SiegelRegular", spec := "siegelRegular", unfollowed := true, recurses := true, apart := false }
def SiegelRegularSaid : Prop := siegelRegularRow.holds Tryz.pinned (OpenSpec.ofChange siegelRegularSpec)

/-- ITS FALSE NEIGHBOUR: 'it returns false'. Refute it at one input. -/
def siegelRegularWrong : ChangeSpec := { name := "siegelRegular", fn := fun _ => fun
  | [d1, d2, d3, d4, d5, d6, d7, d8] => { results := [.lit (.bool false)], args := [d1, d2, d3, d4, d5, d6, d7, d8] }
  | _ => none }
def SiegelRegularWrongFalsely : Prop := siegelRegularRow.holds Tryz.pinned (OpenSpec.ofChange siegelRegularWrong)

/- THE SECOND FORM. 'bulk': how many values and letters a reading holds, each counted each time it is reached (what is shared counts as often as it is met; a slice's spare places count too). A statement '..UptoSaid' is the law's where the arguments, and the package variables that the reading takes, are together of bulk at most 1048576: NARROWER than '..Said'. Prove '..Said' where nothing that the law and all that it calls make is longer than what came in: it says more and counts as full. Else prove '..UptoSaid'. A law counts once. -/
mutual
def uptoBulk {H : Type} : DataW H → Nat
  | .lit (.string bytes) => bytes.length + 1
  | .lit _ => 1
  | .nil => 1
  | .ptr d => uptoBulk d + 1
  | .slice elems spare => uptoBulkAll elems + uptoBulkAll spare + 1
  | .agg parts => uptoBulkAll parts + 1
  | .iface _ d => uptoBulk d + 1
  | .map entries => uptoBulkEntries entries + 1
  | .held _ => 1
def uptoBulkAll {H : Type} : List (DataW H) → Nat
  | [] => 0
  | d :: r => uptoBulk d + uptoBulkAll r
def uptoBulkEntries {H : Type} : List (Lit × DataW H) → Nat
  | [] => 0
  | x :: r => uptoBulkEntry x + uptoBulkEntries r
def uptoBulkEntry {H : Type} : Lit × DataW H → Nat
  | (.string bytes, d) => bytes.length + uptoBulk d + 1
  | (_, d) => uptoBulk d + 1
 end
def uptoSmall : (H : Type) → List (DataW H) → Bool := fun _ ds => decide (uptoBulkAll ds ≤ 1048576)
def OpenSpec.upto (s : _root_.Go.ChangeSpec) : _root_.Go.OpenSpec := { _root_.Go.OpenSpec.ofChange s with cond := some uptoSmall }

/-- 'quadformlaw40.SiegelCounts', WHERE WHAT IT READS IS OF BULK AT MOST 1048576: true; the input reads as it did. -/
def siegelCountsUptoRow : OpenClaim := { program := "ytnnikgdmdmbooaagreat", sum := "28722902bbbb59bf191c661feef2c06177d563b8cf0aff94351cc12bb5c91e3e", func := "quadform/quadformlaw40.SiegelCounts", spec := "siegelCounts", unfollowed := true, recurses := true, apart := false, narrowed := true }
def SiegelCountsUptoSaid : Prop := siegelCountsUptoRow.holds Tryz.pinned (OpenSpec.upto siegelCountsSpec)

/-- 'quadformlaw40.SiegelSum', WHERE WHAT IT READS IS OF BULK AT MOST 1048576: true; the input reads as it did. -/
def siegelSumUptoRow : OpenClaim := { program := "ytnnikgdmdmbooaagreat", sum := "28722902bbbb59bf191c661feef2c06177d563b8cf0aff94351cc12bb5c91e3e", func := "quadform/quadformlaw40.SiegelSum", spec := "siegelSum", unfollowed := true, recurses := true, apart := false, narrowed := true }
def SiegelSumUptoSaid : Prop := siegelSumUptoRow.holds Tryz.pinned (OpenSpec.upto siegelSumSpec)

/-- 'quadformlaw40.SiegelDensity', WHERE WHAT IT READS IS OF BULK AT MOST 1048576: true; the input reads as it did. -/
def siegelDensityUptoRow : OpenClaim := { program := "ytnnikgdmdmbooaagreat", sum := "28722902bbbb59bf191c661feef2c06177d563b8cf0aff94351cc12bb5c91e3e", func := "quadform/quadformlaw40.SiegelDensity", spec := "siegelDensity", unfollowed := true, recurses := true, apart := false, narrowed := true }
def SiegelDensityUptoSaid : Prop := siegelDensityUptoRow.holds Tryz.pinned (OpenSpec.upto siegelDensitySpec)

/-- 'quadformlaw40.SiegelExpected', WHERE WHAT IT READS IS OF BULK AT MOST 1048576: true; the input reads as it did. -/
def siegelExpectedUptoRow : OpenClaim := { program := "ytnnikgdmdmbooaagreat", sum := "28722902bbbb59bf191c661feef2c06177d563b8cf0aff94351cc12bb5c91e3e", func := "quadform/quadformlaw40.SiegelExpected", spec := "siegelExpected", unfollowed := true, recurses := true, apart := false, narrowed := true }
def SiegelExpectedUptoSaid : Prop := siegelExpectedUptoRow.holds Tryz.pinned (OpenSpec.upto siegelExpectedSpec)

/-- 'quadformlaw40.SiegelSquares', WHERE WHAT IT READS IS OF BULK AT MOST 1048576: true; the input reads as it did. -/
def siegelSquaresUptoRow : OpenClaim := { program := "ytnnikgdmdmbooaagreat", sum := "28722902bbbb59bf191c661feef2c06177d563b8cf0aff94351cc12bb5c91e3e", func := "quadform/quadformlaw40.SiegelSquares", spec := "siegelSquares", unfollowed := true, recurses := true, apart := false, narrowed := true }
def SiegelSquaresUptoSaid : Prop := siegelSquaresUptoRow.holds Tryz.pinned (OpenSpec.upto siegelSquaresSpec)

/-- 'quadformlaw40.SiegelStable', WHERE WHAT IT READS IS OF BULK AT MOST 1048576: true; the input reads as it did. -/
def siegelStableUptoRow : OpenClaim := { program := "ytnnikgdmdmbooaagreat", sum := "28722902bbbb59bf191c661feef2c06177d563b8cf0aff94351cc12bb5c91e3e", func := "quadform/quadformlaw40.SiegelStable", spec := "siegelStable", unfollowed := true, recurses := true, apart := false, narrowed := true }
def SiegelStableUptoSaid : Prop := siegelStableUptoRow.holds Tryz.pinned (OpenSpec.upto siegelStableSpec)

/-- 'quadformlaw40.SiegelGenus', WHERE WHAT IT READS IS OF BULK AT MOST 1048576: true; the input reads as it did. -/
def siegelGenusUptoRow : OpenClaim := { program := "ytnnikgdmdmbooaagreat", sum := "28722902bbbb59bf191c661feef2c06177d563b8cf0aff94351cc12bb5c91e3e", func := "quadform/quadformlaw40.SiegelGenus", spec := "siegelGenus", unfollowed := true, recurses := true, apart := false, narrowed := true }
def SiegelGenusUptoSaid : Prop := siegelGenusUptoRow.holds Tryz.pinned (OpenSpec.upto siegelGenusSpec)

/-- 'quadformlaw40.SiegelRegular', WHERE WHAT IT READS IS OF BULK AT MOST 1048576: true; the input reads as it did. -/
def siegelRegularUptoRow : OpenClaim := { program := "ytnnikgdmdmbooaagreat", sum := "28722902bbbb59bf191c661feef2c06177d563b8cf0aff94351cc12bb5c91e3e", func := "quadform/quadformlaw40.SiegelRegular", spec := "siegelRegular", unfollowed := true, recurses := true, apart := false, narrowed := true }
def SiegelRegularUptoSaid : Prop := siegelRegularUptoRow.holds Tryz.pinned (OpenSpec.upto siegelRegularSpec)

end Rows
end Go.Proofs.YtnnikgdmdmbooaaGreat
