/-
  No cell of these rows narrows 'for every input' (looked for: loops, veiled, ifaces, maps, wideKeys, modest, calm, conditions, laid).
  DERIVED. THE GIVEN ROWS OF THIS SEAT. 16 by the template 'for every input the law returns true; each argument reads behind the call as it read before'; 0 by the template 'total and deterministic' (their statements: YtincnfjihffllaaTotals.lean).
  GIVEN WITH THE SEED: the statements are not yours to turn. If you find one false, say at which input.
  Laid BY PROGRAM, IN A SANDBOX (cutbox-rows.mjs): the forced cells as the released guide's own fill.sh prints them over the translation e9eefd94cd8f679f… (all of the seat's roots in one cut). By AI agents, Wed Nov 11 2026. No macro, syntax, notation, axiom, sorry.
-/
import Derived.Test.YtincnfjihffllaaChecked
import GoSem.Claim
import GoSem.ClaimJoined
import GoSem.ClaimMapViews
import Derived.JoinedTies
import Derived.KernelRfl
namespace Go.Proofs.Ytincnfjihffllaa
/- THE CELL 'sum', in the pinned program and in every row, IS THE sha256 OF THE DUMP (.gsa) THAT YtincnfjihffllaaProg.lean LOADS. Nothing in Lean hashes anything: it is a label: what it is worth is what the hold of that sum in a sandbox is worth. -/
noncomputable def Try.pinned : Pinned := { name := "ytincnfjihffllaa", sum := "e9eefd94cd8f679fa2e5eab496ff8490e91c7f3193076c7dd6849473136cbab6", checked := Try.checked }
namespace Rows
def none {H : Type} : Left H := { results := [], args := [] }

/-- 'peloruslaw07.QuotDivs': WHATEVER THE INPUT: true; the input reads as it did. -/
def quotDivsSpec : ChangeSpec := { name := "quotDivs", fn := fun _ => fun
  | [d1, d2, d3] => { results := [.lit (.bool true)], args := [d1, d2, d3] }
  | _ => none }
def quotDivsRow : OpenClaim := { program := "ytincnfjihffllaa", sum := "e9eefd94cd8f679fa2e5eab496ff8490e91c7f3193076c7dd6849473136cbab6", func := "pelorus/peloruslaw07.QuotDivs", spec := "quotDivs", inPlace := ["internal/abi.NoEscape"], named := ["math/bits.divideError", "math/bits.overflowError"], apart := false }
def QuotDivsSaid : Prop := quotDivsRow.holds Try.pinned (OpenSpec.ofChange quotDivsSpec)

/-- ITS FALSE NEIGHBOUR: 'it returns false'. Refute it at one input. -/
def quotDivsWrong : ChangeSpec := { name := "quotDivs", fn := fun _ => fun
  | [d1, d2, d3] => { results := [.lit (.bool false)], args := [d1, d2, d3] }
  | _ => none }
def QuotDivsWrongFalsely : Prop := quotDivsRow.holds Try.pinned (OpenSpec.ofChange quotDivsWrong)

/-- 'peloruslaw07.QuotRoots': WHATEVER THE INPUT: true; the input reads as it did. -/
def quotRootsSpec : ChangeSpec := { name := "quotRoots", fn := fun _ => fun
  | [d1, d2] => { results := [.lit (.bool true)], args := [d1, d2] }
  | _ => none }
def quotRootsRow : OpenClaim := { program := "ytincnfjihffllaa", sum := "e9eefd94cd8f679fa2e5eab496ff8490e91c7f3193076c7dd6849473136cbab6", func := "pelorus/peloruslaw07.QuotRoots", spec := "quotRoots", inPlace := ["internal/abi.NoEscape"], named := ["math/bits.divideError", "math/bits.overflowError"], apart := false }
def QuotRootsSaid : Prop := quotRootsRow.holds Try.pinned (OpenSpec.ofChange quotRootsSpec)

/-- ITS FALSE NEIGHBOUR: 'it returns false'. Refute it at one input. -/
def quotRootsWrong : ChangeSpec := { name := "quotRoots", fn := fun _ => fun
  | [d1, d2] => { results := [.lit (.bool false)], args := [d1, d2] }
  | _ => none }
def QuotRootsWrongFalsely : Prop := quotRootsRow.holds Try.pinned (OpenSpec.ofChange quotRootsWrong)

/-- 'peloruslaw07.QuotRatios': WHATEVER THE INPUT: true; the input reads as it did. -/
def quotRatiosSpec : ChangeSpec := { name := "quotRatios", fn := fun _ => fun
  | [d1, d2, d3, d4] => { results := [.lit (.bool true)], args := [d1, d2, d3, d4] }
  | _ => none }
def quotRatiosRow : OpenClaim := { program := "ytincnfjihffllaa", sum := "e9eefd94cd8f679fa2e5eab496ff8490e91c7f3193076c7dd6849473136cbab6", func := "pelorus/peloruslaw07.QuotRatios", spec := "quotRatios", inPlace := ["internal/abi.NoEscape"], named := ["math/bits.divideError", "math/bits.overflowError"], apart := false }
def QuotRatiosSaid : Prop := quotRatiosRow.holds Try.pinned (OpenSpec.ofChange quotRatiosSpec)

/-- ITS FALSE NEIGHBOUR: 'it returns false'. Refute it at one input. -/
def quotRatiosWrong : ChangeSpec := { name := "quotRatios", fn := fun _ => fun
  | [d1, d2, d3, d4] => { results := [.lit (.bool false)], args := [d1, d2, d3, d4] }
  | _ => none }
def QuotRatiosWrongFalsely : Prop := quotRatiosRow.holds Try.pinned (OpenSpec.ofChange quotRatiosWrong)

/-- 'peloruslaw07.QuotUnits': WHATEVER THE INPUT: true; the input reads as it did. -/
def quotUnitsSpec : ChangeSpec := { name := "quotUnits", fn := fun _ => fun
  | [d1, d2, d3] => { results := [.lit (.bool true)], args := [d1, d2, d3] }
  | _ => none }
def quotUnitsRow : OpenClaim := { program := "ytincnfjihffllaa", sum := "e9eefd94cd8f679fa2e5eab496ff8490e91c7f3193076c7dd6849473136cbab6", func := "pelorus/peloruslaw07.QuotUnits", spec := "quotUnits", inPlace := ["internal/abi.NoEscape"], named := ["math/bits.divideError", "math/bits.overflowError"], apart := false }
def QuotUnitsSaid : Prop := quotUnitsRow.holds Try.pinned (OpenSpec.ofChange quotUnitsSpec)

/-- ITS FALSE NEIGHBOUR: 'it returns false'. Refute it at one input. -/
def quotUnitsWrong : ChangeSpec := { name := "quotUnits", fn := fun _ => fun
  | [d1, d2, d3] => { results := [.lit (.bool false)], args := [d1, d2, d3] }
  | _ => none }
def QuotUnitsWrongFalsely : Prop := quotUnitsRow.holds Try.pinned (OpenSpec.ofChange quotUnitsWrong)

/-- 'peloruslaw07.QuotTurns': WHATEVER THE INPUT: true; the input reads as it did. -/
def quotTurnsSpec : ChangeSpec := { name := "quotTurns", fn := fun _ => fun
  | [d1, d2, d3] => { results := [.lit (.bool true)], args := [d1, d2, d3] }
  | _ => none }
def quotTurnsRow : OpenClaim := { program := "ytincnfjihffllaa", sum := "e9eefd94cd8f679fa2e5eab496ff8490e91c7f3193076c7dd6849473136cbab6", func := "pelorus/peloruslaw07.QuotTurns", spec := "quotTurns", inPlace := ["internal/abi.NoEscape"], named := ["math/bits.divideError", "math/bits.overflowError"], apart := false }
def QuotTurnsSaid : Prop := quotTurnsRow.holds Try.pinned (OpenSpec.ofChange quotTurnsSpec)

/-- ITS FALSE NEIGHBOUR: 'it returns false'. Refute it at one input. -/
def quotTurnsWrong : ChangeSpec := { name := "quotTurns", fn := fun _ => fun
  | [d1, d2, d3] => { results := [.lit (.bool false)], args := [d1, d2, d3] }
  | _ => none }
def QuotTurnsWrongFalsely : Prop := quotTurnsRow.holds Try.pinned (OpenSpec.ofChange quotTurnsWrong)

/-- 'peloruslaw07.QuotDecimals': WHATEVER THE INPUT: true; the input reads as it did. -/
def quotDecimalsSpec : ChangeSpec := { name := "quotDecimals", fn := fun _ => fun
  | [d1, d2] => { results := [.lit (.bool true)], args := [d1, d2] }
  | _ => none }
def quotDecimalsRow : OpenClaim := { program := "ytincnfjihffllaa", sum := "e9eefd94cd8f679fa2e5eab496ff8490e91c7f3193076c7dd6849473136cbab6", func := "pelorus/peloruslaw07.QuotDecimals", spec := "quotDecimals", inPlace := ["internal/abi.NoEscape"], named := ["math/bits.divideError", "math/bits.overflowError"], apart := false }
def QuotDecimalsSaid : Prop := quotDecimalsRow.holds Try.pinned (OpenSpec.ofChange quotDecimalsSpec)

/-- ITS FALSE NEIGHBOUR: 'it returns false'. Refute it at one input. -/
def quotDecimalsWrong : ChangeSpec := { name := "quotDecimals", fn := fun _ => fun
  | [d1, d2] => { results := [.lit (.bool false)], args := [d1, d2] }
  | _ => none }
def QuotDecimalsWrongFalsely : Prop := quotDecimalsRow.holds Try.pinned (OpenSpec.ofChange quotDecimalsWrong)

/-- 'peloruslaw09.IvopProducts': WHATEVER THE INPUT: true; the input reads as it did. -/
def ivopProductsSpec : ChangeSpec := { name := "ivopProducts", fn := fun _ => fun
  | [d1, d2] => { results := [.lit (.bool true)], args := [d1, d2] }
  | _ => none }
def ivopProductsRow : OpenClaim := { program := "ytincnfjihffllaa", sum := "e9eefd94cd8f679fa2e5eab496ff8490e91c7f3193076c7dd6849473136cbab6", func := "pelorus/peloruslaw09.IvopProducts", spec := "ivopProducts", unfollowed := true, recurses := true, named := ["math/bits.divideError", "math/bits.overflowError"], apart := false }
def IvopProductsSaid : Prop := ivopProductsRow.holds Try.pinned (OpenSpec.ofChange ivopProductsSpec)

/-- ITS FALSE NEIGHBOUR: 'it returns false'. Refute it at one input. -/
def ivopProductsWrong : ChangeSpec := { name := "ivopProducts", fn := fun _ => fun
  | [d1, d2] => { results := [.lit (.bool false)], args := [d1, d2] }
  | _ => none }
def IvopProductsWrongFalsely : Prop := ivopProductsRow.holds Try.pinned (OpenSpec.ofChange ivopProductsWrong)

/-- 'peloruslaw09.IvopQuotients': WHATEVER THE INPUT: true; the input reads as it did. -/
def ivopQuotientsSpec : ChangeSpec := { name := "ivopQuotients", fn := fun _ => fun
  | [d1, d2, d3] => { results := [.lit (.bool true)], args := [d1, d2, d3] }
  | _ => none }
def ivopQuotientsRow : OpenClaim := { program := "ytincnfjihffllaa", sum := "e9eefd94cd8f679fa2e5eab496ff8490e91c7f3193076c7dd6849473136cbab6", func := "pelorus/peloruslaw09.IvopQuotients", spec := "ivopQuotients", unfollowed := true, recurses := true, named := ["math/bits.divideError", "math/bits.overflowError"], apart := false }
def IvopQuotientsSaid : Prop := ivopQuotientsRow.holds Try.pinned (OpenSpec.ofChange ivopQuotientsSpec)

/-- ITS FALSE NEIGHBOUR: 'it returns false'. Refute it at one input. -/
def ivopQuotientsWrong : ChangeSpec := { name := "ivopQuotients", fn := fun _ => fun
  | [d1, d2, d3] => { results := [.lit (.bool false)], args := [d1, d2, d3] }
  | _ => none }
def IvopQuotientsWrongFalsely : Prop := ivopQuotientsRow.holds Try.pinned (OpenSpec.ofChange ivopQuotientsWrong)

/-- 'peloruslaw09.IvopSums': WHATEVER THE INPUT: true; the input reads as it did. -/
def ivopSumsSpec : ChangeSpec := { name := "ivopSums", fn := fun _ => fun
  | [d1, d2, d3] => { results := [.lit (.bool true)], args := [d1, d2, d3] }
  | _ => none }
def ivopSumsRow : OpenClaim := { program := "ytincnfjihffllaa", sum := "e9eefd94cd8f679fa2e5eab496ff8490e91c7f3193076c7dd6849473136cbab6", func := "pelorus/peloruslaw09.IvopSums", spec := "ivopSums", inPlace := ["math/bits.Add64", "math/bits.Sub64"], unfollowed := true, recurses := true, named := ["math/bits.divideError", "math/bits.overflowError"], apart := false }
def IvopSumsSaid : Prop := ivopSumsRow.holds Try.pinned (OpenSpec.ofChange ivopSumsSpec)

/-- ITS FALSE NEIGHBOUR: 'it returns false'. Refute it at one input. -/
def ivopSumsWrong : ChangeSpec := { name := "ivopSums", fn := fun _ => fun
  | [d1, d2, d3] => { results := [.lit (.bool false)], args := [d1, d2, d3] }
  | _ => none }
def IvopSumsWrongFalsely : Prop := ivopSumsRow.holds Try.pinned (OpenSpec.ofChange ivopSumsWrong)

/-- 'peloruslaw09.IvopSpreads': WHATEVER THE INPUT: true; the input reads as it did. -/
def ivopSpreadsSpec : ChangeSpec := { name := "ivopSpreads", fn := fun _ => fun
  | [d1, d2, d3, d4, d5, d6] => { results := [.lit (.bool true)], args := [d1, d2, d3, d4, d5, d6] }
  | _ => none }
def ivopSpreadsRow : OpenClaim := { program := "ytincnfjihffllaa", sum := "e9eefd94cd8f679fa2e5eab496ff8490e91c7f3193076c7dd6849473136cbab6", func := "pelorus/peloruslaw09.IvopSpreads", spec := "ivopSpreads", inPlace := ["math/bits.Add64", "math/bits.Sub64"], unfollowed := true, recurses := true, named := ["math/bits.divideError", "math/bits.overflowError"], apart := false }
def IvopSpreadsSaid : Prop := ivopSpreadsRow.holds Try.pinned (OpenSpec.ofChange ivopSpreadsSpec)

/-- ITS FALSE NEIGHBOUR: 'it returns false'. Refute it at one input. -/
def ivopSpreadsWrong : ChangeSpec := { name := "ivopSpreads", fn := fun _ => fun
  | [d1, d2, d3, d4, d5, d6] => { results := [.lit (.bool false)], args := [d1, d2, d3, d4, d5, d6] }
  | _ => none }
def IvopSpreadsWrongFalsely : Prop := ivopSpreadsRow.holds Try.pinned (OpenSpec.ofChange ivopSpreadsWrong)

/-- 'peloruslaw09.IvopWithin': WHATEVER THE INPUT: true; the input reads as it did. -/
def ivopWithinSpec : ChangeSpec := { name := "ivopWithin", fn := fun _ => fun
  | [d1, d2, d3, d4] => { results := [.lit (.bool true)], args := [d1, d2, d3, d4] }
  | _ => none }
def ivopWithinRow : OpenClaim := { program := "ytincnfjihffllaa", sum := "e9eefd94cd8f679fa2e5eab496ff8490e91c7f3193076c7dd6849473136cbab6", func := "pelorus/peloruslaw09.IvopWithin", spec := "ivopWithin", inPlace := ["math/bits.Add64", "math/bits.Sub64"], unfollowed := true, recurses := true, named := ["math/bits.divideError", "math/bits.overflowError"], apart := false }
def IvopWithinSaid : Prop := ivopWithinRow.holds Try.pinned (OpenSpec.ofChange ivopWithinSpec)

/-- ITS FALSE NEIGHBOUR: 'it returns false'. Refute it at one input. -/
def ivopWithinWrong : ChangeSpec := { name := "ivopWithin", fn := fun _ => fun
  | [d1, d2, d3, d4] => { results := [.lit (.bool false)], args := [d1, d2, d3, d4] }
  | _ => none }
def IvopWithinWrongFalsely : Prop := ivopWithinRow.holds Try.pinned (OpenSpec.ofChange ivopWithinWrong)

/-- 'peloruslaw09.IvopRules': WHATEVER THE INPUT: true; the input reads as it did. -/
def ivopRulesSpec : ChangeSpec := { name := "ivopRules", fn := fun _ => fun
  | [d1, d2] => { results := [.lit (.bool true)], args := [d1, d2] }
  | _ => none }
def ivopRulesRow : OpenClaim := { program := "ytincnfjihffllaa", sum := "e9eefd94cd8f679fa2e5eab496ff8490e91c7f3193076c7dd6849473136cbab6", func := "pelorus/peloruslaw09.IvopRules", spec := "ivopRules", inPlace := ["math/bits.Add64", "math/bits.Sub64"], unfollowed := true, recurses := true, named := ["math/bits.divideError", "math/bits.overflowError"], apart := false }
def IvopRulesSaid : Prop := ivopRulesRow.holds Try.pinned (OpenSpec.ofChange ivopRulesSpec)

/-- ITS FALSE NEIGHBOUR: 'it returns false'. Refute it at one input. -/
def ivopRulesWrong : ChangeSpec := { name := "ivopRules", fn := fun _ => fun
  | [d1, d2] => { results := [.lit (.bool false)], args := [d1, d2] }
  | _ => none }
def IvopRulesWrongFalsely : Prop := ivopRulesRow.holds Try.pinned (OpenSpec.ofChange ivopRulesWrong)

/-- 'peloruslaw10.BackPoints': WHATEVER THE INPUT: true; the input reads as it did. -/
def backPointsSpec : ChangeSpec := { name := "backPoints", fn := fun _ => fun
  | [d1, d2, d3] => { results := [.lit (.bool true)], args := [d1, d2, d3] }
  | _ => none }
def backPointsRow : OpenClaim := { program := "ytincnfjihffllaa", sum := "e9eefd94cd8f679fa2e5eab496ff8490e91c7f3193076c7dd6849473136cbab6", func := "pelorus/peloruslaw10.BackPoints", spec := "backPoints", inPlace := ["math/bits.Add64", "math/bits.Sub64"], unfollowed := true, recurses := true, named := ["math/bits.overflowError", "math/bits.divideError"], apart := false }
def BackPointsSaid : Prop := backPointsRow.holds Try.pinned (OpenSpec.ofChange backPointsSpec)

/-- ITS FALSE NEIGHBOUR: 'it returns false'. Refute it at one input. -/
def backPointsWrong : ChangeSpec := { name := "backPoints", fn := fun _ => fun
  | [d1, d2, d3] => { results := [.lit (.bool false)], args := [d1, d2, d3] }
  | _ => none }
def BackPointsWrongFalsely : Prop := backPointsRow.holds Try.pinned (OpenSpec.ofChange backPointsWrong)

/-- 'peloruslaw10.BackKeeps': WHATEVER THE INPUT: true; the input reads as it did. -/
def backKeepsSpec : ChangeSpec := { name := "backKeeps", fn := fun _ => fun
  | [d1, d2, d3, d4, d5] => { results := [.lit (.bool true)], args := [d1, d2, d3, d4, d5] }
  | _ => none }
def backKeepsRow : OpenClaim := { program := "ytincnfjihffllaa", sum := "e9eefd94cd8f679fa2e5eab496ff8490e91c7f3193076c7dd6849473136cbab6", func := "pelorus/peloruslaw10.BackKeeps", spec := "backKeeps", inPlace := ["math/bits.Add64", "math/bits.Sub64"], unfollowed := true, recurses := true, named := ["math/bits.overflowError", "math/bits.divideError"], apart := false }
def BackKeepsSaid : Prop := backKeepsRow.holds Try.pinned (OpenSpec.ofChange backKeepsSpec)

/-- ITS FALSE NEIGHBOUR: 'it returns false'. Refute it at one input. -/
def backKeepsWrong : ChangeSpec := { name := "backKeeps", fn := fun _ => fun
  | [d1, d2, d3, d4, d5] => { results := [.lit (.bool false)], args := [d1, d2, d3, d4, d5] }
  | _ => none }
def BackKeepsWrongFalsely : Prop := backKeepsRow.holds Try.pinned (OpenSpec.ofChange backKeepsWrong)

/-- 'peloruslaw10.BackWithin': WHATEVER THE INPUT: true; the input reads as it did. -/
def backWithinSpec : ChangeSpec := { name := "backWithin", fn := fun _ => fun
  | [d1, d2, d3] => { results := [.lit (.bool true)], args := [d1, d2, d3] }
  | _ => none }
def backWithinRow : OpenClaim := { program := "ytincnfjihffllaa", sum := "e9eefd94cd8f679fa2e5eab496ff8490e91c7f3193076c7dd6849473136cbab6", func := "pelorus/peloruslaw10.BackWithin", spec := "backWithin", inPlace := ["math/bits.Add64", "math/bits.Sub64"], unfollowed := true, recurses := true, named := ["math/bits.overflowError", "math/bits.divideError"], apart := false }
def BackWithinSaid : Prop := backWithinRow.holds Try.pinned (OpenSpec.ofChange backWithinSpec)

/-- ITS FALSE NEIGHBOUR: 'it returns false'. Refute it at one input. -/
def backWithinWrong : ChangeSpec := { name := "backWithin", fn := fun _ => fun
  | [d1, d2, d3] => { results := [.lit (.bool false)], args := [d1, d2, d3] }
  | _ => none }
def BackWithinWrongFalsely : Prop := backWithinRow.holds Try.pinned (OpenSpec.ofChange backWithinWrong)

/-- 'peloruslaw10.BackEmpty': WHATEVER THE INPUT: true; the input reads as it did. -/
def backEmptySpec : ChangeSpec := { name := "backEmpty", fn := fun _ => fun
  | [d1, d2] => { results := [.lit (.bool true)], args := [d1, d2] }
  | _ => none }
def backEmptyRow : OpenClaim := { program := "ytincnfjihffllaa", sum := "e9eefd94cd8f679fa2e5eab496ff8490e91c7f3193076c7dd6849473136cbab6", func := "pelorus/peloruslaw10.BackEmpty", spec := "backEmpty", inPlace := ["math/bits.Add64", "math/bits.Sub64"], unfollowed := true, recurses := true, named := ["math/bits.overflowError", "math/bits.divideError"], apart := false }
def BackEmptySaid : Prop := backEmptyRow.holds Try.pinned (OpenSpec.ofChange backEmptySpec)

/-- ITS FALSE NEIGHBOUR: 'it returns false'. Refute it at one input. -/
def backEmptyWrong : ChangeSpec := { name := "backEmpty", fn := fun _ => fun
  | [d1, d2] => { results := [.lit (.bool false)], args := [d1, d2] }
  | _ => none }
def BackEmptyWrongFalsely : Prop := backEmptyRow.holds Try.pinned (OpenSpec.ofChange backEmptyWrong)

/- THE SECOND FORM. 'bulk': how many values and letters a reading holds, each counted each time it is reached (what is shared counts as often as it is met; a slice's spare places count too). A statement '..UptoSaid' is the law's where the arguments, and the package variables that the reading takes, are together of bulk at most 1048576: NARROWER than '..Said'. Prove '..Said' where nothing that the law and all that it calls make is longer than what came in: it says more and counts as full. Else prove '..UptoSaid'. A law counts once. -/
mutual
def uptoBulk {H : Type} : DataW H → Nat
  | .lit (.string bytes) => bytes.length + 1
  | .lit _ => 1
  | .nil => 1
  | .ptr d => uptoBulk d + 1
  | .slice elems spare => uptoBulkAll elems + uptoBulkAll spare + 1
  | .agg parts => uptoBulkAll parts + 1
  | .iface _ d => uptoBulk d + 1
  | .map entries => uptoBulkEntries entries + 1
  | .held _ => 1
def uptoBulkAll {H : Type} : List (DataW H) → Nat
  | [] => 0
  | d :: r => uptoBulk d + uptoBulkAll r
def uptoBulkEntries {H : Type} : List (Lit × DataW H) → Nat
  | [] => 0
  | x :: r => uptoBulkEntry x + uptoBulkEntries r
def uptoBulkEntry {H : Type} : Lit × DataW H → Nat
  | (.string bytes, d) => bytes.length + uptoBulk d + 1
  | (_, d) => uptoBulk d + 1
 end
def uptoSmall : (H : Type) → List (DataW H) → Bool := fun _ ds => decide (uptoBulkAll ds ≤ 1048576)
def OpenSpec.upto (s : _root_.Go.ChangeSpec) : _root_.Go.OpenSpec := { _root_.Go.OpenSpec.ofChange s with cond := some uptoSmall }

/-- 'peloruslaw07.QuotDivs', WHERE WHAT IT READS IS OF BULK AT MOST 1048576: true; the input reads as it did. -/
def quotDivsUptoRow : OpenClaim := { program := "ytincnfjihffllaa", sum := "e9eefd94cd8f679fa2e5eab496ff8490e91c7f3193076c7dd6849473136cbab6", func := "pelorus/peloruslaw07.QuotDivs", spec := "quotDivs", inPlace := ["internal/abi.NoEscape"], named := ["math/bits.divideError", "math/bits.overflowError"], apart := false, narrowed := true }
def QuotDivsUptoSaid : Prop := quotDivsUptoRow.holds Try.pinned (OpenSpec.upto quotDivsSpec)

/-- 'peloruslaw07.QuotRoots', WHERE WHAT IT READS IS OF BULK AT MOST 1048576: true; the input reads as it did. -/
def quotRootsUptoRow : OpenClaim := { program := "ytincnfjihffllaa", sum := "e9eefd94cd8f679fa2e5eab496ff8490e91c7f3193076c7dd6849473136cbab6", func := "pelorus/peloruslaw07.QuotRoots", spec := "quotRoots", inPlace := ["internal/abi.NoEscape"], named := ["math/bits.divideError", "math/bits.overflowError"], apart := false, narrowed := true }
def QuotRootsUptoSaid : Prop := quotRootsUptoRow.holds Try.pinned (OpenSpec.upto quotRootsSpec)

/-- 'peloruslaw07.QuotRatios', WHERE WHAT IT READS IS OF BULK AT MOST 1048576: true; the input reads as it did. -/
def quotRatiosUptoRow : OpenClaim := { program := "ytincnfjihffllaa", sum := "e9eefd94cd8f679fa2e5eab496ff8490e91c7f3193076c7dd6849473136cbab6", func := "pelorus/peloruslaw07.QuotRatios", spec := "quotRatios", inPlace := ["internal/abi.NoEscape"], named := ["math/bits.divideError", "math/bits.overflowError"], apart := false, narrowed := true }
def QuotRatiosUptoSaid : Prop := quotRatiosUptoRow.holds Try.pinned (OpenSpec.upto quotRatiosSpec)

/-- 'peloruslaw07.QuotUnits', WHERE WHAT IT READS IS OF BULK AT MOST 1048576: true; the input reads as it did. -/
def quotUnitsUptoRow : OpenClaim := { program := "ytincnfjihffllaa", sum := "e9eefd94cd8f679fa2e5eab496ff8490e91c7f3193076c7dd6849473136cbab6", func := "pelorus/peloruslaw07.QuotUnits", spec := "quotUnits", inPlace := ["internal/abi.NoEscape"], named := ["math/bits.divideError", "math/bits.overflowError"], apart := false, narrowed := true }
def QuotUnitsUptoSaid : Prop := quotUnitsUptoRow.holds Try.pinned (OpenSpec.upto quotUnitsSpec)

/-- 'peloruslaw07.QuotTurns', WHERE WHAT IT READS IS OF BULK AT MOST 1048576: true; the input reads as it did. -/
def quotTurnsUptoRow : OpenClaim := { program := "ytincnfjihffllaa", sum := "e9eefd94cd8f679fa2e5eab496ff8490e91c7f3193076c7dd6849473136cbab6", func := "pelorus/peloruslaw07.QuotTurns", spec := "quotTurns", inPlace := ["internal/abi.NoEscape"], named := ["math/bits.divideError", "math/bits.overflowError"], apart := false, narrowed := true }
def QuotTurnsUptoSaid : Prop := quotTurnsUptoRow.holds Try.pinned (OpenSpec.upto quotTurnsSpec)

/-- 'peloruslaw07.QuotDecimals', WHERE WHAT IT READS IS OF BULK AT MOST 1048576: true; the input reads as it did. -/
def quotDecimalsUptoRow : OpenClaim := { program := "ytincnfjihffllaa", sum := "e9eefd94cd8f679fa2e5eab496ff8490e91c7f3193076c7dd6849473136cbab6", func := "pelorus/peloruslaw07.QuotDecimals", spec := "quotDecimals", inPlace := ["internal/abi.NoEscape"], named := ["math/bits.divideError", "math/bits.overflowError"], apart := false, narrowed := true }
def QuotDecimalsUptoSaid : Prop := quotDecimalsUptoRow.holds Try.pinned (OpenSpec.upto quotDecimalsSpec)

/-- 'peloruslaw09.IvopProducts', WHERE WHAT IT READS IS OF BULK AT MOST 1048576: true; the input reads as it did. -/
def ivopProductsUptoRow : OpenClaim := { program := "ytincnfjihffllaa", sum := "e9eefd94cd8f679fa2e5eab496ff8490e91c7f3193076c7dd6849473136cbab6", func := "pelorus/peloruslaw09.IvopProducts", spec := "ivopProducts", unfollowed := true, recurses := true, named := ["math/bits.divideError", "math/bits.overflowError"], apart := false, narrowed := true }
def IvopProductsUptoSaid : Prop := ivopProductsUptoRow.holds Try.pinned (OpenSpec.upto ivopProductsSpec)

/-- 'peloruslaw09.IvopQuotients', WHERE WHAT IT READS IS OF BULK AT MOST 1048576: true; the input reads as it did. -/
def ivopQuotientsUptoRow : OpenClaim := { program := "ytincnfjihffllaa", sum := "e9eefd94cd8f679fa2e5eab496ff8490e91c7f3193076c7dd6849473136cbab6", func := "pelorus/peloruslaw09.IvopQuotients", spec := "ivopQuotients", unfollowed := true, recurses := true, named := ["math/bits.divideError", "math/bits.overflowError"], apart := false, narrowed := true }
def IvopQuotientsUptoSaid : Prop := ivopQuotientsUptoRow.holds Try.pinned (OpenSpec.upto ivopQuotientsSpec)

/-- 'peloruslaw09.IvopSums', WHERE WHAT IT READS IS OF BULK AT MOST 1048576: true; the input reads as it did. -/
def ivopSumsUptoRow : OpenClaim := { program := "ytincnfjihffllaa", sum := "e9eefd94cd8f679fa2e5eab496ff8490e91c7f3193076c7dd6849473136cbab6", func := "pelorus/peloruslaw09.IvopSums", spec := "ivopSums", inPlace := ["math/bits.Add64", "math/bits.Sub64"], unfollowed := true, recurses := true, named := ["math/bits.divideError", "math/bits.overflowError"], apart := false, narrowed := true }
def IvopSumsUptoSaid : Prop := ivopSumsUptoRow.holds Try.pinned (OpenSpec.upto ivopSumsSpec)

/-- 'peloruslaw09.IvopSpreads', WHERE WHAT IT READS IS OF BULK AT MOST 1048576: true; the input reads as it did. -/
def ivopSpreadsUptoRow : OpenClaim := { program := "ytincnfjihffllaa", sum := "e9eefd94cd8f679fa2e5eab496ff8490e91c7f3193076c7dd6849473136cbab6", func := "pelorus/peloruslaw09.IvopSpreads", spec := "ivopSpreads", inPlace := ["math/bits.Add64", "math/bits.Sub64"], unfollowed := true, recurses := true, named := ["math/bits.divideError", "math/bits.overflowError"], apart := false, narrowed := true }
def IvopSpreadsUptoSaid : Prop := ivopSpreadsUptoRow.holds Try.pinned (OpenSpec.upto ivopSpreadsSpec)

/-- 'peloruslaw09.IvopWithin', WHERE WHAT IT READS IS OF BULK AT MOST 1048576: true; the input reads as it did. -/
def ivopWithinUptoRow : OpenClaim := { program := "ytincnfjihffllaa", sum := "e9eefd94cd8f679fa2e5eab496ff8490e91c7f3193076c7dd6849473136cbab6", func := "pelorus/peloruslaw09.IvopWithin", spec := "ivopWithin", inPlace := ["math/bits.Add64", "math/bits.Sub64"], unfollowed := true, recurses := true, named := ["math/bits.divideError", "math/bits.overflowError"], apart := false, narrowed := true }
def IvopWithinUptoSaid : Prop := ivopWithinUptoRow.holds Try.pinned (OpenSpec.upto ivopWithinSpec)

/-- 'peloruslaw09.IvopRules', WHERE WHAT IT READS IS OF BULK AT MOST 1048576: true; the input reads as it did. -/
def ivopRulesUptoRow : OpenClaim := { program := "ytincnfjihffllaa", sum := "e9eefd94cd8f679fa2e5eab496ff8490e91c7f3193076c7dd6849473136cbab6", func := "pelorus/peloruslaw09.IvopRules", spec := "ivopRules", inPlace := ["math/bits.Add64", "math/bits.Sub64"], unfollowed := true, recurses := true, named := ["math/bits.divideError", "math/bits.overflowError"], apart := false, narrowed := true }
def IvopRulesUptoSaid : Prop := ivopRulesUptoRow.holds Try.pinned (OpenSpec.upto ivopRulesSpec)

/-- 'peloruslaw10.BackPoints', WHERE WHAT IT READS IS OF BULK AT MOST 1048576: true; the input reads as it did. -/
def backPointsUptoRow : OpenClaim := { program := "ytincnfjihffllaa", sum := "e9eefd94cd8f679fa2e5eab496ff8490e91c7f3193076c7dd6849473136cbab6", func := "pelorus/peloruslaw10.BackPoints", spec := "backPoints", inPlace := ["math/bits.Add64", "math/bits.Sub64"], unfollowed := true, recurses := true, named := ["math/bits.overflowError", "math/bits.divideError"], apart := false, narrowed := true }
def BackPointsUptoSaid : Prop := backPointsUptoRow.holds Try.pinned (OpenSpec.upto backPointsSpec)

/-- 'peloruslaw10.BackKeeps', WHERE WHAT IT READS IS OF BULK AT MOST 1048576: true; the input reads as it did. -/
def backKeepsUptoRow : OpenClaim := { program := "ytincnfjihffllaa", sum := "e9eefd94cd8f679fa2e5eab496ff8490e91c7f3193076c7dd6849473136cbab6", func := "pelorus/peloruslaw10.BackKeeps", spec := "backKeeps", inPlace := ["math/bits.Add64", "math/bits.Sub64"], unfollowed := true, recurses := true, named := ["math/bits.overflowError", "math/bits.divideError"], apart := false, narrowed := true }
def BackKeepsUptoSaid : Prop := backKeepsUptoRow.holds Try.pinned (OpenSpec.upto backKeepsSpec)

/-- 'peloruslaw10.BackWithin', WHERE WHAT IT READS IS OF BULK AT MOST 1048576: true; the input reads as it did. -/
def backWithinUptoRow : OpenClaim := { program := "ytincnfjihffllaa", sum := "e9eefd94cd8f679fa2e5eab496ff8490e91c7f3193076c7dd6849473136cbab6", func := "pelorus/peloruslaw10.BackWithin", spec := "backWithin", inPlace := ["math/bits.Add64", "math/bits.Sub64"], unfollowed := true, recurses := true, named := ["math/bits.overflowError", "math/bits.divideError"], apart := false, narrowed := true }
def BackWithinUptoSaid : Prop := backWithinUptoRow.holds Try.pinned (OpenSpec.upto backWithinSpec)

/-- 'peloruslaw10.BackEmpty', WHERE WHAT IT READS IS OF BULK AT MOST 1048576: true; the input reads as it did. -/
def backEmptyUptoRow : OpenClaim := { program := "ytincnfjihffllaa", sum := "e9eefd94cd8f679fa2e5eab496ff8490e91c7f3193076c7dd6849473136cbab6", func := "pelorus/peloruslaw10.BackEmpty", spec := "backEmpty", inPlace := ["math/bits.Add64", "math/bits.Sub64"], unfollowed := true, recurses := true, named := ["math/bits.overflowError", "math/bits.divideError"], apart := false, narrowed := true }
def BackEmptyUptoSaid : Prop := backEmptyUptoRow.holds Try.pinned (OpenSpec.upto backEmptySpec)

end Rows
end Go.Proofs.Ytincnfjihffllaa
