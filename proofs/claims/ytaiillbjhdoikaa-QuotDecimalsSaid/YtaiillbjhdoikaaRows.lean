/-
  No cell of these rows narrows 'for every input' (looked for: loops, veiled, ifaces, maps, wideKeys, modest, calm, conditions, laid).
  DERIVED. THE GIVEN ROWS OF THIS SEAT. 8 by the template 'for every input the law returns true; each argument reads behind the call as it read before'; 0 by the template 'total and deterministic' (their statements: YtaiillbjhdoikaaTotals.lean).
  GIVEN WITH THE SEED: the statements are not yours to turn. If you find one false, say at which input.
  Laid BY PROGRAM, IN A SANDBOX (cutbox-rows.mjs): the forced cells as the released guide's own fill.sh prints them over the translation ac0fe52184c5e26b… (all of the seat's roots in one cut). By AI agents, Wed Nov 11 2026. No macro, syntax, notation, axiom, sorry.
-/
import Derived.Test.YtaiillbjhdoikaaChecked
import GoSem.Claim
import GoSem.ClaimJoined
import GoSem.ClaimMapViews
import Derived.JoinedTies
import Derived.KernelRfl
namespace Go.Proofs.Ytaiillbjhdoikaa
/- THE CELL 'sum', in the pinned program and in every row, IS THE sha256 OF THE DUMP (.gsa) THAT YtaiillbjhdoikaaProg.lean LOADS. Nothing in Lean hashes anything: it is a label: what it is worth is what the hold of that sum in a sandbox is worth. -/
noncomputable def Try.pinned : Pinned := { name := "ytaiillbjhdoikaa", sum := "ac0fe52184c5e26bfc9bbbfacc96563b5df786244b68554ab234ccec59cdf2ab", checked := Try.checked }
namespace Rows
def none {H : Type} : Left H := { results := [], args := [] }

/-- 'peloruslaw11.PiTight': WHATEVER THE INPUT: true; the input reads as it did. -/
def piTightSpec : ChangeSpec := { name := "piTight", fn := fun _ => fun
  | [d] => { results := [.lit (.bool true)], args := [d] }
  | _ => none }
def piTightRow : OpenClaim := { program := "ytaiillbjhdoikaa", sum := "ac0fe52184c5e26bfc9bbbfacc96563b5df786244b68554ab234ccec59cdf2ab", func := "pelorus/peloruslaw11.PiTight", spec := "piTight", unfollowed := true, recurses := true, named := ["math/bits.overflowError"], apart := false }
def PiTightSaid : Prop := piTightRow.holds Try.pinned (OpenSpec.ofChange piTightSpec)

/-- ITS FALSE NEIGHBOUR: 'it returns false'. Refute it at one input. -/
def piTightWrong : ChangeSpec := { name := "piTight", fn := fun _ => fun
  | [d] => { results := [.lit (.bool false)], args := [d] }
  | _ => none }
def PiTightWrongFalsely : Prop := piTightRow.holds Try.pinned (OpenSpec.ofChange piTightWrong)

/-- 'peloruslaw11.PiDoubles': WHATEVER THE INPUT: true; the input reads as it did. -/
def piDoublesSpec : ChangeSpec := { name := "piDoubles", fn := fun _ => fun
  | [d] => { results := [.lit (.bool true)], args := [d] }
  | _ => none }
def piDoublesRow : OpenClaim := { program := "ytaiillbjhdoikaa", sum := "ac0fe52184c5e26bfc9bbbfacc96563b5df786244b68554ab234ccec59cdf2ab", func := "pelorus/peloruslaw11.PiDoubles", spec := "piDoubles", unfollowed := true, recurses := true, named := ["math/bits.overflowError"], apart := false }
def PiDoublesSaid : Prop := piDoublesRow.holds Try.pinned (OpenSpec.ofChange piDoublesSpec)

/-- ITS FALSE NEIGHBOUR: 'it returns false'. Refute it at one input. -/
def piDoublesWrong : ChangeSpec := { name := "piDoubles", fn := fun _ => fun
  | [d] => { results := [.lit (.bool false)], args := [d] }
  | _ => none }
def PiDoublesWrongFalsely : Prop := piDoublesRow.holds Try.pinned (OpenSpec.ofChange piDoublesWrong)

/-- 'peloruslaw07.QuotDivs': WHATEVER THE INPUT: true; the input reads as it did. -/
def quotDivsSpec : ChangeSpec := { name := "quotDivs", fn := fun _ => fun
  | [d1, d2, d3] => { results := [.lit (.bool true)], args := [d1, d2, d3] }
  | _ => none }
def quotDivsRow : OpenClaim := { program := "ytaiillbjhdoikaa", sum := "ac0fe52184c5e26bfc9bbbfacc96563b5df786244b68554ab234ccec59cdf2ab", func := "pelorus/peloruslaw07.QuotDivs", spec := "quotDivs", inPlace := ["internal/abi.NoEscape"], named := ["math/bits.divideError", "math/bits.overflowError"], apart := false }
def QuotDivsSaid : Prop := quotDivsRow.holds Try.pinned (OpenSpec.ofChange quotDivsSpec)

/-- ITS FALSE NEIGHBOUR: 'it returns false'. Refute it at one input. -/
def quotDivsWrong : ChangeSpec := { name := "quotDivs", fn := fun _ => fun
  | [d1, d2, d3] => { results := [.lit (.bool false)], args := [d1, d2, d3] }
  | _ => none }
def QuotDivsWrongFalsely : Prop := quotDivsRow.holds Try.pinned (OpenSpec.ofChange quotDivsWrong)

/-- 'peloruslaw07.QuotRoots': WHATEVER THE INPUT: true; the input reads as it did. -/
def quotRootsSpec : ChangeSpec := { name := "quotRoots", fn := fun _ => fun
  | [d1, d2] => { results := [.lit (.bool true)], args := [d1, d2] }
  | _ => none }
def quotRootsRow : OpenClaim := { program := "ytaiillbjhdoikaa", sum := "ac0fe52184c5e26bfc9bbbfacc96563b5df786244b68554ab234ccec59cdf2ab", func := "pelorus/peloruslaw07.QuotRoots", spec := "quotRoots", inPlace := ["internal/abi.NoEscape"], named := ["math/bits.divideError", "math/bits.overflowError"], apart := false }
def QuotRootsSaid : Prop := quotRootsRow.holds Try.pinned (OpenSpec.ofChange quotRootsSpec)

/-- ITS FALSE NEIGHBOUR: 'it returns false'. Refute it at one input. -/
def quotRootsWrong : ChangeSpec := { name := "quotRoots", fn := fun _ => fun
  | [d1, d2] => { results := [.lit (.bool false)], args := [d1, d2] }
  | _ => none }
def QuotRootsWrongFalsely : Prop := quotRootsRow.holds Try.pinned (OpenSpec.ofChange quotRootsWrong)

/-- 'peloruslaw07.QuotRatios': WHATEVER THE INPUT: true; the input reads as it did. -/
def quotRatiosSpec : ChangeSpec := { name := "quotRatios", fn := fun _ => fun
  | [d1, d2, d3, d4] => { results := [.lit (.bool true)], args := [d1, d2, d3, d4] }
  | _ => none }
def quotRatiosRow : OpenClaim := { program := "ytaiillbjhdoikaa", sum := "ac0fe52184c5e26bfc9bbbfacc96563b5df786244b68554ab234ccec59cdf2ab", func := "pelorus/peloruslaw07.QuotRatios", spec := "quotRatios", inPlace := ["internal/abi.NoEscape"], named := ["math/bits.divideError", "math/bits.overflowError"], apart := false }
def QuotRatiosSaid : Prop := quotRatiosRow.holds Try.pinned (OpenSpec.ofChange quotRatiosSpec)

/-- ITS FALSE NEIGHBOUR: 'it returns false'. Refute it at one input. -/
def quotRatiosWrong : ChangeSpec := { name := "quotRatios", fn := fun _ => fun
  | [d1, d2, d3, d4] => { results := [.lit (.bool false)], args := [d1, d2, d3, d4] }
  | _ => none }
def QuotRatiosWrongFalsely : Prop := quotRatiosRow.holds Try.pinned (OpenSpec.ofChange quotRatiosWrong)

/-- 'peloruslaw07.QuotUnits': WHATEVER THE INPUT: true; the input reads as it did. -/
def quotUnitsSpec : ChangeSpec := { name := "quotUnits", fn := fun _ => fun
  | [d1, d2, d3] => { results := [.lit (.bool true)], args := [d1, d2, d3] }
  | _ => none }
def quotUnitsRow : OpenClaim := { program := "ytaiillbjhdoikaa", sum := "ac0fe52184c5e26bfc9bbbfacc96563b5df786244b68554ab234ccec59cdf2ab", func := "pelorus/peloruslaw07.QuotUnits", spec := "quotUnits", inPlace := ["internal/abi.NoEscape"], named := ["math/bits.divideError", "math/bits.overflowError"], apart := false }
def QuotUnitsSaid : Prop := quotUnitsRow.holds Try.pinned (OpenSpec.ofChange quotUnitsSpec)

/-- ITS FALSE NEIGHBOUR: 'it returns false'. Refute it at one input. -/
def quotUnitsWrong : ChangeSpec := { name := "quotUnits", fn := fun _ => fun
  | [d1, d2, d3] => { results := [.lit (.bool false)], args := [d1, d2, d3] }
  | _ => none }
def QuotUnitsWrongFalsely : Prop := quotUnitsRow.holds Try.pinned (OpenSpec.ofChange quotUnitsWrong)

/-- 'peloruslaw07.QuotTurns': WHATEVER THE INPUT: true; the input reads as it did. -/
def quotTurnsSpec : ChangeSpec := { name := "quotTurns", fn := fun _ => fun
  | [d1, d2, d3] => { results := [.lit (.bool true)], args := [d1, d2, d3] }
  | _ => none }
def quotTurnsRow : OpenClaim := { program := "ytaiillbjhdoikaa", sum := "ac0fe52184c5e26bfc9bbbfacc96563b5df786244b68554ab234ccec59cdf2ab", func := "pelorus/peloruslaw07.QuotTurns", spec := "quotTurns", inPlace := ["internal/abi.NoEscape"], named := ["math/bits.divideError", "math/bits.overflowError"], apart := false }
def QuotTurnsSaid : Prop := quotTurnsRow.holds Try.pinned (OpenSpec.ofChange quotTurnsSpec)

/-- ITS FALSE NEIGHBOUR: 'it returns false'. Refute it at one input. -/
def quotTurnsWrong : ChangeSpec := { name := "quotTurns", fn := fun _ => fun
  | [d1, d2, d3] => { results := [.lit (.bool false)], args := [d1, d2, d3] }
  | _ => none }
def QuotTurnsWrongFalsely : Prop := quotTurnsRow.holds Try.pinned (OpenSpec.ofChange quotTurnsWrong)

/-- 'peloruslaw07.QuotDecimals': WHATEVER THE INPUT: true; the input reads as it did. -/
def quotDecimalsSpec : ChangeSpec := { name := "quotDecimals", fn := fun _ => fun
  | [d1, d2] => { results := [.lit (.bool true)], args := [d1, d2] }
  | _ => none }
def quotDecimalsRow : OpenClaim := { program := "ytaiillbjhdoikaa", sum := "ac0fe52184c5e26bfc9bbbfacc96563b5df786244b68554ab234ccec59cdf2ab", func := "pelorus/peloruslaw07.QuotDecimals", spec := "quotDecimals", inPlace := ["internal/abi.NoEscape"], named := ["math/bits.divideError", "math/bits.overflowError"], apart := false }
def QuotDecimalsSaid : Prop := quotDecimalsRow.holds Try.pinned (OpenSpec.ofChange quotDecimalsSpec)

/-- ITS FALSE NEIGHBOUR: 'it returns false'. Refute it at one input. -/
def quotDecimalsWrong : ChangeSpec := { name := "quotDecimals", fn := fun _ => fun
  | [d1, d2] => { results := [.lit (.bool false)], args := [d1, d2] }
  | _ => none }
def QuotDecimalsWrongFalsely : Prop := quotDecimalsRow.holds Try.pinned (OpenSpec.ofChange quotDecimalsWrong)

/- THE SECOND FORM. 'bulk': how many values and letters a reading holds, each counted each time it is reached (what is shared counts as often as it is met; a slice's spare places count too). A statement '..UptoSaid' is the law's where the arguments, and the package variables that the reading takes, are together of bulk at most 1048576: NARROWER than '..Said'. Prove '..Said' where nothing that the law and all that it calls make is longer than what came in: it says more and counts as full. Else prove '..UptoSaid'. A law counts once. -/
mutual
def uptoBulk {H : Type} : DataW H → Nat
  | .lit (.string bytes) => bytes.length + 1
  | .lit _ => 1
  | .nil => 1
  | .ptr d => uptoBulk d + 1
  | .slice elems spare => uptoBulkAll elems + uptoBulkAll spare + 1
  | .agg parts => uptoBulkAll parts + 1
  | .iface _ d => uptoBulk d + 1
  | .map entries => uptoBulkEntries entries + 1
  | .held _ => 1
def uptoBulkAll {H : Type} : List (DataW H) → Nat
  | [] => 0
  | d :: r => uptoBulk d + uptoBulkAll r
def uptoBulkEntries {H : Type} : List (Lit × DataW H) → Nat
  | [] => 0
  | x :: r => uptoBulkEntry x + uptoBulkEntries r
def uptoBulkEntry {H : Type} : Lit × DataW H → Nat
  | (.string bytes, d) => bytes.length + uptoBulk d + 1
  | (_, d) => uptoBulk d + 1
 end
def uptoSmall : (H : Type) → List (DataW H) → Bool := fun _ ds => decide (uptoBulkAll ds ≤ 1048576)
def OpenSpec.upto (s : _root_.Go.ChangeSpec) : _root_.Go.OpenSpec := { _root_.Go.OpenSpec.ofChange s with cond := some uptoSmall }

/-- 'peloruslaw11.PiTight', WHERE WHAT IT READS IS OF BULK AT MOST 1048576: true; the input reads as it did. -/
def piTightUptoRow : OpenClaim := { program := "ytaiillbjhdoikaa", sum := "ac0fe52184c5e26bfc9bbbfacc96563b5df786244b68554ab234ccec59cdf2ab", func := "pelorus/peloruslaw11.PiTight", spec := "piTight", unfollowed := true, recurses := true, named := ["math/bits.overflowError"], apart := false, narrowed := true }
def PiTightUptoSaid : Prop := piTightUptoRow.holds Try.pinned (OpenSpec.upto piTightSpec)

/-- 'peloruslaw11.PiDoubles', WHERE WHAT IT READS IS OF BULK AT MOST 1048576: true; the input reads as it did. -/
def piDoublesUptoRow : OpenClaim := { program := "ytaiillbjhdoikaa", sum := "ac0fe52184c5e26bfc9bbbfacc96563b5df786244b68554ab234ccec59cdf2ab", func := "pelorus/peloruslaw11.PiDoubles", spec := "piDoubles", unfollowed := true, recurses := true, named := ["math/bits.overflowError"], apart := false, narrowed := true }
def PiDoublesUptoSaid : Prop := piDoublesUptoRow.holds Try.pinned (OpenSpec.upto piDoublesSpec)

/-- 'peloruslaw07.QuotDivs', WHERE WHAT IT READS IS OF BULK AT MOST 1048576: true; the input reads as it did. -/
def quotDivsUptoRow : OpenClaim := { program := "ytaiillbjhdoikaa", sum := "ac0fe52184c5e26bfc9bbbfacc96563b5df786244b68554ab234ccec59cdf2ab", func := "pelorus/peloruslaw07.QuotDivs", spec := "quotDivs", inPlace := ["internal/abi.NoEscape"], named := ["math/bits.divideError", "math/bits.overflowError"], apart := false, narrowed := true }
def QuotDivsUptoSaid : Prop := quotDivsUptoRow.holds Try.pinned (OpenSpec.upto quotDivsSpec)

/-- 'peloruslaw07.QuotRoots', WHERE WHAT IT READS IS OF BULK AT MOST 1048576: true; the input reads as it did. -/
def quotRootsUptoRow : OpenClaim := { program := "ytaiillbjhdoikaa", sum := "ac0fe52184c5e26bfc9bbbfacc96563b5df786244b68554ab234ccec59cdf2ab", func := "pelorus/peloruslaw07.QuotRoots", spec := "quotRoots", inPlace := ["internal/abi.NoEscape"], named := ["math/bits.divideError", "math/bits.overflowError"], apart := false, narrowed := true }
def QuotRootsUptoSaid : Prop := quotRootsUptoRow.holds Try.pinned (OpenSpec.upto quotRootsSpec)

/-- 'peloruslaw07.QuotRatios', WHERE WHAT IT READS IS OF BULK AT MOST 1048576: true; the input reads as it did. -/
def quotRatiosUptoRow : OpenClaim := { program := "ytaiillbjhdoikaa", sum := "ac0fe52184c5e26bfc9bbbfacc96563b5df786244b68554ab234ccec59cdf2ab", func := "pelorus/peloruslaw07.QuotRatios", spec := "quotRatios", inPlace := ["internal/abi.NoEscape"], named := ["math/bits.divideError", "math/bits.overflowError"], apart := false, narrowed := true }
def QuotRatiosUptoSaid : Prop := quotRatiosUptoRow.holds Try.pinned (OpenSpec.upto quotRatiosSpec)

/-- 'peloruslaw07.QuotUnits', WHERE WHAT IT READS IS OF BULK AT MOST 1048576: true; the input reads as it did. -/
def quotUnitsUptoRow : OpenClaim := { program := "ytaiillbjhdoikaa", sum := "ac0fe52184c5e26bfc9bbbfacc96563b5df786244b68554ab234ccec59cdf2ab", func := "pelorus/peloruslaw07.QuotUnits", spec := "quotUnits", inPlace := ["internal/abi.NoEscape"], named := ["math/bits.divideError", "math/bits.overflowError"], apart := false, narrowed := true }
def QuotUnitsUptoSaid : Prop := quotUnitsUptoRow.holds Try.pinned (OpenSpec.upto quotUnitsSpec)

/-- 'peloruslaw07.QuotTurns', WHERE WHAT IT READS IS OF BULK AT MOST 1048576: true; the input reads as it did. -/
def quotTurnsUptoRow : OpenClaim := { program := "ytaiillbjhdoikaa", sum := "ac0fe52184c5e26bfc9bbbfacc96563b5df786244b68554ab234ccec59cdf2ab", func := "pelorus/peloruslaw07.QuotTurns", spec := "quotTurns", inPlace := ["internal/abi.NoEscape"], named := ["math/bits.divideError", "math/bits.overflowError"], apart := false, narrowed := true }
def QuotTurnsUptoSaid : Prop := quotTurnsUptoRow.holds Try.pinned (OpenSpec.upto quotTurnsSpec)

/-- 'peloruslaw07.QuotDecimals', WHERE WHAT IT READS IS OF BULK AT MOST 1048576: true; the input reads as it did. -/
def quotDecimalsUptoRow : OpenClaim := { program := "ytaiillbjhdoikaa", sum := "ac0fe52184c5e26bfc9bbbfacc96563b5df786244b68554ab234ccec59cdf2ab", func := "pelorus/peloruslaw07.QuotDecimals", spec := "quotDecimals", inPlace := ["internal/abi.NoEscape"], named := ["math/bits.divideError", "math/bits.overflowError"], apart := false, narrowed := true }
def QuotDecimalsUptoSaid : Prop := quotDecimalsUptoRow.holds Try.pinned (OpenSpec.upto quotDecimalsSpec)

end Rows
end Go.Proofs.Ytaiillbjhdoikaa
