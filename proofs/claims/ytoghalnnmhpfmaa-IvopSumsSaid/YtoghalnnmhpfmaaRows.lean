/-
  No cell of these rows narrows 'for every input' (looked for: loops, veiled, ifaces, maps, wideKeys, modest, calm, conditions, laid).
  DERIVED. THE GIVEN ROWS OF THIS SEAT. 2 by the template 'for every input the law returns true; each argument reads behind the call as it read before'; 0 by the template 'total and deterministic' (their statements: YtoghalnnmhpfmaaTotals.lean).
  GIVEN WITH THE SEED: the statements are not yours to turn. If you find one false, say at which input.
  Laid BY PROGRAM, IN A SANDBOX (cutbox-rows.mjs): the forced cells as the released guide's own fill.sh prints them over the translation 2b5b1b9f217aeba0… (all of the seat's roots in one cut). By AI agents, Wed Nov 11 2026. No macro, syntax, notation, axiom, sorry.
-/
import Derived.Test.YtoghalnnmhpfmaaChecked
import GoSem.Claim
import GoSem.ClaimJoined
import GoSem.ClaimMapViews
import Derived.JoinedTies
import Derived.KernelRfl
namespace Go.Proofs.Ytoghalnnmhpfmaa
/- THE CELL 'sum', in the pinned program and in every row, IS THE sha256 OF THE DUMP (.gsa) THAT YtoghalnnmhpfmaaProg.lean LOADS. Nothing in Lean hashes anything: it is a label: what it is worth is what the hold of that sum in a sandbox is worth. -/
noncomputable def Try.pinned : Pinned := { name := "ytoghalnnmhpfmaa", sum := "2b5b1b9f217aeba0a4aa67196929791bac4de0e251eea9fc649f6f30f2297eb2", checked := Try.checked }
namespace Rows
def none {H : Type} : Left H := { results := [], args := [] }

/-- 'peloruslaw09.IvopProducts': WHATEVER THE INPUT: true; the input reads as it did. -/
def ivopProductsSpec : ChangeSpec := { name := "ivopProducts", fn := fun _ => fun
  | [d1, d2] => { results := [.lit (.bool true)], args := [d1, d2] }
  | _ => none }
def ivopProductsRow : OpenClaim := { program := "ytoghalnnmhpfmaa", sum := "2b5b1b9f217aeba0a4aa67196929791bac4de0e251eea9fc649f6f30f2297eb2", func := "pelorus/peloruslaw09.IvopProducts", spec := "ivopProducts", unfollowed := true, recurses := true, named := ["math/bits.divideError", "math/bits.overflowError"], apart := false }
def IvopProductsSaid : Prop := ivopProductsRow.holds Try.pinned (OpenSpec.ofChange ivopProductsSpec)

/-- ITS FALSE NEIGHBOUR: 'it returns false'. Refute it at one input. -/
def ivopProductsWrong : ChangeSpec := { name := "ivopProducts", fn := fun _ => fun
  | [d1, d2] => { results := [.lit (.bool false)], args := [d1, d2] }
  | _ => none }
def IvopProductsWrongFalsely : Prop := ivopProductsRow.holds Try.pinned (OpenSpec.ofChange ivopProductsWrong)

/-- 'peloruslaw09.IvopSums': WHATEVER THE INPUT: true; the input reads as it did. -/
def ivopSumsSpec : ChangeSpec := { name := "ivopSums", fn := fun _ => fun
  | [d1, d2, d3] => { results := [.lit (.bool true)], args := [d1, d2, d3] }
  | _ => none }
def ivopSumsRow : OpenClaim := { program := "ytoghalnnmhpfmaa", sum := "2b5b1b9f217aeba0a4aa67196929791bac4de0e251eea9fc649f6f30f2297eb2", func := "pelorus/peloruslaw09.IvopSums", spec := "ivopSums", inPlace := ["math/bits.Add64", "math/bits.Sub64"], unfollowed := true, recurses := true, named := ["math/bits.divideError", "math/bits.overflowError"], apart := false }
def IvopSumsSaid : Prop := ivopSumsRow.holds Try.pinned (OpenSpec.ofChange ivopSumsSpec)

/-- ITS FALSE NEIGHBOUR: 'it returns false'. Refute it at one input. -/
def ivopSumsWrong : ChangeSpec := { name := "ivopSums", fn := fun _ => fun
  | [d1, d2, d3] => { results := [.lit (.bool false)], args := [d1, d2, d3] }
  | _ => none }
def IvopSumsWrongFalsely : Prop := ivopSumsRow.holds Try.pinned (OpenSpec.ofChange ivopSumsWrong)

/- THE SECOND FORM. 'bulk': how many values and letters a reading holds, each counted each time it is reached (what is shared counts as often as it is met; a slice's spare places count too). A statement '..UptoSaid' is the law's where the arguments, and the package variables that the reading takes, are together of bulk at most 1048576: NARROWER than '..Said'. Prove '..Said' where nothing that the law and all that it calls make is longer than what came in: it says more and counts as full. Else prove '..UptoSaid'. A law counts once. -/
mutual
def uptoBulk {H : Type} : DataW H → Nat
  | .lit (.string bytes) => bytes.length + 1
  | .lit _ => 1
  | .nil => 1
  | .ptr d => uptoBulk d + 1
  | .slice elems spare => uptoBulkAll elems + uptoBulkAll spare + 1
  | .agg parts => uptoBulkAll parts + 1
  | .iface _ d => uptoBulk d + 1
  | .map entries => uptoBulkEntries entries + 1
  | .held _ => 1
def uptoBulkAll {H : Type} : List (DataW H) → Nat
  | [] => 0
  | d :: r => uptoBulk d + uptoBulkAll r
def uptoBulkEntries {H : Type} : List (Lit × DataW H) → Nat
  | [] => 0
  | x :: r => uptoBulkEntry x + uptoBulkEntries r
def uptoBulkEntry {H : Type} : Lit × DataW H → Nat
  | (.string bytes, d) => bytes.length + uptoBulk d + 1
  | (_, d) => uptoBulk d + 1
 end
def uptoSmall : (H : Type) → List (DataW H) → Bool := fun _ ds => decide (uptoBulkAll ds ≤ 1048576)
def OpenSpec.upto (s : _root_.Go.ChangeSpec) : _root_.Go.OpenSpec := { _root_.Go.OpenSpec.ofChange s with cond := some uptoSmall }

/-- 'peloruslaw09.IvopProducts', WHERE WHAT IT READS IS OF BULK AT MOST 1048576: true; the input reads as it did. -/
def ivopProductsUptoRow : OpenClaim := { program := "ytoghalnnmhpfmaa", sum := "2b5b1b9f217aeba0a4aa67196929791bac4de0e251eea9fc649f6f30f2297eb2", func := "pelorus/peloruslaw09.IvopProducts", spec := "ivopProducts", unfollowed := true, recurses := true, named := ["math/bits.divideError", "math/bits.overflowError"], apart := false, narrowed := true }
def IvopProductsUptoSaid : Prop := ivopProductsUptoRow.holds Try.pinned (OpenSpec.upto ivopProductsSpec)

/-- 'peloruslaw09.IvopSums', WHERE WHAT IT READS IS OF BULK AT MOST 1048576: true; the input reads as it did. -/
def ivopSumsUptoRow : OpenClaim := { program := "ytoghalnnmhpfmaa", sum := "2b5b1b9f217aeba0a4aa67196929791bac4de0e251eea9fc649f6f30f2297eb2", func := "pelorus/peloruslaw09.IvopSums", spec := "ivopSums", inPlace := ["math/bits.Add64", "math/bits.Sub64"], unfollowed := true, recurses := true, named := ["math/bits.divideError", "math/bits.overflowError"], apart := false, narrowed := true }
def IvopSumsUptoSaid : Prop := ivopSumsUptoRow.holds Try.pinned (OpenSpec.upto ivopSumsSpec)

end Rows
end Go.Proofs.Ytoghalnnmhpfmaa
