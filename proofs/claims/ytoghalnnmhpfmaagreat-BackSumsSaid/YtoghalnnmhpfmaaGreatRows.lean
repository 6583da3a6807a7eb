/-
  No cell of these rows narrows 'for every input' (looked for: loops, veiled, ifaces, maps, wideKeys, modest, calm, conditions, laid).
  DERIVED. THE GIVEN ROWS OF THIS SEAT. 4 by the template 'for every input the law returns true; each argument reads behind the call as it read before'; 0 by the template 'total and deterministic' (their statements: YtoghalnnmhpfmaaGreatTotals.lean).
  GIVEN WITH THE SEED: the statements are not yours to turn. If you find one false, say at which input.
  Laid BY PROGRAM, IN A SANDBOX (cutbox-rows.mjs): the forced cells as the released guide's own fill.sh prints them over the translation eb4e32cb83159d07… (all of the seat's roots in one cut). By AI agents, Wed Nov 11 2026. No macro, syntax, notation, axiom, sorry.
-/
import Derived.Test.YtoghalnnmhpfmaaGreatChecked
import GoSem.Claim
import GoSem.ClaimJoined
import GoSem.ClaimMapViews
import Derived.JoinedTies
import Derived.KernelRfl
namespace Go.Proofs.YtoghalnnmhpfmaaGreat
/- THE CELL 'sum', in the pinned program and in every row, IS THE sha256 OF THE DUMP (.gsa) THAT YtoghalnnmhpfmaaGreatProg.lean LOADS. Nothing in Lean hashes anything: it is a label: what it is worth is what the hold of that sum in a sandbox is worth. -/
noncomputable def Tryz.pinned : Pinned := { name := "ytoghalnnmhpfmaagreat", sum := "eb4e32cb83159d07f94f2e75e6127ee6440de7852acad8e4fae1e6f798a5f0c4", checked := Tryz.checked }
namespace Rows
def none {H : Type} : Left H := { results := [], args := [] }

/-- 'peloruslaw10.BackSums': WHATEVER THE INPUT: true; the input reads as it did. -/
def backSumsSpec : ChangeSpec := { name := "backSums", fn := fun _ => fun
  | [d1, d2, d3] => { results := [.lit (.bool true)], args := [d1, d2, d3] }
  | _ => none }
def backSumsRow : OpenClaim := { program := "ytoghalnnmhpfmaagreat", sum := "eb4e32cb83159d07f94f2e75e6127ee6440de7852acad8e4fae1e6f798a5f0c4", func := "pelorus/peloruslaw10.BackSums", spec := "backSums", inPlace := ["math/bits.Add64", "math/bits.Sub64"], named := ["math/bits.overflowError"], apart := false }
def BackSumsSaid : Prop := backSumsRow.holds Tryz.pinned (OpenSpec.ofChange backSumsSpec)

/-- ITS FALSE NEIGHBOUR: 'it returns false'. Refute it at one input. -/
def backSumsWrong : ChangeSpec := { name := "backSums", fn := fun _ => fun
  | [d1, d2, d3] => { results := [.lit (.bool false)], args := [d1, d2, d3] }
  | _ => none }
def BackSumsWrongFalsely : Prop := backSumsRow.holds Tryz.pinned (OpenSpec.ofChange backSumsWrong)

/-- 'peloruslaw10.BackRoots': WHATEVER THE INPUT: true; the input reads as it did. -/
def backRootsSpec : ChangeSpec := { name := "backRoots", fn := fun _ => fun
  | [d1, d2] => { results := [.lit (.bool true)], args := [d1, d2] }
  | _ => none }
def backRootsRow : OpenClaim := { program := "ytoghalnnmhpfmaagreat", sum := "eb4e32cb83159d07f94f2e75e6127ee6440de7852acad8e4fae1e6f798a5f0c4", func := "pelorus/peloruslaw10.BackRoots", spec := "backRoots", inPlace := ["math/bits.Add64", "math/bits.Sub64"], named := ["math/bits.overflowError"], apart := false }
def BackRootsSaid : Prop := backRootsRow.holds Tryz.pinned (OpenSpec.ofChange backRootsSpec)

/-- ITS FALSE NEIGHBOUR: 'it returns false'. Refute it at one input. -/
def backRootsWrong : ChangeSpec := { name := "backRoots", fn := fun _ => fun
  | [d1, d2] => { results := [.lit (.bool false)], args := [d1, d2] }
  | _ => none }
def BackRootsWrongFalsely : Prop := backRootsRow.holds Tryz.pinned (OpenSpec.ofChange backRootsWrong)

/-- 'peloruslaw09.IvopRoots': WHATEVER THE INPUT: true; the input reads as it did. -/
def ivopRootsSpec : ChangeSpec := { name := "ivopRoots", fn := fun _ => fun
  | [d] => { results := [.lit (.bool true)], args := [d] }
  | _ => none }
def ivopRootsRow : OpenClaim := { program := "ytoghalnnmhpfmaagreat", sum := "eb4e32cb83159d07f94f2e75e6127ee6440de7852acad8e4fae1e6f798a5f0c4", func := "pelorus/peloruslaw09.IvopRoots", spec := "ivopRoots", unfollowed := true, recurses := true, named := ["math/bits.divideError", "math/bits.overflowError"], apart := false }
def IvopRootsSaid : Prop := ivopRootsRow.holds Tryz.pinned (OpenSpec.ofChange ivopRootsSpec)

/-- ITS FALSE NEIGHBOUR: 'it returns false'. Refute it at one input. -/
def ivopRootsWrong : ChangeSpec := { name := "ivopRoots", fn := fun _ => fun
  | [d] => { results := [.lit (.bool false)], args := [d] }
  | _ => none }
def IvopRootsWrongFalsely : Prop := ivopRootsRow.holds Tryz.pinned (OpenSpec.ofChange ivopRootsWrong)

/-- 'peloruslaw10.BackProducts': WHATEVER THE INPUT: true; the input reads as it did. -/
def backProductsSpec : ChangeSpec := { name := "backProducts", fn := fun _ => fun
  | [d1, d2, d3] => { results := [.lit (.bool true)], args := [d1, d2, d3] }
  | _ => none }
def backProductsRow : OpenClaim := { program := "ytoghalnnmhpfmaagreat", sum := "eb4e32cb83159d07f94f2e75e6127ee6440de7852acad8e4fae1e6f798a5f0c4", func := "pelorus/peloruslaw10.BackProducts", spec := "backProducts", inPlace := ["math/bits.Add64", "math/bits.Sub64"], unfollowed := true, recurses := true, named := ["math/bits.overflowError", "math/bits.divideError"], apart := false }
def BackProductsSaid : Prop := backProductsRow.holds Tryz.pinned (OpenSpec.ofChange backProductsSpec)

/-- ITS FALSE NEIGHBOUR: 'it returns false'. Refute it at one input. -/
def backProductsWrong : ChangeSpec := { name := "backProducts", fn := fun _ => fun
  | [d1, d2, d3] => { results := [.lit (.bool false)], args := [d1, d2, d3] }
  | _ => none }
def BackProductsWrongFalsely : Prop := backProductsRow.holds Tryz.pinned (OpenSpec.ofChange backProductsWrong)

/- THE SECOND FORM. 'bulk': how many values and letters a reading holds, each counted each time it is reached (what is shared counts as often as it is met; a slice's spare places count too). A statement '..UptoSaid' is the law's where the arguments, and the package variables that the reading takes, are together of bulk at most 1048576: NARROWER than '..Said'. Prove '..Said' where nothing that the law and all that it calls make is longer than what came in: it says more and counts as full. Else prove '..UptoSaid'. A law counts once. -/
mutual
def uptoBulk {H : Type} : DataW H → Nat
  | .lit (.string bytes) => bytes.length + 1
  | .lit _ => 1
  | .nil => 1
  | .ptr d => uptoBulk d + 1
  | .slice elems spare => uptoBulkAll elems + uptoBulkAll spare + 1
  | .agg parts => uptoBulkAll parts + 1
  | .iface _ d => uptoBulk d + 1
  | .map entries => uptoBulkEntries entries + 1
  | .held _ => 1
def uptoBulkAll {H : Type} : List (DataW H) → Nat
  | [] => 0
  | d :: r => uptoBulk d + uptoBulkAll r
def uptoBulkEntries {H : Type} : List (Lit × DataW H) → Nat
  | [] => 0
  | x :: r => uptoBulkEntry x + uptoBulkEntries r
def uptoBulkEntry {H : Type} : Lit × DataW H → Nat
  | (.string bytes, d) => bytes.length + uptoBulk d + 1
  | (_, d) => uptoBulk d + 1
 end
def uptoSmall : (H : Type) → List (DataW H) → Bool := fun _ ds => decide (uptoBulkAll ds ≤ 1048576)
def OpenSpec.upto (s : _root_.Go.ChangeSpec) : _root_.Go.OpenSpec := { _root_.Go.OpenSpec.ofChange s with cond := some uptoSmall }

/-- 'peloruslaw10.BackSums', WHERE WHAT IT READS IS OF BULK AT MOST 1048576: true; the input reads as it did. -/
def backSumsUptoRow : OpenClaim := { program := "ytoghalnnmhpfmaagreat", sum := "eb4e32cb83159d07f94f2e75e6127ee6440de7852acad8e4fae1e6f798a5f0c4", func := "pelorus/peloruslaw10.BackSums", spec := "backSums", inPlace := ["math/bits.Add64", "math/bits.Sub64"], named := ["math/bits.overflowError"], apart := false, narrowed := true }
def BackSumsUptoSaid : Prop := backSumsUptoRow.holds Tryz.pinned (OpenSpec.upto backSumsSpec)

/-- 'peloruslaw10.BackRoots', WHERE WHAT IT READS IS OF BULK AT MOST 1048576: true; the input reads as it did. -/
def backRootsUptoRow : OpenClaim := { program := "ytoghalnnmhpfmaagreat", sum := "eb4e32cb83159d07f94f2e75e6127ee6440de7852acad8e4fae1e6f798a5f0c4", func := "pelorus/peloruslaw10.BackRoots", spec := "backRoots", inPlace := ["math/bits.Add64", "math/bits.Sub64"], named := ["math/bits.overflowError"], apart := false, narrowed := true }
def BackRootsUptoSaid : Prop := backRootsUptoRow.holds Tryz.pinned (OpenSpec.upto backRootsSpec)

/-- 'peloruslaw09.IvopRoots', WHERE WHAT IT READS IS OF BULK AT MOST 1048576: true; the input reads as it did. -/
def ivopRootsUptoRow : OpenClaim := { program := "ytoghalnnmhpfmaagreat", sum := "eb4e32cb83159d07f94f2e75e6127ee6440de7852acad8e4fae1e6f798a5f0c4", func := "pelorus/peloruslaw09.IvopRoots", spec := "ivopRoots", unfollowed := true, recurses := true, named := ["math/bits.divideError", "math/bits.overflowError"], apart := false, narrowed := true }
def IvopRootsUptoSaid : Prop := ivopRootsUptoRow.holds Tryz.pinned (OpenSpec.upto ivopRootsSpec)

/-- 'peloruslaw10.BackProducts', WHERE WHAT IT READS IS OF BULK AT MOST 1048576: true; the input reads as it did. -/
def backProductsUptoRow : OpenClaim := { program := "ytoghalnnmhpfmaagreat", sum := "eb4e32cb83159d07f94f2e75e6127ee6440de7852acad8e4fae1e6f798a5f0c4", func := "pelorus/peloruslaw10.BackProducts", spec := "backProducts", inPlace := ["math/bits.Add64", "math/bits.Sub64"], unfollowed := true, recurses := true, named := ["math/bits.overflowError", "math/bits.divideError"], apart := false, narrowed := true }
def BackProductsUptoSaid : Prop := backProductsUptoRow.holds Tryz.pinned (OpenSpec.upto backProductsSpec)

end Rows
end Go.Proofs.YtoghalnnmhpfmaaGreat
