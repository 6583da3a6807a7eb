/-
  NARROWER THAN 'FOR EVERY INPUT', by the rows' own cells (each row's printed sentence says how): PiFixes: laid · TrigAll: laid · TrigPoints: laid · TrigTight: laid · AtanPoints: laid · AtanAngles: laid · AtanTight: laid.
  DERIVED. THE GIVEN ROWS OF THIS SEAT. 7 by the template 'for every input the law returns true; each argument reads behind the call as it read before'; 0 by the template 'total and deterministic' (their statements: YtpadpcjdakfokaaGreatDoorTotals.lean).
  GIVEN WITH THE SEED: the statements are not yours to turn. If you find one false, say at which input.
  Laid BY PROGRAM, IN A SANDBOX (cutbox-rows.mjs): the forced cells as the released guide's own fill.sh prints them over the translation af4be7a1b4a959e0… (all of the seat's roots in one cut). By AI agents, Wed Nov 11 2026. No macro, syntax, notation, axiom, sorry.
-/
import Derived.Test.YtpadpcjdakfokaaGreatDoorChecked
import GoSem.Claim
import GoSem.ClaimJoined
import GoSem.ClaimMapViews
import Derived.JoinedTies
import Derived.KernelRfl
namespace Go.Proofs.YtpadpcjdakfokaaGreatDoor
/- THE CELL 'sum', in the pinned program and in every row, IS THE sha256 OF THE DUMP (.gsa) THAT YtpadpcjdakfokaaGreatDoorProg.lean LOADS. Nothing in Lean hashes anything: it is a label: what it is worth is what the hold of that sum in a sandbox is worth. -/
noncomputable def Tryz.pinned : Pinned := { name := "ytpadpcjdakfokaagreatdoor", sum := "af4be7a1b4a959e095b18868beba238728526883f8524fb7d2eb9c3165ead966", checked := Tryz.checked }
namespace Rows
def none {H : Type} : Left H := { results := [], args := [] }

/- WHAT THE LISTED PACKAGE-LEVEL VARIABLES READ AS WHEN THE CALL BEGINS. Each datum BY PROGRAM (the guide's laid-datum.mjs) off the statement by which the dump's own 'gosem.cut.vars' lays the variable. In a bare row this is a premise. The card (YtpadpcjdakfokaaGreatDoorCards.lean) ties it to the program's text. -/
def laid_math_bits_deBruijn32tab {H : Type} : DataW H := .agg [.lit (.int .u8 0), .lit (.int .u8 1), .lit (.int .u8 28), .lit (.int .u8 2), .lit (.int .u8 29), .lit (.int .u8 14), .lit (.int .u8 24), .lit (.int .u8 3), .lit (.int .u8 30), .lit (.int .u8 22), .lit (.int .u8 20), .lit (.int .u8 15), .lit (.int .u8 25), .lit (.int .u8 17), .lit (.int .u8 4), .lit (.int .u8 8), .lit (.int .u8 31), .lit (.int .u8 27), .lit (.int .u8 13), .lit (.int .u8 23), .lit (.int .u8 21), .lit (.int .u8 19), .lit (.int .u8 16), .lit (.int .u8 7), .lit (.int .u8 26), .lit (.int .u8 12), .lit (.int .u8 18), .lit (.int .u8 6), .lit (.int .u8 11), .lit (.int .u8 5), .lit (.int .u8 10), .lit (.int .u8 9)]

/-- 'peloruslaw11.PiFixes': WHATEVER THE INPUT: true; the input reads as it did. -/
def piFixesSpec : ChangeSpec := { name := "piFixes", fn := fun _ => fun
  | [d1, d2, d3] => { results := [.lit (.bool true)], args := [d1, d2, d3] }
  | _ => none }
def piFixesRow : OpenClaim := { program := "ytpadpcjdakfokaagreatdoor", sum := "af4be7a1b4a959e095b18868beba238728526883f8524fb7d2eb9c3165ead966", func := "pelorus/peloruslaw11.PiFixes", spec := "piFixes", unfollowed := true, recurses := true, named := ["math/bits.overflowError", "math/bits.deBruijn32tab"], apart := false, laid := [("math/bits.deBruijn32tab", laid_math_bits_deBruijn32tab)] }
def PiFixesSaid : Prop := piFixesRow.holds Tryz.pinned (OpenSpec.ofChange piFixesSpec)

/-- ITS FALSE NEIGHBOUR: 'it returns false'. Refute it at one input. -/
def piFixesWrong : ChangeSpec := { name := "piFixes", fn := fun _ => fun
  | [d1, d2, d3] => { results := [.lit (.bool false)], args := [d1, d2, d3] }
  | _ => none }
def PiFixesWrongFalsely : Prop := piFixesRow.holds Tryz.pinned (OpenSpec.ofChange piFixesWrong)

/-- 'peloruslaw12.TrigAll': WHATEVER THE INPUT: true; the input reads as it did. -/
def trigAllSpec : ChangeSpec := { name := "trigAll", fn := fun _ => fun
  | [d] => { results := [.lit (.bool true)], args := [d] }
  | _ => none }
def trigAllRow : OpenClaim := { program := "ytpadpcjdakfokaagreatdoor", sum := "af4be7a1b4a959e095b18868beba238728526883f8524fb7d2eb9c3165ead966", func := "pelorus/peloruslaw12.TrigAll", spec := "trigAll", inPlace := ["math/bits.Add64", "math/bits.Sub64"], unfollowed := true, recurses := true, named := ["math/bits.overflowError", "math/bits.deBruijn32tab"], apart := false, laid := [("math/bits.deBruijn32tab", laid_math_bits_deBruijn32tab)] }
def TrigAllSaid : Prop := trigAllRow.holds Tryz.pinned (OpenSpec.ofChange trigAllSpec)

/-- ITS FALSE NEIGHBOUR: 'it returns false'. Refute it at one input. -/
def trigAllWrong : ChangeSpec := { name := "trigAll", fn := fun _ => fun
  | [d] => { results := [.lit (.bool false)], args := [d] }
  | _ => none }
def TrigAllWrongFalsely : Prop := trigAllRow.holds Tryz.pinned (OpenSpec.ofChange trigAllWrong)

/-- 'peloruslaw12.TrigPoints': WHATEVER THE INPUT: true; the input reads as it did. -/
def trigPointsSpec : ChangeSpec := { name := "trigPoints", fn := fun _ => fun
  | [d1, d2] => { results := [.lit (.bool true)], args := [d1, d2] }
  | _ => none }
def trigPointsRow : OpenClaim := { program := "ytpadpcjdakfokaagreatdoor", sum := "af4be7a1b4a959e095b18868beba238728526883f8524fb7d2eb9c3165ead966", func := "pelorus/peloruslaw12.TrigPoints", spec := "trigPoints", inPlace := ["math/bits.Add64", "math/bits.Sub64"], unfollowed := true, recurses := true, named := ["math/bits.overflowError", "math/bits.deBruijn32tab"], apart := false, laid := [("math/bits.deBruijn32tab", laid_math_bits_deBruijn32tab)] }
def TrigPointsSaid : Prop := trigPointsRow.holds Tryz.pinned (OpenSpec.ofChange trigPointsSpec)

/-- ITS FALSE NEIGHBOUR: 'it returns false'. Refute it at one input. -/
def trigPointsWrong : ChangeSpec := { name := "trigPoints", fn := fun _ => fun
  | [d1, d2] => { results := [.lit (.bool false)], args := [d1, d2] }
  | _ => none }
def TrigPointsWrongFalsely : Prop := trigPointsRow.holds Tryz.pinned (OpenSpec.ofChange trigPointsWrong)

/-- 'peloruslaw12.TrigTight': WHATEVER THE INPUT: true; the input reads as it did. -/
def trigTightSpec : ChangeSpec := { name := "trigTight", fn := fun _ => fun
  | [d] => { results := [.lit (.bool true)], args := [d] }
  | _ => none }
def trigTightRow : OpenClaim := { program := "ytpadpcjdakfokaagreatdoor", sum := "af4be7a1b4a959e095b18868beba238728526883f8524fb7d2eb9c3165ead966", func := "pelorus/peloruslaw12.TrigTight", spec := "trigTight", inPlace := ["math/bits.Add64", "math/bits.Sub64"], unfollowed := true, recurses := true, named := ["math/bits.overflowError", "math/bits.deBruijn32tab"], apart := false, laid := [("math/bits.deBruijn32tab", laid_math_bits_deBruijn32tab)] }
def TrigTightSaid : Prop := trigTightRow.holds Tryz.pinned (OpenSpec.ofChange trigTightSpec)

/-- ITS FALSE NEIGHBOUR: 'it returns false'. Refute it at one input. -/
def trigTightWrong : ChangeSpec := { name := "trigTight", fn := fun _ => fun
  | [d] => { results := [.lit (.bool false)], args := [d] }
  | _ => none }
def TrigTightWrongFalsely : Prop := trigTightRow.holds Tryz.pinned (OpenSpec.ofChange trigTightWrong)

/-- 'peloruslaw13.AtanPoints': WHATEVER THE INPUT: true; the input reads as it did. -/
def atanPointsSpec : ChangeSpec := { name := "atanPoints", fn := fun _ => fun
  | [d1, d2] => { results := [.lit (.bool true)], args := [d1, d2] }
  | _ => none }
def atanPointsRow : OpenClaim := { program := "ytpadpcjdakfokaagreatdoor", sum := "af4be7a1b4a959e095b18868beba238728526883f8524fb7d2eb9c3165ead966", func := "pelorus/peloruslaw13.AtanPoints", spec := "atanPoints", inPlace := ["math/bits.Add64", "math/bits.Sub64"], unfollowed := true, recurses := true, named := ["math/bits.deBruijn32tab", "math/bits.overflowError", "math/bits.divideError"], apart := false, laid := [("math/bits.deBruijn32tab", laid_math_bits_deBruijn32tab)] }
def AtanPointsSaid : Prop := atanPointsRow.holds Tryz.pinned (OpenSpec.ofChange atanPointsSpec)

/-- ITS FALSE NEIGHBOUR: 'it returns false'. Refute it at one input. -/
def atanPointsWrong : ChangeSpec := { name := "atanPoints", fn := fun _ => fun
  | [d1, d2] => { results := [.lit (.bool false)], args := [d1, d2] }
  | _ => none }
def AtanPointsWrongFalsely : Prop := atanPointsRow.holds Tryz.pinned (OpenSpec.ofChange atanPointsWrong)

/-- 'peloruslaw13.AtanAngles': WHATEVER THE INPUT: true; the input reads as it did. -/
def atanAnglesSpec : ChangeSpec := { name := "atanAngles", fn := fun _ => fun
  | [d1, d2, d3] => { results := [.lit (.bool true)], args := [d1, d2, d3] }
  | _ => none }
def atanAnglesRow : OpenClaim := { program := "ytpadpcjdakfokaagreatdoor", sum := "af4be7a1b4a959e095b18868beba238728526883f8524fb7d2eb9c3165ead966", func := "pelorus/peloruslaw13.AtanAngles", spec := "atanAngles", inPlace := ["math/bits.Add64", "math/bits.Sub64"], unfollowed := true, recurses := true, named := ["math/bits.deBruijn32tab", "math/bits.overflowError", "math/bits.divideError"], apart := false, laid := [("math/bits.deBruijn32tab", laid_math_bits_deBruijn32tab)] }
def AtanAnglesSaid : Prop := atanAnglesRow.holds Tryz.pinned (OpenSpec.ofChange atanAnglesSpec)

/-- ITS FALSE NEIGHBOUR: 'it returns false'. Refute it at one input. -/
def atanAnglesWrong : ChangeSpec := { name := "atanAngles", fn := fun _ => fun
  | [d1, d2, d3] => { results := [.lit (.bool false)], args := [d1, d2, d3] }
  | _ => none }
def AtanAnglesWrongFalsely : Prop := atanAnglesRow.holds Tryz.pinned (OpenSpec.ofChange atanAnglesWrong)

/-- 'peloruslaw13.AtanTight': WHATEVER THE INPUT: true; the input reads as it did. -/
def atanTightSpec : ChangeSpec := { name := "atanTight", fn := fun _ => fun
  | [d] => { results := [.lit (.bool true)], args := [d] }
  | _ => none }
def atanTightRow : OpenClaim := { program := "ytpadpcjdakfokaagreatdoor", sum := "af4be7a1b4a959e095b18868beba238728526883f8524fb7d2eb9c3165ead966", func := "pelorus/peloruslaw13.AtanTight", spec := "atanTight", inPlace := ["math/bits.Add64", "math/bits.Sub64"], unfollowed := true, recurses := true, named := ["math/bits.deBruijn32tab", "math/bits.overflowError", "math/bits.divideError"], apart := false, laid := [("math/bits.deBruijn32tab", laid_math_bits_deBruijn32tab)] }
def AtanTightSaid : Prop := atanTightRow.holds Tryz.pinned (OpenSpec.ofChange atanTightSpec)

/-- ITS FALSE NEIGHBOUR: 'it returns false'. Refute it at one input. -/
def atanTightWrong : ChangeSpec := { name := "atanTight", fn := fun _ => fun
  | [d] => { results := [.lit (.bool false)], args := [d] }
  | _ => none }
def AtanTightWrongFalsely : Prop := atanTightRow.holds Tryz.pinned (OpenSpec.ofChange atanTightWrong)

/- THE SECOND FORM. 'bulk': how many values and letters a reading holds, each counted each time it is reached (what is shared counts as often as it is met; a slice's spare places count too). A statement '..UptoSaid' is the law's where the arguments, and the package variables that the reading takes, are together of bulk at most 1048576: NARROWER than '..Said'. Prove '..Said' where nothing that the law and all that it calls make is longer than what came in: it says more and counts as full. Else prove '..UptoSaid'. A law counts once. -/
mutual
def uptoBulk {H : Type} : DataW H → Nat
  | .lit (.string bytes) => bytes.length + 1
  | .lit _ => 1
  | .nil => 1
  | .ptr d => uptoBulk d + 1
  | .slice elems spare => uptoBulkAll elems + uptoBulkAll spare + 1
  | .agg parts => uptoBulkAll parts + 1
  | .iface _ d => uptoBulk d + 1
  | .map entries => uptoBulkEntries entries + 1
  | .held _ => 1
def uptoBulkAll {H : Type} : List (DataW H) → Nat
  | [] => 0
  | d :: r => uptoBulk d + uptoBulkAll r
def uptoBulkEntries {H : Type} : List (Lit × DataW H) → Nat
  | [] => 0
  | x :: r => uptoBulkEntry x + uptoBulkEntries r
def uptoBulkEntry {H : Type} : Lit × DataW H → Nat
  | (.string bytes, d) => bytes.length + uptoBulk d + 1
  | (_, d) => uptoBulk d + 1
 end
def uptoSmall : (H : Type) → List (DataW H) → Bool := fun _ ds => decide (uptoBulkAll ds ≤ 1048576)
def OpenSpec.upto (s : _root_.Go.ChangeSpec) : _root_.Go.OpenSpec := { _root_.Go.OpenSpec.ofChange s with cond := some uptoSmall }

/-- 'peloruslaw11.PiFixes', WHERE WHAT IT READS IS OF BULK AT MOST 1048576: true; the input reads as it did. -/
def piFixesUptoRow : OpenClaim := { program := "ytpadpcjdakfokaagreatdoor", sum := "af4be7a1b4a959e095b18868beba238728526883f8524fb7d2eb9c3165ead966", func := "pelorus/peloruslaw11.PiFixes", spec := "piFixes", unfollowed := true, recurses := true, named := ["math/bits.overflowError", "math/bits.deBruijn32tab"], apart := false, laid := [("math/bits.deBruijn32tab", laid_math_bits_deBruijn32tab)], narrowed := true }
def PiFixesUptoSaid : Prop := piFixesUptoRow.holds Tryz.pinned (OpenSpec.upto piFixesSpec)

/-- 'peloruslaw12.TrigAll', WHERE WHAT IT READS IS OF BULK AT MOST 1048576: true; the input reads as it did. -/
def trigAllUptoRow : OpenClaim := { program := "ytpadpcjdakfokaagreatdoor", sum := "af4be7a1b4a959e095b18868beba238728526883f8524fb7d2eb9c3165ead966", func := "pelorus/peloruslaw12.TrigAll", spec := "trigAll", inPlace := ["math/bits.Add64", "math/bits.Sub64"], unfollowed := true, recurses := true, named := ["math/bits.overflowError", "math/bits.deBruijn32tab"], apart := false, laid := [("math/bits.deBruijn32tab", laid_math_bits_deBruijn32tab)], narrowed := true }
def TrigAllUptoSaid : Prop := trigAllUptoRow.holds Tryz.pinned (OpenSpec.upto trigAllSpec)

/-- 'peloruslaw12.TrigPoints', WHERE WHAT IT READS IS OF BULK AT MOST 1048576: true; the input reads as it did. -/
def trigPointsUptoRow : OpenClaim := { program := "ytpadpcjdakfokaagreatdoor", sum := "af4be7a1b4a959e095b18868beba238728526883f8524fb7d2eb9c3165ead966", func := "pelorus/peloruslaw12.TrigPoints", spec := "trigPoints", inPlace := ["math/bits.Add64", "math/bits.Sub64"], unfollowed := true, recurses := true, named := ["math/bits.overflowError", "math/bits.deBruijn32tab"], apart := false, laid := [("math/bits.deBruijn32tab", laid_math_bits_deBruijn32tab)], narrowed := true }
def TrigPointsUptoSaid : Prop := trigPointsUptoRow.holds Tryz.pinned (OpenSpec.upto trigPointsSpec)

/-- 'peloruslaw12.TrigTight', WHERE WHAT IT READS IS OF BULK AT MOST 1048576: true; the input reads as it did. -/
def trigTightUptoRow : OpenClaim := { program := "ytpadpcjdakfokaagreatdoor", sum := "af4be7a1b4a959e095b18868beba238728526883f8524fb7d2eb9c3165ead966", func := "pelorus/peloruslaw12.TrigTight", spec := "trigTight", inPlace := ["math/bits.Add64", "math/bits.Sub64"], unfollowed := true, recurses := true, named := ["math/bits.overflowError", "math/bits.deBruijn32tab"], apart := false, laid := [("math/bits.deBruijn32tab", laid_math_bits_deBruijn32tab)], narrowed := true }
def TrigTightUptoSaid : Prop := trigTightUptoRow.holds Tryz.pinned (OpenSpec.upto trigTightSpec)

/-- 'peloruslaw13.AtanPoints', WHERE WHAT IT READS IS OF BULK AT MOST 1048576: true; the input reads as it did. -/
def atanPointsUptoRow : OpenClaim := { program := "ytpadpcjdakfokaagreatdoor", sum := "af4be7a1b4a959e095b18868beba238728526883f8524fb7d2eb9c3165ead966", func := "pelorus/peloruslaw13.AtanPoints", spec := "atanPoints", inPlace := ["math/bits.Add64", "math/bits.Sub64"], unfollowed := true, recurses := true, named := ["math/bits.deBruijn32tab", "math/bits.overflowError", "math/bits.divideError"], apart := false, laid := [("math/bits.deBruijn32tab", laid_math_bits_deBruijn32tab)], narrowed := true }
def AtanPointsUptoSaid : Prop := atanPointsUptoRow.holds Tryz.pinned (OpenSpec.upto atanPointsSpec)

/-- 'peloruslaw13.AtanAngles', WHERE WHAT IT READS IS OF BULK AT MOST 1048576: true; the input reads as it did. -/
def atanAnglesUptoRow : OpenClaim := { program := "ytpadpcjdakfokaagreatdoor", sum := "af4be7a1b4a959e095b18868beba238728526883f8524fb7d2eb9c3165ead966", func := "pelorus/peloruslaw13.AtanAngles", spec := "atanAngles", inPlace := ["math/bits.Add64", "math/bits.Sub64"], unfollowed := true, recurses := true, named := ["math/bits.deBruijn32tab", "math/bits.overflowError", "math/bits.divideError"], apart := false, laid := [("math/bits.deBruijn32tab", laid_math_bits_deBruijn32tab)], narrowed := true }
def AtanAnglesUptoSaid : Prop := atanAnglesUptoRow.holds Tryz.pinned (OpenSpec.upto atanAnglesSpec)

/-- 'peloruslaw13.AtanTight', WHERE WHAT IT READS IS OF BULK AT MOST 1048576: true; the input reads as it did. -/
def atanTightUptoRow : OpenClaim := { program := "ytpadpcjdakfokaagreatdoor", sum := "af4be7a1b4a959e095b18868beba238728526883f8524fb7d2eb9c3165ead966", func := "pelorus/peloruslaw13.AtanTight", spec := "atanTight", inPlace := ["math/bits.Add64", "math/bits.Sub64"], unfollowed := true, recurses := true, named := ["math/bits.deBruijn32tab", "math/bits.overflowError", "math/bits.divideError"], apart := false, laid := [("math/bits.deBruijn32tab", laid_math_bits_deBruijn32tab)], narrowed := true }
def AtanTightUptoSaid : Prop := atanTightUptoRow.holds Tryz.pinned (OpenSpec.upto atanTightSpec)

end Rows
end Go.Proofs.YtpadpcjdakfokaaGreatDoor
