/-
  DERIVED. GIVEN WITH THE SEED: THE CARDS: each row of YtmdgeaagaljheaaDoorRows.lean that lists a variable, with what it lists TIED to the program's text (the seventh form; the later family's looks); each row that meets fmt, with fmt's text TOLD by the authors' own Lean function (tested against real Go, not proved from fmt's source: count such statements apart). THE CARD IS WHAT COUNTS. Prove the row's statement (the work); the ties are given (YtmdgeaagaljheaaDoorTie.lean); close each card by the builder's one call (the guide's Derived/Test/ToyasCard.lean, 'card_holds'). Laid BY PROGRAM, IN A SANDBOX (cutbox-door.mjs). By AI agents, Wed Nov 11 2026. No macro, syntax, notation, axiom, sorry.
-/
import Derived.Test.YtmdgeaagaljheaaDoorRows
import GoSem.ClaimSeven
namespace Go.Proofs.YtmdgeaagaljheaaDoor
namespace Rows

/-- THE TIED CARD OF 'peloruslaw07.QuotHolds'. -/
def quotHoldsCard : Claim7 := { stood := { row := quotHoldsRow, standIns := [], harness := (true, "1a9e3b88e1653a39dcacfec7128381baea1121d60baa270117e4e2c8480a3bdd"), looks := false }, kinds := [], alts := [], laidByText := true, laidKinds := [.data], laidTests := true, laidLooks := .later }
def QuotHoldsCardSaid : Prop := Claim7.holds Tryd.pinned (.plain (OpenSpec.ofChange quotHoldsSpec)) quotHoldsCard

/-- THE TIED CARD OF 'peloruslaw07.QuotSquares'. -/
def quotSquaresCard : Claim7 := { stood := { row := quotSquaresRow, standIns := [], harness := (true, "1a9e3b88e1653a39dcacfec7128381baea1121d60baa270117e4e2c8480a3bdd"), looks := false }, kinds := [], alts := [], laidByText := true, laidKinds := [.data], laidTests := true, laidLooks := .later }
def QuotSquaresCardSaid : Prop := Claim7.holds Tryd.pinned (.plain (OpenSpec.ofChange quotSquaresSpec)) quotSquaresCard

/-- THE SECOND FORM's CARD OF 'peloruslaw07.QuotHolds'. -/
def quotHoldsUptoCard : Claim7 := { stood := { row := quotHoldsUptoRow, standIns := [], harness := (true, "1a9e3b88e1653a39dcacfec7128381baea1121d60baa270117e4e2c8480a3bdd"), looks := false }, kinds := [], alts := [], laidByText := true, laidKinds := [.data], laidTests := true, laidLooks := .later }
def QuotHoldsUptoCardSaid : Prop := Claim7.holds Tryd.pinned (.plain (OpenSpec.upto quotHoldsSpec)) quotHoldsUptoCard

/-- THE SECOND FORM's CARD OF 'peloruslaw07.QuotSquares'. -/
def quotSquaresUptoCard : Claim7 := { stood := { row := quotSquaresUptoRow, standIns := [], harness := (true, "1a9e3b88e1653a39dcacfec7128381baea1121d60baa270117e4e2c8480a3bdd"), looks := false }, kinds := [], alts := [], laidByText := true, laidKinds := [.data], laidTests := true, laidLooks := .later }
def QuotSquaresUptoCardSaid : Prop := Claim7.holds Tryd.pinned (.plain (OpenSpec.upto quotSquaresSpec)) quotSquaresUptoCard
end Rows
end Go.Proofs.YtmdgeaagaljheaaDoor
