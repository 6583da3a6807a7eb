/-
  DERIVED. GIVEN WITH THE SEED: THE CARDS: each row of YtpadpcjdakfokaaDoorRows.lean that lists a variable, with what it lists TIED to the program's text (the seventh form; the later family's looks); each row that meets fmt, with fmt's text TOLD by the authors' own Lean function (tested against real Go, not proved from fmt's source: count such statements apart). THE CARD IS WHAT COUNTS. Prove the row's statement (the work); the ties are given (YtpadpcjdakfokaaDoorTie.lean); close each card by the builder's one call (the guide's Derived/Test/ToyasCard.lean, 'card_holds'). Laid BY PROGRAM, IN A SANDBOX (cutbox-door.mjs). By AI agents, Wed Nov 11 2026. No macro, syntax, notation, axiom, sorry.
-/
import Derived.Test.YtpadpcjdakfokaaDoorRows
import GoSem.ClaimSeven
namespace Go.Proofs.YtpadpcjdakfokaaDoor
namespace Rows

/-- THE TIED CARD OF 'peloruslaw11.PiParts'. -/
def piPartsCard : Claim7 := { stood := { row := piPartsRow, standIns := [], harness := (true, "e913ed55bb0a03e23041a75e9f8bf9b1dde05af0a16c0c175327c61d6e8afe03"), looks := false }, kinds := [], alts := [], laidByText := true, laidKinds := [.data], laidTests := true, laidLooks := .later }
def PiPartsCardSaid : Prop := Claim7.holds Tryd.pinned (.plain (OpenSpec.ofChange piPartsSpec)) piPartsCard

/-- THE TIED CARD OF 'peloruslaw11.PiHolds'. -/
def piHoldsCard : Claim7 := { stood := { row := piHoldsRow, standIns := [], harness := (true, "e913ed55bb0a03e23041a75e9f8bf9b1dde05af0a16c0c175327c61d6e8afe03"), looks := false }, kinds := [], alts := [], laidByText := true, laidKinds := [.data], laidTests := true, laidLooks := .later }
def PiHoldsCardSaid : Prop := Claim7.holds Tryd.pinned (.plain (OpenSpec.ofChange piHoldsSpec)) piHoldsCard

/-- THE TIED CARD OF 'peloruslaw09.IvopHolds'. -/
def ivopHoldsCard : Claim7 := { stood := { row := ivopHoldsRow, standIns := [], harness := (true, "e913ed55bb0a03e23041a75e9f8bf9b1dde05af0a16c0c175327c61d6e8afe03"), looks := false }, kinds := [], alts := [], laidByText := true, laidKinds := [.data], laidTests := true, laidLooks := .later }
def IvopHoldsCardSaid : Prop := Claim7.holds Tryd.pinned (.plain (OpenSpec.ofChange ivopHoldsSpec)) ivopHoldsCard

/-- THE SECOND FORM's CARD OF 'peloruslaw11.PiParts'. -/
def piPartsUptoCard : Claim7 := { stood := { row := piPartsUptoRow, standIns := [], harness := (true, "e913ed55bb0a03e23041a75e9f8bf9b1dde05af0a16c0c175327c61d6e8afe03"), looks := false }, kinds := [], alts := [], laidByText := true, laidKinds := [.data], laidTests := true, laidLooks := .later }
def PiPartsUptoCardSaid : Prop := Claim7.holds Tryd.pinned (.plain (OpenSpec.upto piPartsSpec)) piPartsUptoCard

/-- THE SECOND FORM's CARD OF 'peloruslaw11.PiHolds'. -/
def piHoldsUptoCard : Claim7 := { stood := { row := piHoldsUptoRow, standIns := [], harness := (true, "e913ed55bb0a03e23041a75e9f8bf9b1dde05af0a16c0c175327c61d6e8afe03"), looks := false }, kinds := [], alts := [], laidByText := true, laidKinds := [.data], laidTests := true, laidLooks := .later }
def PiHoldsUptoCardSaid : Prop := Claim7.holds Tryd.pinned (.plain (OpenSpec.upto piHoldsSpec)) piHoldsUptoCard

/-- THE SECOND FORM's CARD OF 'peloruslaw09.IvopHolds'. -/
def ivopHoldsUptoCard : Claim7 := { stood := { row := ivopHoldsUptoRow, standIns := [], harness := (true, "e913ed55bb0a03e23041a75e9f8bf9b1dde05af0a16c0c175327c61d6e8afe03"), looks := false }, kinds := [], alts := [], laidByText := true, laidKinds := [.data], laidTests := true, laidLooks := .later }
def IvopHoldsUptoCardSaid : Prop := Claim7.holds Tryd.pinned (.plain (OpenSpec.upto ivopHoldsSpec)) ivopHoldsUptoCard
end Rows
end Go.Proofs.YtpadpcjdakfokaaDoor
