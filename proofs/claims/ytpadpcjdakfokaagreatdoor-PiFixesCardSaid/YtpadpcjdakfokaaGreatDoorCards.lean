/-
  DERIVED. GIVEN WITH THE SEED: THE CARDS: each row of YtpadpcjdakfokaaGreatDoorRows.lean that lists a variable, with what it lists TIED to the program's text (the seventh form; the later family's looks); each row that meets fmt, with fmt's text TOLD by the authors' own Lean function (tested against real Go, not proved from fmt's source: count such statements apart). THE CARD IS WHAT COUNTS. Prove the row's statement (the work); the ties are given (YtpadpcjdakfokaaGreatDoorTie.lean); close each card by the builder's one call (the guide's Derived/Test/ToyasCard.lean, 'card_holds'). Laid BY PROGRAM, IN A SANDBOX (cutbox-door.mjs). By AI agents, Wed Nov 11 2026. No macro, syntax, notation, axiom, sorry.
-/
import Derived.Test.YtpadpcjdakfokaaGreatDoorRows
import GoSem.ClaimSeven
namespace Go.Proofs.YtpadpcjdakfokaaGreatDoor
namespace Rows

/-- THE TIED CARD OF 'peloruslaw11.PiFixes'. -/
def piFixesCard : Claim7 := { stood := { row := piFixesRow, standIns := [], harness := (true, "6ba9c92166df44f43840c720394010496d84c3596dc3387d7f876da732e232fc"), looks := false }, kinds := [], alts := [], laidByText := true, laidKinds := [.data], laidTests := true, laidLooks := .later }
def PiFixesCardSaid : Prop := Claim7.holds Tryz.pinned (.plain (OpenSpec.ofChange piFixesSpec)) piFixesCard

/-- THE TIED CARD OF 'peloruslaw12.TrigAll'. -/
def trigAllCard : Claim7 := { stood := { row := trigAllRow, standIns := [], harness := (true, "6ba9c92166df44f43840c720394010496d84c3596dc3387d7f876da732e232fc"), looks := false }, kinds := [], alts := [], laidByText := true, laidKinds := [.data], laidTests := true, laidLooks := .later }
def TrigAllCardSaid : Prop := Claim7.holds Tryz.pinned (.plain (OpenSpec.ofChange trigAllSpec)) trigAllCard

/-- THE TIED CARD OF 'peloruslaw12.TrigPoints'. -/
def trigPointsCard : Claim7 := { stood := { row := trigPointsRow, standIns := [], harness := (true, "6ba9c92166df44f43840c720394010496d84c3596dc3387d7f876da732e232fc"), looks := false }, kinds := [], alts := [], laidByText := true, laidKinds := [.data], laidTests := true, laidLooks := .later }
def TrigPointsCardSaid : Prop := Claim7.holds Tryz.pinned (.plain (OpenSpec.ofChange trigPointsSpec)) trigPointsCard

/-- THE TIED CARD OF 'peloruslaw12.TrigTight'. -/
def trigTightCard : Claim7 := { stood := { row := trigTightRow, standIns := [], harness := (true, "6ba9c92166df44f43840c720394010496d84c3596dc3387d7f876da732e232fc"), looks := false }, kinds := [], alts := [], laidByText := true, laidKinds := [.data], laidTests := true, laidLooks := .later }
def TrigTightCardSaid : Prop := Claim7.holds Tryz.pinned (.plain (OpenSpec.ofChange trigTightSpec)) trigTightCard

/-- THE TIED CARD OF 'peloruslaw13.AtanPoints'. -/
def atanPointsCard : Claim7 := { stood := { row := atanPointsRow, standIns := [], harness := (true, "6ba9c92166df44f43840c720394010496d84c3596dc3387d7f876da732e232fc"), looks := false }, kinds := [], alts := [], laidByText := true, laidKinds := [.data], laidTests := true, laidLooks := .later }
def AtanPointsCardSaid : Prop := Claim7.holds Tryz.pinned (.plain (OpenSpec.ofChange atanPointsSpec)) atanPointsCard

/-- THE TIED CARD OF 'peloruslaw13.AtanAngles'. -/
def atanAnglesCard : Claim7 := { stood := { row := atanAnglesRow, standIns := [], harness := (true, "6ba9c92166df44f43840c720394010496d84c3596dc3387d7f876da732e232fc"), looks := false }, kinds := [], alts := [], laidByText := true, laidKinds := [.data], laidTests := true, laidLooks := .later }
def AtanAnglesCardSaid : Prop := Claim7.holds Tryz.pinned (.plain (OpenSpec.ofChange atanAnglesSpec)) atanAnglesCard

/-- THE TIED CARD OF 'peloruslaw13.AtanTight'. -/
def atanTightCard : Claim7 := { stood := { row := atanTightRow, standIns := [], harness := (true, "6ba9c92166df44f43840c720394010496d84c3596dc3387d7f876da732e232fc"), looks := false }, kinds := [], alts := [], laidByText := true, laidKinds := [.data], laidTests := true, laidLooks := .later }
def AtanTightCardSaid : Prop := Claim7.holds Tryz.pinned (.plain (OpenSpec.ofChange atanTightSpec)) atanTightCard

/-- THE SECOND FORM's CARD OF 'peloruslaw11.PiFixes'. -/
def piFixesUptoCard : Claim7 := { stood := { row := piFixesUptoRow, standIns := [], harness := (true, "6ba9c92166df44f43840c720394010496d84c3596dc3387d7f876da732e232fc"), looks := false }, kinds := [], alts := [], laidByText := true, laidKinds := [.data], laidTests := true, laidLooks := .later }
def PiFixesUptoCardSaid : Prop := Claim7.holds Tryz.pinned (.plain (OpenSpec.upto piFixesSpec)) piFixesUptoCard

/-- THE SECOND FORM's CARD OF 'peloruslaw12.TrigAll'. -/
def trigAllUptoCard : Claim7 := { stood := { row := trigAllUptoRow, standIns := [], harness := (true, "6ba9c92166df44f43840c720394010496d84c3596dc3387d7f876da732e232fc"), looks := false }, kinds := [], alts := [], laidByText := true, laidKinds := [.data], laidTests := true, laidLooks := .later }
def TrigAllUptoCardSaid : Prop := Claim7.holds Tryz.pinned (.plain (OpenSpec.upto trigAllSpec)) trigAllUptoCard

/-- THE SECOND FORM's CARD OF 'peloruslaw12.TrigPoints'. -/
def trigPointsUptoCard : Claim7 := { stood := { row := trigPointsUptoRow, standIns := [], harness := (true, "6ba9c92166df44f43840c720394010496d84c3596dc3387d7f876da732e232fc"), looks := false }, kinds := [], alts := [], laidByText := true, laidKinds := [.data], laidTests := true, laidLooks := .later }
def TrigPointsUptoCardSaid : Prop := Claim7.holds Tryz.pinned (.plain (OpenSpec.upto trigPointsSpec)) trigPointsUptoCard

/-- THE SECOND FORM's CARD OF 'peloruslaw12.TrigTight'. -/
def trigTightUptoCard : Claim7 := { stood := { row := trigTightUptoRow, standIns := [], harness := (true, "6ba9c92166df44f43840c720394010496d84c3596dc3387d7f876da732e232fc"), looks := false }, kinds := [], alts := [], laidByText := true, laidKinds := [.data], laidTests := true, laidLooks := .later }
def TrigTightUptoCardSaid : Prop := Claim7.holds Tryz.pinned (.plain (OpenSpec.upto trigTightSpec)) trigTightUptoCard

/-- THE SECOND FORM's CARD OF 'peloruslaw13.AtanPoints'. -/
def atanPointsUptoCard : Claim7 := { stood := { row := atanPointsUptoRow, standIns := [], harness := (true, "6ba9c92166df44f43840c720394010496d84c3596dc3387d7f876da732e232fc"), looks := false }, kinds := [], alts := [], laidByText := true, laidKinds := [.data], laidTests := true, laidLooks := .later }
def AtanPointsUptoCardSaid : Prop := Claim7.holds Tryz.pinned (.plain (OpenSpec.upto atanPointsSpec)) atanPointsUptoCard

/-- THE SECOND FORM's CARD OF 'peloruslaw13.AtanAngles'. -/
def atanAnglesUptoCard : Claim7 := { stood := { row := atanAnglesUptoRow, standIns := [], harness := (true, "6ba9c92166df44f43840c720394010496d84c3596dc3387d7f876da732e232fc"), looks := false }, kinds := [], alts := [], laidByText := true, laidKinds := [.data], laidTests := true, laidLooks := .later }
def AtanAnglesUptoCardSaid : Prop := Claim7.holds Tryz.pinned (.plain (OpenSpec.upto atanAnglesSpec)) atanAnglesUptoCard

/-- THE SECOND FORM's CARD OF 'peloruslaw13.AtanTight'. -/
def atanTightUptoCard : Claim7 := { stood := { row := atanTightUptoRow, standIns := [], harness := (true, "6ba9c92166df44f43840c720394010496d84c3596dc3387d7f876da732e232fc"), looks := false }, kinds := [], alts := [], laidByText := true, laidKinds := [.data], laidTests := true, laidLooks := .later }
def AtanTightUptoCardSaid : Prop := Claim7.holds Tryz.pinned (.plain (OpenSpec.upto atanTightSpec)) atanTightUptoCard
end Rows
end Go.Proofs.YtpadpcjdakfokaaGreatDoor
