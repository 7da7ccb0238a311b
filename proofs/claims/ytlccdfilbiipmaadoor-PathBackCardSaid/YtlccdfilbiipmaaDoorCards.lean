/-
  DERIVED. GIVEN WITH THE SEED: THE CARDS: each row of YtlccdfilbiipmaaDoorRows.lean that lists a variable, with what it lists TIED to the program's text (the seventh form; the later family's looks); each row that meets fmt, with fmt's text TOLD by the authors' own Lean function (tested against real Go, not proved from fmt's source: count such statements apart). THE CARD IS WHAT COUNTS. Prove the row's statement (the work); the ties are given (YtlccdfilbiipmaaDoorTie.lean); close each card by the builder's one call (the guide's Derived/Test/ToyasCard.lean, 'card_holds'). Laid BY PROGRAM, IN A SANDBOX (cutbox-door.mjs). By AI agents, Wed Nov 11 2026. No macro, syntax, notation, axiom, sorry.
-/
import Derived.Test.YtlccdfilbiipmaaDoorRows
import GoSem.ClaimSeven
namespace Go.Proofs.YtlccdfilbiipmaaDoor
namespace Rows

/-- THE TIED CARD OF 'aqueductlaw6.PathParses'. -/
def pathParsesCard : Claim7 := { stood := { row := pathParsesRow, standIns := [], harness := (true, "4356a4e64d126055193ecbdab695ad9e05764fc15acb2f1359e65c18db94d197"), looks := false }, kinds := [], alts := [], laidByText := true, laidKinds := [.data, .pinned], laidTests := true, laidLooks := .later }
def PathParsesCardSaid : Prop := Claim7.holds Tryd.pinned (.plain (OpenSpec.ofChange pathParsesSpec)) pathParsesCard

/-- THE TIED CARD OF 'aqueductlaw6.PathReaches'. -/
def pathReachesCard : Claim7 := { stood := { row := pathReachesRow, standIns := [], harness := (true, "4356a4e64d126055193ecbdab695ad9e05764fc15acb2f1359e65c18db94d197"), looks := false }, kinds := [], alts := [], laidByText := true, laidKinds := [.data, .pinned], laidTests := true, laidLooks := .later }
def PathReachesCardSaid : Prop := Claim7.holds Tryd.pinned (.plain (OpenSpec.ofChange pathReachesSpec)) pathReachesCard

/-- THE TIED CARD OF 'aqueductlaw6.PathDocs'. -/
def pathDocsCard : Claim7 := { stood := { row := pathDocsRow, standIns := [], harness := (true, "4356a4e64d126055193ecbdab695ad9e05764fc15acb2f1359e65c18db94d197"), looks := false }, kinds := [], alts := [], laidByText := true, laidKinds := [.data, .pinned], laidTests := true, laidLooks := .later }
def PathDocsCardSaid : Prop := Claim7.holds Tryd.pinned (.plain (OpenSpec.ofChange pathDocsSpec)) pathDocsCard

/-- THE TIED CARD OF 'aqueductlaw6.PathBack'. -/
def pathBackCard : Claim7 := { stood := { row := pathBackRow, standIns := [], harness := (true, "4356a4e64d126055193ecbdab695ad9e05764fc15acb2f1359e65c18db94d197"), looks := false }, kinds := [], alts := [], laidByText := true, laidKinds := [.data, .pinned], laidTests := true, laidLooks := .later }
def PathBackCardSaid : Prop := Claim7.holds Tryd.pinned (.plain (OpenSpec.ofChange pathBackSpec)) pathBackCard

/-- THE TIED CARD OF 'aqueductlaw6.PathLists'. -/
def pathListsCard : Claim7 := { stood := { row := pathListsRow, standIns := [], harness := (true, "4356a4e64d126055193ecbdab695ad9e05764fc15acb2f1359e65c18db94d197"), looks := false }, kinds := [], alts := [], laidByText := true, laidKinds := [.data, .pinned], laidTests := true, laidLooks := .later }
def PathListsCardSaid : Prop := Claim7.holds Tryd.pinned (.plain (OpenSpec.ofChange pathListsSpec)) pathListsCard

/-- THE TIED CARD OF 'aqueductlaw6.PathTouches'. -/
def pathTouchesCard : Claim7 := { stood := { row := pathTouchesRow, standIns := [], harness := (true, "4356a4e64d126055193ecbdab695ad9e05764fc15acb2f1359e65c18db94d197"), looks := false }, kinds := [], alts := [], laidByText := true, laidKinds := [.data, .pinned], laidTests := true, laidLooks := .later }
def PathTouchesCardSaid : Prop := Claim7.holds Tryd.pinned (.plain (OpenSpec.ofChange pathTouchesSpec)) pathTouchesCard

/-- THE SECOND FORM's CARD OF 'aqueductlaw6.PathParses'. -/
def pathParsesUptoCard : Claim7 := { stood := { row := pathParsesUptoRow, standIns := [], harness := (true, "4356a4e64d126055193ecbdab695ad9e05764fc15acb2f1359e65c18db94d197"), looks := false }, kinds := [], alts := [], laidByText := true, laidKinds := [.data, .pinned], laidTests := true, laidLooks := .later }
def PathParsesUptoCardSaid : Prop := Claim7.holds Tryd.pinned (.plain (OpenSpec.upto pathParsesSpec)) pathParsesUptoCard

/-- THE SECOND FORM's CARD OF 'aqueductlaw6.PathReaches'. -/
def pathReachesUptoCard : Claim7 := { stood := { row := pathReachesUptoRow, standIns := [], harness := (true, "4356a4e64d126055193ecbdab695ad9e05764fc15acb2f1359e65c18db94d197"), looks := false }, kinds := [], alts := [], laidByText := true, laidKinds := [.data, .pinned], laidTests := true, laidLooks := .later }
def PathReachesUptoCardSaid : Prop := Claim7.holds Tryd.pinned (.plain (OpenSpec.upto pathReachesSpec)) pathReachesUptoCard

/-- THE SECOND FORM's CARD OF 'aqueductlaw6.PathDocs'. -/
def pathDocsUptoCard : Claim7 := { stood := { row := pathDocsUptoRow, standIns := [], harness := (true, "4356a4e64d126055193ecbdab695ad9e05764fc15acb2f1359e65c18db94d197"), looks := false }, kinds := [], alts := [], laidByText := true, laidKinds := [.data, .pinned], laidTests := true, laidLooks := .later }
def PathDocsUptoCardSaid : Prop := Claim7.holds Tryd.pinned (.plain (OpenSpec.upto pathDocsSpec)) pathDocsUptoCard

/-- THE SECOND FORM's CARD OF 'aqueductlaw6.PathBack'. -/
def pathBackUptoCard : Claim7 := { stood := { row := pathBackUptoRow, standIns := [], harness := (true, "4356a4e64d126055193ecbdab695ad9e05764fc15acb2f1359e65c18db94d197"), looks := false }, kinds := [], alts := [], laidByText := true, laidKinds := [.data, .pinned], laidTests := true, laidLooks := .later }
def PathBackUptoCardSaid : Prop := Claim7.holds Tryd.pinned (.plain (OpenSpec.upto pathBackSpec)) pathBackUptoCard

/-- THE SECOND FORM's CARD OF 'aqueductlaw6.PathLists'. -/
def pathListsUptoCard : Claim7 := { stood := { row := pathListsUptoRow, standIns := [], harness := (true, "4356a4e64d126055193ecbdab695ad9e05764fc15acb2f1359e65c18db94d197"), looks := false }, kinds := [], alts := [], laidByText := true, laidKinds := [.data, .pinned], laidTests := true, laidLooks := .later }
def PathListsUptoCardSaid : Prop := Claim7.holds Tryd.pinned (.plain (OpenSpec.upto pathListsSpec)) pathListsUptoCard

/-- THE SECOND FORM's CARD OF 'aqueductlaw6.PathTouches'. -/
def pathTouchesUptoCard : Claim7 := { stood := { row := pathTouchesUptoRow, standIns := [], harness := (true, "4356a4e64d126055193ecbdab695ad9e05764fc15acb2f1359e65c18db94d197"), looks := false }, kinds := [], alts := [], laidByText := true, laidKinds := [.data, .pinned], laidTests := true, laidLooks := .later }
def PathTouchesUptoCardSaid : Prop := Claim7.holds Tryd.pinned (.plain (OpenSpec.upto pathTouchesSpec)) pathTouchesUptoCard
end Rows
end Go.Proofs.YtlccdfilbiipmaaDoor
