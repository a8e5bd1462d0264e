/-
  DERIVED. GIVEN WITH THE SEED: THE CARDS: each row of YtfkhgbcggabkjaaGreatDoorRows.lean that lists a variable, with what it lists TIED to the program's text (the seventh form; the later family's looks); each row that meets fmt, with fmt's text TOLD by the authors' own Lean function (tested against real Go, not proved from fmt's source: count such statements apart). THE CARD IS WHAT COUNTS. Prove the row's statement (the work); the ties are given (YtfkhgbcggabkjaaGreatDoorTie.lean); close each card by the builder's one call (the guide's Derived/Test/ToyasCard.lean, 'card_holds'). Laid BY PROGRAM, IN A SANDBOX (cutbox-door.mjs). By AI agents, Wed Nov 11 2026. No macro, syntax, notation, axiom, sorry.
-/
import Derived.Test.YtfkhgbcggabkjaaGreatDoorRows
import GoSem.ClaimSeven
namespace Go.Proofs.YtfkhgbcggabkjaaGreatDoor
namespace Rows

/-- THE TIED CARD OF 'sederuntlaw54.MonitorLonger'. -/
def monitorLongerCard : Claim7 := { stood := { row := monitorLongerRow, standIns := [], harness := (true, "cc4c0e627d4559871b3b044fa401c1c2483e76f4b6b48227fa3e57726ae9f9b5"), looks := true }, kinds := [], alts := [], laidByText := true, laidKinds := [.data, .data, .data, .data, .sentinel, .sentinel, .pinned], laidTests := true, laidLooks := .later }
def MonitorLongerCardSaid : Prop := Claim7.holds Tryz.pinned (.plain (OpenSpec.ofChange monitorLongerSpec)) monitorLongerCard

/-- THE TIED CARD OF 'sederuntlaw54.MonitorPrefix'. -/
def monitorPrefixCard : Claim7 := { stood := { row := monitorPrefixRow, standIns := [], harness := (true, "cc4c0e627d4559871b3b044fa401c1c2483e76f4b6b48227fa3e57726ae9f9b5"), looks := true }, kinds := [], alts := [], laidByText := true, laidKinds := [.data, .data, .data, .data, .sentinel, .sentinel, .pinned], laidTests := true, laidLooks := .later }
def MonitorPrefixCardSaid : Prop := Claim7.holds Tryz.pinned (.plain (OpenSpec.ofChange monitorPrefixSpec)) monitorPrefixCard

/-- THE TIED CARD OF 'sederuntlaw54.MonitorFirst'. -/
def monitorFirstCard : Claim7 := { stood := { row := monitorFirstRow, standIns := [], harness := (true, "cc4c0e627d4559871b3b044fa401c1c2483e76f4b6b48227fa3e57726ae9f9b5"), looks := true }, kinds := [], alts := [], laidByText := true, laidKinds := [.data, .data, .data, .data, .sentinel, .sentinel, .pinned], laidTests := true, laidLooks := .later }
def MonitorFirstCardSaid : Prop := Claim7.holds Tryz.pinned (.plain (OpenSpec.ofChange monitorFirstSpec)) monitorFirstCard

/-- THE TIED CARD OF 'sederuntlaw54.MonitorMade'. -/
def monitorMadeCard : Claim7 := { stood := { row := monitorMadeRow, standIns := [], harness := (true, "cc4c0e627d4559871b3b044fa401c1c2483e76f4b6b48227fa3e57726ae9f9b5"), looks := true }, kinds := [], alts := [], laidByText := true, laidKinds := [.data, .data, .data, .data, .sentinel, .sentinel, .pinned], laidTests := true, laidLooks := .later }
def MonitorMadeCardSaid : Prop := Claim7.holds Tryz.pinned (.plain (OpenSpec.ofChange monitorMadeSpec)) monitorMadeCard

/-- THE TIED CARD OF 'sederuntlaw54.MonitorFork'. -/
def monitorForkCard : Claim7 := { stood := { row := monitorForkRow, standIns := [], harness := (true, "cc4c0e627d4559871b3b044fa401c1c2483e76f4b6b48227fa3e57726ae9f9b5"), looks := true }, kinds := [], alts := [], laidByText := true, laidKinds := [.data, .data, .data, .data, .sentinel, .sentinel, .pinned], laidTests := true, laidLooks := .later }
def MonitorForkCardSaid : Prop := Claim7.holds Tryz.pinned (.plain (OpenSpec.ofChange monitorForkSpec)) monitorForkCard

/-- THE TIED CARD OF 'sederuntlaw54.MonitorOthers'. -/
def monitorOthersCard : Claim7 := { stood := { row := monitorOthersRow, standIns := [], harness := (true, "cc4c0e627d4559871b3b044fa401c1c2483e76f4b6b48227fa3e57726ae9f9b5"), looks := true }, kinds := [], alts := [], laidByText := true, laidKinds := [.data, .data, .data, .data, .sentinel, .sentinel, .pinned], laidTests := true, laidLooks := .later }
def MonitorOthersCardSaid : Prop := Claim7.holds Tryz.pinned (.plain (OpenSpec.ofChange monitorOthersSpec)) monitorOthersCard

/-- THE TIED CARD OF 'sederuntlaw54.MonitorReport'. -/
def monitorReportCard : Claim7 := { stood := { row := monitorReportRow, standIns := [], harness := (true, "cc4c0e627d4559871b3b044fa401c1c2483e76f4b6b48227fa3e57726ae9f9b5"), looks := true }, kinds := [], alts := [], laidByText := true, laidKinds := [.data, .data, .data, .data, .sentinel, .sentinel, .data, .pinned], laidTests := true, laidLooks := .later }
def MonitorReportCardSaid : Prop := Claim7.holds Tryz.pinned (.plain (OpenSpec.ofChange monitorReportSpec)) monitorReportCard

/-- THE TIED CARD OF 'sederuntlaw54.MonitorCommon'. -/
def monitorCommonCard : Claim7 := { stood := { row := monitorCommonRow, standIns := [], harness := (true, "cc4c0e627d4559871b3b044fa401c1c2483e76f4b6b48227fa3e57726ae9f9b5"), looks := true }, kinds := [], alts := [], laidByText := true, laidKinds := [.data, .data, .data, .data, .sentinel, .sentinel, .pinned], laidTests := true, laidLooks := .later }
def MonitorCommonCardSaid : Prop := Claim7.holds Tryz.pinned (.plain (OpenSpec.ofChange monitorCommonSpec)) monitorCommonCard

/-- THE SECOND FORM's CARD OF 'sederuntlaw54.MonitorLonger'. -/
def monitorLongerUptoCard : Claim7 := { stood := { row := monitorLongerUptoRow, standIns := [], harness := (true, "cc4c0e627d4559871b3b044fa401c1c2483e76f4b6b48227fa3e57726ae9f9b5"), looks := true }, kinds := [], alts := [], laidByText := true, laidKinds := [.data, .data, .data, .data, .sentinel, .sentinel, .pinned], laidTests := true, laidLooks := .later }
def MonitorLongerUptoCardSaid : Prop := Claim7.holds Tryz.pinned (.plain (OpenSpec.upto monitorLongerSpec)) monitorLongerUptoCard

/-- THE SECOND FORM's CARD OF 'sederuntlaw54.MonitorPrefix'. -/
def monitorPrefixUptoCard : Claim7 := { stood := { row := monitorPrefixUptoRow, standIns := [], harness := (true, "cc4c0e627d4559871b3b044fa401c1c2483e76f4b6b48227fa3e57726ae9f9b5"), looks := true }, kinds := [], alts := [], laidByText := true, laidKinds := [.data, .data, .data, .data, .sentinel, .sentinel, .pinned], laidTests := true, laidLooks := .later }
def MonitorPrefixUptoCardSaid : Prop := Claim7.holds Tryz.pinned (.plain (OpenSpec.upto monitorPrefixSpec)) monitorPrefixUptoCard

/-- THE SECOND FORM's CARD OF 'sederuntlaw54.MonitorFirst'. -/
def monitorFirstUptoCard : Claim7 := { stood := { row := monitorFirstUptoRow, standIns := [], harness := (true, "cc4c0e627d4559871b3b044fa401c1c2483e76f4b6b48227fa3e57726ae9f9b5"), looks := true }, kinds := [], alts := [], laidByText := true, laidKinds := [.data, .data, .data, .data, .sentinel, .sentinel, .pinned], laidTests := true, laidLooks := .later }
def MonitorFirstUptoCardSaid : Prop := Claim7.holds Tryz.pinned (.plain (OpenSpec.upto monitorFirstSpec)) monitorFirstUptoCard

/-- THE SECOND FORM's CARD OF 'sederuntlaw54.MonitorMade'. -/
def monitorMadeUptoCard : Claim7 := { stood := { row := monitorMadeUptoRow, standIns := [], harness := (true, "cc4c0e627d4559871b3b044fa401c1c2483e76f4b6b48227fa3e57726ae9f9b5"), looks := true }, kinds := [], alts := [], laidByText := true, laidKinds := [.data, .data, .data, .data, .sentinel, .sentinel, .pinned], laidTests := true, laidLooks := .later }
def MonitorMadeUptoCardSaid : Prop := Claim7.holds Tryz.pinned (.plain (OpenSpec.upto monitorMadeSpec)) monitorMadeUptoCard

/-- THE SECOND FORM's CARD OF 'sederuntlaw54.MonitorFork'. -/
def monitorForkUptoCard : Claim7 := { stood := { row := monitorForkUptoRow, standIns := [], harness := (true, "cc4c0e627d4559871b3b044fa401c1c2483e76f4b6b48227fa3e57726ae9f9b5"), looks := true }, kinds := [], alts := [], laidByText := true, laidKinds := [.data, .data, .data, .data, .sentinel, .sentinel, .pinned], laidTests := true, laidLooks := .later }
def MonitorForkUptoCardSaid : Prop := Claim7.holds Tryz.pinned (.plain (OpenSpec.upto monitorForkSpec)) monitorForkUptoCard

/-- THE SECOND FORM's CARD OF 'sederuntlaw54.MonitorOthers'. -/
def monitorOthersUptoCard : Claim7 := { stood := { row := monitorOthersUptoRow, standIns := [], harness := (true, "cc4c0e627d4559871b3b044fa401c1c2483e76f4b6b48227fa3e57726ae9f9b5"), looks := true }, kinds := [], alts := [], laidByText := true, laidKinds := [.data, .data, .data, .data, .sentinel, .sentinel, .pinned], laidTests := true, laidLooks := .later }
def MonitorOthersUptoCardSaid : Prop := Claim7.holds Tryz.pinned (.plain (OpenSpec.upto monitorOthersSpec)) monitorOthersUptoCard

/-- THE SECOND FORM's CARD OF 'sederuntlaw54.MonitorReport'. -/
def monitorReportUptoCard : Claim7 := { stood := { row := monitorReportUptoRow, standIns := [], harness := (true, "cc4c0e627d4559871b3b044fa401c1c2483e76f4b6b48227fa3e57726ae9f9b5"), looks := true }, kinds := [], alts := [], laidByText := true, laidKinds := [.data, .data, .data, .data, .sentinel, .sentinel, .data, .pinned], laidTests := true, laidLooks := .later }
def MonitorReportUptoCardSaid : Prop := Claim7.holds Tryz.pinned (.plain (OpenSpec.upto monitorReportSpec)) monitorReportUptoCard

/-- THE SECOND FORM's CARD OF 'sederuntlaw54.MonitorCommon'. -/
def monitorCommonUptoCard : Claim7 := { stood := { row := monitorCommonUptoRow, standIns := [], harness := (true, "cc4c0e627d4559871b3b044fa401c1c2483e76f4b6b48227fa3e57726ae9f9b5"), looks := true }, kinds := [], alts := [], laidByText := true, laidKinds := [.data, .data, .data, .data, .sentinel, .sentinel, .pinned], laidTests := true, laidLooks := .later }
def MonitorCommonUptoCardSaid : Prop := Claim7.holds Tryz.pinned (.plain (OpenSpec.upto monitorCommonSpec)) monitorCommonUptoCard
end Rows
end Go.Proofs.YtfkhgbcggabkjaaGreatDoor
