/-
  DERIVED. GIVEN WITH THE SEED: THE CARDS: each row of YtpjpmlhnhcmacaaGreatDoorRows.lean that lists a variable, with what it lists TIED to the program's text (the seventh form; the later family's looks); each row that meets fmt, with fmt's text TOLD by the authors' own Lean function (tested against real Go, not proved from fmt's source: count such statements apart). THE CARD IS WHAT COUNTS. Prove the row's statement (the work); the ties are given (YtpjpmlhnhcmacaaGreatDoorTie.lean); close each card by the builder's one call (the guide's Derived/Test/ToyasCard.lean, 'card_holds'). Laid BY PROGRAM, IN A SANDBOX (cutbox-door.mjs). By AI agents, Wed Nov 11 2026. No macro, syntax, notation, axiom, sorry.
-/
import Derived.Test.YtpjpmlhnhcmacaaGreatDoorRows
import GoSem.ClaimSeven
namespace Go.Proofs.YtpjpmlhnhcmacaaGreatDoor
namespace Rows

/-- THE TIED CARD OF 'monticulelaw12.ScanAlls'. -/
def scanAllsCard : Claim7 := { stood := { row := scanAllsRow, standIns := [], harness := (true, "b8f3857b3f63fcde5b9570d85f97c48eb6071e191bf0792d1cebe5c48cf63e19"), looks := true }, kinds := [], alts := [], laidByText := true, laidKinds := [.data, .data, .data, .data, .sentinel, .sentinel, .pinned], laidTests := true, laidLooks := .later }
def ScanAllsCardSaid : Prop := Claim7.holds Tryz.pinned (.plain (OpenSpec.ofChange scanAllsSpec)) scanAllsCard

/-- THE TIED CARD OF 'monticulelaw12.ScanBlanks'. -/
def scanBlanksCard : Claim7 := { stood := { row := scanBlanksRow, standIns := [], harness := (true, "b8f3857b3f63fcde5b9570d85f97c48eb6071e191bf0792d1cebe5c48cf63e19"), looks := true }, kinds := [], alts := [], laidByText := true, laidKinds := [.data, .data, .data, .data, .sentinel, .sentinel, .pinned], laidTests := true, laidLooks := .later }
def ScanBlanksCardSaid : Prop := Claim7.holds Tryz.pinned (.plain (OpenSpec.ofChange scanBlanksSpec)) scanBlanksCard

/-- THE TIED CARD OF 'monticulelaw12.ScanStreams'. -/
def scanStreamsCard : Claim7 := { stood := { row := scanStreamsRow, standIns := [], harness := (true, "b8f3857b3f63fcde5b9570d85f97c48eb6071e191bf0792d1cebe5c48cf63e19"), looks := true }, kinds := [], alts := [], laidByText := true, laidKinds := [.data, .data, .data, .data, .sentinel, .sentinel, .pinned], laidTests := true, laidLooks := .later }
def ScanStreamsCardSaid : Prop := Claim7.holds Tryz.pinned (.plain (OpenSpec.ofChange scanStreamsSpec)) scanStreamsCard

/-- THE TIED CARD OF 'monticulelaw12.ScanQuotes'. -/
def scanQuotesCard : Claim7 := { stood := { row := scanQuotesRow, standIns := [], harness := (true, "b8f3857b3f63fcde5b9570d85f97c48eb6071e191bf0792d1cebe5c48cf63e19"), looks := true }, kinds := [], alts := [], laidByText := true, laidKinds := [.data, .data, .data, .data, .sentinel, .sentinel, .pinned], laidTests := true, laidLooks := .later }
def ScanQuotesCardSaid : Prop := Claim7.holds Tryz.pinned (.plain (OpenSpec.ofChange scanQuotesSpec)) scanQuotesCard

/-- THE TIED CARD OF 'monticulelaw13.ParseBlanks'. -/
def parseBlanksCard : Claim7 := { stood := { row := parseBlanksRow, standIns := [], harness := (true, "b8f3857b3f63fcde5b9570d85f97c48eb6071e191bf0792d1cebe5c48cf63e19"), looks := true }, kinds := [], alts := [], laidByText := true, laidKinds := [.data, .data, .data, .data, .sentinel, .sentinel, .pinned], laidTests := true, laidLooks := .later }
def ParseBlanksCardSaid : Prop := Claim7.holds Tryz.pinned (.plain (OpenSpec.ofChange parseBlanksSpec)) parseBlanksCard

/-- THE TIED CARD OF 'monticulelaw13.ParseNests'. -/
def parseNestsCard : Claim7 := { stood := { row := parseNestsRow, standIns := [], harness := (true, "b8f3857b3f63fcde5b9570d85f97c48eb6071e191bf0792d1cebe5c48cf63e19"), looks := true }, kinds := [], alts := [], laidByText := true, laidKinds := [.data, .data, .data, .data, .sentinel, .sentinel, .pinned], laidTests := true, laidLooks := .later }
def ParseNestsCardSaid : Prop := Claim7.holds Tryz.pinned (.plain (OpenSpec.ofChange parseNestsSpec)) parseNestsCard

/-- THE TIED CARD OF 'monticulelaw14.ScopeChecks'. -/
def scopeChecksCard : Claim7 := { stood := { row := scopeChecksRow, standIns := [], harness := (true, "b8f3857b3f63fcde5b9570d85f97c48eb6071e191bf0792d1cebe5c48cf63e19"), looks := true }, kinds := [], alts := [], laidByText := true, laidKinds := [.data, .data, .data, .data, .sentinel, .sentinel, .pinned], laidTests := true, laidLooks := .later }
def ScopeChecksCardSaid : Prop := Claim7.holds Tryz.pinned (.plain (OpenSpec.ofChange scopeChecksSpec)) scopeChecksCard

/-- THE TIED CARD OF 'monticulelaw13.ParseBack'. -/
def parseBackCard : Claim7 := { stood := { row := parseBackRow, standIns := [], harness := (true, "b8f3857b3f63fcde5b9570d85f97c48eb6071e191bf0792d1cebe5c48cf63e19"), looks := true }, kinds := [], alts := [], laidByText := true, laidKinds := [.data, .data, .data, .data, .sentinel, .sentinel, .pinned], laidTests := true, laidLooks := .later }
def ParseBackCardSaid : Prop := Claim7.holds Tryz.pinned (.plain (OpenSpec.ofChange parseBackSpec)) parseBackCard

/-- THE TIED CARD OF 'monticulelaw16.GenBlanks'. -/
def genBlanksCard : Claim7 := { stood := { row := genBlanksRow, standIns := [], harness := (true, "b8f3857b3f63fcde5b9570d85f97c48eb6071e191bf0792d1cebe5c48cf63e19"), looks := true }, kinds := [], alts := [], laidByText := true, laidKinds := [.data, .data, .data, .data, .sentinel, .sentinel, .pinned], laidTests := true, laidLooks := .later }
def GenBlanksCardSaid : Prop := Claim7.holds Tryz.pinned (.plain (OpenSpec.ofChange genBlanksSpec)) genBlanksCard

/-- THE SECOND FORM's CARD OF 'monticulelaw12.ScanAlls'. -/
def scanAllsUptoCard : Claim7 := { stood := { row := scanAllsUptoRow, standIns := [], harness := (true, "b8f3857b3f63fcde5b9570d85f97c48eb6071e191bf0792d1cebe5c48cf63e19"), looks := true }, kinds := [], alts := [], laidByText := true, laidKinds := [.data, .data, .data, .data, .sentinel, .sentinel, .pinned], laidTests := true, laidLooks := .later }
def ScanAllsUptoCardSaid : Prop := Claim7.holds Tryz.pinned (.plain (OpenSpec.upto scanAllsSpec)) scanAllsUptoCard

/-- THE SECOND FORM's CARD OF 'monticulelaw12.ScanBlanks'. -/
def scanBlanksUptoCard : Claim7 := { stood := { row := scanBlanksUptoRow, standIns := [], harness := (true, "b8f3857b3f63fcde5b9570d85f97c48eb6071e191bf0792d1cebe5c48cf63e19"), looks := true }, kinds := [], alts := [], laidByText := true, laidKinds := [.data, .data, .data, .data, .sentinel, .sentinel, .pinned], laidTests := true, laidLooks := .later }
def ScanBlanksUptoCardSaid : Prop := Claim7.holds Tryz.pinned (.plain (OpenSpec.upto scanBlanksSpec)) scanBlanksUptoCard

/-- THE SECOND FORM's CARD OF 'monticulelaw12.ScanStreams'. -/
def scanStreamsUptoCard : Claim7 := { stood := { row := scanStreamsUptoRow, standIns := [], harness := (true, "b8f3857b3f63fcde5b9570d85f97c48eb6071e191bf0792d1cebe5c48cf63e19"), looks := true }, kinds := [], alts := [], laidByText := true, laidKinds := [.data, .data, .data, .data, .sentinel, .sentinel, .pinned], laidTests := true, laidLooks := .later }
def ScanStreamsUptoCardSaid : Prop := Claim7.holds Tryz.pinned (.plain (OpenSpec.upto scanStreamsSpec)) scanStreamsUptoCard

/-- THE SECOND FORM's CARD OF 'monticulelaw12.ScanQuotes'. -/
def scanQuotesUptoCard : Claim7 := { stood := { row := scanQuotesUptoRow, standIns := [], harness := (true, "b8f3857b3f63fcde5b9570d85f97c48eb6071e191bf0792d1cebe5c48cf63e19"), looks := true }, kinds := [], alts := [], laidByText := true, laidKinds := [.data, .data, .data, .data, .sentinel, .sentinel, .pinned], laidTests := true, laidLooks := .later }
def ScanQuotesUptoCardSaid : Prop := Claim7.holds Tryz.pinned (.plain (OpenSpec.upto scanQuotesSpec)) scanQuotesUptoCard

/-- THE SECOND FORM's CARD OF 'monticulelaw13.ParseBlanks'. -/
def parseBlanksUptoCard : Claim7 := { stood := { row := parseBlanksUptoRow, standIns := [], harness := (true, "b8f3857b3f63fcde5b9570d85f97c48eb6071e191bf0792d1cebe5c48cf63e19"), looks := true }, kinds := [], alts := [], laidByText := true, laidKinds := [.data, .data, .data, .data, .sentinel, .sentinel, .pinned], laidTests := true, laidLooks := .later }
def ParseBlanksUptoCardSaid : Prop := Claim7.holds Tryz.pinned (.plain (OpenSpec.upto parseBlanksSpec)) parseBlanksUptoCard

/-- THE SECOND FORM's CARD OF 'monticulelaw13.ParseNests'. -/
def parseNestsUptoCard : Claim7 := { stood := { row := parseNestsUptoRow, standIns := [], harness := (true, "b8f3857b3f63fcde5b9570d85f97c48eb6071e191bf0792d1cebe5c48cf63e19"), looks := true }, kinds := [], alts := [], laidByText := true, laidKinds := [.data, .data, .data, .data, .sentinel, .sentinel, .pinned], laidTests := true, laidLooks := .later }
def ParseNestsUptoCardSaid : Prop := Claim7.holds Tryz.pinned (.plain (OpenSpec.upto parseNestsSpec)) parseNestsUptoCard

/-- THE SECOND FORM's CARD OF 'monticulelaw14.ScopeChecks'. -/
def scopeChecksUptoCard : Claim7 := { stood := { row := scopeChecksUptoRow, standIns := [], harness := (true, "b8f3857b3f63fcde5b9570d85f97c48eb6071e191bf0792d1cebe5c48cf63e19"), looks := true }, kinds := [], alts := [], laidByText := true, laidKinds := [.data, .data, .data, .data, .sentinel, .sentinel, .pinned], laidTests := true, laidLooks := .later }
def ScopeChecksUptoCardSaid : Prop := Claim7.holds Tryz.pinned (.plain (OpenSpec.upto scopeChecksSpec)) scopeChecksUptoCard

/-- THE SECOND FORM's CARD OF 'monticulelaw13.ParseBack'. -/
def parseBackUptoCard : Claim7 := { stood := { row := parseBackUptoRow, standIns := [], harness := (true, "b8f3857b3f63fcde5b9570d85f97c48eb6071e191bf0792d1cebe5c48cf63e19"), looks := true }, kinds := [], alts := [], laidByText := true, laidKinds := [.data, .data, .data, .data, .sentinel, .sentinel, .pinned], laidTests := true, laidLooks := .later }
def ParseBackUptoCardSaid : Prop := Claim7.holds Tryz.pinned (.plain (OpenSpec.upto parseBackSpec)) parseBackUptoCard

/-- THE SECOND FORM's CARD OF 'monticulelaw16.GenBlanks'. -/
def genBlanksUptoCard : Claim7 := { stood := { row := genBlanksUptoRow, standIns := [], harness := (true, "b8f3857b3f63fcde5b9570d85f97c48eb6071e191bf0792d1cebe5c48cf63e19"), looks := true }, kinds := [], alts := [], laidByText := true, laidKinds := [.data, .data, .data, .data, .sentinel, .sentinel, .pinned], laidTests := true, laidLooks := .later }
def GenBlanksUptoCardSaid : Prop := Claim7.holds Tryz.pinned (.plain (OpenSpec.upto genBlanksSpec)) genBlanksUptoCard
end Rows
end Go.Proofs.YtpjpmlhnhcmacaaGreatDoor
