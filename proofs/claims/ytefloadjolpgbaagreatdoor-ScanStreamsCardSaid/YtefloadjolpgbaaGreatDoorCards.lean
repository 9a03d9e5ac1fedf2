/-
  DERIVED. GIVEN WITH THE SEED: THE CARDS: each row of YtefloadjolpgbaaGreatDoorRows.lean that lists a variable, with what it lists TIED to the program's text (the seventh form; the later family's looks); each row that meets fmt, with fmt's text TOLD by the authors' own Lean function (tested against real Go, not proved from fmt's source: count such statements apart). THE CARD IS WHAT COUNTS. Prove the row's statement (the work); the ties are given (YtefloadjolpgbaaGreatDoorTie.lean); close each card by the builder's one call (the guide's Derived/Test/ToyasCard.lean, 'card_holds'). Laid BY PROGRAM, IN A SANDBOX (cutbox-door.mjs). By AI agents, Wed Nov 11 2026. No macro, syntax, notation, axiom, sorry.
-/
import Derived.Test.YtefloadjolpgbaaGreatDoorRows
import GoSem.ClaimSeven
namespace Go.Proofs.YtefloadjolpgbaaGreatDoor
namespace Rows

/-- THE TIED CARD OF 'monticulelaw12.ScanStreams'. -/
def scanStreamsCard : Claim7 := { stood := { row := scanStreamsRow, standIns := [], harness := (true, "98251cdd030de3fa867765fa47a4580411c005c647745efc9ff88d79f6d7dc96"), looks := true }, kinds := [], alts := [], laidByText := true, laidKinds := [.data, .data, .data, .data, .sentinel, .sentinel, .pinned], laidTests := true, laidLooks := .later }
def ScanStreamsCardSaid : Prop := Claim7.holds Tryz.pinned (.plain (OpenSpec.ofChange scanStreamsSpec)) scanStreamsCard

/-- THE SECOND FORM's CARD OF 'monticulelaw12.ScanStreams'. -/
def scanStreamsUptoCard : Claim7 := { stood := { row := scanStreamsUptoRow, standIns := [], harness := (true, "98251cdd030de3fa867765fa47a4580411c005c647745efc9ff88d79f6d7dc96"), looks := true }, kinds := [], alts := [], laidByText := true, laidKinds := [.data, .data, .data, .data, .sentinel, .sentinel, .pinned], laidTests := true, laidLooks := .later }
def ScanStreamsUptoCardSaid : Prop := Claim7.holds Tryz.pinned (.plain (OpenSpec.upto scanStreamsSpec)) scanStreamsUptoCard
end Rows
end Go.Proofs.YtefloadjolpgbaaGreatDoor
