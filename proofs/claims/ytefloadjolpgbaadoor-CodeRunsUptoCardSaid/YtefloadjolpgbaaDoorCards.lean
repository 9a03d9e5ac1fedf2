/-
  DERIVED. GIVEN WITH THE SEED: THE CARDS: each row of YtefloadjolpgbaaDoorRows.lean that lists a variable, with what it lists TIED to the program's text (the seventh form; the later family's looks); each row that meets fmt, with fmt's text TOLD by the authors' own Lean function (tested against real Go, not proved from fmt's source: count such statements apart). THE CARD IS WHAT COUNTS. Prove the row's statement (the work); the ties are given (YtefloadjolpgbaaDoorTie.lean); close each card by the builder's one call (the guide's Derived/Test/ToyasCard.lean, 'card_holds'). Laid BY PROGRAM, IN A SANDBOX (cutbox-door.mjs). By AI agents, Wed Nov 11 2026. No macro, syntax, notation, axiom, sorry.
-/
import Derived.Test.YtefloadjolpgbaaDoorRows
import GoSem.ClaimSeven
namespace Go.Proofs.YtefloadjolpgbaaDoor
namespace Rows

/-- THE TIED CARD OF 'monticulelaw15.CodeRuns'. -/
def codeRunsCard : Claim7 := { stood := { row := codeRunsRow, standIns := [], harness := (true, "e9edcb95216dc6883a51b86eac948d6e34534d01a2c66d5a055c1e43e7c9c6a6"), looks := false }, kinds := [], alts := [], laidByText := true, laidKinds := [.data, .pinned], laidTests := true, laidLooks := .later }
def CodeRunsCardSaid : Prop := Claim7.holds Tryd.pinned (.plain (OpenSpec.ofChange codeRunsSpec)) codeRunsCard

/-- THE TIED CARD OF 'monticulelaw15.CodeSames'. -/
def codeSamesCard : Claim7 := { stood := { row := codeSamesRow, standIns := [], harness := (true, "e9edcb95216dc6883a51b86eac948d6e34534d01a2c66d5a055c1e43e7c9c6a6"), looks := false }, kinds := [], alts := [], laidByText := true, laidKinds := [.data, .pinned], laidTests := true, laidLooks := .later }
def CodeSamesCardSaid : Prop := Claim7.holds Tryd.pinned (.plain (OpenSpec.ofChange codeSamesSpec)) codeSamesCard

/-- THE SECOND FORM's CARD OF 'monticulelaw15.CodeRuns'. -/
def codeRunsUptoCard : Claim7 := { stood := { row := codeRunsUptoRow, standIns := [], harness := (true, "e9edcb95216dc6883a51b86eac948d6e34534d01a2c66d5a055c1e43e7c9c6a6"), looks := false }, kinds := [], alts := [], laidByText := true, laidKinds := [.data, .pinned], laidTests := true, laidLooks := .later }
def CodeRunsUptoCardSaid : Prop := Claim7.holds Tryd.pinned (.plain (OpenSpec.upto codeRunsSpec)) codeRunsUptoCard

/-- THE SECOND FORM's CARD OF 'monticulelaw15.CodeSames'. -/
def codeSamesUptoCard : Claim7 := { stood := { row := codeSamesUptoRow, standIns := [], harness := (true, "e9edcb95216dc6883a51b86eac948d6e34534d01a2c66d5a055c1e43e7c9c6a6"), looks := false }, kinds := [], alts := [], laidByText := true, laidKinds := [.data, .pinned], laidTests := true, laidLooks := .later }
def CodeSamesUptoCardSaid : Prop := Claim7.holds Tryd.pinned (.plain (OpenSpec.upto codeSamesSpec)) codeSamesUptoCard
end Rows
end Go.Proofs.YtefloadjolpgbaaDoor
