/-
  DERIVED. GIVEN WITH THE SEED: THE CARDS: each row of YtiodfnbjmmdlmaaGreatDoorRows.lean that lists a variable, with what it lists TIED to the program's text (the seventh form; the later family's looks); each row that meets fmt, with fmt's text TOLD by the authors' own Lean function (tested against real Go, not proved from fmt's source: count such statements apart). THE CARD IS WHAT COUNTS. Prove the row's statement (the work); the ties are given (YtiodfnbjmmdlmaaGreatDoorTie.lean); close each card by the builder's one call (the guide's Derived/Test/ToyasCard.lean, 'card_holds'). Laid BY PROGRAM, IN A SANDBOX (cutbox-door.mjs). By AI agents, Wed Nov 11 2026. No macro, syntax, notation, axiom, sorry.
-/
import Derived.Test.YtiodfnbjmmdlmaaGreatDoorRows
import GoSem.ClaimSeven
namespace Go.Proofs.YtiodfnbjmmdlmaaGreatDoor
namespace Rows

/-- THE TIED CARD OF 'hstsstorelaw28.ContextNesting'. -/
def contextNestingCard : Claim7 := { stood := { row := contextNestingRow, standIns := [], harness := (true, "9f028ace915469b9d2835c8e0f0b4e4df023989366ed800fc0cbd4fa4610db18"), looks := false }, kinds := [], alts := [], laidByText := true, laidKinds := [.data, .data, .data, .data, .pinned], laidTests := true, laidLooks := .later }
def ContextNestingCardSaid : Prop := Claim7.holds Tryz.pinned (.plain (OpenSpec.ofChange contextNestingSpec)) contextNestingCard

/-- THE SECOND FORM's CARD OF 'hstsstorelaw28.ContextNesting'. -/
def contextNestingUptoCard : Claim7 := { stood := { row := contextNestingUptoRow, standIns := [], harness := (true, "9f028ace915469b9d2835c8e0f0b4e4df023989366ed800fc0cbd4fa4610db18"), looks := false }, kinds := [], alts := [], laidByText := true, laidKinds := [.data, .data, .data, .data, .pinned], laidTests := true, laidLooks := .later }
def ContextNestingUptoCardSaid : Prop := Claim7.holds Tryz.pinned (.plain (OpenSpec.upto contextNestingSpec)) contextNestingUptoCard
end Rows
end Go.Proofs.YtiodfnbjmmdlmaaGreatDoor
