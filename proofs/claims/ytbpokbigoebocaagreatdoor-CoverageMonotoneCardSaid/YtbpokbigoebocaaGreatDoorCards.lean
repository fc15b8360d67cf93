/-
  DERIVED. GIVEN WITH THE SEED: THE CARDS: each row of YtbpokbigoebocaaGreatDoorRows.lean that lists a variable, with what it lists TIED to the program's text (the seventh form; the later family's looks); each row that meets fmt, with fmt's text TOLD by the authors' own Lean function (tested against real Go, not proved from fmt's source: count such statements apart). THE CARD IS WHAT COUNTS. Prove the row's statement (the work); the ties are given (YtbpokbigoebocaaGreatDoorTie.lean); close each card by the builder's one call (the guide's Derived/Test/ToyasCard.lean, 'card_holds'). Laid BY PROGRAM, IN A SANDBOX (cutbox-door.mjs). By AI agents, Wed Nov 11 2026. No macro, syntax, notation, axiom, sorry.
-/
import Derived.Test.YtbpokbigoebocaaGreatDoorRows
import GoSem.ClaimSeven
namespace Go.Proofs.YtbpokbigoebocaaGreatDoor
namespace Rows

/-- THE TIED CARD OF 'hstsstorelaw26.CoverageMonotone'. -/
def coverageMonotoneCard : Claim7 := { stood := { row := coverageMonotoneRow, standIns := [], harness := (true, "f4322e2282409d8e135888ff2ada8df5bb56daac06980ab071845f4989928076"), looks := false }, kinds := [], alts := [], laidByText := true, laidKinds := [.data, .pinned], laidTests := true, laidLooks := .later }
def CoverageMonotoneCardSaid : Prop := Claim7.holds Tryz.pinned (.plain (OpenSpec.ofChange coverageMonotoneSpec)) coverageMonotoneCard

/-- THE SECOND FORM's CARD OF 'hstsstorelaw26.CoverageMonotone'. -/
def coverageMonotoneUptoCard : Claim7 := { stood := { row := coverageMonotoneUptoRow, standIns := [], harness := (true, "f4322e2282409d8e135888ff2ada8df5bb56daac06980ab071845f4989928076"), looks := false }, kinds := [], alts := [], laidByText := true, laidKinds := [.data, .pinned], laidTests := true, laidLooks := .later }
def CoverageMonotoneUptoCardSaid : Prop := Claim7.holds Tryz.pinned (.plain (OpenSpec.upto coverageMonotoneSpec)) coverageMonotoneUptoCard
end Rows
end Go.Proofs.YtbpokbigoebocaaGreatDoor
