/-
  DERIVED. GIVEN WITH THE SEED: THE CARDS: each row of YtghjngpjgomdnaaGreatDoorRows.lean that lists a variable, with what it lists TIED to the program's text (the seventh form; the later family's looks); each row that meets fmt, with fmt's text TOLD by the authors' own Lean function (tested against real Go, not proved from fmt's source: count such statements apart). THE CARD IS WHAT COUNTS. Prove the row's statement (the work); the ties are given (YtghjngpjgomdnaaGreatDoorTie.lean); close each card by the builder's one call (the guide's Derived/Test/ToyasCard.lean, 'card_holds'). Laid BY PROGRAM, IN A SANDBOX (cutbox-door.mjs). By AI agents, Wed Nov 11 2026. No macro, syntax, notation, axiom, sorry.
-/
import Derived.Test.YtghjngpjgomdnaaGreatDoorRows
import GoSem.ClaimSeven
namespace Go.Proofs.YtghjngpjgomdnaaGreatDoor
namespace Rows

/-- THE TIED CARD OF 'hstsstorelaw34.ModelClockMatchesSpec'. -/
def modelClockMatchesSpecCard : Claim7 := { stood := { row := modelClockMatchesSpecRow, standIns := [], harness := (true, "ed5fd414987d68c1024acd0bf8fbc4da1d34cfc88fc810ad0b19febd44402b81"), looks := false }, kinds := [], alts := [], laidByText := true, laidKinds := [.data, .data, .data, .data, .pinned], laidTests := true, laidLooks := .later }
def ModelClockMatchesSpecCardSaid : Prop := Claim7.holds Tryz.pinned (.plain (OpenSpec.ofChange modelClockMatchesSpecSpec)) modelClockMatchesSpecCard

/-- THE SECOND FORM's CARD OF 'hstsstorelaw34.ModelClockMatchesSpec'. -/
def modelClockMatchesSpecUptoCard : Claim7 := { stood := { row := modelClockMatchesSpecUptoRow, standIns := [], harness := (true, "ed5fd414987d68c1024acd0bf8fbc4da1d34cfc88fc810ad0b19febd44402b81"), looks := false }, kinds := [], alts := [], laidByText := true, laidKinds := [.data, .data, .data, .data, .pinned], laidTests := true, laidLooks := .later }
def ModelClockMatchesSpecUptoCardSaid : Prop := Claim7.holds Tryz.pinned (.plain (OpenSpec.upto modelClockMatchesSpecSpec)) modelClockMatchesSpecUptoCard
end Rows
end Go.Proofs.YtghjngpjgomdnaaGreatDoor
