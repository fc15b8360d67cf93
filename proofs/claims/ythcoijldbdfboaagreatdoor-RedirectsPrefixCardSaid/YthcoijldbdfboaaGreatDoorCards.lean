/-
  DERIVED. GIVEN WITH THE SEED: THE CARDS: each row of YthcoijldbdfboaaGreatDoorRows.lean that lists a variable, with what it lists TIED to the program's text (the seventh form; the later family's looks); each row that meets fmt, with fmt's text TOLD by the authors' own Lean function (tested against real Go, not proved from fmt's source: count such statements apart). THE CARD IS WHAT COUNTS. Prove the row's statement (the work); the ties are given (YthcoijldbdfboaaGreatDoorTie.lean); close each card by the builder's one call (the guide's Derived/Test/ToyasCard.lean, 'card_holds'). Laid BY PROGRAM, IN A SANDBOX (cutbox-door.mjs). By AI agents, Wed Nov 11 2026. No macro, syntax, notation, axiom, sorry.
-/
import Derived.Test.YthcoijldbdfboaaGreatDoorRows
import GoSem.ClaimSeven
namespace Go.Proofs.YthcoijldbdfboaaGreatDoor
namespace Rows

/-- THE TIED CARD OF 'hstsstorelaw30.RedirectsPrefix'. -/
def redirectsPrefixCard : Claim7 := { stood := { row := redirectsPrefixRow, standIns := [], harness := (true, "d28826af8c4b729f25680de6f07f9d5940ff044e26ab34d49f9eb0e810066ff5"), looks := false }, kinds := [], alts := [], laidByText := true, laidKinds := [.data, .data, .data, .data, .pinned], laidTests := true, laidLooks := .later }
def RedirectsPrefixCardSaid : Prop := Claim7.holds Tryz.pinned (.plain (OpenSpec.ofChange redirectsPrefixSpec)) redirectsPrefixCard

/-- THE SECOND FORM's CARD OF 'hstsstorelaw30.RedirectsPrefix'. -/
def redirectsPrefixUptoCard : Claim7 := { stood := { row := redirectsPrefixUptoRow, standIns := [], harness := (true, "d28826af8c4b729f25680de6f07f9d5940ff044e26ab34d49f9eb0e810066ff5"), looks := false }, kinds := [], alts := [], laidByText := true, laidKinds := [.data, .data, .data, .data, .pinned], laidTests := true, laidLooks := .later }
def RedirectsPrefixUptoCardSaid : Prop := Claim7.holds Tryz.pinned (.plain (OpenSpec.upto redirectsPrefixSpec)) redirectsPrefixUptoCard
end Rows
end Go.Proofs.YthcoijldbdfboaaGreatDoor
