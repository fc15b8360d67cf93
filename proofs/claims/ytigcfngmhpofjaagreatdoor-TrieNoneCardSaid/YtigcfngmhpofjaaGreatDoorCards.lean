/-
  DERIVED. GIVEN WITH THE SEED: THE CARDS: each row of YtigcfngmhpofjaaGreatDoorRows.lean that lists a variable, with what it lists TIED to the program's text (the seventh form; the later family's looks); each row that meets fmt, with fmt's text TOLD by the authors' own Lean function (tested against real Go, not proved from fmt's source: count such statements apart). THE CARD IS WHAT COUNTS. Prove the row's statement (the work); the ties are given (YtigcfngmhpofjaaGreatDoorTie.lean); close each card by the builder's one call (the guide's Derived/Test/ToyasCard.lean, 'card_holds'). Laid BY PROGRAM, IN A SANDBOX (cutbox-door.mjs). By AI agents, Wed Nov 11 2026. No macro, syntax, notation, axiom, sorry.
-/
import Derived.Test.YtigcfngmhpofjaaGreatDoorRows
import GoSem.ClaimSeven
namespace Go.Proofs.YtigcfngmhpofjaaGreatDoor
namespace Rows

/-- THE TIED CARD OF 'hstsstorelaw25.TrieNone'. -/
def trieNoneCard : Claim7 := { stood := { row := trieNoneRow, standIns := [], harness := (true, "52a0d32738533e71a02dda206ce59685f5a102fd25aaebdc40885cb6a542cf57"), looks := false }, kinds := [], alts := [], laidByText := true, laidKinds := [.data, .pinned], laidTests := true, laidLooks := .later }
def TrieNoneCardSaid : Prop := Claim7.holds Tryz.pinned (.plain (OpenSpec.ofChange trieNoneSpec)) trieNoneCard

/-- THE SECOND FORM's CARD OF 'hstsstorelaw25.TrieNone'. -/
def trieNoneUptoCard : Claim7 := { stood := { row := trieNoneUptoRow, standIns := [], harness := (true, "52a0d32738533e71a02dda206ce59685f5a102fd25aaebdc40885cb6a542cf57"), looks := false }, kinds := [], alts := [], laidByText := true, laidKinds := [.data, .pinned], laidTests := true, laidLooks := .later }
def TrieNoneUptoCardSaid : Prop := Claim7.holds Tryz.pinned (.plain (OpenSpec.upto trieNoneSpec)) trieNoneUptoCard
end Rows
end Go.Proofs.YtigcfngmhpofjaaGreatDoor
