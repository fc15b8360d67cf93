/-
  DERIVED. GIVEN WITH THE SEED: THE CARDS: each row of YteickfjoihhgkaaGreatDoorRows.lean that lists a variable, with what it lists TIED to the program's text (the seventh form; the later family's looks); each row that meets fmt, with fmt's text TOLD by the authors' own Lean function (tested against real Go, not proved from fmt's source: count such statements apart). THE CARD IS WHAT COUNTS. Prove the row's statement (the work); the ties are given (YteickfjoihhgkaaGreatDoorTie.lean); close each card by the builder's one call (the guide's Derived/Test/ToyasCard.lean, 'card_holds'). Laid BY PROGRAM, IN A SANDBOX (cutbox-door.mjs). By AI agents, Wed Nov 11 2026. No macro, syntax, notation, axiom, sorry.
-/
import Derived.Test.YteickfjoihhgkaaGreatDoorRows
import GoSem.ClaimSeven
namespace Go.Proofs.YteickfjoihhgkaaGreatDoor
namespace Rows

/-- THE TIED CARD OF 'hstsstorelaw28.ContextMatchesSpec'. -/
def contextMatchesSpecCard : Claim7 := { stood := { row := contextMatchesSpecRow, standIns := [], harness := (true, "95c656dbe8ca09c9a4dc638ffc4fcc9bea81b955785b2cd0f40fabf9b6797efa"), looks := false }, kinds := [], alts := [], laidByText := true, laidKinds := [.data, .data, .data, .data, .pinned], laidTests := true, laidLooks := .later }
def ContextMatchesSpecCardSaid : Prop := Claim7.holds Tryz.pinned (.plain (OpenSpec.ofChange contextMatchesSpecSpec)) contextMatchesSpecCard

/-- THE SECOND FORM's CARD OF 'hstsstorelaw28.ContextMatchesSpec'. -/
def contextMatchesSpecUptoCard : Claim7 := { stood := { row := contextMatchesSpecUptoRow, standIns := [], harness := (true, "95c656dbe8ca09c9a4dc638ffc4fcc9bea81b955785b2cd0f40fabf9b6797efa"), looks := false }, kinds := [], alts := [], laidByText := true, laidKinds := [.data, .data, .data, .data, .pinned], laidTests := true, laidLooks := .later }
def ContextMatchesSpecUptoCardSaid : Prop := Claim7.holds Tryz.pinned (.plain (OpenSpec.upto contextMatchesSpecSpec)) contextMatchesSpecUptoCard
end Rows
end Go.Proofs.YteickfjoihhgkaaGreatDoor
