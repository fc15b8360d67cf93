/-
  DERIVED. GIVEN WITH THE SEED: THE CARDS: each row of YtddlcgjamdbinaaGreatDoorRows.lean that lists a variable, with what it lists TIED to the program's text (the seventh form; the later family's looks); each row that meets fmt, with fmt's text TOLD by the authors' own Lean function (tested against real Go, not proved from fmt's source: count such statements apart). THE CARD IS WHAT COUNTS. Prove the row's statement (the work); the ties are given (YtddlcgjamdbinaaGreatDoorTie.lean); close each card by the builder's one call (the guide's Derived/Test/ToyasCard.lean, 'card_holds'). Laid BY PROGRAM, IN A SANDBOX (cutbox-door.mjs). By AI agents, Wed Nov 11 2026. No macro, syntax, notation, axiom, sorry.
-/
import Derived.Test.YtddlcgjamdbinaaGreatDoorRows
import GoSem.ClaimSeven
namespace Go.Proofs.YtddlcgjamdbinaaGreatDoor
namespace Rows

/-- THE TIED CARD OF 'hstsstorelaw28.ContextNavigableMatchesSpec'. -/
def contextNavigableMatchesSpecCard : Claim7 := { stood := { row := contextNavigableMatchesSpecRow, standIns := [], harness := (true, "9cec0529224ec3275767089afc0c2a40804020b933dcbe6f919a6268834e85fc"), looks := false }, kinds := [], alts := [], laidByText := true, laidKinds := [.data, .data, .data, .data, .pinned], laidTests := true, laidLooks := .later }
def ContextNavigableMatchesSpecCardSaid : Prop := Claim7.holds Tryz.pinned (.plain (OpenSpec.ofChange contextNavigableMatchesSpecSpec)) contextNavigableMatchesSpecCard

/-- THE TIED CARD OF 'hstsstorelaw28.ContextNesting'. -/
def contextNestingCard : Claim7 := { stood := { row := contextNestingRow, standIns := [], harness := (true, "9cec0529224ec3275767089afc0c2a40804020b933dcbe6f919a6268834e85fc"), looks := false }, kinds := [], alts := [], laidByText := true, laidKinds := [.data, .data, .data, .data, .pinned], laidTests := true, laidLooks := .later }
def ContextNestingCardSaid : Prop := Claim7.holds Tryz.pinned (.plain (OpenSpec.ofChange contextNestingSpec)) contextNestingCard

/-- THE TIED CARD OF 'hstsstorelaw28.ContextSecure'. -/
def contextSecureCard : Claim7 := { stood := { row := contextSecureRow, standIns := [], harness := (true, "9cec0529224ec3275767089afc0c2a40804020b933dcbe6f919a6268834e85fc"), looks := false }, kinds := [], alts := [], laidByText := true, laidKinds := [.data, .data, .data, .data, .pinned], laidTests := true, laidLooks := .later }
def ContextSecureCardSaid : Prop := Claim7.holds Tryz.pinned (.plain (OpenSpec.ofChange contextSecureSpec)) contextSecureCard

/-- THE SECOND FORM's CARD OF 'hstsstorelaw28.ContextNavigableMatchesSpec'. -/
def contextNavigableMatchesSpecUptoCard : Claim7 := { stood := { row := contextNavigableMatchesSpecUptoRow, standIns := [], harness := (true, "9cec0529224ec3275767089afc0c2a40804020b933dcbe6f919a6268834e85fc"), looks := false }, kinds := [], alts := [], laidByText := true, laidKinds := [.data, .data, .data, .data, .pinned], laidTests := true, laidLooks := .later }
def ContextNavigableMatchesSpecUptoCardSaid : Prop := Claim7.holds Tryz.pinned (.plain (OpenSpec.upto contextNavigableMatchesSpecSpec)) contextNavigableMatchesSpecUptoCard

/-- THE SECOND FORM's CARD OF 'hstsstorelaw28.ContextNesting'. -/
def contextNestingUptoCard : Claim7 := { stood := { row := contextNestingUptoRow, standIns := [], harness := (true, "9cec0529224ec3275767089afc0c2a40804020b933dcbe6f919a6268834e85fc"), looks := false }, kinds := [], alts := [], laidByText := true, laidKinds := [.data, .data, .data, .data, .pinned], laidTests := true, laidLooks := .later }
def ContextNestingUptoCardSaid : Prop := Claim7.holds Tryz.pinned (.plain (OpenSpec.upto contextNestingSpec)) contextNestingUptoCard

/-- THE SECOND FORM's CARD OF 'hstsstorelaw28.ContextSecure'. -/
def contextSecureUptoCard : Claim7 := { stood := { row := contextSecureUptoRow, standIns := [], harness := (true, "9cec0529224ec3275767089afc0c2a40804020b933dcbe6f919a6268834e85fc"), looks := false }, kinds := [], alts := [], laidByText := true, laidKinds := [.data, .data, .data, .data, .pinned], laidTests := true, laidLooks := .later }
def ContextSecureUptoCardSaid : Prop := Claim7.holds Tryz.pinned (.plain (OpenSpec.upto contextSecureSpec)) contextSecureUptoCard
end Rows
end Go.Proofs.YtddlcgjamdbinaaGreatDoor
