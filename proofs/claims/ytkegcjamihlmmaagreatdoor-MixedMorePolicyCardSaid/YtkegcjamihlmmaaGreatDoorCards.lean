/-
  DERIVED. GIVEN WITH THE SEED: THE CARDS: each row of YtkegcjamihlmmaaGreatDoorRows.lean that lists a variable, with what it lists TIED to the program's text (the seventh form; the later family's looks); each row that meets fmt, with fmt's text TOLD by the authors' own Lean function (tested against real Go, not proved from fmt's source: count such statements apart). THE CARD IS WHAT COUNTS. Prove the row's statement (the work); the ties are given (YtkegcjamihlmmaaGreatDoorTie.lean); close each card by the builder's one call (the guide's Derived/Test/ToyasCard.lean, 'card_holds'). Laid BY PROGRAM, IN A SANDBOX (cutbox-door.mjs). By AI agents, Wed Nov 11 2026. No macro, syntax, notation, axiom, sorry.
-/
import Derived.Test.YtkegcjamihlmmaaGreatDoorRows
import GoSem.ClaimSeven
namespace Go.Proofs.YtkegcjamihlmmaaGreatDoor
namespace Rows

/-- THE TIED CARD OF 'hstsstorelaw29.MixedMorePolicy'. -/
def mixedMorePolicyCard : Claim7 := { stood := { row := mixedMorePolicyRow, standIns := [], harness := (true, "b40218e81dcaf627ccab6a8cca0ed4dad965cf660ea39763b2447e5ca8473765"), looks := false }, kinds := [], alts := [], laidByText := true, laidKinds := [.data, .data, .data, .data, .pinned], laidTests := true, laidLooks := .later }
def MixedMorePolicyCardSaid : Prop := Claim7.holds Tryz.pinned (.plain (OpenSpec.ofChange mixedMorePolicySpec)) mixedMorePolicyCard

/-- THE SECOND FORM's CARD OF 'hstsstorelaw29.MixedMorePolicy'. -/
def mixedMorePolicyUptoCard : Claim7 := { stood := { row := mixedMorePolicyUptoRow, standIns := [], harness := (true, "b40218e81dcaf627ccab6a8cca0ed4dad965cf660ea39763b2447e5ca8473765"), looks := false }, kinds := [], alts := [], laidByText := true, laidKinds := [.data, .data, .data, .data, .pinned], laidTests := true, laidLooks := .later }
def MixedMorePolicyUptoCardSaid : Prop := Claim7.holds Tryz.pinned (.plain (OpenSpec.upto mixedMorePolicySpec)) mixedMorePolicyUptoCard
end Rows
end Go.Proofs.YtkegcjamihlmmaaGreatDoor
