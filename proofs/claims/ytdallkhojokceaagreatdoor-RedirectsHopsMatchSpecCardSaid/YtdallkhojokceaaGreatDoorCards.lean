/-
  DERIVED. GIVEN WITH THE SEED: THE CARDS: each row of YtdallkhojokceaaGreatDoorRows.lean that lists a variable, with what it lists TIED to the program's text (the seventh form; the later family's looks); each row that meets fmt, with fmt's text TOLD by the authors' own Lean function (tested against real Go, not proved from fmt's source: count such statements apart). THE CARD IS WHAT COUNTS. Prove the row's statement (the work); the ties are given (YtdallkhojokceaaGreatDoorTie.lean); close each card by the builder's one call (the guide's Derived/Test/ToyasCard.lean, 'card_holds'). Laid BY PROGRAM, IN A SANDBOX (cutbox-door.mjs). By AI agents, Wed Nov 11 2026. No macro, syntax, notation, axiom, sorry.
-/
import Derived.Test.YtdallkhojokceaaGreatDoorRows
import GoSem.ClaimSeven
namespace Go.Proofs.YtdallkhojokceaaGreatDoor
namespace Rows

/-- THE TIED CARD OF 'hstsstorelaw30.RedirectsPrefix'. -/
def redirectsPrefixCard : Claim7 := { stood := { row := redirectsPrefixRow, standIns := [], harness := (true, "d3f065b4b5af7099399e296a2d819660f01464b8d9e5f234cd099b17c1d8a9c0"), looks := false }, kinds := [], alts := [], laidByText := true, laidKinds := [.data, .data, .data, .data, .pinned], laidTests := true, laidLooks := .later }
def RedirectsPrefixCardSaid : Prop := Claim7.holds Tryz.pinned (.plain (OpenSpec.ofChange redirectsPrefixSpec)) redirectsPrefixCard

/-- THE TIED CARD OF 'hstsstorelaw30.RedirectsHopsMatchSpec'. -/
def redirectsHopsMatchSpecCard : Claim7 := { stood := { row := redirectsHopsMatchSpecRow, standIns := [], harness := (true, "d3f065b4b5af7099399e296a2d819660f01464b8d9e5f234cd099b17c1d8a9c0"), looks := false }, kinds := [], alts := [], laidByText := true, laidKinds := [.data, .data, .data, .data, .pinned], laidTests := true, laidLooks := .later }
def RedirectsHopsMatchSpecCardSaid : Prop := Claim7.holds Tryz.pinned (.plain (OpenSpec.ofChange redirectsHopsMatchSpecSpec)) redirectsHopsMatchSpecCard

/-- THE SECOND FORM's CARD OF 'hstsstorelaw30.RedirectsPrefix'. -/
def redirectsPrefixUptoCard : Claim7 := { stood := { row := redirectsPrefixUptoRow, standIns := [], harness := (true, "d3f065b4b5af7099399e296a2d819660f01464b8d9e5f234cd099b17c1d8a9c0"), looks := false }, kinds := [], alts := [], laidByText := true, laidKinds := [.data, .data, .data, .data, .pinned], laidTests := true, laidLooks := .later }
def RedirectsPrefixUptoCardSaid : Prop := Claim7.holds Tryz.pinned (.plain (OpenSpec.upto redirectsPrefixSpec)) redirectsPrefixUptoCard

/-- THE SECOND FORM's CARD OF 'hstsstorelaw30.RedirectsHopsMatchSpec'. -/
def redirectsHopsMatchSpecUptoCard : Claim7 := { stood := { row := redirectsHopsMatchSpecUptoRow, standIns := [], harness := (true, "d3f065b4b5af7099399e296a2d819660f01464b8d9e5f234cd099b17c1d8a9c0"), looks := false }, kinds := [], alts := [], laidByText := true, laidKinds := [.data, .data, .data, .data, .pinned], laidTests := true, laidLooks := .later }
def RedirectsHopsMatchSpecUptoCardSaid : Prop := Claim7.holds Tryz.pinned (.plain (OpenSpec.upto redirectsHopsMatchSpecSpec)) redirectsHopsMatchSpecUptoCard
end Rows
end Go.Proofs.YtdallkhojokceaaGreatDoor
