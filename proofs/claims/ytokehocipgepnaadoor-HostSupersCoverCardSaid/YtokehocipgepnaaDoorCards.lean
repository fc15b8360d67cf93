/-
  DERIVED. GIVEN WITH THE SEED: THE CARDS: each row of YtokehocipgepnaaDoorRows.lean that lists a variable, with what it lists TIED to the program's text (the seventh form; the later family's looks); each row that meets fmt, with fmt's text TOLD by the authors' own Lean function (tested against real Go, not proved from fmt's source: count such statements apart). THE CARD IS WHAT COUNTS. Prove the row's statement (the work); the ties are given (YtokehocipgepnaaDoorTie.lean); close each card by the builder's one call (the guide's Derived/Test/ToyasCard.lean, 'card_holds'). Laid BY PROGRAM, IN A SANDBOX (cutbox-door.mjs). By AI agents, Wed Nov 11 2026. No macro, syntax, notation, axiom, sorry.
-/
import Derived.Test.YtokehocipgepnaaDoorRows
import GoSem.ClaimSeven
namespace Go.Proofs.YtokehocipgepnaaDoor
namespace Rows

/-- THE TIED CARD OF 'hstsstorelaw14.HostCoversOrder'. -/
def hostCoversOrderCard : Claim7 := { stood := { row := hostCoversOrderRow, standIns := [], harness := (true, "56613ab08fe662bb88c0a094ef60552bbbfa6a446726666ea5557727848e9f97"), looks := false }, kinds := [], alts := [], laidByText := true, laidKinds := [.data, .data, .data, .data, .pinned], laidTests := true, laidLooks := .later }
def HostCoversOrderCardSaid : Prop := Claim7.holds Tryd.pinned (.plain (OpenSpec.ofChange hostCoversOrderSpec)) hostCoversOrderCard

/-- THE TIED CARD OF 'hstsstorelaw14.HostSupersCover'. -/
def hostSupersCoverCard : Claim7 := { stood := { row := hostSupersCoverRow, standIns := [], harness := (true, "56613ab08fe662bb88c0a094ef60552bbbfa6a446726666ea5557727848e9f97"), looks := false }, kinds := [], alts := [], laidByText := true, laidKinds := [.data, .data, .data, .data, .pinned], laidTests := true, laidLooks := .later }
def HostSupersCoverCardSaid : Prop := Claim7.holds Tryd.pinned (.plain (OpenSpec.ofChange hostSupersCoverSpec)) hostSupersCoverCard

/-- THE SECOND FORM's CARD OF 'hstsstorelaw14.HostCoversOrder'. -/
def hostCoversOrderUptoCard : Claim7 := { stood := { row := hostCoversOrderUptoRow, standIns := [], harness := (true, "56613ab08fe662bb88c0a094ef60552bbbfa6a446726666ea5557727848e9f97"), looks := false }, kinds := [], alts := [], laidByText := true, laidKinds := [.data, .data, .data, .data, .pinned], laidTests := true, laidLooks := .later }
def HostCoversOrderUptoCardSaid : Prop := Claim7.holds Tryd.pinned (.plain (OpenSpec.upto hostCoversOrderSpec)) hostCoversOrderUptoCard

/-- THE SECOND FORM's CARD OF 'hstsstorelaw14.HostSupersCover'. -/
def hostSupersCoverUptoCard : Claim7 := { stood := { row := hostSupersCoverUptoRow, standIns := [], harness := (true, "56613ab08fe662bb88c0a094ef60552bbbfa6a446726666ea5557727848e9f97"), looks := false }, kinds := [], alts := [], laidByText := true, laidKinds := [.data, .data, .data, .data, .pinned], laidTests := true, laidLooks := .later }
def HostSupersCoverUptoCardSaid : Prop := Claim7.holds Tryd.pinned (.plain (OpenSpec.upto hostSupersCoverSpec)) hostSupersCoverUptoCard
end Rows
end Go.Proofs.YtokehocipgepnaaDoor
