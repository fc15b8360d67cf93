/-
  DERIVED. GIVEN WITH THE SEED: THE CARDS: each row of YtokehocipgepnaaGreatDoorRows.lean that lists a variable, with what it lists TIED to the program's text (the seventh form; the later family's looks); each row that meets fmt, with fmt's text TOLD by the authors' own Lean function (tested against real Go, not proved from fmt's source: count such statements apart). THE CARD IS WHAT COUNTS. Prove the row's statement (the work); the ties are given (YtokehocipgepnaaGreatDoorTie.lean); close each card by the builder's one call (the guide's Derived/Test/ToyasCard.lean, 'card_holds'). Laid BY PROGRAM, IN A SANDBOX (cutbox-door.mjs). By AI agents, Wed Nov 11 2026. No macro, syntax, notation, axiom, sorry.
-/
import Derived.Test.YtokehocipgepnaaGreatDoorRows
import GoSem.ClaimSeven
namespace Go.Proofs.YtokehocipgepnaaGreatDoor
namespace Rows

/-- THE TIED CARD OF 'hstsstorelaw26.CoverageMatchesSpec'. -/
def coverageMatchesSpecCard : Claim7 := { stood := { row := coverageMatchesSpecRow, standIns := [], harness := (true, "2d4461915ea06489d68a60bf686921bd6071300f588936464676204155834289"), looks := false }, kinds := [], alts := [], laidByText := true, laidKinds := [.data, .pinned], laidTests := true, laidLooks := .later }
def CoverageMatchesSpecCardSaid : Prop := Claim7.holds Tryz.pinned (.plain (OpenSpec.ofChange coverageMatchesSpecSpec)) coverageMatchesSpecCard

/-- THE TIED CARD OF 'hstsstorelaw26.CoverageSubdomains'. -/
def coverageSubdomainsCard : Claim7 := { stood := { row := coverageSubdomainsRow, standIns := [], harness := (true, "2d4461915ea06489d68a60bf686921bd6071300f588936464676204155834289"), looks := false }, kinds := [], alts := [], laidByText := true, laidKinds := [.data, .pinned], laidTests := true, laidLooks := .later }
def CoverageSubdomainsCardSaid : Prop := Claim7.holds Tryz.pinned (.plain (OpenSpec.ofChange coverageSubdomainsSpec)) coverageSubdomainsCard

/-- THE TIED CARD OF 'hstsstorelaw14.HostParseMatchesSpec'. -/
def hostParseMatchesSpecCard : Claim7 := { stood := { row := hostParseMatchesSpecRow, standIns := [], harness := (true, "2d4461915ea06489d68a60bf686921bd6071300f588936464676204155834289"), looks := false }, kinds := [], alts := [], laidByText := true, laidKinds := [.data, .data, .data, .data, .pinned], laidTests := true, laidLooks := .later }
def HostParseMatchesSpecCardSaid : Prop := Claim7.holds Tryz.pinned (.plain (OpenSpec.ofChange hostParseMatchesSpecSpec)) hostParseMatchesSpecCard

/-- THE TIED CARD OF 'hstsstorelaw14.HostSpellings'. -/
def hostSpellingsCard : Claim7 := { stood := { row := hostSpellingsRow, standIns := [], harness := (true, "2d4461915ea06489d68a60bf686921bd6071300f588936464676204155834289"), looks := false }, kinds := [], alts := [], laidByText := true, laidKinds := [.data, .data, .data, .data, .pinned], laidTests := true, laidLooks := .later }
def HostSpellingsCardSaid : Prop := Claim7.holds Tryz.pinned (.plain (OpenSpec.ofChange hostSpellingsSpec)) hostSpellingsCard

/-- THE TIED CARD OF 'hstsstorelaw14.HostNamesMatchSpec'. -/
def hostNamesMatchSpecCard : Claim7 := { stood := { row := hostNamesMatchSpecRow, standIns := [], harness := (true, "2d4461915ea06489d68a60bf686921bd6071300f588936464676204155834289"), looks := false }, kinds := [], alts := [], laidByText := true, laidKinds := [.data, .data, .data, .data, .pinned], laidTests := true, laidLooks := .later }
def HostNamesMatchSpecCardSaid : Prop := Claim7.holds Tryz.pinned (.plain (OpenSpec.ofChange hostNamesMatchSpecSpec)) hostNamesMatchSpecCard

/-- THE TIED CARD OF 'hstsstorelaw26.CoverageMonotone'. -/
def coverageMonotoneCard : Claim7 := { stood := { row := coverageMonotoneRow, standIns := [], harness := (true, "2d4461915ea06489d68a60bf686921bd6071300f588936464676204155834289"), looks := false }, kinds := [], alts := [], laidByText := true, laidKinds := [.data, .pinned], laidTests := true, laidLooks := .later }
def CoverageMonotoneCardSaid : Prop := Claim7.holds Tryz.pinned (.plain (OpenSpec.ofChange coverageMonotoneSpec)) coverageMonotoneCard

/-- THE TIED CARD OF 'hstsstorelaw14.HostFormatMatchesSpec'. -/
def hostFormatMatchesSpecCard : Claim7 := { stood := { row := hostFormatMatchesSpecRow, standIns := [], harness := (true, "2d4461915ea06489d68a60bf686921bd6071300f588936464676204155834289"), looks := false }, kinds := [], alts := [], laidByText := true, laidKinds := [.data, .data, .data, .data, .pinned], laidTests := true, laidLooks := .later }
def HostFormatMatchesSpecCardSaid : Prop := Claim7.holds Tryz.pinned (.plain (OpenSpec.ofChange hostFormatMatchesSpecSpec)) hostFormatMatchesSpecCard

/-- THE TIED CARD OF 'hstsstorelaw14.HostRoundTrip'. -/
def hostRoundTripCard : Claim7 := { stood := { row := hostRoundTripRow, standIns := [], harness := (true, "2d4461915ea06489d68a60bf686921bd6071300f588936464676204155834289"), looks := false }, kinds := [], alts := [], laidByText := true, laidKinds := [.data, .data, .data, .data, .pinned], laidTests := true, laidLooks := .later }
def HostRoundTripCardSaid : Prop := Claim7.holds Tryz.pinned (.plain (OpenSpec.ofChange hostRoundTripSpec)) hostRoundTripCard

/-- THE SECOND FORM's CARD OF 'hstsstorelaw26.CoverageMatchesSpec'. -/
def coverageMatchesSpecUptoCard : Claim7 := { stood := { row := coverageMatchesSpecUptoRow, standIns := [], harness := (true, "2d4461915ea06489d68a60bf686921bd6071300f588936464676204155834289"), looks := false }, kinds := [], alts := [], laidByText := true, laidKinds := [.data, .pinned], laidTests := true, laidLooks := .later }
def CoverageMatchesSpecUptoCardSaid : Prop := Claim7.holds Tryz.pinned (.plain (OpenSpec.upto coverageMatchesSpecSpec)) coverageMatchesSpecUptoCard

/-- THE SECOND FORM's CARD OF 'hstsstorelaw26.CoverageSubdomains'. -/
def coverageSubdomainsUptoCard : Claim7 := { stood := { row := coverageSubdomainsUptoRow, standIns := [], harness := (true, "2d4461915ea06489d68a60bf686921bd6071300f588936464676204155834289"), looks := false }, kinds := [], alts := [], laidByText := true, laidKinds := [.data, .pinned], laidTests := true, laidLooks := .later }
def CoverageSubdomainsUptoCardSaid : Prop := Claim7.holds Tryz.pinned (.plain (OpenSpec.upto coverageSubdomainsSpec)) coverageSubdomainsUptoCard

/-- THE SECOND FORM's CARD OF 'hstsstorelaw14.HostParseMatchesSpec'. -/
def hostParseMatchesSpecUptoCard : Claim7 := { stood := { row := hostParseMatchesSpecUptoRow, standIns := [], harness := (true, "2d4461915ea06489d68a60bf686921bd6071300f588936464676204155834289"), looks := false }, kinds := [], alts := [], laidByText := true, laidKinds := [.data, .data, .data, .data, .pinned], laidTests := true, laidLooks := .later }
def HostParseMatchesSpecUptoCardSaid : Prop := Claim7.holds Tryz.pinned (.plain (OpenSpec.upto hostParseMatchesSpecSpec)) hostParseMatchesSpecUptoCard

/-- THE SECOND FORM's CARD OF 'hstsstorelaw14.HostSpellings'. -/
def hostSpellingsUptoCard : Claim7 := { stood := { row := hostSpellingsUptoRow, standIns := [], harness := (true, "2d4461915ea06489d68a60bf686921bd6071300f588936464676204155834289"), looks := false }, kinds := [], alts := [], laidByText := true, laidKinds := [.data, .data, .data, .data, .pinned], laidTests := true, laidLooks := .later }
def HostSpellingsUptoCardSaid : Prop := Claim7.holds Tryz.pinned (.plain (OpenSpec.upto hostSpellingsSpec)) hostSpellingsUptoCard

/-- THE SECOND FORM's CARD OF 'hstsstorelaw14.HostNamesMatchSpec'. -/
def hostNamesMatchSpecUptoCard : Claim7 := { stood := { row := hostNamesMatchSpecUptoRow, standIns := [], harness := (true, "2d4461915ea06489d68a60bf686921bd6071300f588936464676204155834289"), looks := false }, kinds := [], alts := [], laidByText := true, laidKinds := [.data, .data, .data, .data, .pinned], laidTests := true, laidLooks := .later }
def HostNamesMatchSpecUptoCardSaid : Prop := Claim7.holds Tryz.pinned (.plain (OpenSpec.upto hostNamesMatchSpecSpec)) hostNamesMatchSpecUptoCard

/-- THE SECOND FORM's CARD OF 'hstsstorelaw26.CoverageMonotone'. -/
def coverageMonotoneUptoCard : Claim7 := { stood := { row := coverageMonotoneUptoRow, standIns := [], harness := (true, "2d4461915ea06489d68a60bf686921bd6071300f588936464676204155834289"), looks := false }, kinds := [], alts := [], laidByText := true, laidKinds := [.data, .pinned], laidTests := true, laidLooks := .later }
def CoverageMonotoneUptoCardSaid : Prop := Claim7.holds Tryz.pinned (.plain (OpenSpec.upto coverageMonotoneSpec)) coverageMonotoneUptoCard

/-- THE SECOND FORM's CARD OF 'hstsstorelaw14.HostFormatMatchesSpec'. -/
def hostFormatMatchesSpecUptoCard : Claim7 := { stood := { row := hostFormatMatchesSpecUptoRow, standIns := [], harness := (true, "2d4461915ea06489d68a60bf686921bd6071300f588936464676204155834289"), looks := false }, kinds := [], alts := [], laidByText := true, laidKinds := [.data, .data, .data, .data, .pinned], laidTests := true, laidLooks := .later }
def HostFormatMatchesSpecUptoCardSaid : Prop := Claim7.holds Tryz.pinned (.plain (OpenSpec.upto hostFormatMatchesSpecSpec)) hostFormatMatchesSpecUptoCard

/-- THE SECOND FORM's CARD OF 'hstsstorelaw14.HostRoundTrip'. -/
def hostRoundTripUptoCard : Claim7 := { stood := { row := hostRoundTripUptoRow, standIns := [], harness := (true, "2d4461915ea06489d68a60bf686921bd6071300f588936464676204155834289"), looks := false }, kinds := [], alts := [], laidByText := true, laidKinds := [.data, .data, .data, .data, .pinned], laidTests := true, laidLooks := .later }
def HostRoundTripUptoCardSaid : Prop := Claim7.holds Tryz.pinned (.plain (OpenSpec.upto hostRoundTripSpec)) hostRoundTripUptoCard
end Rows
end Go.Proofs.YtokehocipgepnaaGreatDoor
