/-
  DERIVED. GIVEN WITH THE SEED: THE CARDS: each row of YtcfingekgbbclaaGreatDoorRows.lean that lists a variable, with what it lists TIED to the program's text (the seventh form; the later family's looks); each row that meets fmt, with fmt's text TOLD by the authors' own Lean function (tested against real Go, not proved from fmt's source: count such statements apart). THE CARD IS WHAT COUNTS. Prove the row's statement (the work); the ties are given (YtcfingekgbbclaaGreatDoorTie.lean); close each card by the builder's one call (the guide's Derived/Test/ToyasCard.lean, 'card_holds'). Laid BY PROGRAM, IN A SANDBOX (cutbox-door.mjs). By AI agents, Wed Nov 11 2026. No macro, syntax, notation, axiom, sorry.
-/
import Derived.Test.YtcfingekgbbclaaGreatDoorRows
import GoSem.ClaimSeven
namespace Go.Proofs.YtcfingekgbbclaaGreatDoor
namespace Rows

/-- THE TIED CARD OF 'hstsstorelaw15.UrlParseMatchesSpec'. -/
def urlParseMatchesSpecCard : Claim7 := { stood := { row := urlParseMatchesSpecRow, standIns := [], harness := (true, "0163afbbd4bdcc0cb024432ec76efa84c49da410dbc3a82ef375aee9434dc149"), looks := false }, kinds := [], alts := [], laidByText := true, laidKinds := [.data, .data, .data, .data, .pinned], laidTests := true, laidLooks := .later }
def UrlParseMatchesSpecCardSaid : Prop := Claim7.holds Tryz.pinned (.plain (OpenSpec.ofChange urlParseMatchesSpecSpec)) urlParseMatchesSpecCard

/-- THE TIED CARD OF 'hstsstorelaw15.UrlRoundTrip'. -/
def urlRoundTripCard : Claim7 := { stood := { row := urlRoundTripRow, standIns := [], harness := (true, "0163afbbd4bdcc0cb024432ec76efa84c49da410dbc3a82ef375aee9434dc149"), looks := false }, kinds := [], alts := [], laidByText := true, laidKinds := [.data, .data, .data, .data, .pinned], laidTests := true, laidLooks := .later }
def UrlRoundTripCardSaid : Prop := Claim7.holds Tryz.pinned (.plain (OpenSpec.ofChange urlRoundTripSpec)) urlRoundTripCard

/-- THE TIED CARD OF 'hstsstorelaw15.UrlSchemeCase'. -/
def urlSchemeCaseCard : Claim7 := { stood := { row := urlSchemeCaseRow, standIns := [], harness := (true, "0163afbbd4bdcc0cb024432ec76efa84c49da410dbc3a82ef375aee9434dc149"), looks := false }, kinds := [], alts := [], laidByText := true, laidKinds := [.data, .data, .data, .data, .pinned], laidTests := true, laidLooks := .later }
def UrlSchemeCaseCardSaid : Prop := Claim7.holds Tryz.pinned (.plain (OpenSpec.ofChange urlSchemeCaseSpec)) urlSchemeCaseCard

/-- THE TIED CARD OF 'hstsstorelaw15.UrlFunctionsMatchSpec'. -/
def urlFunctionsMatchSpecCard : Claim7 := { stood := { row := urlFunctionsMatchSpecRow, standIns := [], harness := (true, "0163afbbd4bdcc0cb024432ec76efa84c49da410dbc3a82ef375aee9434dc149"), looks := false }, kinds := [], alts := [], laidByText := true, laidKinds := [.data, .data, .data, .data, .pinned], laidTests := true, laidLooks := .later }
def UrlFunctionsMatchSpecCardSaid : Prop := Claim7.holds Tryz.pinned (.plain (OpenSpec.ofChange urlFunctionsMatchSpecSpec)) urlFunctionsMatchSpecCard

/-- THE TIED CARD OF 'hstsstorelaw15.UrlUpgradeLaws'. -/
def urlUpgradeLawsCard : Claim7 := { stood := { row := urlUpgradeLawsRow, standIns := [], harness := (true, "0163afbbd4bdcc0cb024432ec76efa84c49da410dbc3a82ef375aee9434dc149"), looks := false }, kinds := [], alts := [], laidByText := true, laidKinds := [.data, .data, .data, .data, .pinned], laidTests := true, laidLooks := .later }
def UrlUpgradeLawsCardSaid : Prop := Claim7.holds Tryz.pinned (.plain (OpenSpec.ofChange urlUpgradeLawsSpec)) urlUpgradeLawsCard

/-- THE TIED CARD OF 'hstsstorelaw16.OriginMatchesSpec'. -/
def originMatchesSpecCard : Claim7 := { stood := { row := originMatchesSpecRow, standIns := [], harness := (true, "0163afbbd4bdcc0cb024432ec76efa84c49da410dbc3a82ef375aee9434dc149"), looks := false }, kinds := [], alts := [], laidByText := true, laidKinds := [.data, .data, .data, .data, .pinned], laidTests := true, laidLooks := .later }
def OriginMatchesSpecCardSaid : Prop := Claim7.holds Tryz.pinned (.plain (OpenSpec.ofChange originMatchesSpecSpec)) originMatchesSpecCard

/-- THE TIED CARD OF 'hstsstorelaw16.OriginFormatMatchesSpec'. -/
def originFormatMatchesSpecCard : Claim7 := { stood := { row := originFormatMatchesSpecRow, standIns := [], harness := (true, "0163afbbd4bdcc0cb024432ec76efa84c49da410dbc3a82ef375aee9434dc149"), looks := false }, kinds := [], alts := [], laidByText := true, laidKinds := [.data, .data, .data, .data, .pinned], laidTests := true, laidLooks := .later }
def OriginFormatMatchesSpecCardSaid : Prop := Claim7.holds Tryz.pinned (.plain (OpenSpec.ofChange originFormatMatchesSpecSpec)) originFormatMatchesSpecCard

/-- THE TIED CARD OF 'hstsstorelaw16.OriginSame'. -/
def originSameCard : Claim7 := { stood := { row := originSameRow, standIns := [], harness := (true, "0163afbbd4bdcc0cb024432ec76efa84c49da410dbc3a82ef375aee9434dc149"), looks := false }, kinds := [], alts := [], laidByText := true, laidKinds := [.data, .data, .data, .data, .pinned], laidTests := true, laidLooks := .later }
def OriginSameCardSaid : Prop := Claim7.holds Tryz.pinned (.plain (OpenSpec.ofChange originSameSpec)) originSameCard

/-- THE TIED CARD OF 'hstsstorelaw16.OriginUpgradeTrustworthy'. -/
def originUpgradeTrustworthyCard : Claim7 := { stood := { row := originUpgradeTrustworthyRow, standIns := [], harness := (true, "0163afbbd4bdcc0cb024432ec76efa84c49da410dbc3a82ef375aee9434dc149"), looks := false }, kinds := [], alts := [], laidByText := true, laidKinds := [.data, .data, .data, .data, .pinned], laidTests := true, laidLooks := .later }
def OriginUpgradeTrustworthyCardSaid : Prop := Claim7.holds Tryz.pinned (.plain (OpenSpec.ofChange originUpgradeTrustworthySpec)) originUpgradeTrustworthyCard

/-- THE SECOND FORM's CARD OF 'hstsstorelaw15.UrlParseMatchesSpec'. -/
def urlParseMatchesSpecUptoCard : Claim7 := { stood := { row := urlParseMatchesSpecUptoRow, standIns := [], harness := (true, "0163afbbd4bdcc0cb024432ec76efa84c49da410dbc3a82ef375aee9434dc149"), looks := false }, kinds := [], alts := [], laidByText := true, laidKinds := [.data, .data, .data, .data, .pinned], laidTests := true, laidLooks := .later }
def UrlParseMatchesSpecUptoCardSaid : Prop := Claim7.holds Tryz.pinned (.plain (OpenSpec.upto urlParseMatchesSpecSpec)) urlParseMatchesSpecUptoCard

/-- THE SECOND FORM's CARD OF 'hstsstorelaw15.UrlRoundTrip'. -/
def urlRoundTripUptoCard : Claim7 := { stood := { row := urlRoundTripUptoRow, standIns := [], harness := (true, "0163afbbd4bdcc0cb024432ec76efa84c49da410dbc3a82ef375aee9434dc149"), looks := false }, kinds := [], alts := [], laidByText := true, laidKinds := [.data, .data, .data, .data, .pinned], laidTests := true, laidLooks := .later }
def UrlRoundTripUptoCardSaid : Prop := Claim7.holds Tryz.pinned (.plain (OpenSpec.upto urlRoundTripSpec)) urlRoundTripUptoCard

/-- THE SECOND FORM's CARD OF 'hstsstorelaw15.UrlSchemeCase'. -/
def urlSchemeCaseUptoCard : Claim7 := { stood := { row := urlSchemeCaseUptoRow, standIns := [], harness := (true, "0163afbbd4bdcc0cb024432ec76efa84c49da410dbc3a82ef375aee9434dc149"), looks := false }, kinds := [], alts := [], laidByText := true, laidKinds := [.data, .data, .data, .data, .pinned], laidTests := true, laidLooks := .later }
def UrlSchemeCaseUptoCardSaid : Prop := Claim7.holds Tryz.pinned (.plain (OpenSpec.upto urlSchemeCaseSpec)) urlSchemeCaseUptoCard

/-- THE SECOND FORM's CARD OF 'hstsstorelaw15.UrlFunctionsMatchSpec'. -/
def urlFunctionsMatchSpecUptoCard : Claim7 := { stood := { row := urlFunctionsMatchSpecUptoRow, standIns := [], harness := (true, "0163afbbd4bdcc0cb024432ec76efa84c49da410dbc3a82ef375aee9434dc149"), looks := false }, kinds := [], alts := [], laidByText := true, laidKinds := [.data, .data, .data, .data, .pinned], laidTests := true, laidLooks := .later }
def UrlFunctionsMatchSpecUptoCardSaid : Prop := Claim7.holds Tryz.pinned (.plain (OpenSpec.upto urlFunctionsMatchSpecSpec)) urlFunctionsMatchSpecUptoCard

/-- THE SECOND FORM's CARD OF 'hstsstorelaw15.UrlUpgradeLaws'. -/
def urlUpgradeLawsUptoCard : Claim7 := { stood := { row := urlUpgradeLawsUptoRow, standIns := [], harness := (true, "0163afbbd4bdcc0cb024432ec76efa84c49da410dbc3a82ef375aee9434dc149"), looks := false }, kinds := [], alts := [], laidByText := true, laidKinds := [.data, .data, .data, .data, .pinned], laidTests := true, laidLooks := .later }
def UrlUpgradeLawsUptoCardSaid : Prop := Claim7.holds Tryz.pinned (.plain (OpenSpec.upto urlUpgradeLawsSpec)) urlUpgradeLawsUptoCard

/-- THE SECOND FORM's CARD OF 'hstsstorelaw16.OriginMatchesSpec'. -/
def originMatchesSpecUptoCard : Claim7 := { stood := { row := originMatchesSpecUptoRow, standIns := [], harness := (true, "0163afbbd4bdcc0cb024432ec76efa84c49da410dbc3a82ef375aee9434dc149"), looks := false }, kinds := [], alts := [], laidByText := true, laidKinds := [.data, .data, .data, .data, .pinned], laidTests := true, laidLooks := .later }
def OriginMatchesSpecUptoCardSaid : Prop := Claim7.holds Tryz.pinned (.plain (OpenSpec.upto originMatchesSpecSpec)) originMatchesSpecUptoCard

/-- THE SECOND FORM's CARD OF 'hstsstorelaw16.OriginFormatMatchesSpec'. -/
def originFormatMatchesSpecUptoCard : Claim7 := { stood := { row := originFormatMatchesSpecUptoRow, standIns := [], harness := (true, "0163afbbd4bdcc0cb024432ec76efa84c49da410dbc3a82ef375aee9434dc149"), looks := false }, kinds := [], alts := [], laidByText := true, laidKinds := [.data, .data, .data, .data, .pinned], laidTests := true, laidLooks := .later }
def OriginFormatMatchesSpecUptoCardSaid : Prop := Claim7.holds Tryz.pinned (.plain (OpenSpec.upto originFormatMatchesSpecSpec)) originFormatMatchesSpecUptoCard

/-- THE SECOND FORM's CARD OF 'hstsstorelaw16.OriginSame'. -/
def originSameUptoCard : Claim7 := { stood := { row := originSameUptoRow, standIns := [], harness := (true, "0163afbbd4bdcc0cb024432ec76efa84c49da410dbc3a82ef375aee9434dc149"), looks := false }, kinds := [], alts := [], laidByText := true, laidKinds := [.data, .data, .data, .data, .pinned], laidTests := true, laidLooks := .later }
def OriginSameUptoCardSaid : Prop := Claim7.holds Tryz.pinned (.plain (OpenSpec.upto originSameSpec)) originSameUptoCard

/-- THE SECOND FORM's CARD OF 'hstsstorelaw16.OriginUpgradeTrustworthy'. -/
def originUpgradeTrustworthyUptoCard : Claim7 := { stood := { row := originUpgradeTrustworthyUptoRow, standIns := [], harness := (true, "0163afbbd4bdcc0cb024432ec76efa84c49da410dbc3a82ef375aee9434dc149"), looks := false }, kinds := [], alts := [], laidByText := true, laidKinds := [.data, .data, .data, .data, .pinned], laidTests := true, laidLooks := .later }
def OriginUpgradeTrustworthyUptoCardSaid : Prop := Claim7.holds Tryz.pinned (.plain (OpenSpec.upto originUpgradeTrustworthySpec)) originUpgradeTrustworthyUptoCard
end Rows
end Go.Proofs.YtcfingekgbbclaaGreatDoor
