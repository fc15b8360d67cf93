/-
  DERIVED. GIVEN WITH THE SEED: THE CARDS: each row of YtelhbgonncceeaaGreatDoorRows.lean that lists a variable, with what it lists TIED to the program's text (the seventh form; the later family's looks); each row that meets fmt, with fmt's text TOLD by the authors' own Lean function (tested against real Go, not proved from fmt's source: count such statements apart). THE CARD IS WHAT COUNTS. Prove the row's statement (the work); the ties are given (YtelhbgonncceeaaGreatDoorTie.lean); close each card by the builder's one call (the guide's Derived/Test/ToyasCard.lean, 'card_holds'). Laid BY PROGRAM, IN A SANDBOX (cutbox-door.mjs). By AI agents, Wed Nov 11 2026. No macro, syntax, notation, axiom, sorry.
-/
import Derived.Test.YtelhbgonncceeaaGreatDoorRows
import GoSem.ClaimSeven
namespace Go.Proofs.YtelhbgonncceeaaGreatDoor
namespace Rows

/-- THE TIED CARD OF 'hstsstorelaw26.CoverageMatchesSpec'. -/
def coverageMatchesSpecCard : Claim7 := { stood := { row := coverageMatchesSpecRow, standIns := [], harness := (true, "7afd958ced9ec1c0e92f7929c3d546df191af6d231ea740845f3a84d94481a7c"), looks := false }, kinds := [], alts := [], laidByText := true, laidKinds := [.data, .pinned], laidTests := true, laidLooks := .later }
def CoverageMatchesSpecCardSaid : Prop := Claim7.holds Tryz.pinned (.plain (OpenSpec.ofChange coverageMatchesSpecSpec)) coverageMatchesSpecCard

/-- THE TIED CARD OF 'hstsstorelaw26.CoverageSubdomains'. -/
def coverageSubdomainsCard : Claim7 := { stood := { row := coverageSubdomainsRow, standIns := [], harness := (true, "7afd958ced9ec1c0e92f7929c3d546df191af6d231ea740845f3a84d94481a7c"), looks := false }, kinds := [], alts := [], laidByText := true, laidKinds := [.data, .pinned], laidTests := true, laidLooks := .later }
def CoverageSubdomainsCardSaid : Prop := Claim7.holds Tryz.pinned (.plain (OpenSpec.ofChange coverageSubdomainsSpec)) coverageSubdomainsCard

/-- THE TIED CARD OF 'hstsstorelaw26.CoverageMonotone'. -/
def coverageMonotoneCard : Claim7 := { stood := { row := coverageMonotoneRow, standIns := [], harness := (true, "7afd958ced9ec1c0e92f7929c3d546df191af6d231ea740845f3a84d94481a7c"), looks := false }, kinds := [], alts := [], laidByText := true, laidKinds := [.data, .pinned], laidTests := true, laidLooks := .later }
def CoverageMonotoneCardSaid : Prop := Claim7.holds Tryz.pinned (.plain (OpenSpec.ofChange coverageMonotoneSpec)) coverageMonotoneCard

/-- THE TIED CARD OF 'hstsstorelaw24.PreloadParseMatchesSpec'. -/
def preloadParseMatchesSpecCard : Claim7 := { stood := { row := preloadParseMatchesSpecRow, standIns := [], harness := (true, "7afd958ced9ec1c0e92f7929c3d546df191af6d231ea740845f3a84d94481a7c"), looks := false }, kinds := [], alts := [], laidByText := true, laidKinds := [.data, .data, .data, .data, .pinned], laidTests := true, laidLooks := .later }
def PreloadParseMatchesSpecCardSaid : Prop := Claim7.holds Tryz.pinned (.plain (OpenSpec.ofChange preloadParseMatchesSpecSpec)) preloadParseMatchesSpecCard

/-- THE TIED CARD OF 'hstsstorelaw24.PreloadFindMatchesSpec'. -/
def preloadFindMatchesSpecCard : Claim7 := { stood := { row := preloadFindMatchesSpecRow, standIns := [], harness := (true, "7afd958ced9ec1c0e92f7929c3d546df191af6d231ea740845f3a84d94481a7c"), looks := false }, kinds := [], alts := [], laidByText := true, laidKinds := [.data, .data, .data, .data, .pinned], laidTests := true, laidLooks := .later }
def PreloadFindMatchesSpecCardSaid : Prop := Claim7.holds Tryz.pinned (.plain (OpenSpec.ofChange preloadFindMatchesSpecSpec)) preloadFindMatchesSpecCard

/-- THE TIED CARD OF 'hstsstorelaw24.PreloadFindNearest'. -/
def preloadFindNearestCard : Claim7 := { stood := { row := preloadFindNearestRow, standIns := [], harness := (true, "7afd958ced9ec1c0e92f7929c3d546df191af6d231ea740845f3a84d94481a7c"), looks := false }, kinds := [], alts := [], laidByText := true, laidKinds := [.data, .data, .data, .data, .pinned], laidTests := true, laidLooks := .later }
def PreloadFindNearestCardSaid : Prop := Claim7.holds Tryz.pinned (.plain (OpenSpec.ofChange preloadFindNearestSpec)) preloadFindNearestCard

/-- THE TIED CARD OF 'hstsstorelaw24.PreloadNewMatchesSpec'. -/
def preloadNewMatchesSpecCard : Claim7 := { stood := { row := preloadNewMatchesSpecRow, standIns := [], harness := (true, "7afd958ced9ec1c0e92f7929c3d546df191af6d231ea740845f3a84d94481a7c"), looks := false }, kinds := [], alts := [], laidByText := true, laidKinds := [.data, .data, .data, .data, .pinned], laidTests := true, laidLooks := .later }
def PreloadNewMatchesSpecCardSaid : Prop := Claim7.holds Tryz.pinned (.plain (OpenSpec.ofChange preloadNewMatchesSpecSpec)) preloadNewMatchesSpecCard

/-- THE TIED CARD OF 'hstsstorelaw24.PreloadRoundTrip'. -/
def preloadRoundTripCard : Claim7 := { stood := { row := preloadRoundTripRow, standIns := [], harness := (true, "7afd958ced9ec1c0e92f7929c3d546df191af6d231ea740845f3a84d94481a7c"), looks := false }, kinds := [], alts := [], laidByText := true, laidKinds := [.data, .data, .data, .data, .pinned], laidTests := true, laidLooks := .later }
def PreloadRoundTripCardSaid : Prop := Claim7.holds Tryz.pinned (.plain (OpenSpec.ofChange preloadRoundTripSpec)) preloadRoundTripCard

/-- THE SECOND FORM's CARD OF 'hstsstorelaw26.CoverageMatchesSpec'. -/
def coverageMatchesSpecUptoCard : Claim7 := { stood := { row := coverageMatchesSpecUptoRow, standIns := [], harness := (true, "7afd958ced9ec1c0e92f7929c3d546df191af6d231ea740845f3a84d94481a7c"), looks := false }, kinds := [], alts := [], laidByText := true, laidKinds := [.data, .pinned], laidTests := true, laidLooks := .later }
def CoverageMatchesSpecUptoCardSaid : Prop := Claim7.holds Tryz.pinned (.plain (OpenSpec.upto coverageMatchesSpecSpec)) coverageMatchesSpecUptoCard

/-- THE SECOND FORM's CARD OF 'hstsstorelaw26.CoverageSubdomains'. -/
def coverageSubdomainsUptoCard : Claim7 := { stood := { row := coverageSubdomainsUptoRow, standIns := [], harness := (true, "7afd958ced9ec1c0e92f7929c3d546df191af6d231ea740845f3a84d94481a7c"), looks := false }, kinds := [], alts := [], laidByText := true, laidKinds := [.data, .pinned], laidTests := true, laidLooks := .later }
def CoverageSubdomainsUptoCardSaid : Prop := Claim7.holds Tryz.pinned (.plain (OpenSpec.upto coverageSubdomainsSpec)) coverageSubdomainsUptoCard

/-- THE SECOND FORM's CARD OF 'hstsstorelaw26.CoverageMonotone'. -/
def coverageMonotoneUptoCard : Claim7 := { stood := { row := coverageMonotoneUptoRow, standIns := [], harness := (true, "7afd958ced9ec1c0e92f7929c3d546df191af6d231ea740845f3a84d94481a7c"), looks := false }, kinds := [], alts := [], laidByText := true, laidKinds := [.data, .pinned], laidTests := true, laidLooks := .later }
def CoverageMonotoneUptoCardSaid : Prop := Claim7.holds Tryz.pinned (.plain (OpenSpec.upto coverageMonotoneSpec)) coverageMonotoneUptoCard

/-- THE SECOND FORM's CARD OF 'hstsstorelaw24.PreloadParseMatchesSpec'. -/
def preloadParseMatchesSpecUptoCard : Claim7 := { stood := { row := preloadParseMatchesSpecUptoRow, standIns := [], harness := (true, "7afd958ced9ec1c0e92f7929c3d546df191af6d231ea740845f3a84d94481a7c"), looks := false }, kinds := [], alts := [], laidByText := true, laidKinds := [.data, .data, .data, .data, .pinned], laidTests := true, laidLooks := .later }
def PreloadParseMatchesSpecUptoCardSaid : Prop := Claim7.holds Tryz.pinned (.plain (OpenSpec.upto preloadParseMatchesSpecSpec)) preloadParseMatchesSpecUptoCard

/-- THE SECOND FORM's CARD OF 'hstsstorelaw24.PreloadFindMatchesSpec'. -/
def preloadFindMatchesSpecUptoCard : Claim7 := { stood := { row := preloadFindMatchesSpecUptoRow, standIns := [], harness := (true, "7afd958ced9ec1c0e92f7929c3d546df191af6d231ea740845f3a84d94481a7c"), looks := false }, kinds := [], alts := [], laidByText := true, laidKinds := [.data, .data, .data, .data, .pinned], laidTests := true, laidLooks := .later }
def PreloadFindMatchesSpecUptoCardSaid : Prop := Claim7.holds Tryz.pinned (.plain (OpenSpec.upto preloadFindMatchesSpecSpec)) preloadFindMatchesSpecUptoCard

/-- THE SECOND FORM's CARD OF 'hstsstorelaw24.PreloadFindNearest'. -/
def preloadFindNearestUptoCard : Claim7 := { stood := { row := preloadFindNearestUptoRow, standIns := [], harness := (true, "7afd958ced9ec1c0e92f7929c3d546df191af6d231ea740845f3a84d94481a7c"), looks := false }, kinds := [], alts := [], laidByText := true, laidKinds := [.data, .data, .data, .data, .pinned], laidTests := true, laidLooks := .later }
def PreloadFindNearestUptoCardSaid : Prop := Claim7.holds Tryz.pinned (.plain (OpenSpec.upto preloadFindNearestSpec)) preloadFindNearestUptoCard

/-- THE SECOND FORM's CARD OF 'hstsstorelaw24.PreloadNewMatchesSpec'. -/
def preloadNewMatchesSpecUptoCard : Claim7 := { stood := { row := preloadNewMatchesSpecUptoRow, standIns := [], harness := (true, "7afd958ced9ec1c0e92f7929c3d546df191af6d231ea740845f3a84d94481a7c"), looks := false }, kinds := [], alts := [], laidByText := true, laidKinds := [.data, .data, .data, .data, .pinned], laidTests := true, laidLooks := .later }
def PreloadNewMatchesSpecUptoCardSaid : Prop := Claim7.holds Tryz.pinned (.plain (OpenSpec.upto preloadNewMatchesSpecSpec)) preloadNewMatchesSpecUptoCard

/-- THE SECOND FORM's CARD OF 'hstsstorelaw24.PreloadRoundTrip'. -/
def preloadRoundTripUptoCard : Claim7 := { stood := { row := preloadRoundTripUptoRow, standIns := [], harness := (true, "7afd958ced9ec1c0e92f7929c3d546df191af6d231ea740845f3a84d94481a7c"), looks := false }, kinds := [], alts := [], laidByText := true, laidKinds := [.data, .data, .data, .data, .pinned], laidTests := true, laidLooks := .later }
def PreloadRoundTripUptoCardSaid : Prop := Claim7.holds Tryz.pinned (.plain (OpenSpec.upto preloadRoundTripSpec)) preloadRoundTripUptoCard
end Rows
end Go.Proofs.YtelhbgonncceeaaGreatDoor
