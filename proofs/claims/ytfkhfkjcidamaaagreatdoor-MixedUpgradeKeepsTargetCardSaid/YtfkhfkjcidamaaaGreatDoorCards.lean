/-
  DERIVED. GIVEN WITH THE SEED: THE CARDS: each row of YtfkhfkjcidamaaaGreatDoorRows.lean that lists a variable, with what it lists TIED to the program's text (the seventh form; the later family's looks); each row that meets fmt, with fmt's text TOLD by the authors' own Lean function (tested against real Go, not proved from fmt's source: count such statements apart). THE CARD IS WHAT COUNTS. Prove the row's statement (the work); the ties are given (YtfkhfkjcidamaaaGreatDoorTie.lean); close each card by the builder's one call (the guide's Derived/Test/ToyasCard.lean, 'card_holds'). Laid BY PROGRAM, IN A SANDBOX (cutbox-door.mjs). By AI agents, Wed Nov 11 2026. No macro, syntax, notation, axiom, sorry.
-/
import Derived.Test.YtfkhfkjcidamaaaGreatDoorRows
import GoSem.ClaimSeven
namespace Go.Proofs.YtfkhfkjcidamaaaGreatDoor
namespace Rows

/-- THE TIED CARD OF 'hstsstorelaw26.CoverageMatchesSpec'. -/
def coverageMatchesSpecCard : Claim7 := { stood := { row := coverageMatchesSpecRow, standIns := [], harness := (true, "3edcf2d0d4ba03f015f6faca6dbfc35b207af51aad1c65e00543b4f3d9771d1d"), looks := false }, kinds := [], alts := [], laidByText := true, laidKinds := [.data, .pinned], laidTests := true, laidLooks := .later }
def CoverageMatchesSpecCardSaid : Prop := Claim7.holds Tryz.pinned (.plain (OpenSpec.ofChange coverageMatchesSpecSpec)) coverageMatchesSpecCard

/-- THE TIED CARD OF 'hstsstorelaw26.CoverageSubdomains'. -/
def coverageSubdomainsCard : Claim7 := { stood := { row := coverageSubdomainsRow, standIns := [], harness := (true, "3edcf2d0d4ba03f015f6faca6dbfc35b207af51aad1c65e00543b4f3d9771d1d"), looks := false }, kinds := [], alts := [], laidByText := true, laidKinds := [.data, .pinned], laidTests := true, laidLooks := .later }
def CoverageSubdomainsCardSaid : Prop := Claim7.holds Tryz.pinned (.plain (OpenSpec.ofChange coverageSubdomainsSpec)) coverageSubdomainsCard

/-- THE TIED CARD OF 'hstsstorelaw26.CoverageMonotone'. -/
def coverageMonotoneCard : Claim7 := { stood := { row := coverageMonotoneRow, standIns := [], harness := (true, "3edcf2d0d4ba03f015f6faca6dbfc35b207af51aad1c65e00543b4f3d9771d1d"), looks := false }, kinds := [], alts := [], laidByText := true, laidKinds := [.data, .pinned], laidTests := true, laidLooks := .later }
def CoverageMonotoneCardSaid : Prop := Claim7.holds Tryz.pinned (.plain (OpenSpec.ofChange coverageMonotoneSpec)) coverageMonotoneCard

/-- THE TIED CARD OF 'hstsstorelaw29.MixedClassifyMatchesSpec'. -/
def mixedClassifyMatchesSpecCard : Claim7 := { stood := { row := mixedClassifyMatchesSpecRow, standIns := [], harness := (true, "3edcf2d0d4ba03f015f6faca6dbfc35b207af51aad1c65e00543b4f3d9771d1d"), looks := false }, kinds := [], alts := [], laidByText := true, laidKinds := [.data, .data, .data, .data, .pinned], laidTests := true, laidLooks := .later }
def MixedClassifyMatchesSpecCardSaid : Prop := Claim7.holds Tryz.pinned (.plain (OpenSpec.ofChange mixedClassifyMatchesSpecSpec)) mixedClassifyMatchesSpecCard

/-- THE TIED CARD OF 'hstsstorelaw29.MixedNeverPlain'. -/
def mixedNeverPlainCard : Claim7 := { stood := { row := mixedNeverPlainRow, standIns := [], harness := (true, "3edcf2d0d4ba03f015f6faca6dbfc35b207af51aad1c65e00543b4f3d9771d1d"), looks := false }, kinds := [], alts := [], laidByText := true, laidKinds := [.data, .data, .data, .data, .pinned], laidTests := true, laidLooks := .later }
def MixedNeverPlainCardSaid : Prop := Claim7.holds Tryz.pinned (.plain (OpenSpec.ofChange mixedNeverPlainSpec)) mixedNeverPlainCard

/-- THE TIED CARD OF 'hstsstorelaw29.MixedSecureUnchanged'. -/
def mixedSecureUnchangedCard : Claim7 := { stood := { row := mixedSecureUnchangedRow, standIns := [], harness := (true, "3edcf2d0d4ba03f015f6faca6dbfc35b207af51aad1c65e00543b4f3d9771d1d"), looks := false }, kinds := [], alts := [], laidByText := true, laidKinds := [.data, .data, .data, .data, .pinned], laidTests := true, laidLooks := .later }
def MixedSecureUnchangedCardSaid : Prop := Claim7.holds Tryz.pinned (.plain (OpenSpec.ofChange mixedSecureUnchangedSpec)) mixedSecureUnchangedCard

/-- THE TIED CARD OF 'hstsstorelaw29.MixedUpgradeKeepsTarget'. -/
def mixedUpgradeKeepsTargetCard : Claim7 := { stood := { row := mixedUpgradeKeepsTargetRow, standIns := [], harness := (true, "3edcf2d0d4ba03f015f6faca6dbfc35b207af51aad1c65e00543b4f3d9771d1d"), looks := false }, kinds := [], alts := [], laidByText := true, laidKinds := [.data, .data, .data, .data, .pinned], laidTests := true, laidLooks := .later }
def MixedUpgradeKeepsTargetCardSaid : Prop := Claim7.holds Tryz.pinned (.plain (OpenSpec.ofChange mixedUpgradeKeepsTargetSpec)) mixedUpgradeKeepsTargetCard

/-- THE TIED CARD OF 'hstsstorelaw29.MixedMorePolicy'. -/
def mixedMorePolicyCard : Claim7 := { stood := { row := mixedMorePolicyRow, standIns := [], harness := (true, "3edcf2d0d4ba03f015f6faca6dbfc35b207af51aad1c65e00543b4f3d9771d1d"), looks := false }, kinds := [], alts := [], laidByText := true, laidKinds := [.data, .data, .data, .data, .pinned], laidTests := true, laidLooks := .later }
def MixedMorePolicyCardSaid : Prop := Claim7.holds Tryz.pinned (.plain (OpenSpec.ofChange mixedMorePolicySpec)) mixedMorePolicyCard

/-- THE TIED CARD OF 'hstsstorelaw29.MixedDecideMatchesSpec'. -/
def mixedDecideMatchesSpecCard : Claim7 := { stood := { row := mixedDecideMatchesSpecRow, standIns := [], harness := (true, "3edcf2d0d4ba03f015f6faca6dbfc35b207af51aad1c65e00543b4f3d9771d1d"), looks := false }, kinds := [], alts := [], laidByText := true, laidKinds := [.data, .data, .data, .data, .pinned], laidTests := true, laidLooks := .later }
def MixedDecideMatchesSpecCardSaid : Prop := Claim7.holds Tryz.pinned (.plain (OpenSpec.ofChange mixedDecideMatchesSpecSpec)) mixedDecideMatchesSpecCard

/-- THE SECOND FORM's CARD OF 'hstsstorelaw26.CoverageMatchesSpec'. -/
def coverageMatchesSpecUptoCard : Claim7 := { stood := { row := coverageMatchesSpecUptoRow, standIns := [], harness := (true, "3edcf2d0d4ba03f015f6faca6dbfc35b207af51aad1c65e00543b4f3d9771d1d"), looks := false }, kinds := [], alts := [], laidByText := true, laidKinds := [.data, .pinned], laidTests := true, laidLooks := .later }
def CoverageMatchesSpecUptoCardSaid : Prop := Claim7.holds Tryz.pinned (.plain (OpenSpec.upto coverageMatchesSpecSpec)) coverageMatchesSpecUptoCard

/-- THE SECOND FORM's CARD OF 'hstsstorelaw26.CoverageSubdomains'. -/
def coverageSubdomainsUptoCard : Claim7 := { stood := { row := coverageSubdomainsUptoRow, standIns := [], harness := (true, "3edcf2d0d4ba03f015f6faca6dbfc35b207af51aad1c65e00543b4f3d9771d1d"), looks := false }, kinds := [], alts := [], laidByText := true, laidKinds := [.data, .pinned], laidTests := true, laidLooks := .later }
def CoverageSubdomainsUptoCardSaid : Prop := Claim7.holds Tryz.pinned (.plain (OpenSpec.upto coverageSubdomainsSpec)) coverageSubdomainsUptoCard

/-- THE SECOND FORM's CARD OF 'hstsstorelaw26.CoverageMonotone'. -/
def coverageMonotoneUptoCard : Claim7 := { stood := { row := coverageMonotoneUptoRow, standIns := [], harness := (true, "3edcf2d0d4ba03f015f6faca6dbfc35b207af51aad1c65e00543b4f3d9771d1d"), looks := false }, kinds := [], alts := [], laidByText := true, laidKinds := [.data, .pinned], laidTests := true, laidLooks := .later }
def CoverageMonotoneUptoCardSaid : Prop := Claim7.holds Tryz.pinned (.plain (OpenSpec.upto coverageMonotoneSpec)) coverageMonotoneUptoCard

/-- THE SECOND FORM's CARD OF 'hstsstorelaw29.MixedClassifyMatchesSpec'. -/
def mixedClassifyMatchesSpecUptoCard : Claim7 := { stood := { row := mixedClassifyMatchesSpecUptoRow, standIns := [], harness := (true, "3edcf2d0d4ba03f015f6faca6dbfc35b207af51aad1c65e00543b4f3d9771d1d"), looks := false }, kinds := [], alts := [], laidByText := true, laidKinds := [.data, .data, .data, .data, .pinned], laidTests := true, laidLooks := .later }
def MixedClassifyMatchesSpecUptoCardSaid : Prop := Claim7.holds Tryz.pinned (.plain (OpenSpec.upto mixedClassifyMatchesSpecSpec)) mixedClassifyMatchesSpecUptoCard

/-- THE SECOND FORM's CARD OF 'hstsstorelaw29.MixedNeverPlain'. -/
def mixedNeverPlainUptoCard : Claim7 := { stood := { row := mixedNeverPlainUptoRow, standIns := [], harness := (true, "3edcf2d0d4ba03f015f6faca6dbfc35b207af51aad1c65e00543b4f3d9771d1d"), looks := false }, kinds := [], alts := [], laidByText := true, laidKinds := [.data, .data, .data, .data, .pinned], laidTests := true, laidLooks := .later }
def MixedNeverPlainUptoCardSaid : Prop := Claim7.holds Tryz.pinned (.plain (OpenSpec.upto mixedNeverPlainSpec)) mixedNeverPlainUptoCard

/-- THE SECOND FORM's CARD OF 'hstsstorelaw29.MixedSecureUnchanged'. -/
def mixedSecureUnchangedUptoCard : Claim7 := { stood := { row := mixedSecureUnchangedUptoRow, standIns := [], harness := (true, "3edcf2d0d4ba03f015f6faca6dbfc35b207af51aad1c65e00543b4f3d9771d1d"), looks := false }, kinds := [], alts := [], laidByText := true, laidKinds := [.data, .data, .data, .data, .pinned], laidTests := true, laidLooks := .later }
def MixedSecureUnchangedUptoCardSaid : Prop := Claim7.holds Tryz.pinned (.plain (OpenSpec.upto mixedSecureUnchangedSpec)) mixedSecureUnchangedUptoCard

/-- THE SECOND FORM's CARD OF 'hstsstorelaw29.MixedUpgradeKeepsTarget'. -/
def mixedUpgradeKeepsTargetUptoCard : Claim7 := { stood := { row := mixedUpgradeKeepsTargetUptoRow, standIns := [], harness := (true, "3edcf2d0d4ba03f015f6faca6dbfc35b207af51aad1c65e00543b4f3d9771d1d"), looks := false }, kinds := [], alts := [], laidByText := true, laidKinds := [.data, .data, .data, .data, .pinned], laidTests := true, laidLooks := .later }
def MixedUpgradeKeepsTargetUptoCardSaid : Prop := Claim7.holds Tryz.pinned (.plain (OpenSpec.upto mixedUpgradeKeepsTargetSpec)) mixedUpgradeKeepsTargetUptoCard

/-- THE SECOND FORM's CARD OF 'hstsstorelaw29.MixedMorePolicy'. -/
def mixedMorePolicyUptoCard : Claim7 := { stood := { row := mixedMorePolicyUptoRow, standIns := [], harness := (true, "3edcf2d0d4ba03f015f6faca6dbfc35b207af51aad1c65e00543b4f3d9771d1d"), looks := false }, kinds := [], alts := [], laidByText := true, laidKinds := [.data, .data, .data, .data, .pinned], laidTests := true, laidLooks := .later }
def MixedMorePolicyUptoCardSaid : Prop := Claim7.holds Tryz.pinned (.plain (OpenSpec.upto mixedMorePolicySpec)) mixedMorePolicyUptoCard

/-- THE SECOND FORM's CARD OF 'hstsstorelaw29.MixedDecideMatchesSpec'. -/
def mixedDecideMatchesSpecUptoCard : Claim7 := { stood := { row := mixedDecideMatchesSpecUptoRow, standIns := [], harness := (true, "3edcf2d0d4ba03f015f6faca6dbfc35b207af51aad1c65e00543b4f3d9771d1d"), looks := false }, kinds := [], alts := [], laidByText := true, laidKinds := [.data, .data, .data, .data, .pinned], laidTests := true, laidLooks := .later }
def MixedDecideMatchesSpecUptoCardSaid : Prop := Claim7.holds Tryz.pinned (.plain (OpenSpec.upto mixedDecideMatchesSpecSpec)) mixedDecideMatchesSpecUptoCard
end Rows
end Go.Proofs.YtfkhfkjcidamaaaGreatDoor
