/-
  NARROWER THAN 'FOR EVERY INPUT', by the rows' own cells (each row's printed sentence says how): UrlParseMatchesSpec: laid · UrlRoundTrip: laid · UrlSchemeCase: laid · UrlFunctionsMatchSpec: laid · UrlUpgradeLaws: laid · OriginMatchesSpec: laid · OriginFormatMatchesSpec: laid · OriginSame: laid · OriginUpgradeTrustworthy: laid.
  DERIVED. THE GIVEN ROWS OF THIS SEAT. 9 by the template 'for every input the law returns true; each argument reads behind the call as it read before'; 0 by the template 'total and deterministic' (their statements: YtcfingekgbbclaaGreatDoorTotals.lean).
  GIVEN WITH THE SEED: the statements are not yours to turn. If you find one false, say at which input.
  Laid BY PROGRAM, IN A SANDBOX (cutbox-rows.mjs): the forced cells as the released guide's own fill.sh prints them over the translation ba23bd63f23742a2… (all of the seat's roots in one cut). By AI agents, Wed Nov 11 2026. No macro, syntax, notation, axiom, sorry.
-/
import Derived.Test.YtcfingekgbbclaaGreatDoorChecked
import GoSem.PinnedTables
import GoSem.Claim
import GoSem.ClaimJoined
import GoSem.ClaimMapViews
import Derived.JoinedTies
import Derived.KernelRfl
namespace Go.Proofs.YtcfingekgbbclaaGreatDoor
/- THE CELL 'sum', in the pinned program and in every row, IS THE sha256 OF THE DUMP (.gsa) THAT YtcfingekgbbclaaGreatDoorProg.lean LOADS. Nothing in Lean hashes anything: it is a label: what it is worth is what the hold of that sum in a sandbox is worth. -/
noncomputable def Tryz.pinned : Pinned := { name := "ytcfingekgbbclaagreatdoor", sum := "ba23bd63f23742a2cad3c159ebd54581b942ca49acf6e4de0e31c8ffe3460f3e", checked := Tryz.checked }
namespace Rows
def none {H : Type} : Left H := { results := [], args := [] }

/- WHAT THE LISTED PACKAGE-LEVEL VARIABLES READ AS WHEN THE CALL BEGINS. Each datum BY PROGRAM (the guide's laid-datum.mjs) off the statement by which the dump's own 'gosem.cut.vars' lays the variable. In a bare row this is a premise. The card (YtcfingekgbbclaaGreatDoorCards.lean) ties it to the program's text. -/
def laid_math_bits_deBruijn32tab {H : Type} : DataW H := .agg [.lit (.int .u8 0), .lit (.int .u8 1), .lit (.int .u8 28), .lit (.int .u8 2), .lit (.int .u8 29), .lit (.int .u8 14), .lit (.int .u8 24), .lit (.int .u8 3), .lit (.int .u8 30), .lit (.int .u8 22), .lit (.int .u8 20), .lit (.int .u8 15), .lit (.int .u8 25), .lit (.int .u8 17), .lit (.int .u8 4), .lit (.int .u8 8), .lit (.int .u8 31), .lit (.int .u8 27), .lit (.int .u8 13), .lit (.int .u8 23), .lit (.int .u8 21), .lit (.int .u8 19), .lit (.int .u8 16), .lit (.int .u8 7), .lit (.int .u8 26), .lit (.int .u8 12), .lit (.int .u8 18), .lit (.int .u8 6), .lit (.int .u8 11), .lit (.int .u8 5), .lit (.int .u8 10), .lit (.int .u8 9)]
def laid_math_bits_deBruijn64tab {H : Type} : DataW H := .agg [.lit (.int .u8 0), .lit (.int .u8 1), .lit (.int .u8 56), .lit (.int .u8 2), .lit (.int .u8 57), .lit (.int .u8 49), .lit (.int .u8 28), .lit (.int .u8 3), .lit (.int .u8 61), .lit (.int .u8 58), .lit (.int .u8 42), .lit (.int .u8 50), .lit (.int .u8 38), .lit (.int .u8 29), .lit (.int .u8 17), .lit (.int .u8 4), .lit (.int .u8 62), .lit (.int .u8 47), .lit (.int .u8 59), .lit (.int .u8 36), .lit (.int .u8 45), .lit (.int .u8 43), .lit (.int .u8 51), .lit (.int .u8 22), .lit (.int .u8 53), .lit (.int .u8 39), .lit (.int .u8 33), .lit (.int .u8 30), .lit (.int .u8 24), .lit (.int .u8 18), .lit (.int .u8 12), .lit (.int .u8 5), .lit (.int .u8 63), .lit (.int .u8 55), .lit (.int .u8 48), .lit (.int .u8 27), .lit (.int .u8 60), .lit (.int .u8 41), .lit (.int .u8 37), .lit (.int .u8 16), .lit (.int .u8 46), .lit (.int .u8 35), .lit (.int .u8 44), .lit (.int .u8 21), .lit (.int .u8 52), .lit (.int .u8 32), .lit (.int .u8 23), .lit (.int .u8 11), .lit (.int .u8 54), .lit (.int .u8 26), .lit (.int .u8 40), .lit (.int .u8 15), .lit (.int .u8 34), .lit (.int .u8 20), .lit (.int .u8 31), .lit (.int .u8 10), .lit (.int .u8 25), .lit (.int .u8 14), .lit (.int .u8 19), .lit (.int .u8 9), .lit (.int .u8 13), .lit (.int .u8 8), .lit (.int .u8 7), .lit (.int .u8 6)]
def laid_internal_strconv_uint64pow10 {H : Type} : DataW H := .agg [.lit (.int .u64 1), .lit (.int .u64 10), .lit (.int .u64 100), .lit (.int .u64 1000), .lit (.int .u64 10000), .lit (.int .u64 100000), .lit (.int .u64 1000000), .lit (.int .u64 10000000), .lit (.int .u64 100000000), .lit (.int .u64 1000000000), .lit (.int .u64 10000000000), .lit (.int .u64 100000000000), .lit (.int .u64 1000000000000), .lit (.int .u64 10000000000000), .lit (.int .u64 100000000000000), .lit (.int .u64 1000000000000000), .lit (.int .u64 10000000000000000), .lit (.int .u64 100000000000000000), .lit (.int .u64 1000000000000000000), .lit (.int .u64 10000000000000000000)]
def laid_unicode_utf8_acceptRanges {H : Type} : DataW H := .agg [.agg [.lit (.int .u8 128), .lit (.int .u8 191)], .agg [.lit (.int .u8 160), .lit (.int .u8 191)], .agg [.lit (.int .u8 128), .lit (.int .u8 159)], .agg [.lit (.int .u8 144), .lit (.int .u8 191)], .agg [.lit (.int .u8 128), .lit (.int .u8 143)], .agg [.lit (.int .u8 0), .lit (.int .u8 0)], .agg [.lit (.int .u8 0), .lit (.int .u8 0)], .agg [.lit (.int .u8 0), .lit (.int .u8 0)], .agg [.lit (.int .u8 0), .lit (.int .u8 0)], .agg [.lit (.int .u8 0), .lit (.int .u8 0)], .agg [.lit (.int .u8 0), .lit (.int .u8 0)], .agg [.lit (.int .u8 0), .lit (.int .u8 0)], .agg [.lit (.int .u8 0), .lit (.int .u8 0)], .agg [.lit (.int .u8 0), .lit (.int .u8 0)], .agg [.lit (.int .u8 0), .lit (.int .u8 0)], .agg [.lit (.int .u8 0), .lit (.int .u8 0)]]
/-- One of Go's own tables, pinned by name: the form's constant. -/
def laid_unicode_utf8_first : DataW Unit := Go.Pinned.utf8First

/-- 'hstsstorelaw15.UrlParseMatchesSpec': WHATEVER THE INPUT: true; the input reads as it did. -/
def urlParseMatchesSpecSpec : ChangeSpec := { name := "urlParseMatchesSpec", fn := fun _ => fun
  | [d] => { results := [.lit (.bool true)], args := [d] }
  | _ => none }
def urlParseMatchesSpecRow : OpenClaim := { program := "ytcfingekgbbclaagreatdoor", sum := "ba23bd63f23742a2cad3c159ebd54581b942ca49acf6e4de0e31c8ffe3460f3e", func := "hstsstore/hstsstorelaw15.UrlParseMatchesSpec", spec := "urlParseMatchesSpec", inPlace := ["internal/bytealg.IndexByteString", "internal/bytealg.IndexString", "internal/bytealg.CountString", "slices.overlaps[int]", "internal/abi.NoEscape", "internal/bytealg.MakeNoZero"], unfollowed := true, recurses := true, named := ["internal/bytealg.MaxLen", "unicode/utf8.first", "unicode/utf8.acceptRanges", "internal/strconv.uint64pow10", "math/bits.deBruijn32tab", "math/bits.deBruijn64tab"], apart := false, laid := [("math/bits.deBruijn32tab", laid_math_bits_deBruijn32tab), ("math/bits.deBruijn64tab", laid_math_bits_deBruijn64tab), ("internal/strconv.uint64pow10", laid_internal_strconv_uint64pow10), ("unicode/utf8.acceptRanges", laid_unicode_utf8_acceptRanges), ("unicode/utf8.first", laid_unicode_utf8_first)] }
def UrlParseMatchesSpecSaid : Prop := urlParseMatchesSpecRow.holds Tryz.pinned (OpenSpec.ofChange urlParseMatchesSpecSpec)

/-- ITS FALSE NEIGHBOUR: 'it returns false'. Refute it at one input. -/
def urlParseMatchesSpecWrong : ChangeSpec := { name := "urlParseMatchesSpec", fn := fun _ => fun
  | [d] => { results := [.lit (.bool false)], args := [d] }
  | _ => none }
def UrlParseMatchesSpecWrongFalsely : Prop := urlParseMatchesSpecRow.holds Tryz.pinned (OpenSpec.ofChange urlParseMatchesSpecWrong)

/-- 'hstsstorelaw15.UrlRoundTrip': WHATEVER THE INPUT: true; the input reads as it did. -/
def urlRoundTripSpec : ChangeSpec := { name := "urlRoundTrip", fn := fun _ => fun
  | [d] => { results := [.lit (.bool true)], args := [d] }
  | _ => none }
def urlRoundTripRow : OpenClaim := { program := "ytcfingekgbbclaagreatdoor", sum := "ba23bd63f23742a2cad3c159ebd54581b942ca49acf6e4de0e31c8ffe3460f3e", func := "hstsstore/hstsstorelaw15.UrlRoundTrip", spec := "urlRoundTrip", inPlace := ["internal/bytealg.IndexByteString", "internal/bytealg.IndexString", "internal/bytealg.CountString", "slices.overlaps[int]", "internal/abi.NoEscape", "internal/bytealg.MakeNoZero"], unfollowed := true, recurses := true, named := ["internal/bytealg.MaxLen", "unicode/utf8.first", "unicode/utf8.acceptRanges", "internal/strconv.uint64pow10", "math/bits.deBruijn32tab", "math/bits.deBruijn64tab"], apart := false, laid := [("math/bits.deBruijn32tab", laid_math_bits_deBruijn32tab), ("math/bits.deBruijn64tab", laid_math_bits_deBruijn64tab), ("internal/strconv.uint64pow10", laid_internal_strconv_uint64pow10), ("unicode/utf8.acceptRanges", laid_unicode_utf8_acceptRanges), ("unicode/utf8.first", laid_unicode_utf8_first)] }
def UrlRoundTripSaid : Prop := urlRoundTripRow.holds Tryz.pinned (OpenSpec.ofChange urlRoundTripSpec)

/-- ITS FALSE NEIGHBOUR: 'it returns false'. Refute it at one input. -/
def urlRoundTripWrong : ChangeSpec := { name := "urlRoundTrip", fn := fun _ => fun
  | [d] => { results := [.lit (.bool false)], args := [d] }
  | _ => none }
def UrlRoundTripWrongFalsely : Prop := urlRoundTripRow.holds Tryz.pinned (OpenSpec.ofChange urlRoundTripWrong)

/-- 'hstsstorelaw15.UrlSchemeCase': WHATEVER THE INPUT: true; the input reads as it did. -/
def urlSchemeCaseSpec : ChangeSpec := { name := "urlSchemeCase", fn := fun _ => fun
  | [d1, d2, d3] => { results := [.lit (.bool true)], args := [d1, d2, d3] }
  | _ => none }
def urlSchemeCaseRow : OpenClaim := { program := "ytcfingekgbbclaagreatdoor", sum := "ba23bd63f23742a2cad3c159ebd54581b942ca49acf6e4de0e31c8ffe3460f3e", func := "hstsstore/hstsstorelaw15.UrlSchemeCase", spec := "urlSchemeCase", inPlace := ["internal/bytealg.IndexByteString", "internal/bytealg.IndexString", "internal/bytealg.CountString", "slices.overlaps[int]", "internal/abi.NoEscape", "internal/bytealg.MakeNoZero"], unfollowed := true, recurses := true, named := ["internal/bytealg.MaxLen", "unicode/utf8.first", "unicode/utf8.acceptRanges", "internal/strconv.uint64pow10", "math/bits.deBruijn32tab", "math/bits.deBruijn64tab"], apart := false, laid := [("math/bits.deBruijn32tab", laid_math_bits_deBruijn32tab), ("math/bits.deBruijn64tab", laid_math_bits_deBruijn64tab), ("internal/strconv.uint64pow10", laid_internal_strconv_uint64pow10), ("unicode/utf8.acceptRanges", laid_unicode_utf8_acceptRanges), ("unicode/utf8.first", laid_unicode_utf8_first)] }
def UrlSchemeCaseSaid : Prop := urlSchemeCaseRow.holds Tryz.pinned (OpenSpec.ofChange urlSchemeCaseSpec)

/-- ITS FALSE NEIGHBOUR: 'it returns false'. Refute it at one input. -/
def urlSchemeCaseWrong : ChangeSpec := { name := "urlSchemeCase", fn := fun _ => fun
  | [d1, d2, d3] => { results := [.lit (.bool false)], args := [d1, d2, d3] }
  | _ => none }
def UrlSchemeCaseWrongFalsely : Prop := urlSchemeCaseRow.holds Tryz.pinned (OpenSpec.ofChange urlSchemeCaseWrong)

/-- 'hstsstorelaw15.UrlFunctionsMatchSpec': WHATEVER THE INPUT: true; the input reads as it did. -/
def urlFunctionsMatchSpecSpec : ChangeSpec := { name := "urlFunctionsMatchSpec", fn := fun _ => fun
  | [d] => { results := [.lit (.bool true)], args := [d] }
  | _ => none }
def urlFunctionsMatchSpecRow : OpenClaim := { program := "ytcfingekgbbclaagreatdoor", sum := "ba23bd63f23742a2cad3c159ebd54581b942ca49acf6e4de0e31c8ffe3460f3e", func := "hstsstore/hstsstorelaw15.UrlFunctionsMatchSpec", spec := "urlFunctionsMatchSpec", inPlace := ["internal/bytealg.IndexByteString", "internal/bytealg.IndexString", "internal/bytealg.CountString", "slices.overlaps[int]", "internal/abi.NoEscape", "internal/bytealg.MakeNoZero"], unfollowed := true, recurses := true, named := ["internal/bytealg.MaxLen", "unicode/utf8.first", "unicode/utf8.acceptRanges", "internal/strconv.uint64pow10", "math/bits.deBruijn32tab", "math/bits.deBruijn64tab"], apart := false, laid := [("math/bits.deBruijn32tab", laid_math_bits_deBruijn32tab), ("math/bits.deBruijn64tab", laid_math_bits_deBruijn64tab), ("internal/strconv.uint64pow10", laid_internal_strconv_uint64pow10), ("unicode/utf8.acceptRanges", laid_unicode_utf8_acceptRanges), ("unicode/utf8.first", laid_unicode_utf8_first)] }
def UrlFunctionsMatchSpecSaid : Prop := urlFunctionsMatchSpecRow.holds Tryz.pinned (OpenSpec.ofChange urlFunctionsMatchSpecSpec)

/-- ITS FALSE NEIGHBOUR: 'it returns false'. Refute it at one input. -/
def urlFunctionsMatchSpecWrong : ChangeSpec := { name := "urlFunctionsMatchSpec", fn := fun _ => fun
  | [d] => { results := [.lit (.bool false)], args := [d] }
  | _ => none }
def UrlFunctionsMatchSpecWrongFalsely : Prop := urlFunctionsMatchSpecRow.holds Tryz.pinned (OpenSpec.ofChange urlFunctionsMatchSpecWrong)

/-- 'hstsstorelaw15.UrlUpgradeLaws': WHATEVER THE INPUT: true; the input reads as it did. -/
def urlUpgradeLawsSpec : ChangeSpec := { name := "urlUpgradeLaws", fn := fun _ => fun
  | [d] => { results := [.lit (.bool true)], args := [d] }
  | _ => none }
def urlUpgradeLawsRow : OpenClaim := { program := "ytcfingekgbbclaagreatdoor", sum := "ba23bd63f23742a2cad3c159ebd54581b942ca49acf6e4de0e31c8ffe3460f3e", func := "hstsstore/hstsstorelaw15.UrlUpgradeLaws", spec := "urlUpgradeLaws", inPlace := ["internal/bytealg.IndexByteString", "internal/bytealg.IndexString", "internal/bytealg.CountString", "slices.overlaps[int]", "internal/abi.NoEscape", "internal/bytealg.MakeNoZero"], unfollowed := true, recurses := true, named := ["internal/bytealg.MaxLen", "unicode/utf8.first", "unicode/utf8.acceptRanges", "internal/strconv.uint64pow10", "math/bits.deBruijn32tab", "math/bits.deBruijn64tab"], apart := false, laid := [("math/bits.deBruijn32tab", laid_math_bits_deBruijn32tab), ("math/bits.deBruijn64tab", laid_math_bits_deBruijn64tab), ("internal/strconv.uint64pow10", laid_internal_strconv_uint64pow10), ("unicode/utf8.acceptRanges", laid_unicode_utf8_acceptRanges), ("unicode/utf8.first", laid_unicode_utf8_first)] }
def UrlUpgradeLawsSaid : Prop := urlUpgradeLawsRow.holds Tryz.pinned (OpenSpec.ofChange urlUpgradeLawsSpec)

/-- ITS FALSE NEIGHBOUR: 'it returns false'. Refute it at one input. -/
def urlUpgradeLawsWrong : ChangeSpec := { name := "urlUpgradeLaws", fn := fun _ => fun
  | [d] => { results := [.lit (.bool false)], args := [d] }
  | _ => none }
def UrlUpgradeLawsWrongFalsely : Prop := urlUpgradeLawsRow.holds Tryz.pinned (OpenSpec.ofChange urlUpgradeLawsWrong)

/-- 'hstsstorelaw16.OriginMatchesSpec': WHATEVER THE INPUT: true; the input reads as it did. -/
def originMatchesSpecSpec : ChangeSpec := { name := "originMatchesSpec", fn := fun _ => fun
  | [d] => { results := [.lit (.bool true)], args := [d] }
  | _ => none }
def originMatchesSpecRow : OpenClaim := { program := "ytcfingekgbbclaagreatdoor", sum := "ba23bd63f23742a2cad3c159ebd54581b942ca49acf6e4de0e31c8ffe3460f3e", func := "hstsstore/hstsstorelaw16.OriginMatchesSpec", spec := "originMatchesSpec", inPlace := ["internal/bytealg.CountString", "internal/bytealg.IndexByteString", "internal/bytealg.IndexString", "slices.overlaps[int]", "internal/abi.NoEscape", "internal/bytealg.MakeNoZero"], unfollowed := true, recurses := true, named := ["unicode/utf8.first", "unicode/utf8.acceptRanges", "internal/bytealg.MaxLen", "internal/strconv.uint64pow10", "math/bits.deBruijn32tab", "math/bits.deBruijn64tab"], apart := false, laid := [("math/bits.deBruijn32tab", laid_math_bits_deBruijn32tab), ("math/bits.deBruijn64tab", laid_math_bits_deBruijn64tab), ("internal/strconv.uint64pow10", laid_internal_strconv_uint64pow10), ("unicode/utf8.acceptRanges", laid_unicode_utf8_acceptRanges), ("unicode/utf8.first", laid_unicode_utf8_first)] }
def OriginMatchesSpecSaid : Prop := originMatchesSpecRow.holds Tryz.pinned (OpenSpec.ofChange originMatchesSpecSpec)

/-- ITS FALSE NEIGHBOUR: 'it returns false'. Refute it at one input. -/
def originMatchesSpecWrong : ChangeSpec := { name := "originMatchesSpec", fn := fun _ => fun
  | [d] => { results := [.lit (.bool false)], args := [d] }
  | _ => none }
def OriginMatchesSpecWrongFalsely : Prop := originMatchesSpecRow.holds Tryz.pinned (OpenSpec.ofChange originMatchesSpecWrong)

/-- 'hstsstorelaw16.OriginFormatMatchesSpec': WHATEVER THE INPUT: true; the input reads as it did. -/
def originFormatMatchesSpecSpec : ChangeSpec := { name := "originFormatMatchesSpec", fn := fun _ => fun
  | [d] => { results := [.lit (.bool true)], args := [d] }
  | _ => none }
def originFormatMatchesSpecRow : OpenClaim := { program := "ytcfingekgbbclaagreatdoor", sum := "ba23bd63f23742a2cad3c159ebd54581b942ca49acf6e4de0e31c8ffe3460f3e", func := "hstsstore/hstsstorelaw16.OriginFormatMatchesSpec", spec := "originFormatMatchesSpec", inPlace := ["internal/bytealg.CountString", "internal/bytealg.IndexByteString", "internal/bytealg.IndexString", "slices.overlaps[int]", "internal/abi.NoEscape", "internal/bytealg.MakeNoZero"], unfollowed := true, recurses := true, named := ["unicode/utf8.first", "unicode/utf8.acceptRanges", "internal/bytealg.MaxLen", "internal/strconv.uint64pow10", "math/bits.deBruijn32tab", "math/bits.deBruijn64tab"], apart := false, laid := [("math/bits.deBruijn32tab", laid_math_bits_deBruijn32tab), ("math/bits.deBruijn64tab", laid_math_bits_deBruijn64tab), ("internal/strconv.uint64pow10", laid_internal_strconv_uint64pow10), ("unicode/utf8.acceptRanges", laid_unicode_utf8_acceptRanges), ("unicode/utf8.first", laid_unicode_utf8_first)] }
def OriginFormatMatchesSpecSaid : Prop := originFormatMatchesSpecRow.holds Tryz.pinned (OpenSpec.ofChange originFormatMatchesSpecSpec)

/-- ITS FALSE NEIGHBOUR: 'it returns false'. Refute it at one input. -/
def originFormatMatchesSpecWrong : ChangeSpec := { name := "originFormatMatchesSpec", fn := fun _ => fun
  | [d] => { results := [.lit (.bool false)], args := [d] }
  | _ => none }
def OriginFormatMatchesSpecWrongFalsely : Prop := originFormatMatchesSpecRow.holds Tryz.pinned (OpenSpec.ofChange originFormatMatchesSpecWrong)

/-- 'hstsstorelaw16.OriginSame': WHATEVER THE INPUT: true; the input reads as it did. -/
def originSameSpec : ChangeSpec := { name := "originSame", fn := fun _ => fun
  | [d1, d2] => { results := [.lit (.bool true)], args := [d1, d2] }
  | _ => none }
def originSameRow : OpenClaim := { program := "ytcfingekgbbclaagreatdoor", sum := "ba23bd63f23742a2cad3c159ebd54581b942ca49acf6e4de0e31c8ffe3460f3e", func := "hstsstore/hstsstorelaw16.OriginSame", spec := "originSame", inPlace := ["internal/bytealg.CountString", "internal/bytealg.IndexByteString", "internal/bytealg.IndexString", "slices.overlaps[int]", "internal/abi.NoEscape", "internal/bytealg.MakeNoZero"], unfollowed := true, recurses := true, named := ["unicode/utf8.first", "unicode/utf8.acceptRanges", "internal/bytealg.MaxLen", "internal/strconv.uint64pow10", "math/bits.deBruijn32tab", "math/bits.deBruijn64tab"], apart := false, laid := [("math/bits.deBruijn32tab", laid_math_bits_deBruijn32tab), ("math/bits.deBruijn64tab", laid_math_bits_deBruijn64tab), ("internal/strconv.uint64pow10", laid_internal_strconv_uint64pow10), ("unicode/utf8.acceptRanges", laid_unicode_utf8_acceptRanges), ("unicode/utf8.first", laid_unicode_utf8_first)] }
def OriginSameSaid : Prop := originSameRow.holds Tryz.pinned (OpenSpec.ofChange originSameSpec)

/-- ITS FALSE NEIGHBOUR: 'it returns false'. Refute it at one input. -/
def originSameWrong : ChangeSpec := { name := "originSame", fn := fun _ => fun
  | [d1, d2] => { results := [.lit (.bool false)], args := [d1, d2] }
  | _ => none }
def OriginSameWrongFalsely : Prop := originSameRow.holds Tryz.pinned (OpenSpec.ofChange originSameWrong)

/-- 'hstsstorelaw16.OriginUpgradeTrustworthy': WHATEVER THE INPUT: true; the input reads as it did. -/
def originUpgradeTrustworthySpec : ChangeSpec := { name := "originUpgradeTrustworthy", fn := fun _ => fun
  | [d] => { results := [.lit (.bool true)], args := [d] }
  | _ => none }
def originUpgradeTrustworthyRow : OpenClaim := { program := "ytcfingekgbbclaagreatdoor", sum := "ba23bd63f23742a2cad3c159ebd54581b942ca49acf6e4de0e31c8ffe3460f3e", func := "hstsstore/hstsstorelaw16.OriginUpgradeTrustworthy", spec := "originUpgradeTrustworthy", inPlace := ["internal/bytealg.CountString", "internal/bytealg.IndexByteString", "internal/bytealg.IndexString", "slices.overlaps[int]", "internal/abi.NoEscape", "internal/bytealg.MakeNoZero"], unfollowed := true, recurses := true, named := ["unicode/utf8.first", "unicode/utf8.acceptRanges", "internal/bytealg.MaxLen", "internal/strconv.uint64pow10", "math/bits.deBruijn32tab", "math/bits.deBruijn64tab"], apart := false, laid := [("math/bits.deBruijn32tab", laid_math_bits_deBruijn32tab), ("math/bits.deBruijn64tab", laid_math_bits_deBruijn64tab), ("internal/strconv.uint64pow10", laid_internal_strconv_uint64pow10), ("unicode/utf8.acceptRanges", laid_unicode_utf8_acceptRanges), ("unicode/utf8.first", laid_unicode_utf8_first)] }
def OriginUpgradeTrustworthySaid : Prop := originUpgradeTrustworthyRow.holds Tryz.pinned (OpenSpec.ofChange originUpgradeTrustworthySpec)

/-- ITS FALSE NEIGHBOUR: 'it returns false'. Refute it at one input. -/
def originUpgradeTrustworthyWrong : ChangeSpec := { name := "originUpgradeTrustworthy", fn := fun _ => fun
  | [d] => { results := [.lit (.bool false)], args := [d] }
  | _ => none }
def OriginUpgradeTrustworthyWrongFalsely : Prop := originUpgradeTrustworthyRow.holds Tryz.pinned (OpenSpec.ofChange originUpgradeTrustworthyWrong)

/- THE SECOND FORM. 'bulk': how many values and letters a reading holds, each counted each time it is reached (what is shared counts as often as it is met; a slice's spare places count too). A statement '..UptoSaid' is the law's where the arguments, and the package variables that the reading takes, are together of bulk at most 1048576: NARROWER than '..Said'. Prove '..Said' where nothing that the law and all that it calls make is longer than what came in: it says more and counts as full. Else prove '..UptoSaid'. A law counts once. -/
mutual
def uptoBulk {H : Type} : DataW H → Nat
  | .lit (.string bytes) => bytes.length + 1
  | .lit _ => 1
  | .nil => 1
  | .ptr d => uptoBulk d + 1
  | .slice elems spare => uptoBulkAll elems + uptoBulkAll spare + 1
  | .agg parts => uptoBulkAll parts + 1
  | .iface _ d => uptoBulk d + 1
  | .map entries => uptoBulkEntries entries + 1
  | .held _ => 1
def uptoBulkAll {H : Type} : List (DataW H) → Nat
  | [] => 0
  | d :: r => uptoBulk d + uptoBulkAll r
def uptoBulkEntries {H : Type} : List (Lit × DataW H) → Nat
  | [] => 0
  | x :: r => uptoBulkEntry x + uptoBulkEntries r
def uptoBulkEntry {H : Type} : Lit × DataW H → Nat
  | (.string bytes, d) => bytes.length + uptoBulk d + 1
  | (_, d) => uptoBulk d + 1
 end
def uptoSmall : (H : Type) → List (DataW H) → Bool := fun _ ds => decide (uptoBulkAll ds ≤ 1048576)
def OpenSpec.upto (s : _root_.Go.ChangeSpec) : _root_.Go.OpenSpec := { _root_.Go.OpenSpec.ofChange s with cond := some uptoSmall }

/-- 'hstsstorelaw15.UrlParseMatchesSpec', WHERE WHAT IT READS IS OF BULK AT MOST 1048576: true; the input reads as it did. -/
def urlParseMatchesSpecUptoRow : OpenClaim := { program := "ytcfingekgbbclaagreatdoor", sum := "ba23bd63f23742a2cad3c159ebd54581b942ca49acf6e4de0e31c8ffe3460f3e", func := "hstsstore/hstsstorelaw15.UrlParseMatchesSpec", spec := "urlParseMatchesSpec", inPlace := ["internal/bytealg.IndexByteString", "internal/bytealg.IndexString", "internal/bytealg.CountString", "slices.overlaps[int]", "internal/abi.NoEscape", "internal/bytealg.MakeNoZero"], unfollowed := true, recurses := true, named := ["internal/bytealg.MaxLen", "unicode/utf8.first", "unicode/utf8.acceptRanges", "internal/strconv.uint64pow10", "math/bits.deBruijn32tab", "math/bits.deBruijn64tab"], apart := false, laid := [("math/bits.deBruijn32tab", laid_math_bits_deBruijn32tab), ("math/bits.deBruijn64tab", laid_math_bits_deBruijn64tab), ("internal/strconv.uint64pow10", laid_internal_strconv_uint64pow10), ("unicode/utf8.acceptRanges", laid_unicode_utf8_acceptRanges), ("unicode/utf8.first", laid_unicode_utf8_first)], narrowed := true }
def UrlParseMatchesSpecUptoSaid : Prop := urlParseMatchesSpecUptoRow.holds Tryz.pinned (OpenSpec.upto urlParseMatchesSpecSpec)

/-- 'hstsstorelaw15.UrlRoundTrip', WHERE WHAT IT READS IS OF BULK AT MOST 1048576: true; the input reads as it did. -/
def urlRoundTripUptoRow : OpenClaim := { program := "ytcfingekgbbclaagreatdoor", sum := "ba23bd63f23742a2cad3c159ebd54581b942ca49acf6e4de0e31c8ffe3460f3e", func := "hstsstore/hstsstorelaw15.UrlRoundTrip", spec := "urlRoundTrip", inPlace := ["internal/bytealg.IndexByteString", "internal/bytealg.IndexString", "internal/bytealg.CountString", "slices.overlaps[int]", "internal/abi.NoEscape", "internal/bytealg.MakeNoZero"], unfollowed := true, recurses := true, named := ["internal/bytealg.MaxLen", "unicode/utf8.first", "unicode/utf8.acceptRanges", "internal/strconv.uint64pow10", "math/bits.deBruijn32tab", "math/bits.deBruijn64tab"], apart := false, laid := [("math/bits.deBruijn32tab", laid_math_bits_deBruijn32tab), ("math/bits.deBruijn64tab", laid_math_bits_deBruijn64tab), ("internal/strconv.uint64pow10", laid_internal_strconv_uint64pow10), ("unicode/utf8.acceptRanges", laid_unicode_utf8_acceptRanges), ("unicode/utf8.first", laid_unicode_utf8_first)], narrowed := true }
def UrlRoundTripUptoSaid : Prop := urlRoundTripUptoRow.holds Tryz.pinned (OpenSpec.upto urlRoundTripSpec)

/-- 'hstsstorelaw15.UrlSchemeCase', WHERE WHAT IT READS IS OF BULK AT MOST 1048576: true; the input reads as it did. -/
def urlSchemeCaseUptoRow : OpenClaim := { program := "ytcfingekgbbclaagreatdoor", sum := "ba23bd63f23742a2cad3c159ebd54581b942ca49acf6e4de0e31c8ffe3460f3e", func := "hstsstore/hstsstorelaw15.UrlSchemeCase", spec := "urlSchemeCase", inPlace := ["internal/bytealg.IndexByteString", "internal/bytealg.IndexString", "internal/bytealg.CountString", "slices.overlaps[int]", "internal/abi.NoEscape", "internal/bytealg.MakeNoZero"], unfollowed := true, recurses := true, named := ["internal/bytealg.MaxLen", "unicode/utf8.first", "unicode/utf8.acceptRanges", "internal/strconv.uint64pow10", "math/bits.deBruijn32tab", "math/bits.deBruijn64tab"], apart := false, laid := [("math/bits.deBruijn32tab", laid_math_bits_deBruijn32tab), ("math/bits.deBruijn64tab", laid_math_bits_deBruijn64tab), ("internal/strconv.uint64pow10", laid_internal_strconv_uint64pow10), ("unicode/utf8.acceptRanges", laid_unicode_utf8_acceptRanges), ("unicode/utf8.first", laid_unicode_utf8_first)], narrowed := true }
def UrlSchemeCaseUptoSaid : Prop := urlSchemeCaseUptoRow.holds Tryz.pinned (OpenSpec.upto urlSchemeCaseSpec)

/-- 'hstsstorelaw15.UrlFunctionsMatchSpec', WHERE WHAT IT READS IS OF BULK AT MOST 1048576: true; the input reads as it did. -/
def urlFunctionsMatchSpecUptoRow : OpenClaim := { program := "ytcfingekgbbclaagreatdoor", sum := "ba23bd63f23742a2cad3c159ebd54581b942ca49acf6e4de0e31c8ffe3460f3e", func := "hstsstore/hstsstorelaw15.UrlFunctionsMatchSpec", spec := "urlFunctionsMatchSpec", inPlace := ["internal/bytealg.IndexByteString", "internal/bytealg.IndexString", "internal/bytealg.CountString", "slices.overlaps[int]", "internal/abi.NoEscape", "internal/bytealg.MakeNoZero"], unfollowed := true, recurses := true, named := ["internal/bytealg.MaxLen", "unicode/utf8.first", "unicode/utf8.acceptRanges", "internal/strconv.uint64pow10", "math/bits.deBruijn32tab", "math/bits.deBruijn64tab"], apart := false, laid := [("math/bits.deBruijn32tab", laid_math_bits_deBruijn32tab), ("math/bits.deBruijn64tab", laid_math_bits_deBruijn64tab), ("internal/strconv.uint64pow10", laid_internal_strconv_uint64pow10), ("unicode/utf8.acceptRanges", laid_unicode_utf8_acceptRanges), ("unicode/utf8.first", laid_unicode_utf8_first)], narrowed := true }
def UrlFunctionsMatchSpecUptoSaid : Prop := urlFunctionsMatchSpecUptoRow.holds Tryz.pinned (OpenSpec.upto urlFunctionsMatchSpecSpec)

/-- 'hstsstorelaw15.UrlUpgradeLaws', WHERE WHAT IT READS IS OF BULK AT MOST 1048576: true; the input reads as it did. -/
def urlUpgradeLawsUptoRow : OpenClaim := { program := "ytcfingekgbbclaagreatdoor", sum := "ba23bd63f23742a2cad3c159ebd54581b942ca49acf6e4de0e31c8ffe3460f3e", func := "hstsstore/hstsstorelaw15.UrlUpgradeLaws", spec := "urlUpgradeLaws", inPlace := ["internal/bytealg.IndexByteString", "internal/bytealg.IndexString", "internal/bytealg.CountString", "slices.overlaps[int]", "internal/abi.NoEscape", "internal/bytealg.MakeNoZero"], unfollowed := true, recurses := true, named := ["internal/bytealg.MaxLen", "unicode/utf8.first", "unicode/utf8.acceptRanges", "internal/strconv.uint64pow10", "math/bits.deBruijn32tab", "math/bits.deBruijn64tab"], apart := false, laid := [("math/bits.deBruijn32tab", laid_math_bits_deBruijn32tab), ("math/bits.deBruijn64tab", laid_math_bits_deBruijn64tab), ("internal/strconv.uint64pow10", laid_internal_strconv_uint64pow10), ("unicode/utf8.acceptRanges", laid_unicode_utf8_acceptRanges), ("unicode/utf8.first", laid_unicode_utf8_first)], narrowed := true }
def UrlUpgradeLawsUptoSaid : Prop := urlUpgradeLawsUptoRow.holds Tryz.pinned (OpenSpec.upto urlUpgradeLawsSpec)

/-- 'hstsstorelaw16.OriginMatchesSpec', WHERE WHAT IT READS IS OF BULK AT MOST 1048576: true; the input reads as it did. -/
def originMatchesSpecUptoRow : OpenClaim := { program := "ytcfingekgbbclaagreatdoor", sum := "ba23bd63f23742a2cad3c159ebd54581b942ca49acf6e4de0e31c8ffe3460f3e", func := "hstsstore/hstsstorelaw16.OriginMatchesSpec", spec := "originMatchesSpec", inPlace := ["internal/bytealg.CountString", "internal/bytealg.IndexByteString", "internal/bytealg.IndexString", "slices.overlaps[int]", "internal/abi.NoEscape", "internal/bytealg.MakeNoZero"], unfollowed := true, recurses := true, named := ["unicode/utf8.first", "unicode/utf8.acceptRanges", "internal/bytealg.MaxLen", "internal/strconv.uint64pow10", "math/bits.deBruijn32tab", "math/bits.deBruijn64tab"], apart := false, laid := [("math/bits.deBruijn32tab", laid_math_bits_deBruijn32tab), ("math/bits.deBruijn64tab", laid_math_bits_deBruijn64tab), ("internal/strconv.uint64pow10", laid_internal_strconv_uint64pow10), ("unicode/utf8.acceptRanges", laid_unicode_utf8_acceptRanges), ("unicode/utf8.first", laid_unicode_utf8_first)], narrowed := true }
def OriginMatchesSpecUptoSaid : Prop := originMatchesSpecUptoRow.holds Tryz.pinned (OpenSpec.upto originMatchesSpecSpec)

/-- 'hstsstorelaw16.OriginFormatMatchesSpec', WHERE WHAT IT READS IS OF BULK AT MOST 1048576: true; the input reads as it did. -/
def originFormatMatchesSpecUptoRow : OpenClaim := { program := "ytcfingekgbbclaagreatdoor", sum := "ba23bd63f23742a2cad3c159ebd54581b942ca49acf6e4de0e31c8ffe3460f3e", func := "hstsstore/hstsstorelaw16.OriginFormatMatchesSpec", spec := "originFormatMatchesSpec", inPlace := ["internal/bytealg.CountString", "internal/bytealg.IndexByteString", "internal/bytealg.IndexString", "slices.overlaps[int]", "internal/abi.NoEscape", "internal/bytealg.MakeNoZero"], unfollowed := true, recurses := true, named := ["unicode/utf8.first", "unicode/utf8.acceptRanges", "internal/bytealg.MaxLen", "internal/strconv.uint64pow10", "math/bits.deBruijn32tab", "math/bits.deBruijn64tab"], apart := false, laid := [("math/bits.deBruijn32tab", laid_math_bits_deBruijn32tab), ("math/bits.deBruijn64tab", laid_math_bits_deBruijn64tab), ("internal/strconv.uint64pow10", laid_internal_strconv_uint64pow10), ("unicode/utf8.acceptRanges", laid_unicode_utf8_acceptRanges), ("unicode/utf8.first", laid_unicode_utf8_first)], narrowed := true }
def OriginFormatMatchesSpecUptoSaid : Prop := originFormatMatchesSpecUptoRow.holds Tryz.pinned (OpenSpec.upto originFormatMatchesSpecSpec)

/-- 'hstsstorelaw16.OriginSame', WHERE WHAT IT READS IS OF BULK AT MOST 1048576: true; the input reads as it did. -/
def originSameUptoRow : OpenClaim := { program := "ytcfingekgbbclaagreatdoor", sum := "ba23bd63f23742a2cad3c159ebd54581b942ca49acf6e4de0e31c8ffe3460f3e", func := "hstsstore/hstsstorelaw16.OriginSame", spec := "originSame", inPlace := ["internal/bytealg.CountString", "internal/bytealg.IndexByteString", "internal/bytealg.IndexString", "slices.overlaps[int]", "internal/abi.NoEscape", "internal/bytealg.MakeNoZero"], unfollowed := true, recurses := true, named := ["unicode/utf8.first", "unicode/utf8.acceptRanges", "internal/bytealg.MaxLen", "internal/strconv.uint64pow10", "math/bits.deBruijn32tab", "math/bits.deBruijn64tab"], apart := false, laid := [("math/bits.deBruijn32tab", laid_math_bits_deBruijn32tab), ("math/bits.deBruijn64tab", laid_math_bits_deBruijn64tab), ("internal/strconv.uint64pow10", laid_internal_strconv_uint64pow10), ("unicode/utf8.acceptRanges", laid_unicode_utf8_acceptRanges), ("unicode/utf8.first", laid_unicode_utf8_first)], narrowed := true }
def OriginSameUptoSaid : Prop := originSameUptoRow.holds Tryz.pinned (OpenSpec.upto originSameSpec)

/-- 'hstsstorelaw16.OriginUpgradeTrustworthy', WHERE WHAT IT READS IS OF BULK AT MOST 1048576: true; the input reads as it did. -/
def originUpgradeTrustworthyUptoRow : OpenClaim := { program := "ytcfingekgbbclaagreatdoor", sum := "ba23bd63f23742a2cad3c159ebd54581b942ca49acf6e4de0e31c8ffe3460f3e", func := "hstsstore/hstsstorelaw16.OriginUpgradeTrustworthy", spec := "originUpgradeTrustworthy", inPlace := ["internal/bytealg.CountString", "internal/bytealg.IndexByteString", "internal/bytealg.IndexString", "slices.overlaps[int]", "internal/abi.NoEscape", "internal/bytealg.MakeNoZero"], unfollowed := true, recurses := true, named := ["unicode/utf8.first", "unicode/utf8.acceptRanges", "internal/bytealg.MaxLen", "internal/strconv.uint64pow10", "math/bits.deBruijn32tab", "math/bits.deBruijn64tab"], apart := false, laid := [("math/bits.deBruijn32tab", laid_math_bits_deBruijn32tab), ("math/bits.deBruijn64tab", laid_math_bits_deBruijn64tab), ("internal/strconv.uint64pow10", laid_internal_strconv_uint64pow10), ("unicode/utf8.acceptRanges", laid_unicode_utf8_acceptRanges), ("unicode/utf8.first", laid_unicode_utf8_first)], narrowed := true }
def OriginUpgradeTrustworthyUptoSaid : Prop := originUpgradeTrustworthyUptoRow.holds Tryz.pinned (OpenSpec.upto originUpgradeTrustworthySpec)

end Rows
end Go.Proofs.YtcfingekgbbclaaGreatDoor
