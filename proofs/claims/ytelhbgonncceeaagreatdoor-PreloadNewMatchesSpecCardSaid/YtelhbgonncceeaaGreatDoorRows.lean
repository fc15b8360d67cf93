/-
  NARROWER THAN 'FOR EVERY INPUT', by the rows' own cells (each row's printed sentence says how): CoverageMatchesSpec: laid · CoverageSubdomains: laid · CoverageMonotone: laid · PreloadParseMatchesSpec: laid · PreloadFindMatchesSpec: laid · PreloadFindNearest: laid · PreloadNewMatchesSpec: laid · PreloadRoundTrip: laid.
  DERIVED. THE GIVEN ROWS OF THIS SEAT. 8 by the template 'for every input the law returns true; each argument reads behind the call as it read before'; 0 by the template 'total and deterministic' (their statements: YtelhbgonncceeaaGreatDoorTotals.lean).
  GIVEN WITH THE SEED: the statements are not yours to turn. If you find one false, say at which input.
  Laid BY PROGRAM, IN A SANDBOX (cutbox-rows.mjs): the forced cells as the released guide's own fill.sh prints them over the translation 949772e2387c13f3… (all of the seat's roots in one cut). By AI agents, Wed Nov 11 2026. No macro, syntax, notation, axiom, sorry.
-/
import Derived.Test.YtelhbgonncceeaaGreatDoorChecked
import GoSem.PinnedTables
import GoSem.Claim
import GoSem.ClaimJoined
import GoSem.ClaimMapViews
import Derived.JoinedTies
import Derived.KernelRfl
namespace Go.Proofs.YtelhbgonncceeaaGreatDoor
/- THE CELL 'sum', in the pinned program and in every row, IS THE sha256 OF THE DUMP (.gsa) THAT YtelhbgonncceeaaGreatDoorProg.lean LOADS. Nothing in Lean hashes anything: it is a label: what it is worth is what the hold of that sum in a sandbox is worth. -/
noncomputable def Tryz.pinned : Pinned := { name := "ytelhbgonncceeaagreatdoor", sum := "949772e2387c13f3e520fa73cd3a30e3a5a6e7179e43fe5573bd36537e3e8ced", checked := Tryz.checked }
namespace Rows
def none {H : Type} : Left H := { results := [], args := [] }

/- WHAT THE LISTED PACKAGE-LEVEL VARIABLES READ AS WHEN THE CALL BEGINS. Each datum BY PROGRAM (the guide's laid-datum.mjs) off the statement by which the dump's own 'gosem.cut.vars' lays the variable. In a bare row this is a premise. The card (YtelhbgonncceeaaGreatDoorCards.lean) ties it to the program's text. -/
def laid_unicode_utf8_acceptRanges {H : Type} : DataW H := .agg [.agg [.lit (.int .u8 128), .lit (.int .u8 191)], .agg [.lit (.int .u8 160), .lit (.int .u8 191)], .agg [.lit (.int .u8 128), .lit (.int .u8 159)], .agg [.lit (.int .u8 144), .lit (.int .u8 191)], .agg [.lit (.int .u8 128), .lit (.int .u8 143)], .agg [.lit (.int .u8 0), .lit (.int .u8 0)], .agg [.lit (.int .u8 0), .lit (.int .u8 0)], .agg [.lit (.int .u8 0), .lit (.int .u8 0)], .agg [.lit (.int .u8 0), .lit (.int .u8 0)], .agg [.lit (.int .u8 0), .lit (.int .u8 0)], .agg [.lit (.int .u8 0), .lit (.int .u8 0)], .agg [.lit (.int .u8 0), .lit (.int .u8 0)], .agg [.lit (.int .u8 0), .lit (.int .u8 0)], .agg [.lit (.int .u8 0), .lit (.int .u8 0)], .agg [.lit (.int .u8 0), .lit (.int .u8 0)], .agg [.lit (.int .u8 0), .lit (.int .u8 0)]]
/-- One of Go's own tables, pinned by name: the form's constant. -/
def laid_unicode_utf8_first : DataW Unit := Go.Pinned.utf8First
def laid_math_bits_deBruijn32tab {H : Type} : DataW H := .agg [.lit (.int .u8 0), .lit (.int .u8 1), .lit (.int .u8 28), .lit (.int .u8 2), .lit (.int .u8 29), .lit (.int .u8 14), .lit (.int .u8 24), .lit (.int .u8 3), .lit (.int .u8 30), .lit (.int .u8 22), .lit (.int .u8 20), .lit (.int .u8 15), .lit (.int .u8 25), .lit (.int .u8 17), .lit (.int .u8 4), .lit (.int .u8 8), .lit (.int .u8 31), .lit (.int .u8 27), .lit (.int .u8 13), .lit (.int .u8 23), .lit (.int .u8 21), .lit (.int .u8 19), .lit (.int .u8 16), .lit (.int .u8 7), .lit (.int .u8 26), .lit (.int .u8 12), .lit (.int .u8 18), .lit (.int .u8 6), .lit (.int .u8 11), .lit (.int .u8 5), .lit (.int .u8 10), .lit (.int .u8 9)]
def laid_math_bits_deBruijn64tab {H : Type} : DataW H := .agg [.lit (.int .u8 0), .lit (.int .u8 1), .lit (.int .u8 56), .lit (.int .u8 2), .lit (.int .u8 57), .lit (.int .u8 49), .lit (.int .u8 28), .lit (.int .u8 3), .lit (.int .u8 61), .lit (.int .u8 58), .lit (.int .u8 42), .lit (.int .u8 50), .lit (.int .u8 38), .lit (.int .u8 29), .lit (.int .u8 17), .lit (.int .u8 4), .lit (.int .u8 62), .lit (.int .u8 47), .lit (.int .u8 59), .lit (.int .u8 36), .lit (.int .u8 45), .lit (.int .u8 43), .lit (.int .u8 51), .lit (.int .u8 22), .lit (.int .u8 53), .lit (.int .u8 39), .lit (.int .u8 33), .lit (.int .u8 30), .lit (.int .u8 24), .lit (.int .u8 18), .lit (.int .u8 12), .lit (.int .u8 5), .lit (.int .u8 63), .lit (.int .u8 55), .lit (.int .u8 48), .lit (.int .u8 27), .lit (.int .u8 60), .lit (.int .u8 41), .lit (.int .u8 37), .lit (.int .u8 16), .lit (.int .u8 46), .lit (.int .u8 35), .lit (.int .u8 44), .lit (.int .u8 21), .lit (.int .u8 52), .lit (.int .u8 32), .lit (.int .u8 23), .lit (.int .u8 11), .lit (.int .u8 54), .lit (.int .u8 26), .lit (.int .u8 40), .lit (.int .u8 15), .lit (.int .u8 34), .lit (.int .u8 20), .lit (.int .u8 31), .lit (.int .u8 10), .lit (.int .u8 25), .lit (.int .u8 14), .lit (.int .u8 19), .lit (.int .u8 9), .lit (.int .u8 13), .lit (.int .u8 8), .lit (.int .u8 7), .lit (.int .u8 6)]
def laid_internal_strconv_uint64pow10 {H : Type} : DataW H := .agg [.lit (.int .u64 1), .lit (.int .u64 10), .lit (.int .u64 100), .lit (.int .u64 1000), .lit (.int .u64 10000), .lit (.int .u64 100000), .lit (.int .u64 1000000), .lit (.int .u64 10000000), .lit (.int .u64 100000000), .lit (.int .u64 1000000000), .lit (.int .u64 10000000000), .lit (.int .u64 100000000000), .lit (.int .u64 1000000000000), .lit (.int .u64 10000000000000), .lit (.int .u64 100000000000000), .lit (.int .u64 1000000000000000), .lit (.int .u64 10000000000000000), .lit (.int .u64 100000000000000000), .lit (.int .u64 1000000000000000000), .lit (.int .u64 10000000000000000000)]

/-- 'hstsstorelaw26.CoverageMatchesSpec': WHATEVER THE INPUT: true; the input reads as it did. -/
def coverageMatchesSpecSpec : ChangeSpec := { name := "coverageMatchesSpec", fn := fun _ => fun
  | [d1, d2, d3, d4] => { results := [.lit (.bool true)], args := [d1, d2, d3, d4] }
  | _ => none }
def coverageMatchesSpecRow : OpenClaim := { program := "ytelhbgonncceeaagreatdoor", sum := "949772e2387c13f3e520fa73cd3a30e3a5a6e7179e43fe5573bd36537e3e8ced", func := "hstsstore/hstsstorelaw26.CoverageMatchesSpec", spec := "coverageMatchesSpec", inPlace := ["internal/bytealg.CountString", "internal/bytealg.IndexByteString", "internal/bytealg.IndexString", "slices.overlaps[int]"], unfollowed := true, recurses := true, named := ["unicode/utf8.first", "unicode/utf8.acceptRanges", "internal/bytealg.MaxLen"], apart := false, laid := [("unicode/utf8.acceptRanges", laid_unicode_utf8_acceptRanges), ("unicode/utf8.first", laid_unicode_utf8_first)] }
def CoverageMatchesSpecSaid : Prop := coverageMatchesSpecRow.holds Tryz.pinned (OpenSpec.ofChange coverageMatchesSpecSpec)

/-- ITS FALSE NEIGHBOUR: 'it returns false'. Refute it at one input. -/
def coverageMatchesSpecWrong : ChangeSpec := { name := "coverageMatchesSpec", fn := fun _ => fun
  | [d1, d2, d3, d4] => { results := [.lit (.bool false)], args := [d1, d2, d3, d4] }
  | _ => none }
def CoverageMatchesSpecWrongFalsely : Prop := coverageMatchesSpecRow.holds Tryz.pinned (OpenSpec.ofChange coverageMatchesSpecWrong)

/-- 'hstsstorelaw26.CoverageSubdomains': WHATEVER THE INPUT: true; the input reads as it did. -/
def coverageSubdomainsSpec : ChangeSpec := { name := "coverageSubdomains", fn := fun _ => fun
  | [d1, d2, d3, d4] => { results := [.lit (.bool true)], args := [d1, d2, d3, d4] }
  | _ => none }
def coverageSubdomainsRow : OpenClaim := { program := "ytelhbgonncceeaagreatdoor", sum := "949772e2387c13f3e520fa73cd3a30e3a5a6e7179e43fe5573bd36537e3e8ced", func := "hstsstore/hstsstorelaw26.CoverageSubdomains", spec := "coverageSubdomains", inPlace := ["internal/bytealg.CountString", "internal/bytealg.IndexByteString", "internal/bytealg.IndexString", "slices.overlaps[int]"], unfollowed := true, recurses := true, named := ["unicode/utf8.first", "unicode/utf8.acceptRanges", "internal/bytealg.MaxLen"], apart := false, laid := [("unicode/utf8.acceptRanges", laid_unicode_utf8_acceptRanges), ("unicode/utf8.first", laid_unicode_utf8_first)] }
def CoverageSubdomainsSaid : Prop := coverageSubdomainsRow.holds Tryz.pinned (OpenSpec.ofChange coverageSubdomainsSpec)

/-- ITS FALSE NEIGHBOUR: 'it returns false'. Refute it at one input. -/
def coverageSubdomainsWrong : ChangeSpec := { name := "coverageSubdomains", fn := fun _ => fun
  | [d1, d2, d3, d4] => { results := [.lit (.bool false)], args := [d1, d2, d3, d4] }
  | _ => none }
def CoverageSubdomainsWrongFalsely : Prop := coverageSubdomainsRow.holds Tryz.pinned (OpenSpec.ofChange coverageSubdomainsWrong)

/-- 'hstsstorelaw26.CoverageMonotone': WHATEVER THE INPUT: true; the input reads as it did. -/
def coverageMonotoneSpec : ChangeSpec := { name := "coverageMonotone", fn := fun _ => fun
  | [d1, d2, d3, d4] => { results := [.lit (.bool true)], args := [d1, d2, d3, d4] }
  | _ => none }
def coverageMonotoneRow : OpenClaim := { program := "ytelhbgonncceeaagreatdoor", sum := "949772e2387c13f3e520fa73cd3a30e3a5a6e7179e43fe5573bd36537e3e8ced", func := "hstsstore/hstsstorelaw26.CoverageMonotone", spec := "coverageMonotone", inPlace := ["internal/bytealg.CountString", "internal/bytealg.IndexByteString", "internal/bytealg.IndexString", "slices.overlaps[int]", "slices.overlaps[hstsstore/api.Pin]"], unfollowed := true, recurses := true, named := ["unicode/utf8.first", "unicode/utf8.acceptRanges", "internal/bytealg.MaxLen"], apart := false, laid := [("unicode/utf8.acceptRanges", laid_unicode_utf8_acceptRanges), ("unicode/utf8.first", laid_unicode_utf8_first)] }
def CoverageMonotoneSaid : Prop := coverageMonotoneRow.holds Tryz.pinned (OpenSpec.ofChange coverageMonotoneSpec)

/-- ITS FALSE NEIGHBOUR: 'it returns false'. Refute it at one input. -/
def coverageMonotoneWrong : ChangeSpec := { name := "coverageMonotone", fn := fun _ => fun
  | [d1, d2, d3, d4] => { results := [.lit (.bool false)], args := [d1, d2, d3, d4] }
  | _ => none }
def CoverageMonotoneWrongFalsely : Prop := coverageMonotoneRow.holds Tryz.pinned (OpenSpec.ofChange coverageMonotoneWrong)

/-- 'hstsstorelaw24.PreloadParseMatchesSpec': WHATEVER THE INPUT: true; the input reads as it did. -/
def preloadParseMatchesSpecSpec : ChangeSpec := { name := "preloadParseMatchesSpec", fn := fun _ => fun
  | [d] => { results := [.lit (.bool true)], args := [d] }
  | _ => none }
def preloadParseMatchesSpecRow : OpenClaim := { program := "ytelhbgonncceeaagreatdoor", sum := "949772e2387c13f3e520fa73cd3a30e3a5a6e7179e43fe5573bd36537e3e8ced", func := "hstsstore/hstsstorelaw24.PreloadParseMatchesSpec", spec := "preloadParseMatchesSpec", inPlace := ["internal/bytealg.IndexByteString", "internal/bytealg.IndexString", "internal/bytealg.CountString", "slices.overlaps[int]", "internal/abi.NoEscape", "internal/bytealg.MakeNoZero"], unfollowed := true, recurses := true, named := ["unicode/utf8.first", "unicode/utf8.acceptRanges", "internal/bytealg.MaxLen", "internal/strconv.uint64pow10", "math/bits.deBruijn32tab", "math/bits.deBruijn64tab"], apart := false, laid := [("math/bits.deBruijn32tab", laid_math_bits_deBruijn32tab), ("math/bits.deBruijn64tab", laid_math_bits_deBruijn64tab), ("internal/strconv.uint64pow10", laid_internal_strconv_uint64pow10), ("unicode/utf8.acceptRanges", laid_unicode_utf8_acceptRanges), ("unicode/utf8.first", laid_unicode_utf8_first)] }
def PreloadParseMatchesSpecSaid : Prop := preloadParseMatchesSpecRow.holds Tryz.pinned (OpenSpec.ofChange preloadParseMatchesSpecSpec)

/-- ITS FALSE NEIGHBOUR: 'it returns false'. Refute it at one input. -/
def preloadParseMatchesSpecWrong : ChangeSpec := { name := "preloadParseMatchesSpec", fn := fun _ => fun
  | [d] => { results := [.lit (.bool false)], args := [d] }
  | _ => none }
def PreloadParseMatchesSpecWrongFalsely : Prop := preloadParseMatchesSpecRow.holds Tryz.pinned (OpenSpec.ofChange preloadParseMatchesSpecWrong)

/-- 'hstsstorelaw24.PreloadFindMatchesSpec': WHATEVER THE INPUT: true; the input reads as it did. -/
def preloadFindMatchesSpecSpec : ChangeSpec := { name := "preloadFindMatchesSpec", fn := fun _ => fun
  | [d1, d2] => { results := [.lit (.bool true)], args := [d1, d2] }
  | _ => none }
def preloadFindMatchesSpecRow : OpenClaim := { program := "ytelhbgonncceeaagreatdoor", sum := "949772e2387c13f3e520fa73cd3a30e3a5a6e7179e43fe5573bd36537e3e8ced", func := "hstsstore/hstsstorelaw24.PreloadFindMatchesSpec", spec := "preloadFindMatchesSpec", inPlace := ["internal/bytealg.IndexByteString", "internal/bytealg.IndexString", "internal/bytealg.CountString", "slices.overlaps[int]", "internal/abi.NoEscape", "internal/bytealg.MakeNoZero"], unfollowed := true, recurses := true, named := ["unicode/utf8.first", "unicode/utf8.acceptRanges", "internal/bytealg.MaxLen", "internal/strconv.uint64pow10", "math/bits.deBruijn32tab", "math/bits.deBruijn64tab"], apart := false, laid := [("math/bits.deBruijn32tab", laid_math_bits_deBruijn32tab), ("math/bits.deBruijn64tab", laid_math_bits_deBruijn64tab), ("internal/strconv.uint64pow10", laid_internal_strconv_uint64pow10), ("unicode/utf8.acceptRanges", laid_unicode_utf8_acceptRanges), ("unicode/utf8.first", laid_unicode_utf8_first)] }
def PreloadFindMatchesSpecSaid : Prop := preloadFindMatchesSpecRow.holds Tryz.pinned (OpenSpec.ofChange preloadFindMatchesSpecSpec)

/-- ITS FALSE NEIGHBOUR: 'it returns false'. Refute it at one input. -/
def preloadFindMatchesSpecWrong : ChangeSpec := { name := "preloadFindMatchesSpec", fn := fun _ => fun
  | [d1, d2] => { results := [.lit (.bool false)], args := [d1, d2] }
  | _ => none }
def PreloadFindMatchesSpecWrongFalsely : Prop := preloadFindMatchesSpecRow.holds Tryz.pinned (OpenSpec.ofChange preloadFindMatchesSpecWrong)

/-- 'hstsstorelaw24.PreloadFindNearest': WHATEVER THE INPUT: true; the input reads as it did. -/
def preloadFindNearestSpec : ChangeSpec := { name := "preloadFindNearest", fn := fun _ => fun
  | [d1, d2] => { results := [.lit (.bool true)], args := [d1, d2] }
  | _ => none }
def preloadFindNearestRow : OpenClaim := { program := "ytelhbgonncceeaagreatdoor", sum := "949772e2387c13f3e520fa73cd3a30e3a5a6e7179e43fe5573bd36537e3e8ced", func := "hstsstore/hstsstorelaw24.PreloadFindNearest", spec := "preloadFindNearest", inPlace := ["internal/bytealg.IndexByteString", "internal/bytealg.IndexString", "internal/bytealg.CountString", "slices.overlaps[int]", "internal/abi.NoEscape", "internal/bytealg.MakeNoZero"], unfollowed := true, recurses := true, named := ["unicode/utf8.first", "unicode/utf8.acceptRanges", "internal/bytealg.MaxLen", "internal/strconv.uint64pow10", "math/bits.deBruijn32tab", "math/bits.deBruijn64tab"], apart := false, laid := [("math/bits.deBruijn32tab", laid_math_bits_deBruijn32tab), ("math/bits.deBruijn64tab", laid_math_bits_deBruijn64tab), ("internal/strconv.uint64pow10", laid_internal_strconv_uint64pow10), ("unicode/utf8.acceptRanges", laid_unicode_utf8_acceptRanges), ("unicode/utf8.first", laid_unicode_utf8_first)] }
def PreloadFindNearestSaid : Prop := preloadFindNearestRow.holds Tryz.pinned (OpenSpec.ofChange preloadFindNearestSpec)

/-- ITS FALSE NEIGHBOUR: 'it returns false'. Refute it at one input. -/
def preloadFindNearestWrong : ChangeSpec := { name := "preloadFindNearest", fn := fun _ => fun
  | [d1, d2] => { results := [.lit (.bool false)], args := [d1, d2] }
  | _ => none }
def PreloadFindNearestWrongFalsely : Prop := preloadFindNearestRow.holds Tryz.pinned (OpenSpec.ofChange preloadFindNearestWrong)

/-- 'hstsstorelaw24.PreloadNewMatchesSpec': WHATEVER THE INPUT: true; the input reads as it did. -/
def preloadNewMatchesSpecSpec : ChangeSpec := { name := "preloadNewMatchesSpec", fn := fun _ => fun
  | [d] => { results := [.lit (.bool true)], args := [d] }
  | _ => none }
def preloadNewMatchesSpecRow : OpenClaim := { program := "ytelhbgonncceeaagreatdoor", sum := "949772e2387c13f3e520fa73cd3a30e3a5a6e7179e43fe5573bd36537e3e8ced", func := "hstsstore/hstsstorelaw24.PreloadNewMatchesSpec", spec := "preloadNewMatchesSpec", inPlace := ["internal/bytealg.IndexByteString", "internal/bytealg.IndexString", "internal/bytealg.CountString", "slices.overlaps[int]", "internal/abi.NoEscape", "internal/bytealg.MakeNoZero"], unfollowed := true, recurses := true, named := ["unicode/utf8.first", "unicode/utf8.acceptRanges", "internal/bytealg.MaxLen", "internal/strconv.uint64pow10", "math/bits.deBruijn32tab", "math/bits.deBruijn64tab"], apart := false, laid := [("math/bits.deBruijn32tab", laid_math_bits_deBruijn32tab), ("math/bits.deBruijn64tab", laid_math_bits_deBruijn64tab), ("internal/strconv.uint64pow10", laid_internal_strconv_uint64pow10), ("unicode/utf8.acceptRanges", laid_unicode_utf8_acceptRanges), ("unicode/utf8.first", laid_unicode_utf8_first)] }
def PreloadNewMatchesSpecSaid : Prop := preloadNewMatchesSpecRow.holds Tryz.pinned (OpenSpec.ofChange preloadNewMatchesSpecSpec)

/-- ITS FALSE NEIGHBOUR: 'it returns false'. Refute it at one input. -/
def preloadNewMatchesSpecWrong : ChangeSpec := { name := "preloadNewMatchesSpec", fn := fun _ => fun
  | [d] => { results := [.lit (.bool false)], args := [d] }
  | _ => none }
def PreloadNewMatchesSpecWrongFalsely : Prop := preloadNewMatchesSpecRow.holds Tryz.pinned (OpenSpec.ofChange preloadNewMatchesSpecWrong)

/-- 'hstsstorelaw24.PreloadRoundTrip': WHATEVER THE INPUT: true; the input reads as it did. -/
def preloadRoundTripSpec : ChangeSpec := { name := "preloadRoundTrip", fn := fun _ => fun
  | [d] => { results := [.lit (.bool true)], args := [d] }
  | _ => none }
def preloadRoundTripRow : OpenClaim := { program := "ytelhbgonncceeaagreatdoor", sum := "949772e2387c13f3e520fa73cd3a30e3a5a6e7179e43fe5573bd36537e3e8ced", func := "hstsstore/hstsstorelaw24.PreloadRoundTrip", spec := "preloadRoundTrip", inPlace := ["internal/bytealg.IndexByteString", "internal/bytealg.IndexString", "internal/bytealg.CountString", "slices.overlaps[int]", "internal/abi.NoEscape", "internal/bytealg.MakeNoZero"], unfollowed := true, recurses := true, named := ["unicode/utf8.first", "unicode/utf8.acceptRanges", "internal/bytealg.MaxLen", "internal/strconv.uint64pow10", "math/bits.deBruijn32tab", "math/bits.deBruijn64tab"], apart := false, laid := [("math/bits.deBruijn32tab", laid_math_bits_deBruijn32tab), ("math/bits.deBruijn64tab", laid_math_bits_deBruijn64tab), ("internal/strconv.uint64pow10", laid_internal_strconv_uint64pow10), ("unicode/utf8.acceptRanges", laid_unicode_utf8_acceptRanges), ("unicode/utf8.first", laid_unicode_utf8_first)] }
def PreloadRoundTripSaid : Prop := preloadRoundTripRow.holds Tryz.pinned (OpenSpec.ofChange preloadRoundTripSpec)

/-- ITS FALSE NEIGHBOUR: 'it returns false'. Refute it at one input. -/
def preloadRoundTripWrong : ChangeSpec := { name := "preloadRoundTrip", fn := fun _ => fun
  | [d] => { results := [.lit (.bool false)], args := [d] }
  | _ => none }
def PreloadRoundTripWrongFalsely : Prop := preloadRoundTripRow.holds Tryz.pinned (OpenSpec.ofChange preloadRoundTripWrong)

/- THE SECOND FORM. 'bulk': how many values and letters a reading holds, each counted each time it is reached (what is shared counts as often as it is met; a slice's spare places count too). A statement '..UptoSaid' is the law's where the arguments, and the package variables that the reading takes, are together of bulk at most 1048576: NARROWER than '..Said'. Prove '..Said' where nothing that the law and all that it calls make is longer than what came in: it says more and counts as full. Else prove '..UptoSaid'. A law counts once. -/
mutual
def uptoBulk {H : Type} : DataW H → Nat
  | .lit (.string bytes) => bytes.length + 1
  | .lit _ => 1
  | .nil => 1
  | .ptr d => uptoBulk d + 1
  | .slice elems spare => uptoBulkAll elems + uptoBulkAll spare + 1
  | .agg parts => uptoBulkAll parts + 1
  | .iface _ d => uptoBulk d + 1
  | .map entries => uptoBulkEntries entries + 1
  | .held _ => 1
def uptoBulkAll {H : Type} : List (DataW H) → Nat
  | [] => 0
  | d :: r => uptoBulk d + uptoBulkAll r
def uptoBulkEntries {H : Type} : List (Lit × DataW H) → Nat
  | [] => 0
  | x :: r => uptoBulkEntry x + uptoBulkEntries r
def uptoBulkEntry {H : Type} : Lit × DataW H → Nat
  | (.string bytes, d) => bytes.length + uptoBulk d + 1
  | (_, d) => uptoBulk d + 1
 end
def uptoSmall : (H : Type) → List (DataW H) → Bool := fun _ ds => decide (uptoBulkAll ds ≤ 1048576)
def OpenSpec.upto (s : _root_.Go.ChangeSpec) : _root_.Go.OpenSpec := { _root_.Go.OpenSpec.ofChange s with cond := some uptoSmall }

/-- 'hstsstorelaw26.CoverageMatchesSpec', WHERE WHAT IT READS IS OF BULK AT MOST 1048576: true; the input reads as it did. -/
def coverageMatchesSpecUptoRow : OpenClaim := { program := "ytelhbgonncceeaagreatdoor", sum := "949772e2387c13f3e520fa73cd3a30e3a5a6e7179e43fe5573bd36537e3e8ced", func := "hstsstore/hstsstorelaw26.CoverageMatchesSpec", spec := "coverageMatchesSpec", inPlace := ["internal/bytealg.CountString", "internal/bytealg.IndexByteString", "internal/bytealg.IndexString", "slices.overlaps[int]"], unfollowed := true, recurses := true, named := ["unicode/utf8.first", "unicode/utf8.acceptRanges", "internal/bytealg.MaxLen"], apart := false, laid := [("unicode/utf8.acceptRanges", laid_unicode_utf8_acceptRanges), ("unicode/utf8.first", laid_unicode_utf8_first)], narrowed := true }
def CoverageMatchesSpecUptoSaid : Prop := coverageMatchesSpecUptoRow.holds Tryz.pinned (OpenSpec.upto coverageMatchesSpecSpec)

/-- 'hstsstorelaw26.CoverageSubdomains', WHERE WHAT IT READS IS OF BULK AT MOST 1048576: true; the input reads as it did. -/
def coverageSubdomainsUptoRow : OpenClaim := { program := "ytelhbgonncceeaagreatdoor", sum := "949772e2387c13f3e520fa73cd3a30e3a5a6e7179e43fe5573bd36537e3e8ced", func := "hstsstore/hstsstorelaw26.CoverageSubdomains", spec := "coverageSubdomains", inPlace := ["internal/bytealg.CountString", "internal/bytealg.IndexByteString", "internal/bytealg.IndexString", "slices.overlaps[int]"], unfollowed := true, recurses := true, named := ["unicode/utf8.first", "unicode/utf8.acceptRanges", "internal/bytealg.MaxLen"], apart := false, laid := [("unicode/utf8.acceptRanges", laid_unicode_utf8_acceptRanges), ("unicode/utf8.first", laid_unicode_utf8_first)], narrowed := true }
def CoverageSubdomainsUptoSaid : Prop := coverageSubdomainsUptoRow.holds Tryz.pinned (OpenSpec.upto coverageSubdomainsSpec)

/-- 'hstsstorelaw26.CoverageMonotone', WHERE WHAT IT READS IS OF BULK AT MOST 1048576: true; the input reads as it did. -/
def coverageMonotoneUptoRow : OpenClaim := { program := "ytelhbgonncceeaagreatdoor", sum := "949772e2387c13f3e520fa73cd3a30e3a5a6e7179e43fe5573bd36537e3e8ced", func := "hstsstore/hstsstorelaw26.CoverageMonotone", spec := "coverageMonotone", inPlace := ["internal/bytealg.CountString", "internal/bytealg.IndexByteString", "internal/bytealg.IndexString", "slices.overlaps[int]", "slices.overlaps[hstsstore/api.Pin]"], unfollowed := true, recurses := true, named := ["unicode/utf8.first", "unicode/utf8.acceptRanges", "internal/bytealg.MaxLen"], apart := false, laid := [("unicode/utf8.acceptRanges", laid_unicode_utf8_acceptRanges), ("unicode/utf8.first", laid_unicode_utf8_first)], narrowed := true }
def CoverageMonotoneUptoSaid : Prop := coverageMonotoneUptoRow.holds Tryz.pinned (OpenSpec.upto coverageMonotoneSpec)

/-- 'hstsstorelaw24.PreloadParseMatchesSpec', WHERE WHAT IT READS IS OF BULK AT MOST 1048576: true; the input reads as it did. -/
def preloadParseMatchesSpecUptoRow : OpenClaim := { program := "ytelhbgonncceeaagreatdoor", sum := "949772e2387c13f3e520fa73cd3a30e3a5a6e7179e43fe5573bd36537e3e8ced", func := "hstsstore/hstsstorelaw24.PreloadParseMatchesSpec", spec := "preloadParseMatchesSpec", inPlace := ["internal/bytealg.IndexByteString", "internal/bytealg.IndexString", "internal/bytealg.CountString", "slices.overlaps[int]", "internal/abi.NoEscape", "internal/bytealg.MakeNoZero"], unfollowed := true, recurses := true, named := ["unicode/utf8.first", "unicode/utf8.acceptRanges", "internal/bytealg.MaxLen", "internal/strconv.uint64pow10", "math/bits.deBruijn32tab", "math/bits.deBruijn64tab"], apart := false, laid := [("math/bits.deBruijn32tab", laid_math_bits_deBruijn32tab), ("math/bits.deBruijn64tab", laid_math_bits_deBruijn64tab), ("internal/strconv.uint64pow10", laid_internal_strconv_uint64pow10), ("unicode/utf8.acceptRanges", laid_unicode_utf8_acceptRanges), ("unicode/utf8.first", laid_unicode_utf8_first)], narrowed := true }
def PreloadParseMatchesSpecUptoSaid : Prop := preloadParseMatchesSpecUptoRow.holds Tryz.pinned (OpenSpec.upto preloadParseMatchesSpecSpec)

/-- 'hstsstorelaw24.PreloadFindMatchesSpec', WHERE WHAT IT READS IS OF BULK AT MOST 1048576: true; the input reads as it did. -/
def preloadFindMatchesSpecUptoRow : OpenClaim := { program := "ytelhbgonncceeaagreatdoor", sum := "949772e2387c13f3e520fa73cd3a30e3a5a6e7179e43fe5573bd36537e3e8ced", func := "hstsstore/hstsstorelaw24.PreloadFindMatchesSpec", spec := "preloadFindMatchesSpec", inPlace := ["internal/bytealg.IndexByteString", "internal/bytealg.IndexString", "internal/bytealg.CountString", "slices.overlaps[int]", "internal/abi.NoEscape", "internal/bytealg.MakeNoZero"], unfollowed := true, recurses := true, named := ["unicode/utf8.first", "unicode/utf8.acceptRanges", "internal/bytealg.MaxLen", "internal/strconv.uint64pow10", "math/bits.deBruijn32tab", "math/bits.deBruijn64tab"], apart := false, laid := [("math/bits.deBruijn32tab", laid_math_bits_deBruijn32tab), ("math/bits.deBruijn64tab", laid_math_bits_deBruijn64tab), ("internal/strconv.uint64pow10", laid_internal_strconv_uint64pow10), ("unicode/utf8.acceptRanges", laid_unicode_utf8_acceptRanges), ("unicode/utf8.first", laid_unicode_utf8_first)], narrowed := true }
def PreloadFindMatchesSpecUptoSaid : Prop := preloadFindMatchesSpecUptoRow.holds Tryz.pinned (OpenSpec.upto preloadFindMatchesSpecSpec)

/-- 'hstsstorelaw24.PreloadFindNearest', WHERE WHAT IT READS IS OF BULK AT MOST 1048576: true; the input reads as it did. -/
def preloadFindNearestUptoRow : OpenClaim := { program := "ytelhbgonncceeaagreatdoor", sum := "949772e2387c13f3e520fa73cd3a30e3a5a6e7179e43fe5573bd36537e3e8ced", func := "hstsstore/hstsstorelaw24.PreloadFindNearest", spec := "preloadFindNearest", inPlace := ["internal/bytealg.IndexByteString", "internal/bytealg.IndexString", "internal/bytealg.CountString", "slices.overlaps[int]", "internal/abi.NoEscape", "internal/bytealg.MakeNoZero"], unfollowed := true, recurses := true, named := ["unicode/utf8.first", "unicode/utf8.acceptRanges", "internal/bytealg.MaxLen", "internal/strconv.uint64pow10", "math/bits.deBruijn32tab", "math/bits.deBruijn64tab"], apart := false, laid := [("math/bits.deBruijn32tab", laid_math_bits_deBruijn32tab), ("math/bits.deBruijn64tab", laid_math_bits_deBruijn64tab), ("internal/strconv.uint64pow10", laid_internal_strconv_uint64pow10), ("unicode/utf8.acceptRanges", laid_unicode_utf8_acceptRanges), ("unicode/utf8.first", laid_unicode_utf8_first)], narrowed := true }
def PreloadFindNearestUptoSaid : Prop := preloadFindNearestUptoRow.holds Tryz.pinned (OpenSpec.upto preloadFindNearestSpec)

/-- 'hstsstorelaw24.PreloadNewMatchesSpec', WHERE WHAT IT READS IS OF BULK AT MOST 1048576: true; the input reads as it did. -/
def preloadNewMatchesSpecUptoRow : OpenClaim := { program := "ytelhbgonncceeaagreatdoor", sum := "949772e2387c13f3e520fa73cd3a30e3a5a6e7179e43fe5573bd36537e3e8ced", func := "hstsstore/hstsstorelaw24.PreloadNewMatchesSpec", spec := "preloadNewMatchesSpec", inPlace := ["internal/bytealg.IndexByteString", "internal/bytealg.IndexString", "internal/bytealg.CountString", "slices.overlaps[int]", "internal/abi.NoEscape", "internal/bytealg.MakeNoZero"], unfollowed := true, recurses := true, named := ["unicode/utf8.first", "unicode/utf8.acceptRanges", "internal/bytealg.MaxLen", "internal/strconv.uint64pow10", "math/bits.deBruijn32tab", "math/bits.deBruijn64tab"], apart := false, laid := [("math/bits.deBruijn32tab", laid_math_bits_deBruijn32tab), ("math/bits.deBruijn64tab", laid_math_bits_deBruijn64tab), ("internal/strconv.uint64pow10", laid_internal_strconv_uint64pow10), ("unicode/utf8.acceptRanges", laid_unicode_utf8_acceptRanges), ("unicode/utf8.first", laid_unicode_utf8_first)], narrowed := true }
def PreloadNewMatchesSpecUptoSaid : Prop := preloadNewMatchesSpecUptoRow.holds Tryz.pinned (OpenSpec.upto preloadNewMatchesSpecSpec)

/-- 'hstsstorelaw24.PreloadRoundTrip', WHERE WHAT IT READS IS OF BULK AT MOST 1048576: true; the input reads as it did. -/
def preloadRoundTripUptoRow : OpenClaim := { program := "ytelhbgonncceeaagreatdoor", sum := "949772e2387c13f3e520fa73cd3a30e3a5a6e7179e43fe5573bd36537e3e8ced", func := "hstsstore/hstsstorelaw24.PreloadRoundTrip", spec := "preloadRoundTrip", inPlace := ["internal/bytealg.IndexByteString", "internal/bytealg.IndexString", "internal/bytealg.CountString", "slices.overlaps[int]", "internal/abi.NoEscape", "internal/bytealg.MakeNoZero"], unfollowed := true, recurses := true, named := ["unicode/utf8.first", "unicode/utf8.acceptRanges", "internal/bytealg.MaxLen", "internal/strconv.uint64pow10", "math/bits.deBruijn32tab", "math/bits.deBruijn64tab"], apart := false, laid := [("math/bits.deBruijn32tab", laid_math_bits_deBruijn32tab), ("math/bits.deBruijn64tab", laid_math_bits_deBruijn64tab), ("internal/strconv.uint64pow10", laid_internal_strconv_uint64pow10), ("unicode/utf8.acceptRanges", laid_unicode_utf8_acceptRanges), ("unicode/utf8.first", laid_unicode_utf8_first)], narrowed := true }
def PreloadRoundTripUptoSaid : Prop := preloadRoundTripUptoRow.holds Tryz.pinned (OpenSpec.upto preloadRoundTripSpec)

end Rows
end Go.Proofs.YtelhbgonncceeaaGreatDoor
