/-
  No cell of these rows narrows 'for every input' (looked for: loops, veiled, ifaces, maps, wideKeys, modest, calm, conditions, laid).
  DERIVED. THE GIVEN ROWS OF THIS SEAT. 5 by the template 'for every input the law returns true; each argument reads behind the call as it read before'; 0 by the template 'total and deterministic' (their statements: YtfioahjeanmfpaaTotals.lean).
  GIVEN WITH THE SEED: the statements are not yours to turn. If you find one false, say at which input.
  Laid BY PROGRAM, IN A SANDBOX (cutbox-rows.mjs): the forced cells as the released guide's own fill.sh prints them over the translation afc9b0aea005883d… (all of the seat's roots in one cut). By AI agents, Wed Nov 11 2026. No macro, syntax, notation, axiom, sorry.
-/
import Derived.Test.YtfioahjeanmfpaaChecked
import GoSem.Claim
import GoSem.ClaimJoined
import GoSem.ClaimMapViews
import Derived.JoinedTies
import Derived.KernelRfl
namespace Go.Proofs.Ytfioahjeanmfpaa
/- THE CELL 'sum', in the pinned program and in every row, IS THE sha256 OF THE DUMP (.gsa) THAT YtfioahjeanmfpaaProg.lean LOADS. Nothing in Lean hashes anything: it is a label: what it is worth is what the hold of that sum in a sandbox is worth. -/
noncomputable def Try.pinned : Pinned := { name := "ytfioahjeanmfpaa", sum := "afc9b0aea005883dc138bd956a36a002a83c5c1c44291a7971a8f5ee14a9e600", checked := Try.checked }
namespace Rows
def none {H : Type} : Left H := { results := [], args := [] }

/-- 'hstsstorelaw03.WirePrefixFree': WHATEVER THE INPUT: true; the input reads as it did. -/
def wirePrefixFreeSpec : ChangeSpec := { name := "wirePrefixFree", fn := fun _ => fun
  | [d1, d2] => { results := [.lit (.bool true)], args := [d1, d2] }
  | _ => none }
def wirePrefixFreeRow : OpenClaim := { program := "ytfioahjeanmfpaa", sum := "afc9b0aea005883dc138bd956a36a002a83c5c1c44291a7971a8f5ee14a9e600", func := "hstsstore/hstsstorelaw03.WirePrefixFree", spec := "wirePrefixFree", apart := false }
def WirePrefixFreeSaid : Prop := wirePrefixFreeRow.holds Try.pinned (OpenSpec.ofChange wirePrefixFreeSpec)

/-- ITS FALSE NEIGHBOUR: 'it returns false'. Refute it at one input. -/
def wirePrefixFreeWrong : ChangeSpec := { name := "wirePrefixFree", fn := fun _ => fun
  | [d1, d2] => { results := [.lit (.bool false)], args := [d1, d2] }
  | _ => none }
def WirePrefixFreeWrongFalsely : Prop := wirePrefixFreeRow.holds Try.pinned (OpenSpec.ofChange wirePrefixFreeWrong)

/-- 'hstsstorelaw03.WireEncodesMatchSpec': WHATEVER THE INPUT: true; the input reads as it did. -/
def wireEncodesMatchSpecSpec : ChangeSpec := { name := "wireEncodesMatchSpec", fn := fun _ => fun
  | [d1, d2, d3] => { results := [.lit (.bool true)], args := [d1, d2, d3] }
  | _ => none }
def wireEncodesMatchSpecRow : OpenClaim := { program := "ytfioahjeanmfpaa", sum := "afc9b0aea005883dc138bd956a36a002a83c5c1c44291a7971a8f5ee14a9e600", func := "hstsstore/hstsstorelaw03.WireEncodesMatchSpec", spec := "wireEncodesMatchSpec", apart := false }
def WireEncodesMatchSpecSaid : Prop := wireEncodesMatchSpecRow.holds Try.pinned (OpenSpec.ofChange wireEncodesMatchSpecSpec)

/-- ITS FALSE NEIGHBOUR: 'it returns false'. Refute it at one input. -/
def wireEncodesMatchSpecWrong : ChangeSpec := { name := "wireEncodesMatchSpec", fn := fun _ => fun
  | [d1, d2, d3] => { results := [.lit (.bool false)], args := [d1, d2, d3] }
  | _ => none }
def WireEncodesMatchSpecWrongFalsely : Prop := wireEncodesMatchSpecRow.holds Try.pinned (OpenSpec.ofChange wireEncodesMatchSpecWrong)

/-- 'hstsstorelaw03.WireCanonical': WHATEVER THE INPUT: true; the input reads as it did. -/
def wireCanonicalSpec : ChangeSpec := { name := "wireCanonical", fn := fun _ => fun
  | [d] => { results := [.lit (.bool true)], args := [d] }
  | _ => none }
def wireCanonicalRow : OpenClaim := { program := "ytfioahjeanmfpaa", sum := "afc9b0aea005883dc138bd956a36a002a83c5c1c44291a7971a8f5ee14a9e600", func := "hstsstore/hstsstorelaw03.WireCanonical", spec := "wireCanonical", apart := false }
def WireCanonicalSaid : Prop := wireCanonicalRow.holds Try.pinned (OpenSpec.ofChange wireCanonicalSpec)

/-- ITS FALSE NEIGHBOUR: 'it returns false'. Refute it at one input. -/
def wireCanonicalWrong : ChangeSpec := { name := "wireCanonical", fn := fun _ => fun
  | [d] => { results := [.lit (.bool false)], args := [d] }
  | _ => none }
def WireCanonicalWrongFalsely : Prop := wireCanonicalRow.holds Try.pinned (OpenSpec.ofChange wireCanonicalWrong)

/-- 'hstsstorelaw03.WireDecodesMatchSpec': WHATEVER THE INPUT: true; the input reads as it did. -/
def wireDecodesMatchSpecSpec : ChangeSpec := { name := "wireDecodesMatchSpec", fn := fun _ => fun
  | [d] => { results := [.lit (.bool true)], args := [d] }
  | _ => none }
def wireDecodesMatchSpecRow : OpenClaim := { program := "ytfioahjeanmfpaa", sum := "afc9b0aea005883dc138bd956a36a002a83c5c1c44291a7971a8f5ee14a9e600", func := "hstsstore/hstsstorelaw03.WireDecodesMatchSpec", spec := "wireDecodesMatchSpec", apart := false }
def WireDecodesMatchSpecSaid : Prop := wireDecodesMatchSpecRow.holds Try.pinned (OpenSpec.ofChange wireDecodesMatchSpecSpec)

/-- ITS FALSE NEIGHBOUR: 'it returns false'. Refute it at one input. -/
def wireDecodesMatchSpecWrong : ChangeSpec := { name := "wireDecodesMatchSpec", fn := fun _ => fun
  | [d] => { results := [.lit (.bool false)], args := [d] }
  | _ => none }
def WireDecodesMatchSpecWrongFalsely : Prop := wireDecodesMatchSpecRow.holds Try.pinned (OpenSpec.ofChange wireDecodesMatchSpecWrong)

/-- 'hstsstorelaw03.WireRoundTrip': WHATEVER THE INPUT: true; the input reads as it did. -/
def wireRoundTripSpec : ChangeSpec := { name := "wireRoundTrip", fn := fun _ => fun
  | [d1, d2, d3] => { results := [.lit (.bool true)], args := [d1, d2, d3] }
  | _ => none }
def wireRoundTripRow : OpenClaim := { program := "ytfioahjeanmfpaa", sum := "afc9b0aea005883dc138bd956a36a002a83c5c1c44291a7971a8f5ee14a9e600", func := "hstsstore/hstsstorelaw03.WireRoundTrip", spec := "wireRoundTrip", apart := false }
def WireRoundTripSaid : Prop := wireRoundTripRow.holds Try.pinned (OpenSpec.ofChange wireRoundTripSpec)

/-- ITS FALSE NEIGHBOUR: 'it returns false'. Refute it at one input. -/
def wireRoundTripWrong : ChangeSpec := { name := "wireRoundTrip", fn := fun _ => fun
  | [d1, d2, d3] => { results := [.lit (.bool false)], args := [d1, d2, d3] }
  | _ => none }
def WireRoundTripWrongFalsely : Prop := wireRoundTripRow.holds Try.pinned (OpenSpec.ofChange wireRoundTripWrong)

/- THE SECOND FORM. 'bulk': how many values and letters a reading holds, each counted each time it is reached (what is shared counts as often as it is met; a slice's spare places count too). A statement '..UptoSaid' is the law's where the arguments, and the package variables that the reading takes, are together of bulk at most 1048576: NARROWER than '..Said'. Prove '..Said' where nothing that the law and all that it calls make is longer than what came in: it says more and counts as full. Else prove '..UptoSaid'. A law counts once. -/
mutual
def uptoBulk {H : Type} : DataW H → Nat
  | .lit (.string bytes) => bytes.length + 1
  | .lit _ => 1
  | .nil => 1
  | .ptr d => uptoBulk d + 1
  | .slice elems spare => uptoBulkAll elems + uptoBulkAll spare + 1
  | .agg parts => uptoBulkAll parts + 1
  | .iface _ d => uptoBulk d + 1
  | .map entries => uptoBulkEntries entries + 1
  | .held _ => 1
def uptoBulkAll {H : Type} : List (DataW H) → Nat
  | [] => 0
  | d :: r => uptoBulk d + uptoBulkAll r
def uptoBulkEntries {H : Type} : List (Lit × DataW H) → Nat
  | [] => 0
  | x :: r => uptoBulkEntry x + uptoBulkEntries r
def uptoBulkEntry {H : Type} : Lit × DataW H → Nat
  | (.string bytes, d) => bytes.length + uptoBulk d + 1
  | (_, d) => uptoBulk d + 1
 end
def uptoSmall : (H : Type) → List (DataW H) → Bool := fun _ ds => decide (uptoBulkAll ds ≤ 1048576)
def OpenSpec.upto (s : _root_.Go.ChangeSpec) : _root_.Go.OpenSpec := { _root_.Go.OpenSpec.ofChange s with cond := some uptoSmall }

/-- 'hstsstorelaw03.WirePrefixFree', WHERE WHAT IT READS IS OF BULK AT MOST 1048576: true; the input reads as it did. -/
def wirePrefixFreeUptoRow : OpenClaim := { program := "ytfioahjeanmfpaa", sum := "afc9b0aea005883dc138bd956a36a002a83c5c1c44291a7971a8f5ee14a9e600", func := "hstsstore/hstsstorelaw03.WirePrefixFree", spec := "wirePrefixFree", apart := false, narrowed := true }
def WirePrefixFreeUptoSaid : Prop := wirePrefixFreeUptoRow.holds Try.pinned (OpenSpec.upto wirePrefixFreeSpec)

/-- 'hstsstorelaw03.WireEncodesMatchSpec', WHERE WHAT IT READS IS OF BULK AT MOST 1048576: true; the input reads as it did. -/
def wireEncodesMatchSpecUptoRow : OpenClaim := { program := "ytfioahjeanmfpaa", sum := "afc9b0aea005883dc138bd956a36a002a83c5c1c44291a7971a8f5ee14a9e600", func := "hstsstore/hstsstorelaw03.WireEncodesMatchSpec", spec := "wireEncodesMatchSpec", apart := false, narrowed := true }
def WireEncodesMatchSpecUptoSaid : Prop := wireEncodesMatchSpecUptoRow.holds Try.pinned (OpenSpec.upto wireEncodesMatchSpecSpec)

/-- 'hstsstorelaw03.WireCanonical', WHERE WHAT IT READS IS OF BULK AT MOST 1048576: true; the input reads as it did. -/
def wireCanonicalUptoRow : OpenClaim := { program := "ytfioahjeanmfpaa", sum := "afc9b0aea005883dc138bd956a36a002a83c5c1c44291a7971a8f5ee14a9e600", func := "hstsstore/hstsstorelaw03.WireCanonical", spec := "wireCanonical", apart := false, narrowed := true }
def WireCanonicalUptoSaid : Prop := wireCanonicalUptoRow.holds Try.pinned (OpenSpec.upto wireCanonicalSpec)

/-- 'hstsstorelaw03.WireDecodesMatchSpec', WHERE WHAT IT READS IS OF BULK AT MOST 1048576: true; the input reads as it did. -/
def wireDecodesMatchSpecUptoRow : OpenClaim := { program := "ytfioahjeanmfpaa", sum := "afc9b0aea005883dc138bd956a36a002a83c5c1c44291a7971a8f5ee14a9e600", func := "hstsstore/hstsstorelaw03.WireDecodesMatchSpec", spec := "wireDecodesMatchSpec", apart := false, narrowed := true }
def WireDecodesMatchSpecUptoSaid : Prop := wireDecodesMatchSpecUptoRow.holds Try.pinned (OpenSpec.upto wireDecodesMatchSpecSpec)

/-- 'hstsstorelaw03.WireRoundTrip', WHERE WHAT IT READS IS OF BULK AT MOST 1048576: true; the input reads as it did. -/
def wireRoundTripUptoRow : OpenClaim := { program := "ytfioahjeanmfpaa", sum := "afc9b0aea005883dc138bd956a36a002a83c5c1c44291a7971a8f5ee14a9e600", func := "hstsstore/hstsstorelaw03.WireRoundTrip", spec := "wireRoundTrip", apart := false, narrowed := true }
def WireRoundTripUptoSaid : Prop := wireRoundTripUptoRow.holds Try.pinned (OpenSpec.upto wireRoundTripSpec)

end Rows
end Go.Proofs.Ytfioahjeanmfpaa
