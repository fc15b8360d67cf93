/-
  Wire: the evaluator's settings.
-/
import Derived.Test.YtfioahjeanmfpaaP1
import Derived.Test.YtfioahjeanmfpaaProg
import Derived.KernelRfl
namespace Go.Proofs.Ytfioahjeanmfpaa.E
open Go
set_option linter.unusedVariables false

/-- Settings with tables of known results and of slots that nobody reads at a loop. -/
noncomputable def mkCfg (lf : Nat) (okf : List Nat) (keep : Nat → Option (List Nat)) (X : List (Nat × (List PV → Tr))) (keepR : Nat → Option (List Nat) := fun _ => none) (xp : List Nat := []) : Cfg := { P := Try.prog, G := fun _ => none, X := tblX X, lend := fun _ => false, okf := okL okf, lf := lf, keep := keep, keepR := keepR, xp := okL xp }

theorem follows : Try.prog.follows .mixedOrders = true := by kernel_rfl

end Go.Proofs.Ytfioahjeanmfpaa.E
