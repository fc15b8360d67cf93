/-
  Wire: the evaluator's settings.
-/
import Derived.Test.YtfioahjeanmfpaaP1
import Derived.Test.YtfioahjeanmfpaaProg
import Derived.KernelRfl
namespace Go.Proofs.Ytfioahjeanmfpaa.E
open Go
set_option linter.unusedVariables false

/-- No package-level variables. -/
def G0 : GT := ⟨fun _ => none, fun _ => false⟩

/-- Settings with tables of known results and of slots that are read later. -/
noncomputable def mkCfg (lf : Nat) (okf : List Nat) (keep : Nat → Option (List Nat)) (X : List (Nat × (List PV → Tr))) (keepR : Nat → Option (List Nat) := fun _ => none) (xp : List Nat := []) (keepE : Nat → Option (List Nat) := fun _ => none) (keepT : Option (List Nat) := none) (Y : List (Nat × (List PV → List Blk → Tr)) := []) (S : List (Nat × (List PV → List Blk → Option (Bool × List (List PV)))) := []) (lend : List Nat := []) : Cfg :=
  { P := Try.prog, G := G0, X := tblX X, lend := okL lend, okf := okL okf, lf := lf, keep := keep, keepR := keepR, xp := okL xp, keepE := keepE, keepT := keepT, Y := tblG Y, S := tblG S }

theorem follows : Try.prog.follows .mixedOrders = true := by kernel_rfl

end Go.Proofs.Ytfioahjeanmfpaa.E
