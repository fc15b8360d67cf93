/-
  Wire: words of the contracts.
-/
import Derived.Test.YtfioahjeanmfpaaQ1
namespace Go.Proofs.Ytfioahjeanmfpaa.E
open Go
set_option linter.unusedVariables false

def encB (v : Nat) : LL := (enc v).map u8el
def fix4L (v : Int) : LL := [[.int .u8 (wu8 v)], [.int .u8 (wu8 (shrI .u32 v 8))], [.int .u8 (wu8 (shrI .u32 v 16))], [.int .u8 (wu8 (shrI .u32 v 24))]]
/-- A number below 'n' (so spelt that the kernel stops at an open number). -/
def ltN (v : Int) (n : Nat) : Bool := match v with
  | .ofNat m => Nat.ble (m + 1) n
  | .negSucc _ => false
theorem ltN_iff {v : Int} {n : Nat} : ltN v n = true ↔ 0 ≤ v ∧ v < (n : Int) := by
  cases v with
  | ofNat m =>
    simp only [ltN, Nat.ble_eq, Int.ofNat_eq_natCast]
    omega
  | negSucc m =>
    refine ⟨fun h => (by cases h), fun h => ?_⟩
    have := Int.negSucc_lt_zero m
    omega
def u64ok (v : Int) : Bool := ltN v 18446744073709551616
def small (n : Nat) : Bool := decide (n ≤ 1000000000)
theorem small_iff {n : Nat} : small n = true ↔ n ≤ 1000000000 := by simp [small]
theorem u64ok_iff {v : Int} : u64ok v = true ↔ 0 ≤ v ∧ v < 18446744073709551616 := by
  unfold u64ok; exact ltN_iff

theorem encPre_len {v : Nat} (h : v < 18446744073709551616) : (encPre v).length ≤ 9 := by
  have := (enc_len64 h).2
  have e := (enc_split v).1
  rw [e] at this
  simpa using this

end Go.Proofs.Ytfioahjeanmfpaa.E
