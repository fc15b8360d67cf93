/-
  Plain facts on the evaluator's words, in natural numbers.
-/
import Derived.Test.YtfioahjeanmfpaaC0
namespace Go.Proofs.Ytfioahjeanmfpaa.E
open Go
set_option linter.unusedVariables false

theorem roomy_iff {n : Nat} : roomy n = true ↔ n ≤ 68719476736 := by simp [roomy]
theorem roomy_of {n : Nat} (h : n ≤ 68719476736) : roomy n = true := roomy_iff.2 h

theorem ltI_t {a b : Int} (h : a < b) : ltI a b = true := by rw [ltI_eq]; simpa using h
theorem ltI_f {a b : Int} (h : b ≤ a) : ltI a b = false := by rw [ltI_eq]; simpa using h
theorem ltI_iff {a b : Int} : ltI a b = true ↔ a < b := by rw [ltI_eq]; simp
theorem ltI_niff {a b : Int} : ltI a b = false ↔ b ≤ a := by rw [ltI_eq]; simp

theorem wi64_id {n : Int} (h0 : -9223372036854775808 ≤ n) (h1 : n < 9223372036854775808) : wi64 n = n := wrapi64 n h0 h1
theorem wu64_id {n : Int} (h0 : 0 ≤ n) (h1 : n < 18446744073709551616) : wu64 n = n := by
  obtain ⟨m, rfl⟩ := Int.eq_ofNat_of_zero_le h0
  unfold wu64; rw [wrapu64, Nat.mod_eq_of_lt (by omega)]
theorem wu32_id {n : Int} (h0 : 0 ≤ n) (h1 : n < 4294967296) : wu32 n = n := by
  obtain ⟨m, rfl⟩ := Int.eq_ofNat_of_zero_le h0
  unfold wu32; rw [wrapu32, Nat.mod_eq_of_lt (by omega)]
theorem wu16_id {n : Int} (h0 : 0 ≤ n) (h1 : n < 65536) : wu16 n = n := by
  obtain ⟨m, rfl⟩ := Int.eq_ofNat_of_zero_le h0
  unfold wu16; rw [wrapu16, Nat.mod_eq_of_lt (by omega)]
theorem wu8_id {n : Int} (h0 : 0 ≤ n) (h1 : n < 256) : wu8 n = n := by
  obtain ⟨m, rfl⟩ := Int.eq_ofNat_of_zero_le h0
  unfold wu8; rw [wrapu8, Nat.mod_eq_of_lt (by omega)]
theorem wu8_nat (n : Nat) : wu8 (n : Int) = ((n % 256 : Nat) : Int) := wrapu8 n
theorem wu16_nat (n : Nat) : wu16 (n : Int) = ((n % 65536 : Nat) : Int) := wrapu16 n
theorem wu32_nat (n : Nat) : wu32 (n : Int) = ((n % 4294967296 : Nat) : Int) := wrapu32 n
theorem wu64_nat (n : Nat) : wu64 (n : Int) = ((n % 18446744073709551616 : Nat) : Int) := wrapu64 n

theorem shr_nat (k : IntKind) (a m : Nat) (h : m ≤ k.bits) : shrI k (a : Int) (m : Int) = ((a / 2 ^ m : Nat) : Int) := by
  unfold shrI
  rw [Int.toNat_natCast, Nat.min_eq_left h]
  have : (2 : Int) ^ m = ((2 ^ m : Nat) : Int) := by simp
  rw [this, fdiv_nat]

theorem bOr8 (a b : Nat) (ha : a < 256) (hb : b < 256) : bOr .u8 (a : Int) (b : Int) = ((a ||| b : Nat) : Int) := by
  unfold bOr
  have := bvor 8 a b (by omega) (by omega)
  rw [show IntKind.bits .u8 = 8 from rfl, this, wrapu8]
  have hlt : a ||| b < 2 ^ 8 := Nat.or_lt_two_pow (by omega) (by omega)
  omega
theorem bAnd8 (a b : Nat) (ha : a < 256) (hb : b < 256) : bAnd .u8 (a : Int) (b : Int) = ((a &&& b : Nat) : Int) := by
  unfold bAnd
  have := bvand 8 a b (by omega) (by omega)
  rw [show IntKind.bits .u8 = 8 from rfl, this, wrapu8]
  have hlt : a &&& b < 2 ^ 8 := Nat.and_lt_two_pow _ (by omega)
  omega

theorem u8el_nat {n : Nat} (h : n < 256) : [SV.int .u8 (n : Int)] = u8el (UInt8.ofNat n) := by
  rw [u8el_ofNat, Nat.mod_eq_of_lt h]

theorem sub3_t {l h : Int} {n : Nat} (h0 : 0 ≤ l) (h1 : l ≤ h) (h2 : h ≤ n) : sub3 l h n = true := by simp [sub3, h0, h1, h2]
theorem inR_t {i : Int} {n : Nat} (h0 : 0 ≤ i) (h1 : i < n) : inR i n = true := by simp [inR, h0, h1]

theorem okE_u8 (bs : List UInt8) (i : Nat) (h : i < bs.length) : okE tU8 (bs.map u8el) i 0 = true := by
  unfold okE
  rw [show okS tU8 ((bs.map u8el).getD i []) 0 = true from okS_u8 bs i h]
  simpa using h
theorem gE_u8 (bs : List UInt8) (i : Nat) : gE (bs.map u8el) i 0 = ((bs.getD i 0).toNat : Int) := gI_u8 bs i

theorem plE_u8 (bs : List UInt8) : plE (bs.map u8el) = true := by
  simp [plE, u8el, SV.plain]
theorem plE_app (a b : LL) : plE (a ++ b) = (plE a && plE b) := by simp [plE, List.all_append]
theorem isU8_app (a b : LL) : (a ++ b).all isU8 = (a.all isU8 && b.all isU8) := List.all_append

end Go.Proofs.Ytfioahjeanmfpaa.E
