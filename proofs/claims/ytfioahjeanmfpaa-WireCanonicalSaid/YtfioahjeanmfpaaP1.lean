/-
  Plain facts on bytes, integers and the evaluator's words.
-/
import Derived.Test.YtfioahjeanmfpaaE33
import Derived.KernelRfl
namespace Go.Proofs.Ytfioahjeanmfpaa.E
open Go
set_option linter.unusedVariables false


theorem elU8_u8el (b : UInt8) : elU8 (u8el b) = b := by
  simp [elU8, u8el, SV.gI]

theorem map_elU8 (l : List UInt8) : (l.map u8el).map elU8 = l := by
  rw [List.map_map]
  have : elU8 ∘ u8el = id := by funext b; exact elU8_u8el b
  rw [this, List.map_id]

theorem isU8_u8el (b : UInt8) : isU8 (u8el b) = true := by
  have := b.toNat_lt
  simp only [isU8, u8el, Bool.and_eq_true, decide_eq_true_eq]
  omega

theorem all_isU8 (l : List UInt8) : (l.map u8el).all isU8 = true := by
  rw [List.all_map]
  simp [Function.comp_def, isU8_u8el]

theorem u8_of_isU8 {e : List SV} (h : isU8 e = true) : u8el (elU8 e) = e := by
  unfold isU8 at h
  split at h
  · rename_i n
    simp only [Bool.and_eq_true, decide_eq_true_eq] at h
    simp only [u8el, elU8, List.getD_cons_zero, SV.gI]
    have e1 : ((UInt8.ofNat n.toNat).toNat : Int) = n := by
      simp
      omega
    rw [e1]
  · cases h

/-- Elements that are bytes. -/
theorem bytes_of_all {l : List (List SV)} (h : l.all isU8 = true) : ∃ bs : List UInt8, l = bs.map u8el := by
  refine ⟨l.map elU8, ?_⟩
  rw [List.map_map]
  rw [List.all_eq_true] at h
  symm
  rw [List.map_congr_left (g := id)]
  · simp
  · intro x hx
    exact u8_of_isU8 (h x hx)

theorem bytes_of_Ty {l : List (List SV)} (h : ∀ el ∈ l, Ty.ofL [.int .u8] el) : ∃ bs : List UInt8, l = bs.map u8el := by
  refine bytes_of_all (List.all_eq_true.2 fun el hel => ?_)
  have := h el hel
  simp only [Ty.ofL, Ty.of] at this
  obtain ⟨v, q, rfl, ⟨n, rfl, h1, h2⟩, rfl⟩ := this
  simp only [IntKind.min, IntKind.max, IntKind.signed, IntKind.bits] at h1 h2
  simp only [isU8, Bool.and_eq_true, decide_eq_true_eq]
  simp at h1 h2
  omega

theorem gI_u8 (bs : List UInt8) (i : Nat) : SV.gI (List.getD (List.getD (bs.map u8el) i []) 0 SV.nilp) = ((bs.getD i 0).toNat : Int) := by
  by_cases h : i < bs.length
  · simp [List.getD_eq_getElem?_getD, List.getElem?_map, List.getElem?_eq_getElem h, u8el, SV.gI]
  · have : bs.length ≤ i := by omega
    simp [List.getD_eq_getElem?_getD, List.getElem?_map, List.getElem?_eq_none this, SV.gI]

theorem okS_u8 (bs : List UInt8) (i : Nat) (h : i < bs.length) : okS (TI.mk true false [CK.int IntKind.u8]) (List.getD (bs.map u8el) i []) 0 = true := by
  simp [okS, List.getD_eq_getElem?_getD, List.getElem?_map, List.getElem?_eq_getElem h, u8el, SV.has]

theorem wrapu8 (n : Nat) : IntKind.wrap .u8 (n : Int) = ((n % 256 : Nat) : Int) := by simp [IntKind.wrap, IntKind.bits, IntKind.signed]
theorem wrapu16 (n : Nat) : IntKind.wrap .u16 (n : Int) = ((n % 65536 : Nat) : Int) := by simp [IntKind.wrap, IntKind.bits, IntKind.signed]
theorem wrapu32 (n : Nat) : IntKind.wrap .u32 (n : Int) = ((n % 4294967296 : Nat) : Int) := by simp [IntKind.wrap, IntKind.bits, IntKind.signed]
theorem wrapu64 (n : Nat) : IntKind.wrap .u64 (n : Int) = ((n % 18446744073709551616 : Nat) : Int) := by simp [IntKind.wrap, IntKind.bits, IntKind.signed]
theorem wrapi64 (n : Int) (h0 : -9223372036854775808 ≤ n) (h1 : n < 9223372036854775808) : IntKind.wrap .i64 n = n := by
  simp [IntKind.wrap, IntKind.bits, IntKind.signed]
  split <;> omega
theorem wrapi64n (n : Nat) (h1 : n < 9223372036854775808) : IntKind.wrap .i64 (n : Int) = (n : Int) := wrapi64 _ (by omega) (by omega)
theorem wrapi64s (n : Nat) (h1 : n + 1 < 9223372036854775808) : IntKind.wrap .i64 ((n : Int) + 1) = ((n + 1 : Nat) : Int) := by rw [wrapi64 _ (by omega) (by omega)]; rfl

theorem fdiv_nat (n m : Nat) : Int.fdiv (n : Int) (m : Int) = ((n / m : Nat) : Int) := by
  rw [Int.fdiv_eq_ediv_of_nonneg _ (by omega)]
  rfl
theorem tdiv_nat (n m : Nat) : Int.tdiv (n : Int) (m : Int) = ((n / m : Nat) : Int) := by
  rw [Int.tdiv_eq_ediv_of_nonneg (by omega)]
  rfl
theorem tmod_nat (n m : Nat) : Int.tmod (n : Int) (m : Int) = ((n % m : Nat) : Int) := by
  rw [Int.tmod_eq_emod_of_nonneg (by omega)]
  rfl

theorem bvor (w a b : Nat) (ha : a < 2 ^ w) (hb : b < 2 ^ w) : (BitVec.ofInt w (a : Int) ||| BitVec.ofInt w (b : Int)).toNat = a ||| b := by
  simp [BitVec.ofInt_natCast, Nat.mod_eq_of_lt ha, Nat.mod_eq_of_lt hb]
theorem bvand (w a b : Nat) (ha : a < 2 ^ w) (hb : b < 2 ^ w) : (BitVec.ofInt w (a : Int) &&& BitVec.ofInt w (b : Int)).toNat = a &&& b := by
  simp [BitVec.ofInt_natCast, Nat.mod_eq_of_lt ha, Nat.mod_eq_of_lt hb]

theorem or128 (x : Nat) (h : x < 256) : x ||| 128 = x % 128 + 128 := by
  have : ∀ x : Fin 256, (x.val ||| 128) = x.val % 128 + 128 := by decide +kernel
  exact this ⟨x, h⟩
theorem and127 (x : Nat) (h : x < 256) : x &&& 127 = x % 128 := by
  have : ∀ x : Fin 256, (x.val &&& 127) = x.val % 128 := by decide +kernel
  exact this ⟨x, h⟩

theorem or_add (a b i : Nat) (h : a < 2 ^ i) : a ||| (b * 2 ^ i) = a + b * 2 ^ i := by
  rw [Nat.mul_comm b, Nat.or_comm, Nat.add_comm]
  exact (Nat.two_pow_add_eq_or_of_lt h b).symm

theorem u8el_ofNat (n : Nat) : u8el (UInt8.ofNat n) = [SV.int .u8 ((n % 256 : Nat) : Int)] := by simp [u8el]

end Go.Proofs.Ytfioahjeanmfpaa.E
