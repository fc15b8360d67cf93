/-
  Wire: the reference's decoding; fixed numbers.
-/
import Derived.Test.YtfioahjeanmfpaaW2
namespace Go.Proofs.Ytfioahjeanmfpaa.E
open Go Go.Proofs
set_option linter.unusedVariables false
set_option linter.unusedSimpArgs false
set_option maxRecDepth 100000

section
variable {σ R : Type} (lf : Nat) (cl : CallT) (yh : Yh σ) (s : σ) (z t : Bool) (b : List UInt8)

/-- The first loop's state. -/
def rS1 (i : Int) : St σ := ⟨([PV.s (SV.sl z t 1 (List.map u8el b)), .bad, PV.s (SV.int IntKind.u64 0), PV.s (SV.int IntKind.i64 0), PV.s (SV.int IntKind.i64 0), PV.s (SV.int IntKind.u64 0), PV.s (SV.int IntKind.i64 i)] ++ bds 58), [], s⟩
/-- The second loop's state. -/
def rS2 (v n i : Int) : St σ := ⟨([PV.s (SV.sl z t 1 (List.map u8el b)), .bad, PV.s (SV.int IntKind.u64 0), PV.s (SV.int IntKind.i64 0), PV.s (SV.int IntKind.i64 0), PV.s (SV.int IntKind.u64 v), PV.s (SV.int IntKind.i64 n), PV.s (SV.int IntKind.i64 i)] ++ bds 57), [], s⟩
noncomputable def rL1 (n : Nat) (st : St σ) (k : Out → St σ → Option R) : Option R := loopK 0 ((cfgRDU lf).keep 3) (bd (cfgRDU lf) cl yh (cd [1, 1, 1, 0, 0, 0] (bodyOf Try.f19))) n st k
noncomputable def rL2 (n : Nat) (st : St σ) (k : Out → St σ → Option R) : Option R := loopK 0 ((cfgRDU lf).keep 14) (bd (cfgRDU lf) cl yh (cd [1, 1, 1, 1, 1, 1, 1, 1, 0, 1, 0, 0] (bodyOf Try.f19))) n st k

theorem rL1_step (fu : Nat) (k : Out → St σ → Option R) (i : Nat) (hi : i ≤ 10) : rL1 lf cl yh (fu + 1) (rS1 s z t b (i : Int)) k =
    if i < 10 ∧ i < b.length ∧ 128 ≤ (b.getD i 0).toNat then rL1 lf cl yh fu (rS1 s z t b ((i + 1 : Nat) : Int)) k else k (.exit 0) (rS1 s z t b (i : Int)) := by
  have hs := rdec_step lf cl yh s fu k z t b i
  simp only [Int.ofNat_eq_natCast, Int.toNat_natCast, gI_u8, List.length_map] at hs
  refine hs.trans ?_
  by_cases h1 : i < 10
  · rw [show decide ((i : Int) < 10) = true by simp; omega, cond_true]
    by_cases h2 : i < b.length
    · rw [show decide ((i : Int) < (b.length : Int)) = true by simpa using h2, show decide (0 ≤ (i : Int)) = true by simp, show decide (i < b.length) = true by simpa using h2, okS_u8 b i h2]
      simp only [Bool.and_true, cond_true]
      by_cases h3 : 128 ≤ (b.getD i 0).toNat
      · rw [if_pos ⟨h1, h2, h3⟩, show decide ((((b.getD i 0).toNat : Nat) : Int) ≥ 128) = true from decide_eq_true (by omega), cond_true, wrapi64s i (by omega)]
        rfl
      · rw [if_neg (fun q => h3 q.2.2), show decide ((((b.getD i 0).toNat : Nat) : Int) ≥ 128) = false from decide_eq_false (by omega), cond_false]
        rfl
    · rw [if_neg (fun q => h2 q.2.1), show decide ((i : Int) < (b.length : Int)) = false by simp; omega, cond_false]
      rfl
  · rw [if_neg (fun q => h1 q.1), show decide ((i : Int) < 10) = false by simp; omega, cond_false]
    rfl

theorem rL1_run (k : Out → St σ → Option R) : ∀ (m i n : Nat), m = 10 - i → i ≤ 10 → i ≤ b.length → 10 < n + i → rL1 lf cl yh n (rS1 s z t b (i : Int)) k = k (.exit 0) (rS1 s z t b ((i + cntB (b.drop i) (10 - i) : Nat) : Int)) := by
  intro m
  induction m with
  | zero =>
    intro i n hm hi hb hn
    obtain ⟨n, rfl⟩ : ∃ m, n = m + 1 := ⟨n - 1, by omega⟩
    have : 10 - i = 0 := by omega
    rw [rL1_step lf cl yh s z t b n k i hi, if_neg (by omega), this]
    simp [cntB]
  | succ m ih =>
    intro i n hm hi hb hn
    obtain ⟨n, rfl⟩ : ∃ m, n = m + 1 := ⟨n - 1, by omega⟩
    rw [rL1_step lf cl yh s z t b n k i hi]
    have hm' : 10 - i = m + 1 := hm.symm
    rw [hm']
    by_cases h2 : i < b.length
    · have hd : b.drop i = b.getD i 0 :: b.drop (i + 1) := by
        rw [List.drop_eq_getElem_cons h2]
        simp [List.getD_eq_getElem?_getD, List.getElem?_eq_getElem h2]
      rw [hd]
      simp only [cntB]
      by_cases h3 : 128 ≤ (b.getD i 0).toNat
      · rw [if_pos ⟨by omega, h2, h3⟩, if_pos h3, ih (i + 1) n (by omega) (by omega) (by omega) (by omega)]
        have : 10 - (i + 1) = m := by omega
        rw [this]
        congr 2
        omega
      · rw [if_neg (fun q => h3 q.2.2), if_neg h3]
        rfl
    · rw [if_neg (fun q => h2 q.2.1)]
      have : b.drop i = [] := List.drop_eq_nil_of_le (by omega)
      rw [this, cntB_nil]
      rfl

theorem hv_drop (l : List UInt8) (m : Nat) : hv (l.drop m) ≤ hv l := by
  induction m generalizing l with
  | zero => simp
  | succ m ih =>
    cases l with
    | nil => simp
    | cons c r =>
      simp only [List.drop_succ_cons, hv]
      have := ih r
      omega

theorem rL2_step (fu : Nat) (k : Out → St σ → Option R) (N v m : Nat) (hm : m ≤ b.length) (hv : v * 128 + (b.getD (m - 1) 0).toNat % 128 < 18446744073709551616) (hml : m < 1000) : rL2 lf cl yh (fu + 1) (rS2 s z t b (v : Int) (N : Int) ((m : Int) - 1)) k =
    if 0 < m then rL2 lf cl yh fu (rS2 s z t b ((v * 128 + (b.getD (m - 1) 0).toNat % 128 : Nat) : Int) (N : Int) (((m - 1 : Nat) : Int) - 1)) k else k (.exit 2) (rS2 s z t b (v : Int) (N : Int) ((m : Int) - 1)) := by
  have hs := rdec_step2 lf cl yh s fu k z t b N v ((m : Int) - 1)
  refine hs.trans ?_
  by_cases h : 0 < m
  · have hi : (m : Int) - 1 = ((m - 1 : Nat) : Int) := by omega
    rw [if_pos h]
    simp only [hi, Int.ofNat_eq_natCast, Int.toNat_natCast, gI_u8, List.length_map]
    have hlt : m - 1 < b.length := by omega
    rw [show decide ((((m - 1 : Nat)) : Int) ≥ 0) = true by simp, show decide ((((m - 1 : Nat)) : Int) < (b.length : Int)) = true by simp; omega, show decide (m - 1 < b.length) = true by simpa using hlt, okS_u8 b (m - 1) hlt]
    simp only [Bool.and_true, cond_true]
    have e1 : IntKind.wrap IntKind.u64 ((v : Int) * 128) = ((v * 128 : Nat) : Int) := by
      rw [show (v : Int) * 128 = ((v * 128 : Nat) : Int) by simp, wrapu64, Nat.mod_eq_of_lt (by omega)]
    have hc := (b.getD (m - 1) 0).toNat_lt
    have e2 : IntKind.wrap IntKind.u64 (Int.tmod (((b.getD (m - 1) 0).toNat : Nat) : Int) 128) = (((b.getD (m - 1) 0).toNat % 128 : Nat) : Int) := by
      rw [show (128 : Int) = ((128 : Nat) : Int) from rfl, tmod_nat, wrapu64, Nat.mod_eq_of_lt (by omega)]
    have e3 : IntKind.wrap IntKind.i64 ((((m - 1 : Nat)) : Int) - 1) = (((m - 1 : Nat) : Int) - 1) := wrapi64 _ (by omega) (by omega)
    rw [e1, e2, e3, show ((v * 128 : Nat) : Int) + (((b.getD (m - 1) 0).toNat % 128 : Nat) : Int) = ((v * 128 + (b.getD (m - 1) 0).toNat % 128 : Nat) : Int) by simp, wrapu64, Nat.mod_eq_of_lt hv]
    rfl
  · rw [if_neg h]
    have : m = 0 := by omega
    subst this
    rfl

theorem rL2_run (k : Out → St σ → Option R) (N : Nat) (hN : N < b.length) (hN9 : N ≤ 9) (hB : hv (b.take (N + 1)) < 18446744073709551616) : ∀ (m n : Nat), m ≤ N + 1 → m < n → rL2 lf cl yh n (rS2 s z t b (hv ((b.take (N + 1)).drop m) : Int) (N : Int) ((m : Int) - 1)) k = k (.exit 2) (rS2 s z t b (hv (b.take (N + 1)) : Int) (N : Int) (-1)) := by
  intro m
  induction m with
  | zero =>
    intro n _ hn
    obtain ⟨n, rfl⟩ : ∃ m, n = m + 1 := ⟨n - 1, by omega⟩
    have hs := rdec_step2 lf cl yh s n k z t b N (hv (b.take (N + 1))) (-1)
    exact hs
  | succ m ih =>
    intro n hm hn
    obtain ⟨n, rfl⟩ : ∃ m, n = m + 1 := ⟨n - 1, by omega⟩
    have hlt : m < (b.take (N + 1)).length := by simp; omega
    have hd : (b.take (N + 1)).drop m = b.getD m 0 :: (b.take (N + 1)).drop (m + 1) := by
      rw [List.drop_eq_getElem_cons hlt]
      have hmb : m < b.length := by omega
      simp [List.getD_eq_getElem?_getD, List.getElem?_eq_getElem hmb]
    have e : hv ((b.take (N + 1)).drop (m + 1)) * 128 + (b.getD m 0).toNat % 128 = hv ((b.take (N + 1)).drop m) := by
      rw [hd]; simp only [hv]; omega
    have hle := hv_drop (b.take (N + 1)) m
    rw [rL2_step lf cl yh s z t b n k N _ (m + 1) (by omega) (by rw [Nat.add_sub_cancel, e]; omega) (by omega), if_pos (by omega), Nat.add_sub_cancel, e]
    exact ih n (by omega) (by omega)

theorem hv_append (x y : List UInt8) : hv (x ++ y) = hv x + 128 ^ x.length * hv y := by
  induction x with
  | nil => simp [hv]
  | cons c r ih =>
    simp only [List.cons_append, hv, ih, List.length_cons, Nat.pow_succ]
    rw [Nat.mul_add, Nat.add_assoc, ← Nat.mul_assoc, Nat.mul_comm (128 ^ r.length) 128]

/-- What the reference computes does not overflow. -/
theorem hv_bound (N : Nat) (hN : N < b.length) (hN9 : N ≤ 9) (h9 : N = 9 → (b.getD 9 0).toNat ≤ 1) : hv (b.take (N + 1)) < 18446744073709551616 := by
  have e : b.take (N + 1) = b.take N ++ [b.getD N 0] := by
    rw [List.take_add_one, List.getElem?_eq_getElem hN]
    simp [List.getD_eq_getElem?_getD, List.getElem?_eq_getElem hN]
  have hl : (b.take N).length = N := by simp; omega
  have h1 := hv_lt (b.take N)
  rw [e, hv_append, hl]
  rw [hl] at h1
  simp only [hv, Nat.mul_zero, Nat.add_zero]
  by_cases h : N = 9
  · subst h
    have := h9 rfl
    have h2 : (b.getD 9 0).toNat % 128 ≤ 1 := by omega
    have : 128 ^ 9 * ((b.getD 9 0).toNat % 128) ≤ 128 ^ 9 * 1 := Nat.mul_le_mul (Nat.le_refl _) h2
    omega
  · have h2 : 128 ^ N ≤ 128 ^ 8 := Nat.pow_le_pow_right (by omega) (by omega)
    have h3 : (b.getD N 0).toNat % 128 ≤ 127 := by omega
    have : 128 ^ N * ((b.getD N 0).toNat % 128) ≤ 128 ^ 8 * 127 := Nat.mul_le_mul h2 h3
    omega

end

end Go.Proofs.Ytfioahjeanmfpaa.E
