/-
  Wire: contracts of the functions that encode.
-/
import Derived.Test.YtfioahjeanmfpaaG1
namespace Go.Proofs.Ytfioahjeanmfpaa.E
open Go Go.Proofs
set_option linter.unusedVariables false
set_option maxRecDepth 100000

theorem cast_ge (v : Nat) (m : Nat) : decide ((v : Int) ≥ (m : Int)) = decide (m ≤ v) := by
  by_cases h : m ≤ v <;> simp [h]

theorem byteOr (v : Nat) : [SV.int IntKind.u8 (IntKind.wrap IntKind.u8 (Int.ofNat (BitVec.toNat (BitVec.ofInt 8 (IntKind.wrap IntKind.u8 (Int.ofNat v)) ||| BitVec.ofInt 8 128))))] = u8el (UInt8.ofNat (v % 128 + 128)) := by
  simp only [Int.ofNat_eq_natCast]
  rw [wrapu8 v, show (128 : Int) = ((128 : Nat) : Int) from rfl, bvor 8 _ _ (by omega) (by omega), or128 _ (by omega), wrapu8, u8el_ofNat]
  have : v % 256 % 128 = v % 128 := by omega
  rw [this]

theorem byteLow (v : Nat) : [SV.int IntKind.u8 (IntKind.wrap IntKind.u8 (Int.ofNat v))] = u8el (UInt8.ofNat v) := by
  rw [Int.ofNat_eq_natCast, wrapu8, u8el_ofNat]

theorem encPre_len {v : Nat} (h : v < 18446744073709551616) : (encPre v).length ≤ 9 := by
  have h1 := enc_len64 h
  rw [(enc_split v).1, List.length_append] at h1
  simp at h1
  omega

theorem encB_split (v : Nat) : encB v = (encPre v).map u8el ++ [u8el (UInt8.ofNat (encLast v))] := by
  rw [encB, (enc_split v).1]
  simp

theorem app_loop {σ R : Type} (lf : Nat) (cl : CallT) (yh : Yh σ) (s : σ) (k : Out → St σ → Option R) (z : Bool) : ∀ (v n : Nat) (l : List (List SV)), v < n → l.length + (encPre v).length ≤ 68719476736 →
    loopK 3 ((cfgApp lf).keep 2) (bd (cfgApp lf) cl yh (cd [1, 1, 0, 0, 0] (bodyOf Try.f8))) n ⟨([.bad, PV.s (SV.int IntKind.u64 (v : Int)), .bad, .bad, PV.fl 0, PV.fl 2] ++ bds 17), [Blk.arr true 0 0 [], Blk.dead, Blk.arr z 5 1 l], s⟩ k =
      k (.exit 0) ⟨([.bad, PV.s (SV.int IntKind.u64 (encLast v : Int)), .bad, .bad, PV.fl 0, PV.fl 2] ++ bds 17), [Blk.arr true 0 0 [], Blk.dead, Blk.arr z 5 1 (l ++ (encPre v).map u8el)], s⟩ := by
  intro v
  induction v using Nat.strongRecOn with
  | _ v ih =>
    intro n l hn hl
    obtain ⟨n, rfl⟩ : ∃ m, n = m + 1 := ⟨n - 1, by omega⟩
    have hs := app_step lf cl yh s n k z l v
    simp only [Int.ofNat_eq_natCast] at hs ⊢
    rw [hs]
    by_cases h : v < 128
    · rw [show decide ((v : Int) ≥ 128) = false by simp; omega, cond_false, encPre_small h, encLast_small h, List.map_nil, List.append_nil]
    · rw [encPre_big h] at hl ⊢
      rw [encLast_big h]
      simp only [List.length_cons] at hl
      rw [show decide ((v : Int) ≥ 128) = true by simp; omega, cond_true, show decide (l.length + 1 ≤ 68719476736) = true by simp; omega, cond_true, show (128 : Int) = ((128 : Nat) : Int) from rfl, fdiv_nat]
      have hb := byteOr v
      simp only [Int.ofNat_eq_natCast] at hb
      rw [show ((128 : Nat) : Int) = (128 : Int) from rfl, hb, ih (v / 128) (by omega) n _ (by omega) (by simp; omega)]
      simp

theorem ruint_loop {σ R : Type} (lf : Nat) (cl : CallT) (yh : Yh σ) (s : σ) (k : Out → St σ → Option R) : ∀ (v n : Nat) (l : List (List SV)), v < n → v < 18446744073709551616 → l.length + (encPre v).length ≤ 68719476736 →
    loopK 2 ((cfgRU lf).keep 2) (bd (cfgRU lf) cl yh (cd [1, 1, 0, 0, 0] (bodyOf Try.f14))) n ⟨([PV.s (SV.int IntKind.u64 (v : Int)), .bad, PV.fl 0, PV.fl 1] ++ bds 16), [Blk.arr true 0 0 [], Blk.arr true 5 1 l], s⟩ k =
      k (.exit 0) ⟨([PV.s (SV.int IntKind.u64 (encLast v : Int)), .bad, PV.fl 0, PV.fl 1] ++ bds 16), [Blk.arr true 0 0 [], Blk.arr true 5 1 (l ++ (encPre v).map u8el)], s⟩ := by
  intro v
  induction v using Nat.strongRecOn with
  | _ v ih =>
    intro n l hn hv hl
    obtain ⟨n, rfl⟩ : ∃ m, n = m + 1 := ⟨n - 1, by omega⟩
    have hs := ruint_step lf cl yh s n k v l
    simp only [Int.ofNat_eq_natCast] at hs ⊢
    rw [hs]
    by_cases h : v < 128
    · rw [show decide ((v : Int) ≥ 128) = false by simp; omega, cond_false, encPre_small h, encLast_small h, List.map_nil, List.append_nil]
    · rw [encPre_big h] at hl ⊢
      rw [encLast_big h]
      simp only [List.length_cons] at hl
      rw [show decide ((v : Int) ≥ 128) = true by simp; omega, cond_true, show decide (l.length + 1 ≤ 68719476736) = true by simp; omega, cond_true, show (128 : Int) = ((128 : Nat) : Int) from rfl, tdiv_nat, tmod_nat, wrapu64, Nat.mod_eq_of_lt (by omega : v / 128 < 18446744073709551616),
        show ((v % 128 : Nat) : Int) + ((128 : Nat) : Int) = ((v % 128 + 128 : Nat) : Int) from rfl, wrapu64, wrapu8, ← u8el_ofNat]
      rw [show UInt8.ofNat ((v % 128 + 128) % 18446744073709551616) = UInt8.ofNat (v % 128 + 128) by congr 1; omega, ih (v / 128) (by omega) n _ (by omega) (by omega) (by simp; omega)]
      simp

end Go.Proofs.Ytfioahjeanmfpaa.E
