/-
  Wire: contracts of the functions that decode.
-/
import Derived.Test.YtfioahjeanmfpaaW1
namespace Go.Proofs.Ytfioahjeanmfpaa.E
open Go Go.Proofs
set_option linter.unusedVariables false
set_option linter.unusedSimpArgs false
set_option maxRecDepth 100000

theorem part7 (c : UInt8) : IntKind.wrap IntKind.u64 (IntKind.wrap IntKind.u8 (Int.ofNat (BitVec.toNat (BitVec.ofInt 8 ((c.toNat : Nat) : Int) &&& BitVec.ofInt 8 127)))) = ((c.toNat % 128 : Nat) : Int) := by
  have hc := c.toNat_lt
  rw [show (127 : Int) = ((127 : Nat) : Int) from rfl, bvand 8 _ _ (by omega) (by omega), and127 _ (by omega), Int.ofNat_eq_natCast, wrapu8, wrapu64]
  omega

theorem pow_le {i j : Nat} (h : i ≤ j) : 2 ^ i ≤ 2 ^ j := Nat.pow_le_pow_right (by omega) h

theorem orPart (v p i : Nat) (hi : i ≤ 9) (hv : v < 2 ^ (7 * i)) (hp : p * 2 ^ (7 * i) < 18446744073709551616) :
    IntKind.wrap IntKind.u64 (Int.ofNat (BitVec.toNat (BitVec.ofInt 64 ((v : Nat) : Int) ||| BitVec.ofInt 64 (IntKind.wrap IntKind.u64 (((p : Nat) : Int) * 2 ^ min (Int.toNat (IntKind.wrap IntKind.i64 (7 * (i : Int)))) 64))))) = ((v + p * 2 ^ (7 * i) : Nat) : Int) := by
  have e1 : IntKind.wrap IntKind.i64 (7 * (i : Int)) = ((7 * i : Nat) : Int) := by rw [wrapi64 _ (by omega) (by omega)]; rfl
  have hv64 : v < 18446744073709551616 := Nat.lt_of_lt_of_le hv (pow_le (j := 64) (by omega))
  rw [e1, Int.toNat_natCast, Nat.min_eq_left (by omega)]
  have e2 : ((p : Nat) : Int) * 2 ^ (7 * i) = ((p * 2 ^ (7 * i) : Nat) : Int) := by simp
  rw [e2, wrapu64, Nat.mod_eq_of_lt hp, bvor 64 _ _ (by simpa using hv64) (by simpa using hp), or_add _ _ _ hv, Int.ofNat_eq_natCast, wrapu64]
  have : v + p * 2 ^ (7 * i) < 18446744073709551616 := by
    rw [← or_add _ _ _ hv]
    exact Nat.or_lt_two_pow (n := 64) (by simpa using hv64) (by simpa using hp)
  rw [Nat.mod_eq_of_lt this]

theorem dec_loop {σ : Type} (lf : Nat) (cl : CallT) (yh : Yh σ) (s : σ) (z t : Bool) (b : List UInt8) : ∀ (r : List UInt8) (i v n : Nat), b.drop i = r → i ≤ b.length → i ≤ 9 → v < 2 ^ (7 * i) → 10 < n + i →
    loopK 0 ((cfgDU lf).keep 3) (bd (cfgDU lf) cl yh (cd [1, 1, 0, 1, 0, 0] (bodyOf Try.f17))) n ⟨([PV.s (SV.sl z t 1 (List.map u8el b)), .bad, PV.s (SV.int IntKind.u64 0), PV.s (SV.int IntKind.i64 0), PV.s (SV.int IntKind.i64 0), PV.s (SV.int IntKind.u64 (v : Int)), .bad, .bad, PV.s (SV.int IntKind.i64 (i : Int))] ++ bds 49), [], s⟩
      (blkK 0 (seqK (cfgDU lf) cl yh (cd [1, 1, 1] (bodyOf Try.f17)) (retK (cfgDU lf) Try.f17))) =
    some (PV.tup [PV.s (SV.int IntKind.u64 ((decGo r i v).1 : Int)), PV.s (SV.int IntKind.i64 ((decGo r i v).2.1 : Int)), PV.s (SV.int IntKind.i64 ((decGo r i v).2.2 : Int))], [], s) := by
  intro r
  induction r with
  | nil =>
    intro i v n hr hib hi hv hn
    obtain ⟨n, rfl⟩ : ∃ m, n = m + 1 := ⟨n - 1, by omega⟩
    have hlen : i = b.length := by
      have := congrArg List.length hr
      simp at this
      omega
    have hs := dec_step lf cl yh s n (blkK 0 (seqK (cfgDU lf) cl yh (cd [1, 1, 1] (bodyOf Try.f17)) (retK (cfgDU lf) Try.f17))) z t b i v
    simp only [Int.ofNat_eq_natCast] at hs
    rw [hs, show decide ((i : Int) < 10) = true by simp; omega, cond_true, show ((i : Int) == ((List.map u8el b).length : Int)) = true by simp [← hlen], cond_true]
    exact dec_aftr lf cl yh s z t b 0 0 5 _ _
  | cons c r ih =>
    intro i v n hr hib hi hv hn
    obtain ⟨n, rfl⟩ : ∃ m, n = m + 1 := ⟨n - 1, by omega⟩
    have hc := c.toNat_lt
    have hlen : i < b.length := by
      have := congrArg List.length hr
      simp at this
      omega
    have hget : b.getD i 0 = c := by
      have : (b.drop i)[0]? = some c := by rw [hr]; rfl
      rw [List.getElem?_drop, Nat.add_zero] at this
      simp [List.getD_eq_getElem?_getD, this]
    have hdrop : b.drop (i + 1) = r := by
      rw [← List.drop_drop, hr]; rfl
    have hp : ¬ (i = 9 ∧ (128 ≤ c.toNat ∨ 1 < c.toNat % 128)) → c.toNat % 128 * 2 ^ (7 * i) < 18446744073709551616 := by
      intro h
      have h7 : c.toNat % 128 < 128 := by omega
      by_cases h9 : i = 9
      · subst h9
        have : c.toNat % 128 ≤ 1 := by omega
        simp
        omega
      · have : 2 ^ (7 * i) ≤ 2 ^ 56 := pow_le (by omega)
        have : c.toNat % 128 * 2 ^ (7 * i) ≤ 127 * 2 ^ 56 := Nat.mul_le_mul (by omega) this
        omega
    have hs := dec_step lf cl yh s n (blkK 0 (seqK (cfgDU lf) cl yh (cd [1, 1, 1] (bodyOf Try.f17)) (retK (cfgDU lf) Try.f17))) z t b i v
    simp only [Int.ofNat_eq_natCast, Int.toNat_natCast, gI_u8, hget, List.length_map, okS_u8 b i hlen, Bool.and_true] at hs
    have hpart := part7 c
    simp only [Int.ofNat_eq_natCast] at hpart
    simp only [hpart] at hs
    rw [hs]
    have a1 : decide ((i : Int) < 10) = true := by simp; omega
    have a2 : ((i : Int) == (b.length : Int)) = false := by simp; omega
    have a3 : (decide (0 ≤ (i : Int)) && decide ((i : Int) < (b.length : Int))) = true := by simp; omega
    have a4 : decide (i < b.length) = true := by simpa using hlen
    have a5 : decide (0 ≤ IntKind.wrap IntKind.i64 (7 * (i : Int))) = true := by rw [wrapi64 _ (by omega) (by omega)]; simp; omega
    simp only [a1, a2, a3, a4, a5, cond_true, cond_false, decGo]
    have g1 : decide (((c.toNat : Nat) : Int) ≥ 128) = decide (128 ≤ c.toNat) := by congr 1; exact propext (by omega)
    have g2 : decide (((c.toNat : Nat) : Int) < 128) = decide (c.toNat < 128) := by congr 1; exact propext (by omega)
    have g3 : decide (((c.toNat % 128 : Nat) : Int) > 1) = decide (1 < c.toNat % 128) := by congr 1; exact propext (by omega)
    have g4 : decide ((i : Int) > 0) = decide (0 < i) := by congr 1; exact propext (by omega)
    have g5 : ((i : Int) == 9) = decide (i = 9) := by rw [Bool.eq_iff_iff]; simp; omega
    have g6 : (((c.toNat : Nat) : Int) == 0) = decide (c.toNat = 0) := by rw [Bool.eq_iff_iff]; simp
    simp only [g1, g2, g3, g4, g5, g6]
    have hwi : IntKind.wrap IntKind.i64 ((i : Int) + 1) = ((i + 1 : Nat) : Int) := wrapi64s i (by omega)
    have hor := fun h => orPart v (c.toNat % 128) i hi hv (hp h)
    simp only [Int.ofNat_eq_natCast] at hor
    have go : ¬ (i = 9 ∧ (128 ≤ c.toNat ∨ 1 < c.toNat % 128)) → c.toNat < 128 → ∀ v5 i5 : Int, (0 < i → c.toNat ≠ 0) →
        (blkK 0 (seqK (cfgDU lf) cl yh (cd [1, 1, 1] (bodyOf Try.f17)) (retK (cfgDU lf) Try.f17))) .ret ⟨([PV.s (SV.sl z t 1 (List.map u8el b)), .bad, PV.s (SV.int IntKind.u64 ((v + c.toNat % 128 * 2 ^ (7 * i) : Nat) : Int)), PV.s (SV.int IntKind.i64 ((i + 1 : Nat) : Int)), PV.s (SV.int IntKind.i64 0), PV.s (SV.int IntKind.u64 v5), .bad, .bad, PV.s (SV.int IntKind.i64 i5)] ++ bds 49), [], s⟩ =
        some (PV.tup [PV.s (SV.int IntKind.u64 ((v + c.toNat % 128 * 2 ^ (7 * i) : Nat) : Int)), PV.s (SV.int IntKind.i64 ((i + 1 : Nat) : Int)), PV.s (SV.int IntKind.i64 ((0 : Nat) : Int))], [], s) := fun _ _ v5 i5 _ => dec_aftr lf cl yh s z t b _ _ 0 v5 i5
    by_cases h9 : i = 9 ∧ (128 ≤ c.toNat ∨ 1 < c.toNat % 128)
    · rw [if_pos h9]
      simp only [h9.1, decide_true, cond_true]
      by_cases hge : 128 ≤ c.toNat
      · simp only [hge, decide_true, cond_true]
        exact dec_aft0 lf cl yh s z t b 9 v
      · have : 1 < c.toNat % 128 := by omega
        simp only [hge, this, decide_true, decide_false, cond_true, cond_false]
        exact dec_aft0 lf cl yh s z t b 9 v
    · have hor := hor h9
      rw [if_neg h9]
      simp only [hor, hwi]
      have tail : (cond (decide (c.toNat < 128))
          (cond (decide (0 < i))
            (cond (decide (c.toNat = 0))
              (blkK 0 (seqK (cfgDU lf) cl yh (cd [1, 1, 1] (bodyOf Try.f17)) (retK (cfgDU lf) Try.f17)) .ret ⟨([PV.s (SV.sl z t 1 (List.map u8el b)), .bad, PV.s (SV.int IntKind.u64 0), PV.s (SV.int IntKind.i64 0), PV.s (SV.int IntKind.i64 6), PV.s (SV.int IntKind.u64 ((v + c.toNat % 128 * 2 ^ (7 * i) : Nat) : Int)), .bad, .bad, PV.s (SV.int IntKind.i64 (i : Int))] ++ bds 49), [], s⟩)
              (blkK 0 (seqK (cfgDU lf) cl yh (cd [1, 1, 1] (bodyOf Try.f17)) (retK (cfgDU lf) Try.f17)) .ret ⟨([PV.s (SV.sl z t 1 (List.map u8el b)), .bad, PV.s (SV.int IntKind.u64 ((v + c.toNat % 128 * 2 ^ (7 * i) : Nat) : Int)), PV.s (SV.int IntKind.i64 ((i + 1 : Nat) : Int)), PV.s (SV.int IntKind.i64 0), PV.s (SV.int IntKind.u64 ((v + c.toNat % 128 * 2 ^ (7 * i) : Nat) : Int)), .bad, .bad, PV.s (SV.int IntKind.i64 (i : Int))] ++ bds 49), [], s⟩))
            (blkK 0 (seqK (cfgDU lf) cl yh (cd [1, 1, 1] (bodyOf Try.f17)) (retK (cfgDU lf) Try.f17)) .ret ⟨([PV.s (SV.sl z t 1 (List.map u8el b)), .bad, PV.s (SV.int IntKind.u64 ((v + c.toNat % 128 * 2 ^ (7 * i) : Nat) : Int)), PV.s (SV.int IntKind.i64 ((i + 1 : Nat) : Int)), PV.s (SV.int IntKind.i64 0), PV.s (SV.int IntKind.u64 ((v + c.toNat % 128 * 2 ^ (7 * i) : Nat) : Int)), .bad, .bad, PV.s (SV.int IntKind.i64 (i : Int))] ++ bds 49), [], s⟩))
          (loopK 0 ((cfgDU lf).keep 3) (bd (cfgDU lf) cl yh (cd [1, 1, 0, 1, 0, 0] (bodyOf Try.f17))) n ⟨([PV.s (SV.sl z t 1 (List.map u8el b)), .bad, PV.s (SV.int IntKind.u64 0), PV.s (SV.int IntKind.i64 0), PV.s (SV.int IntKind.i64 0), PV.s (SV.int IntKind.u64 ((v + c.toNat % 128 * 2 ^ (7 * i) : Nat) : Int)), .bad, .bad, PV.s (SV.int IntKind.i64 ((i + 1 : Nat) : Int))] ++ bds 49), [], s⟩
            (blkK 0 (seqK (cfgDU lf) cl yh (cd [1, 1, 1] (bodyOf Try.f17)) (retK (cfgDU lf) Try.f17))))) =
          some (PV.tup [PV.s (SV.int IntKind.u64 ((if c.toNat < 128 then (if 0 < i ∧ c.toNat = 0 then (0, 0, 6) else (v + c.toNat % 128 * 2 ^ (7 * i), i + 1, 0)) else decGo r (i + 1) (v + c.toNat % 128 * 2 ^ (7 * i))).1 : Int)),
            PV.s (SV.int IntKind.i64 ((if c.toNat < 128 then (if 0 < i ∧ c.toNat = 0 then (0, 0, 6) else (v + c.toNat % 128 * 2 ^ (7 * i), i + 1, 0)) else decGo r (i + 1) (v + c.toNat % 128 * 2 ^ (7 * i))).2.1 : Int)),
            PV.s (SV.int IntKind.i64 ((if c.toNat < 128 then (if 0 < i ∧ c.toNat = 0 then (0, 0, 6) else (v + c.toNat % 128 * 2 ^ (7 * i), i + 1, 0)) else decGo r (i + 1) (v + c.toNat % 128 * 2 ^ (7 * i))).2.2 : Int))], [], s) := by
        by_cases hlt : c.toNat < 128
        · by_cases hi0 : 0 < i
          · by_cases hc0 : c.toNat = 0
            · rw [if_pos hlt, if_pos ⟨hi0, hc0⟩]
              simp only [hlt, hi0, hc0, decide_true, cond_true]
              exact dec_aftr lf cl yh s z t b 0 0 6 _ _
            · rw [if_pos hlt, if_neg (fun q => hc0 q.2)]
              simp only [hlt, hi0, hc0, decide_true, decide_false, cond_true, cond_false]
              exact go h9 hlt _ _ (fun _ => hc0)
          · rw [if_pos hlt, if_neg (fun q => hi0 q.1)]
            simp only [hlt, hi0, decide_true, decide_false, cond_true, cond_false]
            exact go h9 hlt _ _ (fun q => absurd q hi0)
        · rw [if_neg hlt]
          simp only [hlt, decide_false, cond_false]
          have hi9 : i ≠ 9 := fun q => h9 ⟨q, .inl (by omega)⟩
          refine ih (i + 1) _ n hdrop (by omega) (by omega) ?_ (by omega)
          rw [pow7]
          have : c.toNat % 128 * 2 ^ (7 * i) ≤ 127 * 2 ^ (7 * i) := Nat.mul_le_mul (by omega) (Nat.le_refl _)
          generalize 2 ^ (7 * i) = M at *
          omega
      by_cases hi9 : i = 9
      · have hlt : ¬ 128 ≤ c.toNat := fun q => h9 ⟨hi9, .inl q⟩
        have hle : ¬ 1 < c.toNat % 128 := fun q => h9 ⟨hi9, .inr q⟩
        simp only [hi9, hlt, hle, decide_true, decide_false, cond_true, cond_false] at tail ⊢
        exact tail
      · simp only [hi9, decide_false, cond_false]
        exact tail

end Go.Proofs.Ytfioahjeanmfpaa.E
