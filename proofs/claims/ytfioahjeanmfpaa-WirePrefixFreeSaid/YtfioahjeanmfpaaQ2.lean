/-
  Wire, plain: the reference's way of decoding gives the same.
-/
import Derived.Test.YtfioahjeanmfpaaQ1
namespace Go.Proofs.Ytfioahjeanmfpaa.E
open Go
set_option linter.unusedVariables false

/-- How many bytes with the highest bit set there are ahead, at most 'k'. -/
def cntB : List UInt8 → Nat → Nat
  | _, 0 => 0
  | [], _ + 1 => 0
  | c :: r, k + 1 => if 128 ≤ c.toNat then 1 + cntB r k else 0

def hv : List UInt8 → Nat
  | [] => 0
  | c :: r => c.toNat % 128 + 128 * hv r

theorem cntB_nil (k : Nat) : cntB [] k = 0 := by cases k <;> rfl

theorem cntB_le : ∀ (bs : List UInt8) (k : Nat), cntB bs k ≤ k ∧ cntB bs k ≤ bs.length
  | _, 0 => by simp [cntB]
  | [], _ + 1 => by simp [cntB]
  | c :: r, k + 1 => by
    have := cntB_le r k
    simp only [cntB]
    split
    · simp; omega
    · simp

theorem cntB_get : ∀ (bs : List UInt8) (k j : Nat), j < cntB bs k → 128 ≤ (bs.getD j 0).toNat
  | _, 0, j, h => by simp [cntB] at h
  | [], _ + 1, j, h => by simp [cntB] at h
  | c :: r, k + 1, j, h => by
    simp only [cntB] at h
    split at h
    · cases j with
      | zero => simpa
      | succ j => simpa using cntB_get r k j (by omega)
    · omega

theorem cntB_stop : ∀ (bs : List UInt8) (k : Nat), cntB bs k < k → cntB bs k < bs.length → (bs.getD (cntB bs k) 0).toNat < 128
  | _, 0, h, _ => by omega
  | [], _ + 1, _, h => by simp at h
  | c :: r, k + 1, h1, h2 => by
    simp only [cntB] at h1 h2 ⊢
    split
    · rename_i hc
      rw [if_pos hc] at h1 h2
      rw [Nat.add_comm 1, List.getD_cons_succ]
      exact cntB_stop r k (by omega) (by simp at h2; omega)
    · simpa using (by omega : c.toNat < 128)

def refGo (bs : List UInt8) (i v : Nat) : Nat × Nat × Nat :=
  if cntB bs (10 - i) = 10 - i then (0, 0, 19) else if cntB bs (10 - i) = bs.length then (0, 0, 5)
  else if i + cntB bs (10 - i) = 9 ∧ 1 < (bs.getD (cntB bs (10 - i)) 0).toNat then (0, 0, 19)
  else if 0 < i + cntB bs (10 - i) ∧ (bs.getD (cntB bs (10 - i)) 0).toNat = 0 then (0, 0, 6)
  else (v + 2 ^ (7 * i) * hv (bs.take (cntB bs (10 - i) + 1)), i + cntB bs (10 - i) + 1, 0)

theorem decGo_ref : ∀ (bs : List UInt8) (i v : Nat), i ≤ 9 → decGo bs i v = refGo bs i v
  | [], i, v, hi => by
    simp only [decGo, refGo, cntB_nil]
    rw [if_neg (by omega), if_pos (by simp)]
  | c :: r, i, v, hi => by
    have hc := c.toNat_lt
    obtain ⟨k, hk⟩ : ∃ k, 10 - i = k + 1 := ⟨9 - i, by omega⟩
    simp only [decGo, refGo, hk]
    by_cases hge : 128 ≤ c.toNat
    · have e : cntB (c :: r) (k + 1) = 1 + cntB r k := by simp only [cntB]; rw [if_pos hge]
      rw [e]
      by_cases h9 : i = 9
      · have hk0 : k = 0 := by omega
        subst hk0
        rw [if_pos ⟨h9, .inl hge⟩, if_pos (by simp [cntB])]
      · rw [if_neg (fun q => h9 q.1), if_neg (by omega), decGo_ref r (i + 1) _ (by omega)]
        have hk' : 10 - (i + 1) = k := by omega
        unfold refGo
        rw [hk']
        have g : (c :: r).getD (1 + cntB r k) 0 = r.getD (cntB r k) 0 := by rw [Nat.add_comm, List.getD_cons_succ]
        have t : (c :: r).take (1 + cntB r k + 1) = c :: r.take (cntB r k + 1) := by rw [show 1 + cntB r k + 1 = (cntB r k + 1) + 1 by omega, List.take_succ_cons]
        rw [g, t]
        simp only [List.length_cons, hv]
        have c1 : (1 + cntB r k = k + 1) = (cntB r k = k) := propext ⟨fun h => by omega, fun h => by omega⟩
        have c2 : (1 + cntB r k = r.length + 1) = (cntB r k = r.length) := propext ⟨fun h => by omega, fun h => by omega⟩
        have c3 : i + (1 + cntB r k) = i + 1 + cntB r k := by omega
        have c4 : v + c.toNat % 128 * 2 ^ (7 * i) + 2 ^ (7 * (i + 1)) * hv (r.take (cntB r k + 1)) = v + 2 ^ (7 * i) * (c.toNat % 128 + 128 * hv (r.take (cntB r k + 1))) := by
          rw [pow7, Nat.mul_add, Nat.add_assoc, Nat.mul_comm (c.toNat % 128), ← Nat.mul_assoc (2 ^ (7 * i)), Nat.mul_comm (2 ^ (7 * i)) 128]
        simp only [c1, c2, c3, c4]
    · have e : cntB (c :: r) (k + 1) = 0 := by simp only [cntB]; rw [if_neg hge]
      rw [e]
      simp only [List.getD_cons_zero, Nat.add_zero, List.length_cons, Nat.zero_add, List.take_succ_cons, List.take_zero, hv, Nat.mul_zero]
      rw [if_neg (by omega : ¬ 0 = k + 1), if_neg (by omega : ¬ 0 = r.length + 1)]
      have hlt : c.toNat < 128 := by omega
      by_cases h9 : i = 9 ∧ 1 < c.toNat
      · rw [if_pos ⟨h9.1, .inr (by omega)⟩, if_pos h9]
      · rw [if_neg (by rintro ⟨a, b⟩; exact h9 ⟨a, by omega⟩), if_pos hlt, if_neg h9]
        by_cases h0 : 0 < i ∧ c.toNat = 0
        · rw [if_pos h0, if_pos h0]
        · rw [if_neg h0, if_neg h0, Nat.mul_comm]

theorem decU_ref (bs : List UInt8) : decU bs = refGo bs 0 0 := decGo_ref bs 0 0 (by omega)

theorem hv_lt : ∀ (l : List UInt8), hv l < 128 ^ l.length
  | [] => by simp [hv]
  | c :: r => by
    have := hv_lt r
    simp only [hv, List.length_cons, Nat.pow_succ]
    omega

end Go.Proofs.Ytfioahjeanmfpaa.E
