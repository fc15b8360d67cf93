/-
  Wire, plain: encodings and decodings of numbers, and what holds of them.
-/
import Derived.Test.YtfioahjeanmfpaaP3
namespace Go.Proofs.Ytfioahjeanmfpaa.E
open Go
set_option linter.unusedVariables false

/-- The encoding of a number. -/
def enc (v : Nat) : List UInt8 := if h : v < 128 then [UInt8.ofNat v] else UInt8.ofNat (v % 128 + 128) :: enc (v / 128)
  termination_by v
  decreasing_by omega

/-- All but the last byte; the last one. -/
def encPre (v : Nat) : List UInt8 := if h : v < 128 then [] else UInt8.ofNat (v % 128 + 128) :: encPre (v / 128)
  termination_by v
  decreasing_by omega

def encLast (v : Nat) : Nat := if h : v < 128 then v else encLast (v / 128)
  termination_by v
  decreasing_by omega

theorem enc_small {v : Nat} (h : v < 128) : enc v = [UInt8.ofNat v] := by rw [enc, dif_pos h]
theorem enc_big {v : Nat} (h : ¬ v < 128) : enc v = UInt8.ofNat (v % 128 + 128) :: enc (v / 128) := by rw [enc, dif_neg h]
theorem encPre_small {v : Nat} (h : v < 128) : encPre v = [] := by rw [encPre, dif_pos h]
theorem encPre_big {v : Nat} (h : ¬ v < 128) : encPre v = UInt8.ofNat (v % 128 + 128) :: encPre (v / 128) := by rw [encPre, dif_neg h]
theorem encLast_small {v : Nat} (h : v < 128) : encLast v = v := by rw [encLast, dif_pos h]
theorem encLast_big {v : Nat} (h : ¬ v < 128) : encLast v = encLast (v / 128) := by rw [encLast, dif_neg h]

theorem enc_split (v : Nat) : enc v = encPre v ++ [UInt8.ofNat (encLast v)] ∧ encLast v < 128 := by
  induction v using Nat.strongRecOn with
  | _ v ih =>
    by_cases h : v < 128
    · rw [enc_small h, encPre_small h, encLast_small h]; exact ⟨rfl, h⟩
    · obtain ⟨h1, h2⟩ := ih (v / 128) (by omega)
      rw [enc_big h, encPre_big h, encLast_big h, h1]
      exact ⟨rfl, h2⟩

theorem enc_len : ∀ (k v : Nat), v < 128 ^ k → 1 ≤ (enc v).length ∧ (1 ≤ k → (enc v).length ≤ k)
  | 0, v, h => by
    have : v < 128 := by simp at h; omega
    rw [enc_small this]; simp
  | k + 1, v, h => by
    by_cases hv : v < 128
    · rw [enc_small hv]; simp
    · rw [enc_big hv]
      have h' : v / 128 < 128 ^ k := by
        rw [Nat.pow_succ] at h
        exact Nat.div_lt_of_lt_mul (by rw [Nat.mul_comm]; exact h)
      obtain ⟨h1, h2⟩ := enc_len k (v / 128) h'
      simp only [List.length_cons]
      refine ⟨by omega, fun _ => ?_⟩
      by_cases hk : 1 ≤ k
      · have := h2 hk; omega
      · have : k = 0 := by omega
        subst this
        simp at h'
        omega

theorem enc_len64 {v : Nat} (h : v < 18446744073709551616) : 1 ≤ (enc v).length ∧ (enc v).length ≤ 10 := by
  have := enc_len 10 v (Nat.lt_of_lt_of_le h (by decide))
  exact ⟨this.1, this.2 (by omega)⟩

theorem enc_mono {v w : Nat} (h : v ≤ w) : (enc v).length ≤ (enc w).length := by
  induction w using Nat.strongRecOn generalizing v with
  | _ w ih =>
    by_cases hw : w < 128
    · rw [enc_small hw, enc_small (by omega)]; simp
    · by_cases hv : v < 128
      · rw [enc_small hv, enc_big hw]; simp
      · rw [enc_big hv, enc_big hw]
        have := ih (w / 128) (by omega) (v := v / 128) (by omega)
        simpa using this

/-- Decoding: 'i' bytes have been read, of value 'v'. -/
def decGo : List UInt8 → Nat → Nat → Nat × Nat × Nat
  | [], _, _ => (0, 0, 5)
  | c :: r, i, v =>
    if i = 9 ∧ (128 ≤ c.toNat ∨ 1 < c.toNat % 128) then (0, 0, 19)
    else if c.toNat < 128 then (if 0 < i ∧ c.toNat = 0 then (0, 0, 6) else (v + c.toNat % 128 * 2 ^ (7 * i), i + 1, 0))
    else decGo r (i + 1) (v + c.toNat % 128 * 2 ^ (7 * i))

def decU (bs : List UInt8) : Nat × Nat × Nat := decGo bs 0 0

theorem toNat_ofNat {n : Nat} (h : n < 256) : (UInt8.ofNat n).toNat = n := by simp; omega

theorem pow7 (i : Nat) : 2 ^ (7 * (i + 1)) = 128 * 2 ^ (7 * i) := by
  rw [show 7 * (i + 1) = 7 + 7 * i by omega, Nat.pow_add]

theorem decGo_enc : ∀ (w i v : Nat) (rest : List UInt8), i ≤ 9 → w < 2 ^ (64 - 7 * i) → (0 < i → w ≠ 0) → decGo (enc w ++ rest) i v = (v + w * 2 ^ (7 * i), i + (enc w).length, 0) := by
  intro w
  induction w using Nat.strongRecOn with
  | _ w ih =>
    intro i v rest hi hw h0
    by_cases h : w < 128
    · rw [enc_small h]
      simp only [List.singleton_append, decGo, toNat_ofNat (show w < 256 by omega)]
      have h9 : ¬ (i = 9 ∧ (128 ≤ w ∨ 1 < w % 128)) := by
        rintro ⟨rfl, h1⟩
        simp at hw
        omega
      have h2 : ¬ (0 < i ∧ w = 0) := fun ⟨a, b⟩ => h0 a b
      rw [if_neg h9, if_pos h, if_neg h2, Nat.mod_eq_of_lt h]
      simp
    · rw [enc_big h]
      simp only [List.cons_append, decGo, toNat_ofNat (show w % 128 + 128 < 256 by omega)]
      have h9 : i ≠ 9 := by
        rintro rfl
        simp at hw
        omega
      rw [if_neg (by rintro ⟨a, _⟩; exact h9 a), if_neg (by omega)]
      have hw' : w / 128 < 2 ^ (64 - 7 * (i + 1)) := by
        have e : 64 - 7 * i = (64 - 7 * (i + 1)) + 7 := by omega
        rw [e, Nat.pow_add] at hw
        exact Nat.div_lt_of_lt_mul (by rw [Nat.mul_comm]; exact hw)
      rw [ih (w / 128) (by omega) (i + 1) _ rest (by omega) hw' (fun _ => by omega)]
      refine Prod.ext ?_ (Prod.ext ?_ rfl)
      · show v + (w % 128 + 128) % 128 * 2 ^ (7 * i) + w / 128 * 2 ^ (7 * (i + 1)) = v + w * 2 ^ (7 * i)
        rw [pow7, show (w % 128 + 128) % 128 = w % 128 by omega, ← Nat.mul_assoc, Nat.add_assoc, ← Nat.add_mul]
        congr 2
        omega
      · simp; omega

theorem decU_enc {v : Nat} (h : v < 18446744073709551616) (rest : List UInt8) : decU (enc v ++ rest) = (v, (enc v).length, 0) := by
  unfold decU
  rw [decGo_enc v 0 0 rest (by omega) (by simpa using h) (by omega)]
  simp

/-- What is decoded has the bytes of its encoding. -/
theorem decGo_canon : ∀ (bs : List UInt8) (i v x n : Nat), i ≤ 9 → decGo bs i v = (x, n, 0) → ∃ w, x = v + w * 2 ^ (7 * i) ∧ w < 2 ^ (64 - 7 * i) ∧ (0 < i → w ≠ 0) ∧ n = i + (enc w).length ∧ (enc w).length ≤ bs.length ∧ enc w = bs.take (enc w).length
  | [], i, v, x, n, _, h => by simp [decGo] at h
  | c :: r, i, v, x, n, hi, h => by
    have hc := c.toNat_lt
    simp only [decGo] at h
    split at h
    · simp at h
    · rename_i h9
      split at h
      · rename_i hlt
        split at h
        · simp at h
        · rename_i h0
          simp only [Prod.mk.injEq, and_true] at h
          obtain ⟨rfl, rfl⟩ := h
          have e : enc c.toNat = [c] := by rw [enc_small hlt]; simp
          refine ⟨c.toNat, by rw [Nat.mod_eq_of_lt hlt], ?_, fun a b => h0 ⟨a, b⟩, by rw [e]; rfl, by rw [e]; simp, by rw [e]; simp⟩
          by_cases hi9 : i = 9
          · subst hi9
            simp
            have : ¬ 1 < c.toNat % 128 := fun q => h9 ⟨rfl, .inr q⟩
            omega
          · have : 2 ^ 7 ≤ 2 ^ (64 - 7 * i) := Nat.pow_le_pow_right (by omega) (by omega)
            omega
      · rename_i hge
        have hi9 : i ≠ 9 := fun q => h9 ⟨q, .inl (by omega)⟩
        obtain ⟨w, h1, h2, h3, h4, h5, h6⟩ := decGo_canon r (i + 1) _ x n (by omega) h
        have hw : w ≠ 0 := h3 (by omega)
        have hb : ¬ (c.toNat % 128 + w * 128 < 128) := by omega
        have e : enc (c.toNat % 128 + w * 128) = c :: enc w := by
          rw [enc_big hb]
          have a1 : (c.toNat % 128 + w * 128) % 128 + 128 = c.toNat := by omega
          have a2 : (c.toNat % 128 + w * 128) / 128 = w := by omega
          rw [a1, a2]; simp
        refine ⟨c.toNat % 128 + w * 128, ?_, ?_, fun _ => by omega, by rw [e]; simp; omega, by rw [e]; simpa using h5, ?_⟩
        · rw [h1, pow7, Nat.add_mul, Nat.mul_assoc, Nat.add_assoc]
        · have e7 : 64 - 7 * i = (64 - 7 * (i + 1)) + 7 := by omega
          rw [e7, Nat.pow_add]
          have : c.toNat % 128 < 128 := by omega
          generalize 2 ^ (64 - 7 * (i + 1)) = M at *
          omega
        · rw [e, List.length_cons, List.take_succ_cons, ← h6]

theorem decU_canon {bs : List UInt8} {x n : Nat} (h : decU bs = (x, n, 0)) : x < 18446744073709551616 ∧ n = (enc x).length ∧ n ≤ bs.length ∧ enc x = bs.take n := by
  obtain ⟨w, h1, h2, h3, h4, h5, h6⟩ := decGo_canon bs 0 0 x n (by omega) h
  simp at h1 h2 h4
  subst h1
  rw [h4]
  exact ⟨h2, rfl, h5, h6⟩

theorem enc_prefix {v w : Nat} (hv : v < 18446744073709551616) (hw : w < 18446744073709551616) (hne : v ≠ w) : (enc v).take (min (enc v).length (enc w).length) ≠ (enc w).take (min (enc v).length (enc w).length) := by
  intro h
  rcases Nat.le_total (enc v).length (enc w).length with hl | hl
  · rw [Nat.min_eq_left hl, List.take_length] at h
    have e : enc w = enc v ++ (enc w).drop (enc v).length := by
      conv => lhs; rw [← List.take_append_drop (enc v).length (enc w)]
      rw [← h]
    have h1 := decU_enc hv ((enc w).drop (enc v).length)
    rw [← e] at h1
    have h2 := decU_enc hw []
    rw [List.append_nil, h1] at h2
    simp at h2
    exact hne h2.1
  · rw [Nat.min_eq_right hl, List.take_length] at h
    have e : enc v = enc w ++ (enc v).drop (enc w).length := by
      conv => lhs; rw [← List.take_append_drop (enc w).length (enc v)]
      rw [h]
    have h1 := decU_enc hw ((enc v).drop (enc w).length)
    rw [← e] at h1
    have h2 := decU_enc hv []
    rw [List.append_nil, h1] at h2
    simp at h2
    exact hne h2.1.symm

/-! ### Strings and fixed numbers -/
def decT (bs : List UInt8) : List UInt8 × Nat × Nat :=
  if (decU bs).2.2 ≠ 0 then ([], 0, (decU bs).2.2) else if 4096 < (decU bs).1 then ([], 0, 3) else if bs.length - (decU bs).2.1 < (decU bs).1 then ([], 0, 5)
  else ((bs.drop (decU bs).2.1).take (decU bs).1, (decU bs).2.1 + (decU bs).1, 0)

def fix4 (v : Nat) : List UInt8 := [UInt8.ofNat v, UInt8.ofNat (v / 256), UInt8.ofNat (v / 65536), UInt8.ofNat (v / 16777216)]

def decF (bs : List UInt8) : Nat × Nat :=
  if bs.length < 4 then (0, 5) else ((bs.getD 0 0).toNat + (bs.getD 1 0).toNat * 256 + (bs.getD 2 0).toNat * 65536 + (bs.getD 3 0).toNat * 16777216, 0)

theorem decF_fix4 {v : Nat} (h : v < 4294967296) (rest : List UInt8) : decF (fix4 v ++ rest) = (v, 0) := by
  unfold decF fix4
  rw [if_neg (by simp)]
  simp
  omega

theorem decT_enc {s : List UInt8} (h : s.length ≤ 4096) (rest : List UInt8) : decT (enc s.length ++ s ++ rest) = (s, (enc s.length ++ s).length, 0) := by
  have hd := decU_enc (v := s.length) (by omega) (s ++ rest)
  unfold decT
  rw [List.append_assoc, hd]
  simp only [ne_eq, not_true_eq_false, if_false, List.length_append]
  rw [if_neg (by omega), if_neg (by omega)]
  refine Prod.ext ?_ rfl
  simp

theorem decT_canon {bs s : List UInt8} {n : Nat} (h : decT bs = (s, n, 0)) : enc s.length ++ s = bs.take n ∧ 1 ≤ n ∧ n ≤ bs.length ∧ s.length ≤ 4096 := by
  unfold decT at h
  split at h
  · rename_i he
    simp only [Prod.mk.injEq] at h
    exact absurd h.2.2 he
  · rename_i he
    simp only [ne_eq, Decidable.not_not] at he
    obtain ⟨h1, h2, h3, h4⟩ := decU_canon (bs := bs) (x := (decU bs).1) (n := (decU bs).2.1) (by rw [← he])
    split at h
    · simp at h
    · rename_i hle
      split at h
      · simp at h
      · rename_i hlen
        simp only [Prod.mk.injEq, and_true] at h
        obtain ⟨hs, hn⟩ := h
        have hsl : s.length = (decU bs).1 := by rw [← hs]; simp; omega
        have h5 := (enc_len64 h1).1
        refine ⟨?_, by omega, by omega, by omega⟩
        rw [hsl, h4, ← hn, List.take_add, hs]

end Go.Proofs.Ytfioahjeanmfpaa.E
