/-
  Wire: what the functions that encode compute.
-/
import Derived.Test.YtfioahjeanmfpaaL1
namespace Go.Proofs.Ytfioahjeanmfpaa.E
open Go Go.Proofs
set_option linter.unusedVariables false
set_option linter.unusedSimpArgs false

theorem clone_spec {R : Type} {k0 : Bool → LL → Option R} (b_z b_t : Bool) (b : LL) (h0 : (b.isEmpty || !b_z) = true) (h1 : roomy b.length = true) : clone LF b_z b_t b k0 = k0 b_z b := by
  unfold clone clone_a0
  cases b_z with
  | true =>
    have : b = [] := by simpa using h0
    subst this
    rfl
  | false => simp only [Nat.zero_add, h1, cond_true, cond_false]

theorem kbytes_spec {R : Type} {k0 : Bool → Option R} (a_z a_t : Bool) (a : LL) (b_z b_t : Bool) (b : LL) (h0 : a.all isU8 = true) (h1 : b.all isU8 = true) : kbytes LF a_z a_t a b_z b_t b k0 = k0 (a.map elU8 == b.map elU8) := by
  unfold kbytes kbytes_a0
  simp only [h0, h1, cond_true]

theorem kown_spec {R : Type} {k0 : LL → Option R} (b_z b_t : Bool) (b : LL) (h : roomy b.length = true) : kown LF b_z b_t b k0 = k0 b := by
  unfold kown
  simp only [Nat.zero_add, h, cond_true]

theorem app_loop {R : Type} {k0 : Int → Bool → LL → Option R} (z : Bool) : ∀ (v n : Nat) (l : LL), v < 18446744073709551616 → v < n → l.length + (encPre v).length ≤ 68719476736 → app_l3 LF n (v : Int) z l k0 = k0 (encLast v : Int) z (l ++ (encPre v).map u8el) := by
  intro v
  induction v using Nat.strongRecOn with
  | _ v ih =>
    intro n l hv hn hl
    obtain ⟨n, rfl⟩ : ∃ m, n = m + 1 := ⟨n - 1, by omega⟩
    rw [app_l3_s]
    unfold app_l3f app_a2
    by_cases h : v < 128
    · rw [ltI_t (by omega), encPre_small h, encLast_small h]
      simp
    · rw [ltI_f (by omega)]
      rw [encPre_big h] at hl
      rw [encPre_big h, encLast_big h]
      simp only [List.length_cons] at hl
      simp only [Bool.not_false, cond_true, roomy_of (show l.length + 1 ≤ 68719476736 by omega)]
      have e1 : shrI .u64 (v : Int) 7 = ((v / 128 : Nat) : Int) := shr_nat .u64 v 7 (by decide)
      have e2 : bOr .u8 (wu8 (v : Int)) 128 = ((v % 128 + 128 : Nat) : Int) := by
        rw [wu8_nat, show (128 : Int) = ((128 : Nat) : Int) from rfl, bOr8 _ _ (by omega) (by omega), or128 _ (by omega)]
        omega
      rw [e1, e2, u8el_nat (by omega)]
      rw [ih (v / 128) (by omega) n _ (by omega) (by omega) (by simp; omega)]
      simp

theorem app_spec {R : Type} {k0 : Bool → LL → Option R} (b_z b_t : Bool) (b : LL) (v : Int) (h0 : (b.isEmpty || !b_z) = true) (h1 : small b.length = true) (h2 : u64ok v = true) : app LF b_z b_t b v k0 = k0 b_z (b ++ encB v.toNat) := by
  obtain ⟨hv0, hv1⟩ := u64ok_iff.1 h2
  obtain ⟨m, rfl⟩ := Int.eq_ofNat_of_zero_le hv0
  have hb := small_iff.1 h1
  have hp := encPre_len (v := m) (by omega)
  have hLF := LF_big
  unfold app app_a1
  simp only [h0, cond_true, roomy_of (show b.length ≤ 68719476736 by omega)]
  rw [app_loop b_z m LF b (by omega) (by omega) (by omega)]
  simp only [List.length_append, List.length_map, roomy_of (show b.length + (encPre m).length + 1 ≤ 68719476736 by omega), cond_true]
  obtain ⟨e1, e2⟩ := enc_split m
  rw [wu8_id (by omega) (by omega), u8el_nat (by omega), Int.toNat_natCast]
  unfold encB
  rw [e1]
  simp

theorem apptext_spec {R : Type} {k0 : Bool → LL → Option R} (b_z b_t : Bool) (b : LL) (s : By) (h0 : (b.isEmpty || !b_z) = true) (h1 : small b.length = true) (h2 : small s.length = true) : apptext LF b_z b_t b s k0 = k0 b_z ((b ++ encB s.length) ++ s.map u8el) := by
  have hb := small_iff.1 h1
  have hs := small_iff.1 h2
  have he := (enc_len64 (v := s.length) (by omega)).2
  unfold apptext apptext_a0
  have e : wu64 (s.length : Int) = (s.length : Int) := wu64_id (by omega) (by omega)
  have e2 : u64ok (s.length : Int) = true := u64ok_iff.2 ⟨by omega, by omega⟩
  simp only [h0, h1, e, e2, cond_true, Int.toNat_natCast]
  rw [roomy_of (by simp [encB]; omega)]
  rfl

theorem appfix_spec {R : Type} {k0 : Bool → LL → Option R} (b_z b_t : Bool) (b : LL) (v : Int) (h0 : (b.isEmpty || !b_z) = true) (h1 : small b.length = true) : appfix LF b_z b_t b v k0 = k0 b_z (b ++ fix4L v) := by
  have hb := small_iff.1 h1
  unfold appfix appfix_a0
  simp only [h0, roomy_of (show b.length ≤ 68719476736 by omega), roomy_of (show b.length + 4 ≤ 68719476736 by omega), cond_true]
  rfl

theorem ruint_loop {R : Type} {k0 : Int → LL → Option R} : ∀ (v n : Nat) (l : LL), v < 18446744073709551616 → v < n → l.length + (encPre v).length ≤ 68719476736 → ruint_l3 LF n (v : Int) l k0 = k0 (encLast v : Int) (l ++ (encPre v).map u8el) := by
  intro v
  induction v using Nat.strongRecOn with
  | _ v ih =>
    intro n l hv hn hl
    obtain ⟨n, rfl⟩ : ∃ m, n = m + 1 := ⟨n - 1, by omega⟩
    rw [ruint_l3_s]
    unfold ruint_l3f ruint_a2
    by_cases h : v < 128
    · rw [ltI_t (by omega), encPre_small h, encLast_small h]
      simp
    · rw [ltI_f (by omega)]
      rw [encPre_big h] at hl
      rw [encPre_big h, encLast_big h]
      simp only [List.length_cons] at hl
      simp only [Bool.not_false, cond_true, roomy_of (show l.length + 1 ≤ 68719476736 by omega)]
      have e1 : wu64 (Int.tdiv (v : Int) 128) = ((v / 128 : Nat) : Int) := by
        rw [show (128 : Int) = ((128 : Nat) : Int) from rfl, tdiv_nat]; exact wu64_id (by omega) (by omega)
      have e2 : wu8 (wu64 (Int.tmod (v : Int) 128 + 128)) = ((v % 128 + 128 : Nat) : Int) := by
        rw [show (128 : Int) = ((128 : Nat) : Int) from rfl, tmod_nat, wu64_id (by omega) (by omega)]; exact wu8_id (by omega) (by omega)
      rw [e1, e2, u8el_nat (by omega)]
      rw [ih (v / 128) (by omega) n _ (by omega) (by omega) (by simp; omega)]
      simp

theorem ruint_spec {R : Type} {k0 : LL → Option R} (v : Int) (h2 : u64ok v = true) : ruint LF v k0 = k0 (encB v.toNat) := by
  obtain ⟨hv0, hv1⟩ := u64ok_iff.1 h2
  obtain ⟨m, rfl⟩ := Int.eq_ofNat_of_zero_le hv0
  have hp := encPre_len (v := m) (by omega)
  have hLF := LF_big
  unfold ruint
  rw [ruint_loop m LF [] (by omega) (by omega) (by simp; omega)]
  simp only [List.nil_append, List.length_map, roomy_of (show (encPre m).length + 1 ≤ 68719476736 by omega), cond_true]
  obtain ⟨e1, e2⟩ := enc_split m
  rw [wu8_id (by omega) (by omega), u8el_nat (by omega), Int.toNat_natCast]
  unfold encB
  rw [e1]
  simp

theorem rtext_spec {R : Type} {k0 : LL → Option R} (s : By) (h2 : small s.length = true) : rtext LF s k0 = k0 (encB s.length ++ s.map u8el) := by
  have hs := small_iff.1 h2
  have he := (enc_len64 (v := s.length) (by omega)).2
  unfold rtext rtext_a0
  have e : wu64 (s.length : Int) = (s.length : Int) := wu64_id (by omega) (by omega)
  have e2 : u64ok (s.length : Int) = true := u64ok_iff.2 ⟨by omega, by omega⟩
  simp only [e, e2, cond_true, Int.toNat_natCast]
  rw [roomy_of (by simp [encB]; omega)]
  rfl

theorem rfix_spec {R : Type} {k0 : Int → Int → Int → Int → Option R} (v : Int) : rfix LF v k0 = k0 (wu8 v) (wu8 (shrI .u32 v 8)) (wu8 (shrI .u32 v 16)) (wu8 (shrI .u32 v 24)) := rfl

end Go.Proofs.Ytfioahjeanmfpaa.E
