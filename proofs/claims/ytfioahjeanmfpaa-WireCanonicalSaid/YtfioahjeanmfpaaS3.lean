/-
  Wire: what the functions that encode and decode compute.
-/
import Derived.Test.YtfioahjeanmfpaaL3
namespace Go.Proofs.Ytfioahjeanmfpaa.E
open Go Go.Proofs
set_option linter.unusedVariables false
set_option linter.unusedSimpArgs false

theorem clone_spec {R : Type} {k0 : Bool → LL → Option R} (b_z b_t : Bool) (b : LL) (h0 : (b.isEmpty || !b_z) = true) (h1 : roomy b.length = true) : clone LF b_z b_t b k0 = k0 b_z b := by
  unfold clone clone_a0
  cases b_z with
  | true =>
    have : b = [] := by simpa using h0
    subst this
    rfl
  | false => simp only [Nat.zero_add, h1, cond_true, cond_false]

theorem kbytes_spec {R : Type} {k0 : Bool → Option R} (a_z a_t : Bool) (a : LL) (b_z b_t : Bool) (b : LL) (h0 : a.all isU8 = true) (h1 : b.all isU8 = true) : kbytes LF a_z a_t a b_z b_t b k0 = k0 (a.map elU8 == b.map elU8) := by
  unfold kbytes kbytes_a0
  simp only [h0, h1, cond_true]

theorem app_loop {R : Type} {k0 : Int → Bool → LL → Option R} (z : Bool) : ∀ (v n : Nat) (l : LL), v < 18446744073709551616 → v < n → l.length + (encPre v).length ≤ 68719476736 → app_l3 LF n (v : Int) z l k0 = k0 (encLast v : Int) z (l ++ (encPre v).map u8el) := by
  intro v
  induction v using Nat.strongRecOn with
  | _ v ih =>
    intro n l hv hn hl
    obtain ⟨n, rfl⟩ : ∃ m, n = m + 1 := ⟨n - 1, by omega⟩
    rw [app_l3_s]
    unfold app_l3f app_a2
    by_cases h : v < 128
    · rw [ltI_t (by omega), encPre_small h, encLast_small h]
      simp
    · rw [ltI_f (by omega)]
      rw [encPre_big h] at hl
      rw [encPre_big h, encLast_big h]
      simp only [List.length_cons] at hl
      simp only [Bool.not_false, cond_true, roomy_of (show l.length + 1 ≤ 68719476736 by omega)]
      have e1 : shrI .u64 (v : Int) 7 = ((v / 128 : Nat) : Int) := shr_nat .u64 v 7 (by decide)
      have e2 : bOr .u8 (wu8 (v : Int)) 128 = ((v % 128 + 128 : Nat) : Int) := by
        rw [wu8_nat, show (128 : Int) = ((128 : Nat) : Int) from rfl, bOr8 _ _ (by omega) (by omega), or128 _ (by omega)]
        omega
      rw [e1, e2, u8el_nat (by omega)]
      rw [ih (v / 128) (by omega) n _ (by omega) (by omega) (by simp; omega)]
      simp

theorem app_spec {R : Type} {k0 : Bool → LL → Option R} (b_z b_t : Bool) (b : LL) (v : Int) (h0 : (b.isEmpty || !b_z) = true) (h1 : small b.length = true) (h2 : u64ok v = true) : app LF b_z b_t b v k0 = k0 b_z (b ++ encB v.toNat) := by
  obtain ⟨hv0, hv1⟩ := u64ok_iff.1 h2
  obtain ⟨m, rfl⟩ := Int.eq_ofNat_of_zero_le hv0
  have hb := small_iff.1 h1
  have hp := encPre_len (v := m) (by omega)
  have hLF := LF_big
  unfold app app_a1
  simp only [h0, cond_true, roomy_of (show b.length ≤ 68719476736 by omega)]
  rw [app_loop b_z m LF b (by omega) (by omega) (by omega)]
  simp only [List.length_append, List.length_map, roomy_of (show b.length + (encPre m).length + 1 ≤ 68719476736 by omega), cond_true]
  obtain ⟨e1, e2⟩ := enc_split m
  rw [wu8_id (by omega) (by omega), u8el_nat (by omega), Int.toNat_natCast]
  unfold encB
  rw [e1]
  simp

theorem apptext_spec {R : Type} {k0 : Bool → LL → Option R} (b_z b_t : Bool) (b : LL) (s : By) (h0 : (b.isEmpty || !b_z) = true) (h1 : small b.length = true) (h2 : small s.length = true) : apptext LF b_z b_t b s k0 = k0 b_z ((b ++ encB s.length) ++ s.map u8el) := by
  have hb := small_iff.1 h1
  have hs := small_iff.1 h2
  have he := (enc_len64 (v := s.length) (by omega)).2
  unfold apptext apptext_a0
  have e : wu64 (s.length : Int) = (s.length : Int) := wu64_id (by omega) (by omega)
  have e2 : u64ok (s.length : Int) = true := u64ok_iff.2 ⟨by omega, by omega⟩
  simp only [h0, h1, e, e2, cond_true, Int.toNat_natCast]
  rw [roomy_of (by simp [encB]; omega)]
  rfl

theorem bOr64 (a b : Nat) (ha : a < 18446744073709551616) (hb : b < 18446744073709551616) : bOr .u64 (a : Int) (b : Int) = ((a ||| b : Nat) : Int) := by
  unfold bOr
  have := bvor 64 a b (by omega) (by omega)
  rw [show IntKind.bits .u64 = 64 from rfl, this, wrapu64]
  have hlt : a ||| b < 2 ^ 64 := Nat.or_lt_two_pow (by omega) (by omega)
  omega

theorem shl64 (a m : Nat) (h : m ≤ 64) (h2 : a * 2 ^ m < 18446744073709551616) : shlI .u64 (a : Int) (m : Int) = ((a * 2 ^ m : Nat) : Int) := by
  unfold shlI
  rw [Int.toNat_natCast, show IntKind.bits .u64 = 64 from rfl, Nat.min_eq_left h]
  have : (a : Int) * 2 ^ m = ((a * 2 ^ m : Nat) : Int) := by simp
  rw [this, wrapu64, Nat.mod_eq_of_lt h2]

theorem wuint_loop {R : Type} {k0 : Int → Int → Int → Option R} (z t : Bool) (bs : List UInt8) (hl : bs.length ≤ 1000000000) : ∀ (d i v n : Nat), i + d = 10 → 1 ≤ d → i ≤ bs.length → v < 2 ^ (7 * i) → d < n →
    wuint_l11 LF n z t (bs.map u8el) (v : Int) (i : Int) k0 (fun _ => k0 0 0 19) = k0 ((decGo (bs.drop i) i v).1 : Int) ((decGo (bs.drop i) i v).2.1 : Int) ((decGo (bs.drop i) i v).2.2 : Int) := by
  intro d
  induction d with
  | zero => intro i v n _ h; omega
  | succ d ih =>
    intro i v n hi _ hib hv hn
    obtain ⟨n, rfl⟩ : ∃ m, n = m + 1 := ⟨n - 1, by omega⟩
    rw [wuint_l11_s]
    unfold wuint_l11f
    rw [ltI_t (by omega), List.length_map, cond_true]
    by_cases he : i = bs.length
    · rw [show ((i : Int) == (bs.length : Int)) = true by rw [he]; exact beq_self_eq_true _, he, List.drop_length]
      rfl
    · have hlt : i < bs.length := by omega
      rw [show ((i : Int) == (bs.length : Int)) = false by rw [beq_eq_false_iff_ne]; omega]
      rw [List.drop_eq_getElem_cons hlt]
      have hg : bs.getD i 0 = bs[i] := by rw [List.getD_eq_getElem?_getD, List.getElem?_eq_getElem hlt]; rfl
      generalize hc : bs[i] = c at *
      have hc8 := c.toNat_lt
      have ein : inR (i : Int) (bs.map u8el).length = true := inR_t (by omega) (by rw [List.length_map]; omega)
      have eok : okE tU8 (bs.map u8el) (Int.toNat (i : Int)) 0 = true := by rw [Int.toNat_natCast]; exact okE_u8 bs i hlt
      have eg : gE (bs.map u8el) (Int.toNat (i : Int)) 0 = (c.toNat : Int) := by rw [Int.toNat_natCast, gE_u8, hg]
      have ep : wu64 (bAnd .u8 (c.toNat : Int) 127) = ((c.toNat % 128 : Nat) : Int) := by
        rw [show (127 : Int) = ((127 : Nat) : Int) from rfl, bAnd8 _ _ hc8 (by omega), and127 _ hc8]
        exact wu64_id (by omega) (by omega)
      unfold wuint_a7
      simp only [ein, eok, cond_true, cond_false, eg, ep]
      unfold wuint_a8
      simp only [ein, eok, cond_true, cond_false, eg]
      have e7 : wi64 ((7 : Int) * (i : Int)) = ((7 * i : Nat) : Int) := by rw [wi64_id (by omega) (by omega)]; omega
      have ei : wi64 ((i : Int) + 1) = ((i + 1 : Nat) : Int) := by rw [wi64_id (by omega) (by omega)]; omega
      have main : (i = 9 → c.toNat < 128 ∧ c.toNat % 128 ≤ 1) → wuint_a9 z t (bs.map u8el) (v : Int) (i : Int) ((c.toNat % 128 : Nat) : Int) (fun a b c => k0 a b c) (fun b_z'16 b_t'17 b'18 v'19 i'20 b'21 => wuint_l11 LF n b_z'16 b_t'17 b'18 v'19 (wi64 (i'20 + (1 : Int))) k0 (fun _ => k0 0 0 19)) = k0 ((decGo (c :: bs.drop (i + 1)) i v).1 : Int) ((decGo (c :: bs.drop (i + 1)) i v).2.1 : Int) ((decGo (c :: bs.drop (i + 1)) i v).2.2 : Int) := by
        intro h9
        unfold wuint_a9
        have hp : c.toNat % 128 * 2 ^ (7 * i) < 18446744073709551616 := by
          by_cases hi9 : i = 9
          · subst hi9
            have := (h9 rfl).2
            have : c.toNat % 128 * 2 ^ (7 * 9) ≤ 1 * 2 ^ (7 * 9) := Nat.mul_le_mul_right _ this
            omega
          · have h1 : c.toNat % 128 * 2 ^ (7 * i) < 128 * 2 ^ (7 * i) := Nat.mul_lt_mul_of_pos_right (by omega) (Nat.two_pow_pos _)
            have h2 : 128 * 2 ^ (7 * i) = 2 ^ (7 * i + 7) := by rw [Nat.pow_add]; omega
            have h3 : 2 ^ (7 * i + 7) ≤ 2 ^ 63 := Nat.pow_le_pow_right (by omega) (by omega)
            omega
        have hv64 : v < 18446744073709551616 := Nat.lt_of_lt_of_le hv (Nat.le_trans (Nat.pow_le_pow_right (by omega) (show 7 * i ≤ 63 by omega)) (by decide))
        have ev : bOr .u64 (v : Int) (shlI .u64 ((c.toNat % 128 : Nat) : Int) ((7 * i : Nat) : Int)) = ((v + c.toNat % 128 * 2 ^ (7 * i) : Nat) : Int) := by
          rw [shl64 _ _ (by omega) hp, bOr64 _ _ hv64 hp, or_add _ _ _ hv]
        simp only [e7, ein, eok, cond_true, cond_false, eg, ev, ei]
        rw [show decide ((0 : Int) ≤ ((7 * i : Nat) : Int)) = true from decide_eq_true (by omega), cond_true]
        have hd9 : ¬ (i = 9 ∧ (128 ≤ c.toNat ∨ 1 < c.toNat % 128)) := fun ⟨a, b⟩ => by have := h9 a; omega
        simp only [decGo]
        rw [if_neg hd9]
        by_cases hs : c.toNat < 128
        · rw [ltI_t (by omega), if_pos hs]
          by_cases h0 : 0 < i
          · rw [ltI_t (by omega)]
            by_cases hz : c.toNat = 0
            · rw [if_pos ⟨h0, hz⟩, hz]; rfl
            · rw [if_neg (fun a => hz a.2), show (((c.toNat : Nat) : Int) == 0) = false by rw [beq_eq_false_iff_ne]; omega]
              rfl
          · rw [ltI_f (by omega), if_neg (fun a => h0 a.1)]; rfl
        · rw [ltI_f (by omega), if_neg hs]
          simp only [cond_false]
          have hi9 : i ≠ 9 := fun a => hs (h9 a).1
          rw [ih (i + 1) _ n (by omega) (by omega) (by omega) ?_ (by omega)]
          have h1 : c.toNat % 128 * 2 ^ (7 * i) < 128 * 2 ^ (7 * i) := Nat.mul_lt_mul_of_pos_right (by omega) (Nat.two_pow_pos _)
          have h2 : 2 ^ (7 * (i + 1)) = 128 * 2 ^ (7 * i) := pow7 i
          have h3 : c.toNat % 128 * 2 ^ (7 * i) + 2 ^ (7 * i) ≤ 128 * 2 ^ (7 * i) := by
            have : (c.toNat % 128 + 1) * 2 ^ (7 * i) ≤ 128 * 2 ^ (7 * i) := Nat.mul_le_mul_right _ (by omega)
            rw [Nat.add_mul] at this
            omega
          omega
      by_cases hi9 : i = 9
      · rw [show ((i : Int) == 9) = true by rw [hi9]; rfl, cond_true]
        by_cases hs : c.toNat < 128
        · rw [ltI_t (by omega)]
          by_cases hp : 1 < c.toNat % 128
          · rw [ltI_t (by omega)]
            simp only [decGo]
            rw [if_pos ⟨hi9, .inr hp⟩]
            rfl
          · rw [ltI_f (by omega)]
            exact main (fun _ => ⟨hs, by omega⟩)
        · rw [ltI_f (by omega)]
          simp only [decGo]
          rw [if_pos ⟨hi9, .inl (by omega)⟩]
          rfl
      · rw [show ((i : Int) == 9) = false by rw [beq_eq_false_iff_ne]; omega, cond_false]
        exact main (fun a => absurd a hi9)

theorem wuint_spec {R : Type} {k0 : Int → Int → Int → Option R} (b_z b_t : Bool) (b : LL) (h0 : b.all isU8 = true) (h1 : small b.length = true) : wuint LF b_z b_t b k0 = k0 ((decU (b.map elU8)).1 : Int) ((decU (b.map elU8)).2.1 : Int) ((decU (b.map elU8)).2.2 : Int) := by
  obtain ⟨bs, rfl⟩ := bytes_of_all h0
  have hl := small_iff.1 h1
  rw [List.length_map] at hl
  have hLF := LF_big
  rw [map_elU8]
  unfold wuint
  exact wuint_loop b_z b_t bs hl 10 0 0 LF (by omega) (by omega) (by omega) (by simp) (by omega)

theorem wtext_spec {R : Type} {k0 : By → Int → Int → Option R} (b_z b_t : Bool) (b : LL) (h0 : b.all isU8 = true) (h1 : small b.length = true) : wtext LF b_z b_t b k0 = k0 (decT (b.map elU8)).1 ((decT (b.map elU8)).2.1 : Int) ((decT (b.map elU8)).2.2 : Int) := by
  obtain ⟨bs, rfl⟩ := bytes_of_all h0
  have hl := small_iff.1 h1
  unfold wtext wtext_a1
  simp only [h0, h1, cond_true, map_elU8]
  rw [List.length_map] at hl
  unfold wtext_a2
  unfold decT
  by_cases he : (decU bs).2.2 = 0
  · rw [show (((decU bs).2.2 : Int) != 0) = false by rw [he]; rfl, cond_false, if_neg (by simp [he])]
    obtain ⟨c1, c2, c3, c4⟩ := decU_canon (bs := bs) (x := (decU bs).1) (n := (decU bs).2.1) (by rw [← he])
    by_cases hx : 4096 < (decU bs).1
    · rw [ltI_t (by omega), if_pos hx]; rfl
    · rw [ltI_f (by omega), if_neg hx, cond_false]
      have e1 : wi64 (((bs.map u8el).length : Int) - ((decU bs).2.1 : Int)) = ((bs.length - (decU bs).2.1 : Nat) : Int) := by rw [List.length_map, wi64_id (by omega) (by omega)]; omega
      have e2 : wi64 ((decU bs).1 : Int) = ((decU bs).1 : Int) := wi64_id (by omega) (by omega)
      rw [e1, e2]
      by_cases hy : bs.length - (decU bs).2.1 < (decU bs).1
      · rw [ltI_t (by omega), if_pos hy]; rfl
      · rw [ltI_f (by omega), if_neg hy, cond_false]
        unfold wtext_a3
        have e3 : wi64 (((decU bs).2.1 : Int) + wi64 ((decU bs).1 : Int)) = (((decU bs).2.1 + (decU bs).1 : Nat) : Int) := by rw [e2, wi64_id (by omega) (by omega)]; omega
        dsimp only
        rw [e3, sub3_t (by omega) (by omega) (by rw [List.length_map]; omega)]
        have e4 : cut (bs.map u8el) ((decU bs).2.1 : Int) (((decU bs).2.1 + (decU bs).1 : Nat) : Int) = ((bs.drop (decU bs).2.1).take (decU bs).1).map u8el := by
          unfold cut
          rw [Int.toNat_natCast, Int.toNat_natCast, ← List.map_take, ← List.map_drop, List.drop_take]
          congr 2
          omega
        rw [e4, all_isU8, map_elU8]
        rfl
  · rw [show (((decU bs).2.2 : Int) != 0) = true by rw [bne_iff_ne]; omega, if_pos he]
    rfl

end Go.Proofs.Ytfioahjeanmfpaa.E
