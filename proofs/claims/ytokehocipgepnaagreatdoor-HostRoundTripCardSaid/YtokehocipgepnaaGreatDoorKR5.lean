/-
  Parse reads back the text of every valid host, and whatever Parse returns is valid: the law HostRoundTrip holds, as its tied card says. Conditions: what the card itself names (the package-level variables that are listed, tied to the program's text).
-/
import Derived.Test.YtokehocipgepnaaGreatDoorKR4
import Derived.LaidMore
import Derived.LaidSub
import Derived.Lay
import Derived.Lib.TrimAscii
import Derived.Lib.TrimUEq
import Derived.Lib.ValidLaws
import Derived.OpenShut
import Derived.ProofKit
import Derived.Shelf.Vars
import Derived.Test.YtokehocipgepnaaGreatDoorCards
import Derived.Test.YtokehocipgepnaaGreatDoorChecked
import Derived.Test.YtokehocipgepnaaGreatDoorRows
import Derived.Test.YtokehocipgepnaaGreatDoorTie
namespace Go.Proofs.YtokehocipgepnaaGreatDoor.E
open Go
set_option linter.unusedVariables false
theorem join_cons2 (x y : By) (r : List By) (p : By) : Lib.join (x :: y :: r) p = x ++ (p ++ Lib.join (y :: r) p) := by
  simp [Lib.join, List.intercalate]
theorem pcs_join (c : UInt8) : ∀ l : List By, l ≠ [] → (∀ x ∈ l, c ∉ x) → pcs c (Lib.join l [c]) = l
  | [], h, _ => absurd rfl h
  | [x], _, h => by rw [Lib.join_one, pcs_none (h x (by simp))]
  | x :: y :: r, _, h => by
    rw [join_cons2, List.singleton_append, pcs_app (h x (by simp)), pcs_join c (y :: r) (by simp) (fun z hz => h z (by simp [hz]))]
theorem join_pcs (c : UInt8) : ∀ (n : Nat) (s : By), s.length ≤ n → Lib.join (pcs c s) [c] = s
  | n, s, hn => by
    rcases split_first c s with h | ⟨p, r, rfl, h⟩
    · rw [pcs_none h, Lib.join_one]
    · rw [pcs_app h]
      cases n with
      | zero => simp at hn
      | succ n =>
        have ih := join_pcs c n r (by simp at hn; omega)
        cases hp : pcs c r with
        | nil => exact absurd hp (pcs_ne c r)
        | cons y q =>
          rw [join_cons2, ← hp, ih]
          rfl
theorem join_pcs' (c : UInt8) (s : By) : Lib.join (pcs c s) [c] = s := join_pcs c _ s (Nat.le_refl _)
theorem mem_join {c b : UInt8} : ∀ l : List By, b ∈ Lib.join l [c] → b = c ∨ ∃ x ∈ l, b ∈ x
  | [], h => by simp [Lib.join_nil] at h
  | [x], h => by rw [Lib.join_one] at h; exact .inr ⟨x, by simp, h⟩
  | x :: y :: r, h => by
    rw [join_cons2] at h
    simp only [List.mem_append, List.mem_singleton] at h
    rcases h with h | h | h
    · exact .inr ⟨x, by simp, h⟩
    · exact .inl h
    · rcases mem_join (y :: r) h with h | ⟨z, hz, h⟩
      · exact .inl h
      · exact .inr ⟨z, by simp [hz], h⟩
theorem mem_pcs {c b : UInt8} {s : By} (h : b ∈ s) : b = c ∨ ∃ x ∈ pcs c s, b ∈ x := by
  rw [← join_pcs' c s] at h
  exact mem_join _ h
theorem lowB_46 (b : UInt8) : lowB b = 46 ↔ b = 46 := by
  rcases lowB_cases b with ⟨h, e⟩ | ⟨h, e⟩ | ⟨h, h2, e⟩
  · rw [e]
  · rw [e]
  · constructor
    · intro h3; rw [h3] at e; simp at e; omega
    · intro h3; subst h3; simp at h
theorem lower_app (a b : By) : lower (a ++ b) = lower a ++ lower b := List.map_append
theorem lower_len (s : By) : (lower s).length = s.length := List.length_map _
theorem splitGo_lower : ∀ (s acc : By), splitGo 46 (lower acc) (lower s) = (splitGo 46 acc s).map lower
  | [], acc => rfl
  | b :: r, acc => by
    show (if lowB b = 46 then _ else _) = _
    simp only [splitGo]
    by_cases h : b = 46
    · rw [if_pos ((lowB_46 b).2 h), if_pos h, List.map_cons]
      have := splitGo_lower r []
      rw [← this]
      rfl
    · rw [if_neg (fun e => h ((lowB_46 b).1 e)), if_neg h, ← splitGo_lower r (acc ++ [b]), lower_app]
      rfl
theorem pcs_lower (s : By) : pcs 46 (lower s) = (pcs 46 s).map lower := splitGo_lower s []
theorem dig_low (b : UInt8) : dig (lowB b) = dig b := by
  rcases lowB_cases b with ⟨h, e⟩ | ⟨h, e⟩ | ⟨h, h2, e⟩
  · rw [e]
  · rw [e]
  · unfold dig
    rw [e]
    repeat' split
    all_goals omega
theorem digGo_low (base : Nat) : ∀ (s : By) (n : Nat), digGo base n (lower s) = digGo base n s
  | [], n => rfl
  | b :: r, n => by
    show (if dig (lowB b) < base then _ else _) = _
    simp only [digGo, dig_low]
    split
    · exact digGo_low base r _
    · rfl
theorem lowB_48 (b : UInt8) : lowB b = 48 ↔ b = 48 := by
  rcases lowB_cases b with ⟨h, e⟩ | ⟨h, e⟩ | ⟨h, h2, e⟩
  · rw [e]
  · rw [e]
  · constructor
    · intro h3; rw [h3] at e; simp at e; omega
    · intro h3; subst h3; simp at h
theorem lowB_x (b : UInt8) : (lowB b = 120 ∨ lowB b = 88) ↔ (b = 120 ∨ b = 88) := by
  rcases lowB_cases b with ⟨h, e⟩ | ⟨h, e⟩ | ⟨h, h2, e⟩
  · rw [e]
  · rw [e]
  · constructor
    · rintro (h3 | h3)
      · rw [h3] at e
        right
        apply UInt8.toNat_inj.1
        simp at e ⊢
        omega
      · rw [h3] at e; simp at e; omega
    · rintro (h3 | h3)
      · subst h3; simp at h2
      · subst h3; left; apply UInt8.toNat_inj.1; rw [e]; rfl
theorem lower_getD (s : By) (i : Nat) : (lower s).getD i 0 = lowB (s.getD i 0) := by
  unfold lower
  simp only [List.getD_eq_getElem?_getD, List.getElem?_map]
  cases s[i]? <;> rfl
theorem isHex_low (s : By) : isHex (lower s) = isHex s := by
  rw [Bool.eq_iff_iff, isHex_iff, isHex_iff, lower_getD, lower_getD, lowB_48, lowB_x]
theorem lower_nil {s : By} : lower s = [] ↔ s = [] := by unfold lower; simp
theorem getLastD_map (l : List By) : (l.map lower).getLastD [] = lower (l.getLastD []) := by
  rw [List.getLastD_eq_getLast?, List.getLastD_eq_getLast?, List.getLast?_map]
  cases l.getLast? <;> rfl
theorem partsB_low (s : By) : partsB (lower s) = (partsB s).map lower := by
  unfold partsB
  rw [pcs_lower, getLastD_map]
  simp only [List.length_map, lower_nil]
  split
  · rw [List.map_dropLast]
  · rfl
theorem lastB_low (s : By) : lastB (lower s) = lower (lastB s) := by
  unfold lastB
  rw [partsB_low, getLastD_map]
theorem lower_drop (s : By) (i : Nat) : (lower s).drop i = lower (s.drop i) := by unfold lower; rw [List.map_drop]
theorem lower_isEmpty (s : By) : (lower s).isEmpty = s.isEmpty := by cases s <;> rfl
theorem numericB_low (s : By) : numericB (lower s) = numericB s := by
  unfold numericB
  rw [lastB_low, isHex_low, lower_drop, digGo_low, digGo_low, lower_isEmpty]
theorem ptsGo_ascii : ∀ (n : Nat) (s : By), s.length ≤ n → (∀ b ∈ s, b.toNat < 128) → ptsGo n s = some (s.map (·.toNat))
  | 0, s, h, _ => by
    have : s = [] := List.length_eq_zero_iff.1 (by omega)
    subst this; rfl
  | n + 1, [], _, _ => by simp [ptsGo]
  | n + 1, b :: r, h, hs => by
    simp only [ptsGo]
    rw [if_neg (by simp), Lib.decodeL_ascii b r (hs b (by simp))]
    have hb := hs b (by simp)
    rw [if_neg (by simp; omega)]
    simp only [List.drop_succ_cons, List.drop_zero]
    rw [ptsGo_ascii n r (by simp at h; omega) (fun c hc => hs c (by simp [hc]))]
    rfl
theorem ptsB_ascii (s : By) (h : ∀ b ∈ s, b.toNat < 128) : ptsB s = some (s.map (·.toNat)) := ptsGo_ascii _ s (Nat.le_refl _) h
theorem lblByte_iff (b : UInt8) : lblByte b = true ↔ (97 ≤ b.toNat ∧ b.toNat ≤ 122) ∨ (48 ≤ b.toNat ∧ b.toNat ≤ 57) ∨ b = 45 ∨ b = 95 := by
  simp [lblByte, or_assoc]
theorem lblByte_lt {b : UInt8} (h : lblByte b = true) : b.toNat < 128 ∧ (b.toNat < 65 ∨ 90 < b.toNat) ∧ b ≠ 46 ∧ b ≠ 37 ∧ b ≠ 91 := by
  rw [lblByte_iff] at h
  have key : ∀ c : UInt8, b = c → b.toNat = c.toNat := fun c e => by rw [e]
  rcases h with h | h | h | h
  · refine ⟨by omega, by omega, ?_, ?_, ?_⟩ <;> intro e <;> have := key _ e <;> simp at this <;> omega
  · refine ⟨by omega, by omega, ?_, ?_, ?_⟩ <;> intro e <;> have := key _ e <;> simp at this <;> omega
  · subst h; decide
  · subst h; decide
structure VL (s : By) : Prop where
  ne : s ≠ []
  le : s.length ≤ 63
  byt : ∀ b ∈ s, lblByte b = true
theorem validL_VL {s : By} (h : validL s = true) : VL s := by
  unfold validL at h
  simp only [Bool.and_eq_true, Bool.not_eq_true', List.all_eq_true] at h
  obtain ⟨⟨⟨⟨⟨h1, h2⟩, h3⟩, h4⟩, h5⟩, h6⟩ := h
  refine ⟨by intro e; subst e; simp at h1, Nat.le_of_ble_eq_true h2, fun b hb => h5 b hb⟩
theorem low_id {s : By} (h : ∀ b ∈ s, b.toNat < 65 ∨ 90 < b.toNat) : lower s = s := by
  unfold lower
  conv => rhs; rw [← List.map_id s]
  apply List.map_congr_left
  intro b hb
  rcases lowB_cases b with ⟨_, e⟩ | ⟨_, e⟩ | ⟨h1, h2, e⟩
  · exact e
  · exact e
  · have := h b hb; omega
theorem low_ascii {s : By} (h : ∀ b ∈ lower s, b.toNat < 128) : ∀ b ∈ s, b.toNat < 128 := by
  intro b hb
  have := h (lowB b) (List.mem_map_of_mem hb)
  rcases lowB_cases b with ⟨_, e⟩ | ⟨_, e⟩ | ⟨h1, h2, e⟩
  · omega
  · rw [e] at this; exact this
  · omega
theorem toAsc_low {s : By} (h : validL (lower s) = true) : toAsc s = (lower s, 0) := by
  have v := validL_VL h
  have ha := low_ascii (fun b hb => (lblByte_lt (v.byt b hb)).1)
  have hl := lower_len s
  have h63 := v.le
  unfold toAsc
  rw [ptsB_ascii s ha]
  simp only [List.length_map]
  rw [if_neg (by omega), if_neg (by omega), if_pos h]
theorem asciis_low : ∀ l : List By, (l.map lower).all validL = true → asciis l = (l.map lower, 0)
  | [], _ => rfl
  | x :: r, h => by
    simp only [List.map_cons, List.all_cons, Bool.and_eq_true] at h
    unfold asciis
    rw [toAsc_low h.1, asciis_low r h.2]
    rfl
structure VN (s : By) : Prop where
  le : s.length ≤ 253
  num : numericB s = false
  all : ∀ x ∈ pcs 46 s, validL x = true
theorem validN_iff {s : By} : validN s = true ↔ VN s := by
  unfold validN
  simp only [Bool.and_eq_true, Bool.not_eq_true', List.all_eq_true]
  exact ⟨fun h => ⟨Nat.le_of_ble_eq_true h.1.1, h.1.2, h.2⟩, fun h => ⟨⟨Nat.ble_eq_true_of_le h.le, h.num⟩, h.all⟩⟩
theorem VN.byt {s : By} (h : VN s) : ∀ b ∈ s, b = 46 ∨ lblByte b = true := by
  intro b hb
  rcases mem_pcs (c := 46) hb with h1 | ⟨x, hx, h1⟩
  · exact .inl h1
  · exact .inr ((validL_VL (h.all x hx)).byt b h1)
theorem VN.byt' {s : By} (h : VN s) {b : UInt8} (hb : b ∈ s) : b.toNat < 128 ∧ (b.toNat < 65 ∨ 90 < b.toNat) ∧ b ≠ 37 ∧ b ≠ 91 := by
  rcases h.byt b hb with h1 | h1
  · subst h1; decide
  · have := lblByte_lt h1
    exact ⟨this.1, this.2.1, this.2.2.2.1, this.2.2.2.2⟩
theorem join_last (c : UInt8) : ∀ (l : List By), (∀ x ∈ l, x ≠ [] ∧ c ∉ x) → (Lib.join l [c]).getLast? ≠ some c
  | [], _ => by simp [Lib.join_nil]
  | [x], h => by
    rw [Lib.join_one]
    intro e
    have := List.mem_of_getLast? e
    exact (h x (by simp)).2 this
  | x :: y :: r, h => by
    have ih := join_last c (y :: r) (fun z hz => h z (by simp [hz]))
    have hne : Lib.join (y :: r) [c] ≠ [] := by
      intro e
      have : pcs c (Lib.join (y :: r) [c]) = y :: r := pcs_join c _ (by simp) (fun z hz => (h z (by simp [hz])).2)
      rw [e] at this
      have h2 : pcs c [] = [[]] := rfl
      rw [h2] at this
      simp at this
      exact (h y (by simp)).1 (by rw [← this.1])
    rw [join_cons2, List.getLast?_append, List.getLast?_append]
    cases hq : (Lib.join (y :: r) [c]).getLast? with
    | none => rw [List.getLast?_eq_none_iff] at hq; exact absurd hq hne
    | some z =>
      rw [hq] at ih
      simpa using ih
theorem VN.last {s : By} (h : VN s) : s.getLast? ≠ some 46 := by
  have := join_last 46 (pcs 46 s) (fun x hx => ⟨(validL_VL (h.all x hx)).ne, (pcs_mem hx).1⟩)
  rwa [join_pcs'] at this
theorem VN.head {s : By} (h : VN s) : s.head? ≠ some 91 := by
  intro e
  exact (h.byt' (List.mem_of_head? e)).2.2.2 rfl
theorem VN.low {s : By} (h : VN s) : lower s = s := low_id fun b hb => (h.byt' hb).2.1
theorem pctB_id : ∀ s : By, (∀ b ∈ s, b ≠ 37) → pctB s = some s
  | [], _ => by unfold pctB; rfl
  | b :: r, h => by
    unfold pctB
    rw [if_neg (h b (by simp)), pctB_id r (fun c hc => h c (by simp [hc]))]
    rfl
theorem parse_spelled {raw t' t name : By} (h1 : raw.length ≤ 1024) (h2 : raw.head? ≠ some 91) (h3 : pctB raw = some t') (h4 : trimDot t' = t) (h5 : lower t = name) (hn : VN name) : parseH raw = (⟨1, name, 0, z8⟩, 0) := by
  subst h5
  have hnum : numericB t = false := by rw [← numericB_low]; exact hn.num
  have hal : ((pcs 46 t).map lower).all validL = true := by
    rw [← pcs_lower, List.all_eq_true]
    exact hn.all
  unfold parseH
  rw [if_neg (by omega), if_neg h2, h3]
  simp only [h4, hnum]
  rw [asciis_low _ hal]
  simp only [Bool.false_eq_true, if_false, if_true]
  rw [← pcs_lower, join_pcs', if_neg (by have := hn.le; omega), hn.num]
  simp
theorem parse_name {s : By} (h : VN s) : parseH s = (⟨1, s, 0, z8⟩, 0) :=
  parse_spelled (by have := h.le; omega) h.head (pctB_id s fun b hb => (h.byt' hb).2.2.1) (by unfold trimDot; rw [if_neg h.last]) h.low h
theorem coversN_iff {a b : By} : coversN a b = true ↔ VN a ∧ VN b ∧ (a = b ∨ ∃ p, b = p ++ 46 :: a) := by
  unfold coversN
  simp only [Bool.and_eq_true, Bool.or_eq_true, validN_iff, and_assoc, beq_iff_eq, List.isSuffixOf_iff_suffix]
  constructor
  · rintro ⟨h1, h2, h3 | ⟨p, h3⟩⟩
    · exact ⟨h1, h2, .inl h3⟩
    · exact ⟨h1, h2, .inr ⟨p, h3.symm⟩⟩
  · rintro ⟨h1, h2, h3 | ⟨p, h3⟩⟩
    · exact ⟨h1, h2, .inl h3⟩
    · exact ⟨h1, h2, .inr ⟨p, h3.symm⟩⟩
theorem partsB_full {s : By} (h : ∀ x ∈ pcs 46 s, x ≠ []) : partsB s = pcs 46 s := by
  unfold partsB
  rw [if_neg]
  rintro ⟨_, h2⟩
  have hne := pcs_ne 46 s
  have : (pcs 46 s).getLast hne ∈ pcs 46 s := List.getLast_mem hne
  rw [List.getLastD_eq_getLast?, List.getLast?_eq_some_getLast hne] at h2
  exact h _ this h2
def hexU (n : Nat) : UInt8 := if n < 10 then UInt8.ofNat (48 + n) else UInt8.ofNat (55 + n)
theorem dig_hexU (n : Nat) (h : n < 16) : dig (hexU n) = n := by
  unfold hexU dig
  split
  · have : (UInt8.ofNat (48 + n)).toNat = 48 + n := by simp; omega
    rw [this]; repeat' split
    all_goals omega
  · have : (UInt8.ofNat (55 + n)).toNat = 55 + n := by simp; omega
    rw [this]; repeat' split
    all_goals omega
theorem dig_hexD (n : Nat) (h : n < 16) : dig (hexD n) = n := by
  unfold hexD dig
  split
  · have : (UInt8.ofNat (48 + n)).toNat = 48 + n := by simp; omega
    rw [this]; repeat' split
    all_goals omega
  · have : (UInt8.ofNat (87 + n)).toNat = 87 + n := by simp; omega
    rw [this]; repeat' split
    all_goals omega
theorem dec_bytes : ∀ u : Nat, ∀ b ∈ Lib.decDigits u, 48 ≤ b.toNat ∧ b.toNat ≤ 57 := by
  intro u
  induction u using Nat.strongRecOn with
  | _ u ih =>
    intro b hb
    by_cases h : u < 10
    · rw [Lib.decDigits_one h] at hb
      simp only [List.mem_singleton] at hb
      subst hb
      have : (UInt8.ofNat (48 + u)).toNat = 48 + u := by simp; omega
      omega
    · rw [decDigits_eq2 u h] at hb
      rcases List.mem_append.1 hb with hb | hb
      · exact ih (u / 10) (by omega) b hb
      · simp only [List.mem_singleton] at hb
        subst hb
        have : (UInt8.ofNat (48 + u % 10)).toNat = 48 + u % 10 := by simp; omega
        omega
theorem dec_no {u : Nat} {c : UInt8} (h : c.toNat < 48 ∨ 57 < c.toNat) : c ∉ Lib.decDigits u := fun hb => by
  have := dec_bytes u c hb
  omega
theorem dec_zero : ∀ u : Nat, (Lib.decDigits u).getD 0 0 = 48 → u = 0 := by
  intro u
  induction u using Nat.strongRecOn with
  | _ u ih =>
    intro h0
    by_cases h : u < 10
    · rw [Lib.decDigits_one h] at h0
      simp only [List.getD_cons_zero] at h0
      have h1 : (UInt8.ofNat (48 + u)).toNat = 48 + u := by simp; omega
      rw [h0] at h1
      simp at h1
      omega
    · rw [decDigits_eq2 u h] at h0
      have hp := List.length_pos_iff.2 (decDigits_ne (u / 10))
      rw [List.getD_eq_getElem?_getD, List.getElem?_append_left hp, ← List.getD_eq_getElem?_getD] at h0
      have := ih (u / 10) (by omega) h0
      omega
theorem dec_isHex (u : Nat) : isHex (Lib.decDigits u) = false := by
  cases h : isHex (Lib.decDigits u) with
  | false => rfl
  | true =>
    have h1 := (isHex_iff _).1 h
    have h2 := isHex_len h
    rw [dec_zero u h1.1, Lib.decDigits_one (by omega)] at h2
    simp at h2
theorem numB_dec (u : Nat) (h : u ≤ satB) : numB (Lib.decDigits u) = some u := by
  unfold numB
  rw [if_neg (decDigits_ne u), dec_isHex]
  simp only [Bool.false_eq_true, if_false]
  rw [if_neg, digGo_dec u h]
  rintro ⟨h1, h2⟩
  rw [dec_zero u h2, Lib.decDigits_one (by omega)] at h1
  simp at h1
def v4P (v : Nat) : List By := [Lib.decDigits (v / 16777216), Lib.decDigits (v / 65536 % 256), Lib.decDigits (v / 256 % 256), Lib.decDigits (v % 256)]
theorem v4Fmt_join (v : Nat) : v4Fmt v = Lib.join (v4P v) [46] := by
  unfold v4P
  rw [join_cons2, join_cons2, join_cons2, Lib.join_one]
  rfl
theorem v4P_mem {v : Nat} {x : By} (h : x ∈ v4P v) : ∃ u, x = Lib.decDigits u := by
  simp only [v4P, List.mem_cons, List.not_mem_nil, or_false] at h
  rcases h with h | h | h | h <;> exact ⟨_, h⟩
theorem pcs_v4 (v : Nat) : pcs 46 (v4Fmt v) = v4P v := by
  rw [v4Fmt_join]
  refine pcs_join 46 _ (by simp [v4P]) (fun x hx => ?_)
  obtain ⟨u, rfl⟩ := v4P_mem hx
  exact dec_no (by decide)
theorem parts_v4 (v : Nat) : partsB (v4Fmt v) = v4P v := by
  rw [partsB_full, pcs_v4]
  intro x hx
  rw [pcs_v4] at hx
  obtain ⟨u, rfl⟩ := v4P_mem hx
  exact decDigits_ne u
theorem numericB_v4 (v : Nat) : numericB (v4Fmt v) = true := by
  have e : lastB (v4Fmt v) = Lib.decDigits (v % 256) := by
    unfold lastB
    rw [parts_v4]
    rfl
  unfold numericB
  rw [e, dec_isHex, digGo_dec _ (by unfold satB; omega)]
  have := decDigits_ne (v % 256)
  cases h : Lib.decDigits (v % 256) with
  | nil => exact absurd h this
  | cons a b => rfl
theorem pnB_v4 (v : Nat) (h : v < 4294967296) : pnB (v4Fmt v) = some v := by
  unfold pnB
  rw [parts_v4]
  simp only [v4P, List.length_cons, List.length_nil, pnGo]
  simp only [numB_dec _ (show v / 16777216 ≤ satB by unfold satB; omega), numB_dec _ (show v / 65536 % 256 ≤ satB by unfold satB; omega), numB_dec _ (show v / 256 % 256 ≤ satB by unfold satB; omega), numB_dec _ (show v % 256 ≤ satB by unfold satB; omega)]
  rw [if_neg (by omega), if_pos (by omega), if_pos (by omega), if_pos (by omega), if_pos (by simp; omega)]
  simp
  omega
theorem v4_bytes {v : Nat} {b : UInt8} (h : b ∈ v4Fmt v) : b = 46 ∨ (48 ≤ b.toNat ∧ b.toNat ≤ 57) := by
  rw [v4Fmt_join] at h
  rcases mem_join _ h with h | ⟨x, hx, h⟩
  · exact .inl h
  · obtain ⟨u, rfl⟩ := v4P_mem hx
    exact .inr (dec_bytes u b h)
theorem v4_len (v : Nat) (h : v < 4294967296) : (v4Fmt v).length ≤ 43 := by
  unfold v4Fmt
  have h1 := decDigits_len (v / 16777216) (by omega)
  have h2 := decDigits_len (v / 65536 % 256) (by omega)
  have h3 := decDigits_len (v / 256 % 256) (by omega)
  have h4 := decDigits_len (v % 256) (by omega)
  simp only [List.length_append, List.length_cons]
  omega
theorem parse_v4 (v : Nat) (h : v < 4294967296) : parseH (v4Fmt v) = (⟨2, [], v, z8⟩, 0) := by
  have hb : ∀ b ∈ v4Fmt v, b ≠ 37 ∧ b ≠ 91 := by
    intro b hb
    rcases v4_bytes hb with rfl | ⟨h1, h2⟩
    · decide
    · constructor <;> intro e <;> subst e <;> simp at h1 h2
  have hl := v4_len v h
  unfold parseH
  rw [if_neg (by omega), if_neg (fun e => (hb _ (List.mem_of_head? e)).2 rfl), pctB_id _ (fun b h => (hb b h).1)]
  have ht : trimDot (v4Fmt v) = v4Fmt v := by
    unfold trimDot
    rw [if_neg]
    rw [v4Fmt_join]
    refine join_last 46 _ (fun x hx => ?_)
    obtain ⟨u, rfl⟩ := v4P_mem hx
    exact ⟨decDigits_ne u, dec_no (by decide)⟩
  simp only [ht, numericB_v4, pnB_v4 v h, if_true]
theorem pnGo_lt2 (free : Nat) : ∀ (l : List By) (v x : Nat), pnGo free v l = some x → x < (v + 1) * 256 ^ (l.length - 1) * 2 ^ free
  | [], v, x, h => by simp [pnGo] at h
  | [p], v, x, h => by
    simp only [pnGo] at h
    split at h
    · cases h
    · split at h
      · rename_i n hn hlt
        simp only [Option.some.injEq] at h
        subst h
        simp only [List.length_cons, List.length_nil, Nat.sub_self, Nat.pow_zero, Nat.mul_one, Nat.add_mul]
        omega
      · cases h
  | p :: q :: r, v, x, h => by
    rw [pnGo] at h
    split at h
    · cases h
    · simp only at h
      split at h
      · rename_i n hn hle
        have ih := pnGo_lt2 free (q :: r) _ x h
        refine Nat.lt_of_lt_of_le ih (Nat.mul_le_mul_right _ ?_)
        simp only [List.length_cons, Nat.add_sub_cancel]
        rw [Nat.pow_succ, Nat.mul_comm (256 ^ r.length) 256, ← Nat.mul_assoc]
        exact Nat.mul_le_mul_right _ (by omega)
      · cases h
theorem pnB_lt2 {s : By} {v : Nat} (h : pnB s = some v) : v < 4294967296 := by
  unfold pnB at h
  split at h
  · cases h
  · rename_i h4
    have h1 := (partsB_len s).1
    have := pnGo_lt2 _ _ _ _ h
    generalize (partsB s).length = n at *
    have : n = 1 ∨ n = 2 ∨ n = 3 ∨ n = 4 := by omega
    rcases this with rfl | rfl | rfl | rfl <;> simp at * <;> omega
theorem grpGo_app : ∀ (a b : By) (v : Nat), grpGo v (a ++ b) = (grpGo v a).bind fun w => grpGo w b
  | [], b, v => rfl
  | c :: r, b, v => by
    simp only [List.cons_append, grpGo]
    split
    · exact grpGo_app r b _
    · rfl
theorem grpGo_hex : ∀ x : Nat, grpGo 0 (hexN x) = some x := by
  intro x
  induction x using Nat.strongRecOn with
  | _ x ih =>
    by_cases h : x < 16
    · rw [hexN_one h]
      simp only [grpGo, dig_hexD x h]
      rw [if_pos h]
      simp
    · rw [hexN_more h, grpGo_app, ih (x / 16) (by omega)]
      simp only [Option.bind_some, grpGo, dig_hexD (x % 16) (by omega)]
      rw [if_pos (by omega)]
      simp
      omega
theorem grp_hex (x : Nat) (h : x < 65536) : grp (hexN x) = some x := by
  have := hexN_len x h
  unfold grp
  rw [if_neg, grpGo_hex]
  rintro (e | e)
  · rw [e] at this; simp at this
  · omega
theorem hexN_no : ∀ x : Nat, (58 : UInt8) ∉ hexN x := by
  intro x
  induction x using Nat.strongRecOn with
  | _ x ih =>
    by_cases h : x < 16
    · rw [hexN_one h]
      simpa using Ne.symm (hexD_ne x h)
    · rw [hexN_more h]
      simp only [List.mem_append, List.mem_singleton, not_or]
      exact ⟨ih _ (by omega), Ne.symm (hexD_ne _ (by omega))⟩
theorem hexN_ne (x : Nat) : hexN x ≠ [] := by
  by_cases h : x < 16
  · rw [hexN_one h]; simp
  · rw [hexN_more h]; simp
theorem grps_hex (last : Bool) : ∀ l : List Nat, (∀ x ∈ l, x < 65536) → grps last (l.map hexN) = some l
  | [], _ => rfl
  | x :: r, h => by
    simp only [List.map_cons, grps]
    rw [grp_hex x (h x (by simp)), grps_hex last r (fun y hy => h y (by simp [hy]))]
    rfl
theorem pcs_joinH (l : List Nat) (h : l ≠ []) : pcs 58 (joinH l) = l.map hexN := by
  unfold joinH
  refine pcs_join 58 _ (by simpa using h) (fun x hx => ?_)
  obtain ⟨y, _, rfl⟩ := List.mem_map.1 hx
  exact hexN_no y
theorem joinH_ne (l : List Nat) (h : l ≠ []) : joinH l ≠ [] := by
  intro e
  have := pcs_joinH l h
  rw [e] at this
  have h2 : pcs 58 [] = [[]] := rfl
  rw [h2] at this
  cases l with
  | nil => exact h rfl
  | cons x r =>
    simp only [List.map_cons, List.cons.injEq] at this
    exact hexN_ne x this.1.symm
theorem grpsB_joinH (l : List Nat) (last : Bool) (h : ∀ x ∈ l, x < 65536) : grpsB (joinH l) last = some l := by
  unfold grpsB
  by_cases hl : l = []
  · subst hl; rfl
  · rw [if_neg (joinH_ne l hl), pcs_joinH l hl, grps_hex last l h]
def sh (n : Nat) (i : Int) : Int := if i = -1 then -1 else i + n
theorem idx_cons (b : UInt8) (l : By) : Lib.index (b :: l) [58, 58] = if b = 58 ∧ l.head? = some 58 then 0 else sh 1 (Lib.index l [58, 58]) := by
  have hp : ([58, 58] : By).isPrefixOf (b :: l) = decide (b = 58 ∧ l.head? = some 58) := by
    cases l with
    | nil => simp [List.isPrefixOf]
    | cons c r =>
      simp only [List.isPrefixOf, Bool.and_true, List.head?_cons, Option.some.injEq]
      rw [Bool.eq_iff_iff]
      simp only [Bool.and_eq_true, beq_iff_eq, decide_eq_true_eq]
      exact ⟨fun h => ⟨h.1.symm, h.2.symm⟩, fun h => ⟨h.1.symm, h.2.symm⟩⟩
  show (if _ then _ else _) = _
  rw [hp]
  by_cases h : b = 58 ∧ l.head? = some 58
  · rw [if_pos (by simpa using h), if_pos h]
  · rw [if_neg (by simpa using h), if_neg h]
    unfold sh
    simp only [beq_iff_eq]
    rfl
theorem sh_sh (n m : Nat) (i : Int) (h : -1 ≤ i) : sh n (sh m i) = sh (n + m) i := by
  unfold sh
  repeat' split
  all_goals omega
theorem idx_ge (s : By) : -1 ≤ Lib.index s [58, 58] := by
  rcases Lib.index_spec s [58, 58] with h | ⟨i, h, _⟩ <;> omega
theorem idx_app : ∀ (p r : By), (58 : UInt8) ∉ p → Lib.index (p ++ r) [58, 58] = sh p.length (Lib.index r [58, 58])
  | [], r, _ => by unfold sh; simp <;> (intro h; rw [h])
  | b :: p, r, h => by
    simp only [List.mem_cons, not_or] at h
    rw [List.cons_append, idx_cons, if_neg (fun e => h.1 e.1.symm), idx_app p r h.2, sh_sh _ _ _ (idx_ge r), Nat.add_comm]
    rfl
theorem joinH_cons2 (x y : Nat) (t : List Nat) : joinH (x :: y :: t) = hexN x ++ 58 :: joinH (y :: t) := by
  unfold joinH
  rw [List.map_cons, List.map_cons, join_cons2]
  rfl
theorem joinH_head (y : Nat) (t : List Nat) (r : By) : (joinH (y :: t) ++ r).head? ≠ some 58 := by
  have h1 := hexN_ne y
  have h2 := hexN_no y
  cases hq : hexN y with
  | nil => exact absurd hq h1
  | cons a b =>
    rw [hq] at h2
    simp only [List.mem_cons, not_or] at h2
    cases t with
    | nil => rw [joinH_one, hq]; simpa using Ne.symm h2.1
    | cons z t => rw [joinH_cons2, hq]; simpa using Ne.symm h2.1
theorem idx_joinH : ∀ (l : List Nat) (r : By), l ≠ [] → Lib.index (joinH l ++ r) [58, 58] = sh (joinH l).length (Lib.index r [58, 58])
  | [], r, h => absurd rfl h
  | [x], r, _ => by rw [joinH_one]; exact idx_app _ _ (hexN_no x)
  | x :: y :: t, r, _ => by
    rw [joinH_cons2, List.append_assoc, List.cons_append, idx_app _ _ (hexN_no x), idx_cons, if_neg (fun e => joinH_head y t r e.2), idx_joinH (y :: t) r (by simp), sh_sh _ _ _ (idx_ge r), sh_sh _ _ _ (idx_ge r)]
    congr 1
    simp <;> omega
theorem idx_nil : Lib.index [] [58, 58] = -1 := rfl
theorem cut_joinH (l : List Nat) : Lib.cut (joinH l) [58, 58] = (joinH l, [], false) := by
  have h : Lib.index (joinH l) [58, 58] = -1 := by
    by_cases hl : l = []
    · subst hl; rfl
    · have := idx_joinH l [] hl
      rw [List.append_nil, idx_nil] at this
      rw [this]
      rfl
  unfold Lib.cut
  rw [h]
  rfl
theorem cut_two (l : List Nat) (r : By) : Lib.cut (joinH l ++ 58 :: 58 :: r) [58, 58] = (joinH l, r, true) := by
  have h0 : Lib.index (58 :: 58 :: r) [58, 58] = 0 := by rw [idx_cons, if_pos ⟨rfl, rfl⟩]
  have h : Lib.index (joinH l ++ 58 :: 58 :: r) [58, 58] = ((joinH l).length : Int) := by
    by_cases hl : l = []
    · subst hl; rw [joinH_nil, List.nil_append, h0]; rfl
    · rw [idx_joinH l _ hl, h0]
      unfold sh
      simp
  unfold Lib.cut
  rw [h, if_pos (by omega), Int.toNat_natCast]
  have e : (joinH l ++ 58 :: 58 :: r).drop ((joinH l).length + 2) = r := by
    rw [← List.drop_drop, List.drop_left]
    rfl
  have e2 : (joinH l).length + ([58, 58] : By).length = (joinH l).length + 2 := rfl
  rw [e2, e, List.take_left]
theorem run0_take : ∀ l : List Nat, l.take (run0 l) = List.replicate (run0 l) 0
  | [] => rfl
  | x :: r => by
    rw [run0_pos]
    split
    · rename_i h
      subst h
      rw [List.take_succ_cons, run0_take r]
      rfl
    · rfl
theorem zGo_ok (full : List Nat) : ∀ (l : List Nat) (i z m : Nat), full.drop i = l → i ≤ full.length → (full.drop z).take m = List.replicate m 0 → z + m ≤ full.length →
    (full.drop (zGo l i z m).1).take (zGo l i z m).2 = List.replicate (zGo l i z m).2 0 ∧ (zGo l i z m).1 + (zGo l i z m).2 ≤ full.length
  | [], i, z, m, _, _, h1, h2 => ⟨h1, h2⟩
  | x :: r, i, z, m, hd, hi, h1, h2 => by
    have hlen : full.length - i = r.length + 1 := by
      have := congrArg List.length hd
      simpa using this
    have hd' : full.drop (i + 1) = r := by
      rw [← List.drop_drop, hd]
      rfl
    unfold zGo
    split
    · refine zGo_ok full r (i + 1) i _ hd' (by omega) ?_ ?_
      · rw [hd, run0_take]
      · have := run0_le (x :: r)
        simp at this
        omega
    · exact zGo_ok full r (i + 1) z m hd' (by omega) h1 h2
theorem v6B_fmt (a : List Nat) (h8 : a.length = 8) (h : ∀ x ∈ a, x < 65536) : v6B (v6Fmt a) = some a := by
  obtain ⟨hz, hzl⟩ := zGo_ok a a 0 0 0 rfl (by omega) (by simp) (by omega)
  unfold v6Fmt
  generalize (zGo a 0 0 0).1 = z at *
  generalize (zGo a 0 0 0).2 = m at *
  by_cases hm : m < 2
  · rw [if_pos hm]
    unfold v6B
    rw [cut_joinH]
    simp only [Bool.not_false]
    rw [grpsB_joinH a true h]
    show (if _ then _ else _) = _
    simp [h8]
  · rw [if_neg hm]
    unfold v6B
    rw [cut_two]
    simp only [Bool.not_true]
    rw [grpsB_joinH _ false (fun x hx => h x (List.mem_of_mem_take hx)), grpsB_joinH _ true (fun x hx => h x (List.mem_of_mem_drop hx))]
    simp only [if_true, List.length_take, List.length_drop, h8]
    rw [if_pos (by omega)]
    congr 1
    have e : 8 - min z 8 - (8 - (z + m)) = m := by omega
    rw [e, ← hz, List.append_assoc]
    conv => rhs; rw [← List.take_append_drop z a]
    congr 1
    conv => rhs; rw [← List.take_append_drop m (a.drop z)]
    rw [List.drop_drop]
theorem v6_len (a : List Nat) (h8 : a.length = 8) (h : ∀ x ∈ a, x < 65536) : (v6Fmt a).length ≤ 90 := by
  unfold v6Fmt
  split
  · have := joinH_len a h
    omega
  · have h1 := joinH_len (a.take (zGo a 0 0 0).1) (fun x hx => h x (List.mem_of_mem_take hx))
    have h2 := joinH_len (a.drop ((zGo a 0 0 0).1 + (zGo a 0 0 0).2)) (fun x hx => h x (List.mem_of_mem_drop hx))
    simp only [List.length_take, List.length_drop, List.length_append, List.length_cons] at *
    omega
theorem parse_v6 (a : List Nat) (h8 : a.length = 8) (h : ∀ x ∈ a, x < 65536) : parseH (91 :: (v6Fmt a ++ [93])) = (⟨3, [], 0, a⟩, 0) := by
  have hl := v6_len a h8 h
  have hlast : (91 :: (v6Fmt a ++ [93])).getLast? = some (93 : UInt8) := by
    rw [← List.cons_append, List.getLast?_concat]
  have hmid : ((91 :: (v6Fmt a ++ [93])).take ((91 :: (v6Fmt a ++ [93])).length - 1)).drop 1 = v6Fmt a := by
    simp
  unfold parseH
  rw [if_neg (by simp; omega), if_pos (show (91 :: (v6Fmt a ++ [93])).head? = some (91 : UInt8) from rfl), if_pos ⟨hlast, by simp⟩, hmid, v6B_fmt a h8 h]
theorem grpsB_lt {s : By} {last : Bool} {r : List Nat} (h : grpsB s last = some r) : ∀ x ∈ r, x < 65536 := by
  unfold grpsB at h
  split at h
  · simp only [Option.some.injEq] at h; subst h; simp
  · exact grps_lt _ _ _ h
theorem v6B_ok {s : By} {a : List Nat} (h : v6B s = some a) : a.length = 8 ∧ ∀ x ∈ a, x < 65536 := by
  unfold v6B at h
  split at h
  · rename_i x y hx hy
    have h1 := grpsB_lt hx
    have h2 := grpsB_lt hy
    split at h
    · split at h
      · simp only [Option.some.injEq] at h
        subst h
        refine ⟨by simp; omega, fun v hv => ?_⟩
        simp only [List.mem_append, List.mem_replicate] at hv
        rcases hv with (hv | hv) | hv
        · exact h1 v hv
        · omega
        · exact h2 v hv
      · cases h
    · split at h
      · simp only [Option.some.injEq] at h
        subst h
        refine ⟨by simpa using by assumption, fun v hv => ?_⟩
        rcases List.mem_append.1 hv with hv | hv
        · exact h1 v hv
        · exact h2 v hv
      · cases h
  · cases h
theorem toAsc_ok {s : By} (h : (toAsc s).2 = 0) : validL (toAsc s).1 = true := by
  unfold toAsc at h ⊢
  cases hp : ptsB s with
  | none => rw [hp] at h; simp at h
  | some p =>
    rw [hp] at h
    simp only at h ⊢
    split at h
    · simp at h
    · rename_i h1
      rw [if_neg h1]
      split at h
      · rename_i h2
        rw [if_pos h2]
        cases hq : ptsB (lower s) with
        | none => rw [hq] at h; simp at h
        | some q =>
          rw [hq] at h
          simp only at h ⊢
          split at h
          · rename_i h3
            rw [if_pos h3]
            split at h
            · rename_i h4
              rw [if_pos h4]
              exact h4
            · simp at h
          · simp at h
      · rename_i h2
        rw [if_neg h2]
        split at h
        · rename_i h3
          rw [if_pos h3]
          exact h3
        · simp at h
theorem asciis_ok : ∀ l : List By, (asciis l).2 = 0 → (∀ x ∈ (asciis l).1, validL x = true) ∧ (asciis l).1.length = l.length
  | [], _ => ⟨by simp [asciis], rfl⟩
  | x :: r, h => by
    unfold asciis at h ⊢
    by_cases hx : (toAsc x).2 = 0
    · rw [if_pos hx] at h ⊢
      obtain ⟨h1, h2⟩ := asciis_ok r h
      refine ⟨fun y hy => ?_, by simp [h2]⟩
      rcases List.mem_cons.1 hy with rfl | hy
      · exact toAsc_ok hx
      · exact h1 y hy
    · rw [if_neg hx] at h
      exact absurd h hx
structure HostOk (h : HostV) : Prop where
  v4 : h.v4 < 4294967296
  v6 : h.v6.length = 8 ∧ ∀ x ∈ h.v6, x < 65536
  kd : h.kind < 4
theorem z8_ok : z8.length = 8 ∧ ∀ x ∈ z8, x < 65536 := by decide
theorem parseH_ok (s : By) : HostOk (parseH s).1 ∧ ((parseH s).2 = 0 → validH (parseH s).1 = true) := by
  have no : HostOk noHost := ⟨by decide, z8_ok, by decide⟩
  unfold parseH
  split
  · exact ⟨no, by simp⟩
  split
  · split
    · cases hv : v6B ((s.take (s.length - 1)).drop 1) with
      | none => exact ⟨no, by simp⟩
      | some a => exact ⟨⟨show 0 < 4294967296 by decide, v6B_ok hv, show 3 < 4 by decide⟩, fun _ => by simp [validH]⟩
    · exact ⟨no, by simp⟩
  cases hp : pctB s with
  | none => exact ⟨no, by simp⟩
  | some t =>
    simp only
    split
    · cases hv : pnB (trimDot t) with
      | none => exact ⟨no, by simp⟩
      | some v => exact ⟨⟨pnB_lt2 hv, z8_ok, show 2 < 4 by decide⟩, fun _ => by simp [validH]⟩
    split
    · rename_i h0
      split
      · exact ⟨no, by simp⟩
      split
      · exact ⟨no, by simp⟩
      · rename_i h1 h2
        refine ⟨⟨show 0 < 4294967296 by decide, z8_ok, show 1 < 4 by decide⟩, fun _ => ?_⟩
        obtain ⟨h3, h4⟩ := asciis_ok _ h0
        have hne : (asciis (pcs 46 (trimDot t))).1 ≠ [] := by
          intro e
          rw [e] at h4
          have := pcs_ne 46 (trimDot t)
          simp at h4
          exact this (List.length_eq_zero_iff.1 h4.symm)
        have hpc := pcs_join 46 (asciis (pcs 46 (trimDot t))).1 hne (fun x hx e => (lblByte_lt ((validL_VL (h3 x hx)).byt 46 e)).2.2.1 rfl)
        unfold validH
        simp only [if_true, beq_self_eq_true, Bool.and_true]
        rw [validN_iff]
        exact ⟨by omega, by simpa using h2, by rw [hpc]; exact h3⟩
    · rename_i h0
      exact ⟨no, fun h => absurd h h0⟩
theorem host_round {h : HostV} (ok : HostOk h) (hv : validH h = true) : parseH (fmtH h) = (h, 0) := by
  obtain ⟨kd, nm, v4, v6⟩ := h
  unfold fmtH
  rw [if_pos hv]
  unfold validH at hv
  simp only at hv ⊢
  by_cases h1 : kd = 1
  · subst h1
    simp only [if_true, Bool.and_eq_true, beq_iff_eq] at hv ⊢
    obtain ⟨⟨hn, rfl⟩, rfl⟩ := hv
    exact parse_name (validN_iff.1 hn)
  rw [if_neg h1] at hv ⊢
  by_cases h2 : kd = 2
  · subst h2
    simp only [if_true, Bool.and_eq_true, beq_iff_eq, List.isEmpty_iff] at hv ⊢
    obtain ⟨rfl, rfl⟩ := hv
    exact parse_v4 v4 ok.v4
  rw [if_neg h2] at hv ⊢
  by_cases h3 : kd = 3
  · subst h3
    simp only [if_true, Bool.and_eq_true, beq_iff_eq, List.isEmpty_iff] at hv
    obtain ⟨rfl, rfl⟩ := hv
    exact parse_v6 v6 ok.v6.1 ok.v6.2
  · rw [if_neg h3] at hv
    simp at hv
theorem fmtH_bad {h : HostV} (hv : validH h = false) : fmtH h = [] := by unfold fmtH; rw [hv]; rfl
end Go.Proofs.YtokehocipgepnaaGreatDoor.E
namespace Go.Proofs.YtokehocipgepnaaGreatDoor.E
open Go
set_option linter.unusedVariables false
theorem ptsGo_valid : ∀ (f : Nat) (l : By), Lib.validGoD f l = (ptsGo f l).isSome
  | 0, _ => rfl
  | f + 1, l => by
    unfold Lib.validGoD ptsGo
    split
    · rfl
    · split
      · rfl
      · rw [ptsGo_valid f, Option.isSome_map]
theorem validD_pts (l : By) : Lib.validD l = (ptsB l).isSome := ptsGo_valid _ l
theorem runes_pts : ∀ (f : Nat) (s : ByteArray) (pos : Nat) (p : List Nat), pos ≤ s.size → ptsGo f (s.data.toList.drop pos) = some p → s.size - pos ≤ f → Lib.runeCountFrom s f pos = p.length
  | 0, s, pos, p, hp, h, hf => by
    simp only [ptsGo, Option.some.injEq] at h
    subst h; rfl
  | f + 1, s, pos, p, hp, h, hf => by
    have hsz : s.data.toList.length = s.size := by rw [Array.length_toList]; rfl
    unfold ptsGo at h
    rw [Lib.decodeL_drop] at h
    by_cases hps : pos < s.size
    · rw [if_neg (by rw [← List.length_eq_zero_iff, List.length_drop]; omega)] at h
      split at h
      · cases h
      · cases hq : ptsGo f (List.drop (Utf8.decode s pos).2 (List.drop pos s.data.toList)) with
        | none => rw [hq] at h; cases h
        | some q =>
          rw [hq] at h
          simp only [Option.map_some, Option.some.injEq] at h
          subst h
          have hw := Lib.decode_width_pos s pos hps
          have hwl : pos + (Utf8.decode s pos).2 ≤ s.size := by
            have := Lib.decodeL_le (s.data.toList.drop pos) (by rw [ne_eq, ← List.length_eq_zero_iff, List.length_drop]; omega)
            rw [Lib.decodeL_drop, List.length_drop] at this
            omega
          rw [List.drop_drop] at hq
          unfold Lib.runeCountFrom
          rw [if_pos hps, runes_pts f s _ q hwl hq (by omega)]
          simp; omega
    · rw [if_pos (by rw [← List.length_eq_zero_iff, List.length_drop]; omega)] at h
      simp only [Option.some.injEq] at h
      subst h
      rw [Lib.runeCountFrom_end s _ _ hps]; rfl
theorem runeCountL_pts {l : By} {p : List Nat} (h : ptsB l = some p) : Lib.runeCountL l = p.length := by
  unfold Lib.runeCountL Lib.runeCount
  have hs : (ByteArray.mk l.toArray).size = l.length := by simp [ByteArray.size]
  refine runes_pts _ _ 0 p (Nat.zero_le _) ?_ (by omega)
  rw [hs, List.drop_zero]
  simpa [ptsB] using h
end Go.Proofs.YtokehocipgepnaaGreatDoor.E
namespace Go.Proofs.YtokehocipgepnaaGreatDoor.E
open Go Go.Proofs
set_option linter.unusedVariables false
set_option linter.unusedSimpArgs false
theorem encI_nat (l : List Nat) : encI (l.map fun n : Nat => (n : Int)) = encP l := by
  have h1 : (l.map fun n : Nat => (n : Int)).all ptI = l.all isPt := by
    rw [List.all_map]
    congr 1
  have h2 : (l.map fun n : Nat => (n : Int)).map Int.toNat = l := by
    rw [List.map_map]
    exact (List.map_congr_left fun a _ => by simp).trans (List.map_id l)
  unfold encI
  rw [List.length_map, h1, h2]
  by_cases h : 256 < l.length
  · rw [if_pos h]; unfold encP; rw [if_pos h]
  · rw [if_neg h]
    cases hp : l.all isPt with
    | true => rw [if_pos rfl]
    | false =>
      rw [if_neg (by simp)]
      unfold encP
      rw [if_neg h, hp]
      rfl
theorem elI_natE (l : List Nat) : (natE l).map elI = l.map fun n : Nat => (n : Int) := by
  unfold natE
  rw [List.map_map]
  exact List.map_congr_left fun a _ => rfl
theorem all_isI64_nat (l : List Nat) : (natE l).all isI64 = true := by
  unfold natE
  rw [List.all_map, List.all_eq_true]
  intro x _
  rfl
theorem lprop_loop {R : Type} {k0 : Unit → Option R} {k1 : By → Bool → LL → Bool → Option R} (s : By) (z : Bool) (p : List Nat) (hp : p.length ≤ 1000000000) : ∀ (r i n : Nat) (b : Bool), i + r = p.length → r < n →
    lprop_l0 LF n s z (natE p) b (p.length : Int) (i : Int) k0 k1 = if (p.drop i).any (fun p => Nat.ble 65 p && Nat.ble p 90) then k0 () else k1 s z (natE p) (b && !((p.drop i).any fun p => Nat.ble 128 p)) := by
  intro r
  induction r with
  | zero =>
    intro i n b hi hn
    obtain ⟨n, rfl⟩ : ∃ m, n = m + 1 := ⟨n - 1, by omega⟩
    rw [lprop_l0_s]
    unfold lprop_l0f
    rw [ltI_f (by omega), List.drop_of_length_le (by omega)]
    simp
  | succ r ih =>
    intro i n b hi hn
    obtain ⟨n, rfl⟩ : ∃ m, n = m + 1 := ⟨n - 1, by omega⟩
    rw [lprop_l0_s]
    unfold lprop_l0f
    have e1 : wi64 ((i : Int) + 1) = ((i + 1 : Nat) : Int) := by rw [wi64_id (by omega) (by omega)]; rfl
    have hd : p.drop i = p.getD i 0 :: p.drop (i + 1) := by
      rw [List.getD_eq_getElem?_getD, List.getElem?_eq_getElem (by omega), Option.getD_some, List.getElem_cons_drop]
    rw [ltI_t (by omega), natE_len, inR_t (by omega) (by omega), Int.toNat_natCast, okE_nat (by omega), gE_nat _ _ (by omega), hd, List.any_cons, List.any_cons, e1]
    simp only [cond_true, vl]
    generalize p.getD i 0 = q
    have go : ∀ c : Bool, lprop_l0 LF n s z (natE p) c (p.length : Int) ((i + 1 : Nat) : Int) k0 k1 = _ := fun c => ih (i + 1) n c (by omega) (by omega)
    by_cases h1 : q < 65
    · rw [ltI_t (by omega), show Nat.ble 65 q = false by rw [Bool.eq_false_iff, ne_eq, Nat.ble_eq]; omega]
      have h2 : Nat.ble 128 q = false := by rw [Bool.eq_false_iff, ne_eq, Nat.ble_eq]; omega
      rw [show ltI (q : Int) (128 : Int) = true from ltI_t (by omega), h2]
      simp only [Bool.not_true, cond_false, Bool.false_and, Bool.false_or]
      cases b <;> simp only [cond_true, cond_false] <;> rw [go]
    · rw [ltI_f (by omega), show Nat.ble 65 q = true by rw [Nat.ble_eq]; omega]
      simp only [Bool.not_false, cond_true, Bool.true_and]
      by_cases h2 : 90 < q
      · rw [ltI_t (by omega), show Nat.ble q 90 = false by rw [Bool.eq_false_iff, ne_eq, Nat.ble_eq]; omega]
        simp only [Bool.not_true, cond_false, Bool.false_or]
        by_cases h3 : q < 128
        · rw [show ltI (q : Int) (128 : Int) = true from ltI_t (by omega), show Nat.ble 128 q = false by rw [Bool.eq_false_iff, ne_eq, Nat.ble_eq]; omega]
          cases b <;> simp only [cond_true, cond_false, Bool.false_or] <;> rw [go]
        · rw [show ltI (q : Int) (128 : Int) = false from ltI_f (by omega), show Nat.ble 128 q = true by rw [Nat.ble_eq]; omega]
          cases b <;> simp only [cond_true, cond_false, Bool.true_or, Bool.not_true, Bool.and_false] <;> rw [go] <;> simp
      · rw [ltI_f (by omega), show Nat.ble q 90 = true by rw [Nat.ble_eq]; omega]
        simp
theorem decGoP_len : ∀ (m : Nat) (s : By) (pts : List Nat) (n i b : Nat) (f : Bool), s.length ≤ m → pts.length ≤ 256 → (decGoP s pts n i b f).1.length ≤ 256 := by
  intro m
  induction m with
  | zero =>
    intro s pts n i b f hs hp
    obtain rfl := List.length_eq_zero_iff.1 (Nat.le_zero.1 hs)
    rw [decGoP_nil]
    exact hp
  | succ m ih =>
    intro s pts n i b f hs hp
    by_cases h : s = []
    · subst h
      rw [decGoP_nil]
      exact hp
    · by_cases hq : (decNum b s i 1 0).2.2 = 0
      · rw [decGoP_step h _ _ _ _ _ hq]
        have hlt := decNum_lt b s i 1 0 hq
        split
        · split
          · exact Nat.zero_le _
          · rename_i h2
            exact ih _ _ _ _ _ _ (by omega) (by rw [insAt_len]; omega)
        · exact Nat.zero_le _
      · rw [decGoP_err h _ _ _ _ _ hq]
        exact Nat.zero_le _
theorem decP_len (s : By) : (decP s).1.length ≤ 256 := by
  unfold decP
  split
  · exact Nat.zero_le _
  · split
    · exact Nat.zero_le _
    · split
      · exact Nat.zero_le _
      · rename_i h
        exact decGoP_len _ _ _ _ _ _ _ (Nat.le_refl _) (by rw [List.length_map, List.length_take]; omega)
theorem lprop_spec {R : Type} {k0 : Bool → Option R} (s : By) (h0 : small s.length = true) : lprop LF s k0 = k0 (properB s) := by
  have hLF := LF_big
  unfold lprop properB
  rw [h0, cond_true]
  by_cases h : (decP s).2 = 0
  · have e : (((decP s).2 : Int) != (0 : Int)) = false := by rw [h]; rfl
    rw [e, cond_false, natR_natE, natE_len, h]
    have hl := decP_len s
    refine Eq.trans (lprop_loop s _ (decP s).1 (by omega) (decP s).1.length 0 LF true (by omega) (by omega)) ?_
    rw [List.drop_zero]
    cases h1 : (decP s).1.any (fun p => Nat.ble 65 p && Nat.ble p 90) with
    | true => simp
    | false =>
      rw [if_neg (by simp), all_isI64_nat, elI_natE, encI_nat]
      simp only [cond_true, vl, Bool.true_and, Bool.not_false]
      cases h2 : (decP s).1.any (fun p => Nat.ble 128 p) with
      | false => simp
      | true =>
        simp only [Bool.not_true, Bool.not_false, cond_true, Bool.and_true, beq_self_eq_true, Bool.true_and]
        by_cases h3 : (encP (decP s).1).2 = 0
        · rw [h3]; simp
        · have : (((encP (decP s).1).2 : Int) == (0 : Int)) = false := by simpa using h3
          have h3' : ((encP (decP s).1).2 == 0) = false := by simpa using h3
          rw [this, h3']
          rfl
  · have e : (((decP s).2 : Int) != (0 : Int)) = true := by simpa using h
    have h' : ((decP s).2 == 0) = false := by simpa using h
    rw [e, cond_true, h']
    rfl
theorem lval_loop {R : Type} {k0 : Unit → Option R} {k1 : By → Option R} (s : By) (hs : s.length ≤ 1000000000) : ∀ (r i n : Nat), i + r = s.length → r < n →
    lval_l0 LF n s (s.length : Int) (i : Int) k0 k1 = if (s.drop i).all lblByte then k1 s else k0 () := by
  intro r
  induction r with
  | zero =>
    intro i n hi hn
    obtain ⟨n, rfl⟩ : ∃ m, n = m + 1 := ⟨n - 1, by omega⟩
    rw [lval_l0_s]
    unfold lval_l0f
    rw [ltI_f (by omega), List.drop_of_length_le (by omega)]
    rfl
  | succ r ih =>
    intro i n hi hn
    obtain ⟨n, rfl⟩ : ∃ m, n = m + 1 := ⟨n - 1, by omega⟩
    rw [lval_l0_s]
    unfold lval_l0f
    have e1 : wi64 ((i : Int) + 1) = ((i + 1 : Nat) : Int) := by rw [wi64_id (by omega) (by omega)]; rfl
    rw [ltI_t (by omega), inR_t (by omega) (by omega), bAt_nat, drop_cons s i (by omega), e1, List.all_cons]
    simp only [cond_true]
    rw [ih (i + 1) n (by omega) (by omega)]
    generalize s.getD i 0 = b
    have hb := lblByte_iff b
    have q1 : ((b.toNat : Int) != 45) = !(b == 45) := congrArg _ (u8_eqn b 45 (by omega))
    have q2 : ((b.toNat : Int) != 95) = !(b == 95) := congrArg _ (u8_eqn b 95 (by omega))
    rw [q1, q2]
    have t : ∀ {x : Bool}, lblByte b = x → (if (lblByte b && (s.drop (i + 1)).all lblByte) = true then k1 s else k0 ()) = if (x && (s.drop (i + 1)).all lblByte) = true then k1 s else k0 () := fun h => by rw [h]
    cases hl : lblByte b with
    | true =>
      rw [hb] at hl
      simp only [Bool.true_and]
      by_cases h1 : b = 45
      · subst h1
        simp (disch := decide) [ltI]
      · by_cases h2 : b = 95
        · subst h2
          simp (disch := decide) [ltI]
        · rcases hl with hl | hl | hl | hl
          · rw [show ltI (b.toNat : Int) 97 = false from ltI_f (by omega), show ltI (122 : Int) b.toNat = false from ltI_f (by omega)]; rfl
          · rw [show ltI (b.toNat : Int) 97 = true from ltI_t (by omega), show ltI (b.toNat : Int) 48 = false from ltI_f (by omega), show ltI (57 : Int) b.toNat = false from ltI_f (by omega)]; rfl
          · exact absurd hl h1
          · exact absurd hl h2
    | false =>
      have hn : ¬ ((97 ≤ b.toNat ∧ b.toNat ≤ 122) ∨ (48 ≤ b.toNat ∧ b.toNat ≤ 57) ∨ b = 45 ∨ b = 95) := fun h => by rw [hb.2 h] at hl; cases hl
      have n1 : (b == 45) = false := by simpa using fun h => hn (.inr (.inr (.inl h)))
      have n2 : (b == 95) = false := by simpa using fun h => hn (.inr (.inr (.inr h)))
      rw [n1, n2]
      simp only [Bool.not_false, cond_true, Bool.false_and, Bool.false_eq_true, if_false]
      by_cases h1 : b.toNat < 48
      · rw [show ltI (b.toNat : Int) 97 = true from ltI_t (by omega), show ltI (b.toNat : Int) 48 = true from ltI_t (by omega)]; rfl
      · by_cases h2 : b.toNat < 97
        · rw [show ltI (b.toNat : Int) 97 = true from ltI_t (by omega), show ltI (b.toNat : Int) 48 = false from ltI_f (by omega), show ltI (57 : Int) b.toNat = true from ltI_t (by omega)]; rfl
        · rw [show ltI (b.toNat : Int) 97 = false from ltI_f (by omega), show ltI (122 : Int) b.toNat = true from ltI_t (by omega), show ltI (b.toNat : Int) 48 = false from ltI_f (by omega), show ltI (57 : Int) b.toNat = true from ltI_t (by omega)]; rfl
theorem lval_spec {R : Type} {k0 : Bool → Option R} (s : By) (h0 : small s.length = true) : lval LF s k0 = k0 (validL s) := by
  have hs := maxL h0
  have hLF := LF_big
  unfold lval validL
  by_cases h1 : s = []
  · subst h1
    rw [ltI_t (by simp)]
    rfl
  · have hl : 0 < s.length := List.length_pos_iff.2 h1
    have he : s.isEmpty = false := by simpa using h1
    rw [ltI_f (by omega), cond_false, he]
    by_cases h2 : 63 < s.length
    · rw [ltI_t (by omega), show Nat.ble s.length 63 = false by rw [Bool.eq_false_iff, ne_eq, Nat.ble_eq]; omega]
      rfl
    · rw [ltI_f (by omega), cond_false, show Nat.ble s.length 63 = true by rw [Nat.ble_eq]; omega, inR_t (by omega) (by omega)]
      have q1 : (bAt s 0 == (45 : Int)) = (s.getD 0 0 == 45) := by rw [bAt_zero]; exact u8_eqn _ 45 (by omega)
      have e1 : wi64 ((s.length : Int) - 1) = ((s.length - 1 : Nat) : Int) := by rw [wi64_id (by omega) (by omega)]; omega
      rw [q1, e1]
      simp only [cond_true, vl]
      rw [inR_t (by omega) (by omega), bAt_nat, show ((((s.getD (s.length - 1) 0).toNat : Nat) : Int) == 45) = (s.getD (s.length - 1) 0 == 45) from u8_eqn _ 45 (by omega)]
      cases h3 : (s.getD 0 0 == 45) with
      | true =>
        rw [show (s.getD 0 0 != 45) = false by unfold bne; rw [h3]; rfl]
        simp
      | false =>
        rw [show (s.getD 0 0 != 45) = true by unfold bne; rw [h3]; rfl]
        simp only [cond_true, cond_false]
        cases h4 : (s.getD (s.length - 1) 0 == 45) with
        | true =>
          rw [show (s.getD (s.length - 1) 0 != 45) = false by unfold bne; rw [h4]; rfl]
          simp
        | false =>
          rw [show (s.getD (s.length - 1) 0 != 45) = true by unfold bne; rw [h4]; rfl]
          simp only [cond_false]
          refine Eq.trans (lval_loop s hs s.length 0 LF (by omega) (by omega)) ?_
          rw [List.drop_zero]
          cases h5 : s.all lblByte with
          | false => simp
          | true =>
            rw [if_pos rfl, h0, cond_true]
            simp only [Bool.not_false, Bool.true_and, Bool.and_true]
            show cond (!(xnB.isPrefixOf s)) _ _ = _
            cases h6 : xnB.isPrefixOf s with
            | false => rfl
            | true =>
              have hc : cutp s xnB = s.drop 4 := by unfold cutp; rw [h6]; rfl
              show cond (small (cutp s xnB).length) (k0 (properB (cutp s xnB))) none = _
              rw [hc, small_t (by rw [List.length_drop]; omega)]
              rfl
theorem encOut_len (pts : List Nat) (basic : Nat) (hl : pts.length ≤ 256) (hb : basic ≤ 256) (hall : ∀ p ∈ pts, p ≤ 1114111) : ∀ (f n : Nat) (s : EncS), s.done = pts.countP (fun p => decide (p < n)) → s.delta ≤ 300 → s.bias ≤ 500 → s.out.length + 20 * (pts.length - s.done) ≤ 80000 → n ≤ 1114112 →
    (encOut pts basic f n s).out.length ≤ 80000 := by
  intro f
  have hLF := LF_big
  induction f with
  | zero => intro n s hd h1 h2 h3 h4; unfold encOut; omega
  | succ f ih =>
    intro n s hd h1 h2 h3 h4
    have hcl : pts.countP (fun p => decide (p < n)) ≤ pts.length := List.countP_le_length
    by_cases hlt : s.done < pts.length
    · obtain ⟨p0, hp0, hp1⟩ := cnt_lt (n := n) (l := pts) (by omega)
      obtain ⟨g1, g2, g3⟩ := leastP_spec n pts 1114112
      have g4 := g3 p0 hp0 hp1
      have g5 := hall p0 hp0
      have hmem : leastP n pts 1114112 ∈ pts ∧ n ≤ leastP n pts 1114112 := by
        rcases g1 with g1 | g1
        · omega
        · exact g1
      have he : encOut pts basic (f + 1) n s = encOut pts basic f (leastP n pts 1114112 + 1) { encIn (leastP n pts 1114112) basic pts { s with delta := s.delta + (leastP n pts 1114112 - n) * (s.done + 1) } with delta := (encIn (leastP n pts 1114112) basic pts { s with delta := s.delta + (leastP n pts 1114112 - n) * (s.done + 1) }).delta + 1 } := by
        rw [encOut, if_pos hlt]
      rw [he]
      generalize leastP n pts 1114112 = m at *
      have hmul : (m - n) * (s.done + 1) ≤ 1114112 * 256 := Nat.mul_le_mul (by omega) (by omega)
      have hin := penc_in false false pts basic m (by omega) hl pts.length 0 LF { s with delta := s.delta + (m - n) * (s.done + 1) } (by omega) (by omega) (by simp only; omega) h2 (by simp only; omega) (by simp only; omega) hb
      rw [List.drop_zero] at hin
      obtain ⟨_, q2, q3, q4, q5⟩ := hin
      have hcnt : 0 < pts.countP (· == m) := List.countP_pos_iff.2 ⟨m, hmem.1, by simp⟩
      rw [if_pos hcnt] at q5
      have hstep := cnt_step hmem.2 pts g3
      generalize encIn m basic pts { s with delta := s.delta + (m - n) * (s.done + 1) } = s' at *
      simp only at q3 q4
      have hcl2 : pts.countP (fun p => decide (p < m + 1)) ≤ pts.length := List.countP_le_length
      exact ih (m + 1) { s' with delta := s'.delta + 1 } (by simp only; omega) (by simp only; omega) q2 (by simp only; omega) (by omega)
    · rw [encOut, if_neg hlt]; omega
theorem encP_len (p : List Nat) : (encP p).1.length ≤ 80000 := by
  unfold encP
  split
  · exact Nat.zero_le _
  · rename_i h
    split
    · exact Nat.zero_le _
    · rename_i h2
      have hp : ∀ q ∈ p, q ≤ 1114111 := fun q hq => by
        have h2 : p.all isPt = true := by simpa using h2
        have := List.all_eq_true.1 h2 q hq
        simp only [isPt, Bool.and_eq_true, Nat.ble_eq] at this
        exact this.1
      have hbl := basicB_len p
      have hbc : p.countP (fun q => decide (q < 128)) ≤ p.length := List.countP_le_length
      refine encOut_len p _ (by omega) (by omega) hp 256 128 _ hbl (by simp) (by simp) ?_ (by omega)
      simp only
      split
      · simp; omega
      · simp; omega
theorem lowB_hi {b : UInt8} (h : 128 ≤ b.toNat) : lowB b = b := by
  rcases lowB_cases b with ⟨_, e⟩ | ⟨_, e⟩ | ⟨_, h2, _⟩
  · exact e
  · exact e
  · omega
theorem lowB_lo {b : UInt8} (h : b.toNat < 128) : (lowB b).toNat < 128 := by
  rcases lowB_cases b with ⟨_, e⟩ | ⟨_, e⟩ | ⟨_, h2, e⟩
  · rw [e]; exact h
  · rw [e]; exact h
  · omega
theorem decN_lowB (n : Nat) (b0 b1 b2 b3 : UInt8) (h : 128 ≤ b0.toNat) : Lib.decodeN n b0.toNat (lowB b1).toNat (lowB b2).toNat (lowB b3).toNat = Lib.decodeN n b0.toNat b1.toNat b2.toNat b3.toNat := by
  have k1 : ∀ b : UInt8, b.toNat / 64 = 2 → lowB b = b := fun b hb => lowB_hi (by omega)
  have k2 : ∀ b : UInt8, ¬ b.toNat / 64 = 2 → ¬ (lowB b).toNat / 64 = 2 := fun b hb h => by
    by_cases h2 : 128 ≤ b.toNat
    · rw [lowB_hi h2] at h; exact hb h
    · have := lowB_lo (b := b) (by omega)
      omega
  unfold Lib.decodeN
  by_cases c1 : b1.toNat / 64 = 2
  · rw [k1 b1 c1]
    by_cases c2 : b2.toNat / 64 = 2
    · rw [k1 b2 c2]
      by_cases c3 : b3.toNat / 64 = 2
      · rw [k1 b3 c3]
      · have := k2 b3 c3
        simp only [c3, this, and_false, if_false]
    · have := k2 b2 c2
      simp only [c2, this, and_false, false_and, if_false]
  · have := k2 b1 c1
    simp only [c1, this, and_false, false_and, if_false]
theorem dec_low (l : By) (hne : l ≠ []) : (Lib.decodeL (lower l)).2 = (Lib.decodeL l).2 ∧ (¬ ((Lib.decodeL l).1 = 65533 ∧ (Lib.decodeL l).2 = 1) → ¬ ((Lib.decodeL (lower l)).1 = 65533 ∧ (Lib.decodeL (lower l)).2 = 1)) := by
  cases l with
  | nil => exact absurd rfl hne
  | cons b t =>
    by_cases hb : b.toNat < 128
    · have e1 := Lib.decodeL_ascii b t hb
      have e2 : Lib.decodeL (lower (b :: t)) = ((lowB b).toNat, 1) := Lib.decodeL_ascii (lowB b) (lower t) (lowB_lo hb)
      rw [e1, e2]
      refine ⟨rfl, fun _ h => ?_⟩
      have := lowB_lo hb
      have h := h.1
      simp only at h
      omega
    · have e : Lib.decodeL (lower (b :: t)) = Lib.decodeL (b :: t) := by
        rw [Lib.decodeL_N, Lib.decodeL_N, lower_len, lower_getD, lower_getD, lower_getD, lower_getD]
        have e0 : lowB ((b :: t).getD 0 0) = b := lowB_hi (b := b) (show 128 ≤ b.toNat by omega)
        rw [e0]
        exact decN_lowB (b :: t).length b ((b :: t).getD 1 0) ((b :: t).getD 2 0) ((b :: t).getD 3 0) (show 128 ≤ b.toNat by omega)
      rw [e]
      exact ⟨rfl, fun h => h⟩
theorem ptsGo_low : ∀ (f : Nat) (l : By), (ptsGo f l).isSome = true → (ptsGo f (lower l)).isSome = true
  | 0, _, _ => rfl
  | f + 1, l, h => by
    unfold ptsGo at h ⊢
    by_cases hl : l = []
    · subst hl; rfl
    · rw [if_neg hl] at h
      rw [if_neg (by rw [lower_nil]; exact hl)]
      obtain ⟨d1, d2⟩ := dec_low l hl
      split at h
      · cases h
      · rename_i hv
        rw [if_neg (d2 hv), Option.isSome_map, d1, lower_drop]
        rw [Option.isSome_map] at h
        exact ptsGo_low f _ h
theorem ptsB_low {l : By} (h : (ptsB l).isSome = true) : (ptsB (lower l)).isSome = true := by
  unfold ptsB at h ⊢
  rw [lower_len]
  exact ptsGo_low _ _ h
theorem lasc_loop (t : By) (ht : t.length ≤ 1000000000) : ∀ (f pos : Nat) (P q : List Nat) (n : Nat), pos ≤ t.length → t.length - pos ≤ f → f < n → P.length ≤ pos → ptsGo f (t.drop pos) = some q →
    ∃ m, ∀ (R : Type) (k0 : LL → By → Nat → Option R), lasc_l0 LF n (natE P) t pos k0 = k0 (natE (P ++ q)) t m := by
  intro f
  induction f with
  | zero =>
    intro pos P q n h1 h2 h3 h4 h5
    obtain ⟨n, rfl⟩ : ∃ m, n = m + 1 := ⟨n - 1, by omega⟩
    simp only [ptsGo, Option.some.injEq] at h5
    subst h5
    refine ⟨pos, fun R k0 => ?_⟩
    rw [lasc_l0_s]
    unfold lasc_l0f
    rw [decide_eq_false (by omega), cond_false, List.append_nil]
  | succ f ih =>
    intro pos P q n h1 h2 h3 h4 h5
    obtain ⟨n, rfl⟩ : ∃ m, n = m + 1 := ⟨n - 1, by omega⟩
    by_cases hp : pos < t.length
    · have hne : t.drop pos ≠ [] := by rw [ne_eq, ← List.length_eq_zero_iff, List.length_drop]; omega
      have hd := Lib.decodeL_drop ⟨t.toArray⟩ pos
      have hd' : Utf8.decode ⟨List.toArray t⟩ pos = Lib.decodeL (t.drop pos) := by rw [← hd]
      unfold ptsGo at h5
      rw [if_neg hne] at h5
      split at h5
      · cases h5
      · have hw := Lib.decodeL_width (t.drop pos)
        have hle := Lib.decodeL_le (t.drop pos) hne
        have hr := Lib.decodeL_rune (t.drop pos)
        rw [List.length_drop] at hle
        rw [List.drop_drop] at h5
        generalize Lib.decodeL (t.drop pos) = dd at *
        obtain ⟨c, wd⟩ := dd
        simp only at *
        cases hq : ptsGo f (t.drop (pos + wd)) with
        | none => rw [hq] at h5; cases h5
        | some q' =>
          rw [hq] at h5
          simp only [Option.map_some, Option.some.injEq] at h5
          subst h5
          obtain ⟨m, e⟩ := ih (pos + wd) (P ++ [c]) q' n (by omega) (by omega) (by omega) (by simp; omega) hq
          refine ⟨m, fun R k0 => ?_⟩
          rw [lasc_l0_s]
          unfold lasc_l0f
          rw [decide_eq_true hp, cond_true, hd', natE_len, roomy_of (by omega)]
          simp only [vl, cond_true]
          have e1 : wi64 (c : Int) = (c : Int) := wi64_id (by omega) (by omega)
          have hrow : natE P ++ [[SV.int .i64 (wi64 (c : Int))]] = natE (P ++ [c]) := by rw [e1, natE_app]; rfl
          rw [hrow, e, List.append_assoc]
          rfl
    · have hnil : t.drop pos = [] := by rw [← List.length_eq_zero_iff, List.length_drop]; omega
      unfold ptsGo at h5
      rw [hnil, if_pos rfl] at h5
      simp only [Option.some.injEq] at h5
      subst h5
      refine ⟨pos, fun R k0 => ?_⟩
      rw [lasc_l0_s]
      unfold lasc_l0f
      rw [decide_eq_false hp, cond_false, List.append_nil]
theorem lasc_cases (s : By) (h0 : small s.length = true) : (∀ (R : Type) (k0 : By → Int → Option R) (k1 : By → Int → LL → By → Nat → Option R), lasc LF s k0 k1 = k0 (toAsc s).1 ((toAsc s).2 : Nat)) ∨
    (∃ l t m, ∀ (R : Type) (k0 : By → Int → Option R) (k1 : By → Int → LL → By → Nat → Option R), lasc LF s k0 k1 = k1 (toAsc s).1 ((toAsc s).2 : Nat) l t m) := by
  have hs := maxL h0
  have hLF := LF_big
  unfold toAsc
  cases hp : ptsB s with
  | none =>
    refine .inl fun R k0 k1 => ?_
    unfold lasc
    rw [h0, hp]
    rfl
  | some p =>
    have hrc := runeCountL_pts hp
    have top : ∀ (R : Type) (k0 : By → Int → Option R) (k1 : By → Int → LL → By → Nat → Option R), lasc LF s k0 k1 = cond (ltI 256 (p.length : Int)) (k0 [] 3) (cond (ltI (p.length : Int) (s.length : Int)) (lasc_l0 LF LF [] (lower s) 0 (fun l'5 s'6 m'7 => cond (List.all l'5 isI64)
           (cond (((encI (List.map elI l'5)).2 : Int) != (0 : Int))
              (k1 ([] : List UInt8) 14 l'5 s'6 m'7)
              (cond (catOk 4 (List.length ((encI (List.map elI l'5))).1))
                (cond (small (List.length (xnB ++ ((encI (List.map elI l'5))).1)))
                 (cond (not (validL (xnB ++ ((encI (List.map elI l'5))).1)))
                  (k1 ([] : List UInt8) 14 l'5 s'6 m'7)
                  (k1 (xnB ++ ((encI (List.map elI l'5))).1) 0 l'5 s'6 m'7))
                 (none))
               (none)))
           (none)))
          (cond (small (List.length (lower s)))
           (cond (not (validL (lower s)))
            (k0 ([] : List UInt8) 14)
            (k0 (lower s) 0))
           (none))) := by
      intro R k0 k1
      unfold lasc
      rw [h0, hp, hrc]
      rfl
    simp only
    by_cases h1 : 256 < p.length
    · rw [if_pos h1]
      refine .inl fun R k0 k1 => ?_
      rw [top, ltI_t (by omega)]
      rfl
    · rw [if_neg h1]
      by_cases h2 : p.length < s.length
      · rw [if_pos h2]
        have hlow := ptsB_low (l := s) (by rw [hp]; rfl)
        cases hq : ptsB (lower s) with
        | none => rw [hq] at hlow; cases hlow
        | some q =>
          have hll := lower_len s
          obtain ⟨m, e⟩ := lasc_loop (lower s) (by omega) (lower s).length 0 [] q LF (by omega) (by omega) (by omega) (by simp) (by rw [List.drop_zero]; exact hq)
          refine .inr ⟨natE q, lower s, m, fun R k0 k1 => ?_⟩
          rw [top, ltI_f (by omega), cond_false, ltI_t (by omega), cond_true]
          refine Eq.trans (e R _) ?_
          have hel := encP_len q
          rw [List.nil_append, all_isI64_nat, elI_natE, encI_nat, cond_true, catOk_t (by omega), cond_true, small_t (by rw [List.length_append]; simp only [xnB, List.length_cons, List.length_nil]; omega), cond_true]
          simp only
          by_cases h3 : (encP q).2 = 0
          · rw [h3, if_pos rfl]
            cases h4 : validL (xnB ++ (encP q).1) with
            | true => rfl
            | false => rfl
          · rw [if_neg h3]
            have : (((encP q).2 : Int) != (0 : Int)) = true := by simpa using h3
            rw [this]
            rfl
      · rw [if_neg h2]
        refine .inl fun R k0 k1 => ?_
        rw [top, ltI_f (by omega), cond_false, ltI_f (by omega), cond_false, small_t (by rw [lower_len]; exact hs), cond_true]
        cases validL (lower s) <;> rfl
theorem lasc_sp (s : By) (h0 : small s.length = true) : ∃ r H, lasc LF s (fun r0 r1 => rv (.tup [.s (.str r0), .s (.int .i64 r1)]) []) (fun r0 r1 l2 s3 m4 => rv (.tup [.s (.str r0), .s (.int .i64 r1)]) [.arr true 3 1 l2, .iter s3 m4]) = rv r H ∧
    r.stab [0, 0] H = .tup [.s (.str (toAsc s).1), .s (.int .i64 ((toAsc s).2 : Nat))] := by
  rcases lasc_cases s h0 with h | ⟨l, t, m, h⟩
  · exact ⟨_, _, h _ _ _, rfl⟩
  · exact ⟨_, _, h _ _ _, rfl⟩
end Go.Proofs.YtokehocipgepnaaGreatDoor.E
namespace Go.Proofs.YtokehocipgepnaaGreatDoor.E
open Go Go.Proofs
set_option linter.unusedVariables false
set_option linter.unusedSimpArgs false
theorem hdig_spec {R : Type} {k0 : Int → Option R} (b : Int) (h0 : inR b 256 = true) : hdig LF b k0 = k0 (digI (u8n b)) := by
  simp only [inR, Bool.and_eq_true, decide_eq_true_eq] at h0
  have hc : b = ((u8n b).toNat : Int) := by
    unfold u8n
    simp
    omega
  generalize u8n b = c at *
  subst hc
  have hbt := c.toNat_lt
  unfold hdig
  simp only [hdig_j1, hdig_j0, vl, digI]
  rcases dig_cases c with ⟨h1, h2, e⟩ | ⟨h1, h2, e⟩ | ⟨h1, h2, e⟩ | ⟨h1, h2, h3, e⟩
  · have e2 : wi64 (wu8 ((c.toNat : Int) - 48)) = ((dig c : Nat) : Int) := by
      rw [wu8_id (by omega) (by omega), wi64_id (by omega) (by omega)]; omega
    rw [if_pos (by omega)]
    simp (disch := omega) only [ltI_t, ltI_f, Bool.not_true, Bool.not_false, cond_false, cond_true, e2]
  · have e2 : wi64 (wi64 (wu8 ((c.toNat : Int) - 97)) + 10) = ((dig c : Nat) : Int) := by
      rw [wu8_id (by omega) (by omega), wi64_id (n := (c.toNat : Int) - 97) (by omega) (by omega), wi64_id (by omega) (by omega)]; omega
    rw [if_pos (by omega)]
    simp (disch := omega) only [ltI_t, ltI_f, Bool.not_true, Bool.not_false, cond_false, cond_true, e2]
  · have e2 : wi64 (wi64 (wu8 ((c.toNat : Int) - 65)) + 10) = ((dig c : Nat) : Int) := by
      rw [wu8_id (by omega) (by omega), wi64_id (n := (c.toNat : Int) - 65) (by omega) (by omega), wi64_id (by omega) (by omega)]; omega
    rw [if_pos (by omega)]
    simp (disch := omega) only [ltI_t, ltI_f, Bool.not_true, Bool.not_false, cond_false, cond_true, e2]
  · rw [e, if_neg (by decide)]
    by_cases c1 : c.toNat < 48
    · simp (disch := omega) only [ltI_t, ltI_f, Bool.not_true, Bool.not_false, cond_false, cond_true]
    · by_cases c2 : c.toNat < 65
      · simp (disch := omega) only [ltI_t, ltI_f, Bool.not_true, Bool.not_false, cond_false, cond_true]
      · by_cases c3 : c.toNat < 97
        · simp (disch := omega) only [ltI_t, ltI_f, Bool.not_true, Bool.not_false, cond_false, cond_true]
        · simp (disch := omega) only [ltI_t, ltI_f, Bool.not_true, Bool.not_false, cond_false, cond_true]
theorem pctB_ne {b : UInt8} (r : By) (h : b ≠ 37) : pctB (b :: r) = (pctB r).map (b :: ·) := by
  conv => lhs; unfold pctB
  rw [if_neg h]
theorem pctB_two (x y : UInt8) (r : By) : pctB (37 :: x :: y :: r) = if dig x < 16 ∧ dig y < 16 then (pctB r).map (UInt8.ofNat (16 * dig x + dig y) :: ·) else none := by
  conv => lhs; unfold pctB
  rw [if_pos rfl]
theorem digI_neg (x : UInt8) : ltI (digI x) 0 = !(decide (dig x < 16)) := by
  unfold digI
  by_cases h : dig x < 16
  · rw [if_pos h, ltI_f (by omega), decide_eq_true h]; rfl
  · rw [if_neg h, ltI_t (by omega), decide_eq_false h]; rfl
theorem pctB_le : ∀ (s t : By), pctB s = some t → t.length ≤ s.length
  | [], t, h => by simp only [pctB, Option.some.injEq] at h; subst h; exact Nat.le_refl _
  | b :: r, t, h => by
    by_cases hb : b = 37
    · subst hb
      match r, h with
      | [], h => cases h
      | [x], h => cases h
      | x :: y :: r', h =>
        rw [pctB_two] at h
        split at h
        · cases hq : pctB r' with
          | none => rw [hq] at h; cases h
          | some q =>
            rw [hq] at h
            simp only [Option.map_some, Option.some.injEq] at h
            subst h
            have := pctB_le r' q hq
            simp only [List.length_cons]
            omega
        · cases h
    · rw [pctB_ne _ hb] at h
      cases hq : pctB r with
      | none => rw [hq] at h; cases h
      | some q =>
        rw [hq] at h
        simp only [Option.map_some, Option.some.injEq] at h
        subst h
        have := pctB_le r q hq
        simp only [List.length_cons]
        omega
theorem hdec_loop (s : By) (hs : s.length ≤ 1000000000) : ∀ (m i n : Nat) (acc : By), i ≤ s.length → s.length - i ≤ m → m < n → acc.length ≤ i →
    (∀ t, pctB (s.drop i) = some t → ∀ (R : Type) (k0 : LL → Option R) (k1 : LL → Option R), hdec_l0 LF n s (i : Int) (acc.map u8el) k0 k1 = k1 ((acc ++ t).map u8el)) ∧
    (pctB (s.drop i) = none → ∃ l, ∀ (R : Type) (k0 : LL → Option R) (k1 : LL → Option R), hdec_l0 LF n s (i : Int) (acc.map u8el) k0 k1 = k0 l) := by
  intro m
  induction m with
  | zero =>
    intro i n acc hi hm hn ha
    obtain ⟨n, rfl⟩ : ∃ m, n = m + 1 := ⟨n - 1, by omega⟩
    rw [List.drop_of_length_le (by omega)]
    refine ⟨fun t ht R k0 k1 => ?_, fun h => (by cases h)⟩
    simp only [pctB, Option.some.injEq] at ht
    subst ht
    rw [hdec_l0_s]
    unfold hdec_l0f
    rw [ltI_f (by omega), List.append_nil]
    rfl
  | succ m ih =>
    intro i n acc hi hm hn ha
    obtain ⟨n, rfl⟩ : ∃ m, n = m + 1 := ⟨n - 1, by omega⟩
    by_cases hlt : i < s.length
    · have e1 : wi64 ((i : Int) + 1) = ((i + 1 : Nat) : Int) := by rw [wi64_id (by omega) (by omega)]; rfl
      have e2 : wi64 ((i : Int) + 2) = ((i + 2 : Nat) : Int) := by rw [wi64_id (by omega) (by omega)]; rfl
      have e3 : wi64 (((i + 2 : Nat) : Int) + 1) = ((i + 3 : Nat) : Int) := by rw [wi64_id (by omega) (by omega)]; omega
      have hal : (acc.map u8el).length = acc.length := List.length_map _
      have hrow : ∀ b : UInt8, acc.map u8el ++ [[SV.int .u8 (b.toNat : Int)]] = (acc ++ [b]).map u8el := fun b => by rw [List.map_append]; rfl
      have q1 : (((s.getD i 0).toNat : Int) != 37) = !(s.getD i 0 == 37) := congrArg _ (u8_eqn _ 37 (by omega))
      rw [drop_cons s i hlt]
      by_cases h37 : s.getD i 0 = 37
      · by_cases h3 : i + 2 < s.length
        · rw [drop_cons s (i + 1) (by omega), drop_cons s (i + 1 + 1) (by omega), h37, pctB_two]
          obtain ⟨i1, i2⟩ := ih (i + 3) n (acc ++ [UInt8.ofNat (16 * dig (s.getD (i + 1) 0) + dig (s.getD (i + 2) 0))]) (by omega) (by omega) (by omega) (by simp; omega)
          have top : ∀ (R : Type) (k0 : LL → Option R) (k1 : LL → Option R), hdec_l0 LF (n + 1) s (i : Int) (acc.map u8el) k0 k1 = cond (decide (dig (s.getD (i + 1) 0) < 16) && decide (dig (s.getD (i + 2) 0) < 16)) (hdec_l0 LF n s ((i + 3 : Nat) : Int) ((acc ++ [UInt8.ofNat (16 * dig (s.getD (i + 1) 0) + dig (s.getD (i + 2) 0))]).map u8el) k0 k1) (k0 (acc.map u8el)) := by
            intro R k0 k1
            rw [hdec_l0_s]
            unfold hdec_l0f
            rw [ltI_t (by omega), inR_t (by omega) (by omega), bAt_nat, q1, h37, hal, e2, ltI_t (by omega), e1, inR_t (by omega) (by omega), inR_t (by omega) (by omega), bAt_nat, bAt_nat]
            simp only [cond_true, vl, Bool.not_true, cond_false, beq_self_eq_true, u8_inR, u8n_nat, digI_neg, roomy_of (show acc.length + 1 ≤ 68719476736 by omega), e3]
            generalize s.getD (i + 1) 0 = x at *
            generalize s.getD (i + 2) 0 = y at *
            by_cases hx : dig x < 16
            · by_cases hy : dig y < 16
              · have w1 : digI x = (dig x : Int) := by unfold digI; rw [if_pos hx]
                have w2 : digI y = (dig y : Int) := by unfold digI; rw [if_pos hy]
                have w3 : wi64 ((16 : Int) * (dig x : Int)) = ((16 * dig x : Nat) : Int) := by rw [wi64_id (by omega) (by omega)]; omega
                have w4 : wi64 (((16 * dig x : Nat) : Int) + (dig y : Int)) = ((16 * dig x + dig y : Nat) : Int) := by rw [wi64_id (by omega) (by omega)]; omega
                have w5 : wu8 ((16 * dig x + dig y : Nat) : Int) = ((UInt8.ofNat (16 * dig x + dig y)).toNat : Int) := by
                  rw [wu8_id (by omega) (by omega)]
                  simp
                  omega
                rw [decide_eq_true hx, decide_eq_true hy, w1, w2, w3, w4, w5, hrow]
                rfl
              · rw [decide_eq_true hx, decide_eq_false hy]
                rfl
            · rw [decide_eq_false hx]
              rfl
          by_cases hd : dig (s.getD (i + 1) 0) < 16 ∧ dig (s.getD (i + 2) 0) < 16
          · rw [if_pos hd]
            have hc : (decide (dig (s.getD (i + 1) 0) < 16) && decide (dig (s.getD (i + 2) 0) < 16)) = true := by rw [decide_eq_true hd.1, decide_eq_true hd.2]; rfl
            refine ⟨fun t ht R k0 k1 => ?_, fun h => ?_⟩
            · cases hq : pctB (s.drop (i + 3)) with
              | none => rw [show i + 1 + 1 + 1 = i + 3 from rfl, hq] at ht; cases ht
              | some q =>
                rw [show i + 1 + 1 + 1 = i + 3 from rfl, hq] at ht
                simp only [Option.map_some, Option.some.injEq] at ht
                subst ht
                rw [top, hc, cond_true, i1 q hq, List.append_assoc]
                rfl
            · cases hq : pctB (s.drop (i + 3)) with
              | some q => rw [show i + 1 + 1 + 1 = i + 3 from rfl, hq] at h; cases h
              | none =>
                obtain ⟨l, e⟩ := i2 hq
                exact ⟨l, fun R k0 k1 => by rw [top, hc, cond_true, e]⟩
          · rw [if_neg hd]
            have hc : (decide (dig (s.getD (i + 1) 0) < 16) && decide (dig (s.getD (i + 2) 0) < 16)) = false := by
              rw [Bool.eq_false_iff, ne_eq, Bool.and_eq_true, decide_eq_true_eq, decide_eq_true_eq]; exact hd
            exact ⟨fun t h => (by cases h), fun _ => ⟨_, fun R k0 k1 => by rw [top, hc, cond_false]⟩⟩
        · have hnone : pctB (s.getD i 0 :: s.drop (i + 1)) = none := by
            rw [h37]
            cases hd : s.drop (i + 1) with
            | nil => rfl
            | cons x r =>
              cases r with
              | nil => rfl
              | cons y r' =>
                exfalso
                have := congrArg List.length hd
                rw [List.length_drop, List.length_cons, List.length_cons] at this
                omega
          rw [hnone]
          refine ⟨fun t h => (by cases h), fun _ => ⟨acc.map u8el, fun R k0 k1 => ?_⟩⟩
          rw [hdec_l0_s]
          unfold hdec_l0f
          rw [ltI_t (by omega), inR_t (by omega) (by omega), bAt_nat, q1, h37, e2, ltI_f (by omega)]
          rfl
      · rw [pctB_ne _ h37]
        obtain ⟨i1, i2⟩ := ih (i + 1) n (acc ++ [s.getD i 0]) (by omega) (by omega) (by omega) (by simp; omega)
        have hb37 : (s.getD i 0 == 37) = false := by simpa using h37
        have top : ∀ (R : Type) (k0 : LL → Option R) (k1 : LL → Option R), hdec_l0 LF (n + 1) s (i : Int) (acc.map u8el) k0 k1 = hdec_l0 LF n s ((i + 1 : Nat) : Int) ((acc ++ [s.getD i 0]).map u8el) k0 k1 := by
          intro R k0 k1
          rw [hdec_l0_s]
          unfold hdec_l0f
          rw [ltI_t (by omega), inR_t (by omega) (by omega), bAt_nat, q1, hb37, hal, roomy_of (by omega), e1, hrow]
          rfl
        refine ⟨fun t ht R k0 k1 => ?_, fun h => ?_⟩
        · cases hq : pctB (s.drop (i + 1)) with
          | none => rw [hq] at ht; cases ht
          | some q =>
            rw [hq] at ht
            simp only [Option.map_some, Option.some.injEq] at ht
            subst ht
            rw [top, i1 q hq, List.append_assoc]
            rfl
        · cases hq : pctB (s.drop (i + 1)) with
          | some q => rw [hq] at h; cases h
          | none =>
            obtain ⟨l, e⟩ := i2 hq
            exact ⟨l, fun R k0 k1 => by rw [top, e]⟩
    · rw [List.drop_of_length_le (by omega)]
      refine ⟨fun t ht R k0 k1 => ?_, fun h => (by cases h)⟩
      simp only [pctB, Option.some.injEq] at ht
      subst ht
      rw [hdec_l0_s]
      unfold hdec_l0f
      rw [ltI_f (by omega), List.append_nil]
      rfl
theorem hdec_sp (s : By) (h0 : small s.length = true) : ∃ r H, hdec LF s (fun r0 r1 l2 => rv (.tup [.s (.str r0), .s (.bool r1)]) [.arr false 5 1 l2]) = rv r H ∧
    r.stab [0, 0] H = .tup [.s (.str (pctV s)), .s (.bool (pctB s).isSome)] := by
  have hs := maxL h0
  have hLF := LF_big
  have hroom : ((decide ((0 : Int) ≤ (s.length : Int))) && (roomy (Int.toNat (s.length : Int)))) = true := by
    rw [Int.toNat_natCast, roomy_of (by omega), decide_eq_true (by omega)]; rfl
  obtain ⟨p1, p2⟩ := hdec_loop s hs s.length 0 LF [] (by omega) (by omega) (by omega) (by simp)
  rw [List.drop_zero] at p1 p2
  unfold pctV
  cases hp : pctB s with
  | none =>
    obtain ⟨l, e⟩ := p2 hp
    refine ⟨.tup [.s (.str []), .s (.bool false)], [.arr false 5 1 l], ?_, rfl⟩
    unfold hdec
    rw [hroom, cond_true]
    exact e _ _ _
  | some t =>
    refine ⟨.tup [.s (.str t), .s (.bool true)], [.arr false 5 1 (t.map u8el)], ?_, rfl⟩
    unfold hdec
    rw [hroom, cond_true]
    refine Eq.trans (p1 t hp _ _ _) ?_
    rw [List.nil_append, all_isU8, map_elU8]
    rfl
abbrev aggH (kd : Int) (nm : By) (v4 a0 a1 a2 a3 a4 a5 a6 a7 : Int) : List PV := [.s (.int .i64 kd), .s (.str nm), .s (.int .u32 v4), .s (.int .u16 a0), .s (.int .u16 a1), .s (.int .u16 a2), .s (.int .u16 a3), .s (.int .u16 a4), .s (.int .u16 a5), .s (.int .u16 a6), .s (.int .u16 a7)]
def hostA (h : HostV) : PV := .agg [.s (.int .i64 (h.kind : Nat)), .s (.str h.name), .s (.int .u32 (h.v4 : Nat)), .s (.int .u16 (h.v6.getD 0 0 : Nat)), .s (.int .u16 (h.v6.getD 1 0 : Nat)), .s (.int .u16 (h.v6.getD 2 0 : Nat)), .s (.int .u16 (h.v6.getD 3 0 : Nat)), .s (.int .u16 (h.v6.getD 4 0 : Nat)), .s (.int .u16 (h.v6.getD 5 0 : Nat)), .s (.int .u16 (h.v6.getD 6 0 : Nat)), .s (.int .u16 (h.v6.getD 7 0 : Nat))]
abbrev haK0 : Int → Int → Int → Int → Int → Int → Int → Int → Int → Int → Int → LL → Option (PV × List Blk × Unit) := fun r0 r1 r2 r3 r4 r5 r6 r7 r8 r9 n10 l11 => rv (.tup [.agg (aggH r0 [] 0 r1 r2 r3 r4 r5 r6 r7 r8), .s (.int .i64 r9)]) [.box (aggH n10 [] 0 r1 r2 r3 r4 r5 r6 r7 r8), .arr false 26 1 l11]
abbrev haK1 : Unit → Option (PV × List Blk × Unit) := fun _ => rv (.tup [.agg (aggH 0 [] 0 0 0 0 0 0 0 0 0), .s (.int .i64 14)]) [.box (aggH 0 [] 0 0 0 0 0 0 0 0 0)]
theorem last_eq (s : By) (c : UInt8) (h : s ≠ []) : (s.getLast? = some c) ↔ s.getD (s.length - 1) 0 = c := by
  have : 0 < s.length := List.length_pos_iff.2 h
  rw [List.getLast?_eq_getElem?, List.getD_eq_getElem?_getD, List.getElem?_eq_getElem (by omega)]
  simp
theorem haddr_sp (s : By) (h0 : small s.length = true) (h1 : isBr s = true) : ∃ r H, haddr LF s haK0 haK1 = rv r H ∧ r.stab [0, 0] H = .tup [hostA (addrH s).1, .s (.int .i64 ((addrH s).2 : Nat))] := by
  have hs := maxL h0
  have hne : s ≠ [] := by rintro rfl; cases h1
  have hl : 0 < s.length := List.length_pos_iff.2 hne
  have hb0 : s.getD 0 0 = 91 := by
    cases s with
    | nil => exact absurd rfl hne
    | cons b t =>
      simp only [isBr, List.isPrefixOf, Bool.and_true, beq_iff_eq] at h1
      exact h1.symm
  have e1 : wi64 ((s.length : Int) - 1) = ((s.length - 1 : Nat) : Int) := by rw [wi64_id (by omega) (by omega)]; omega
  have q1 : (((s.getD (s.length - 1) 0).toNat : Int) == 93) = (s.getD (s.length - 1) 0 == 93) := u8_eqn _ 93 (by omega)
  have bad : ∃ r H, haK1 () = rv r H ∧ r.stab [0, 0] H = .tup [hostA noHost, .s (.int .i64 14)] := ⟨_, _, rfl, rfl⟩
  unfold haddr addrH
  simp only [vl, e1]
  rw [inR_t (by omega) (by omega), bAt_nat, q1, cond_true]
  by_cases h93 : s.getD (s.length - 1) 0 = 93
  · have h2 : 2 ≤ s.length := by
      apply Classical.byContradiction
      intro h
      rw [show s.length - 1 = 0 by omega, hb0] at h93
      exact absurd h93 (by decide)
    rw [if_pos ⟨(last_eq s 93 hne).2 h93, h2⟩, h93, beq_self_eq_true, cond_true, show (1 : Int) = ((1 : Nat) : Int) from rfl, sub3_t (by omega) (by omega) (by omega), cond_true, cut_nat]
    have hlt : ((s.take (s.length - 1)).drop 1).length ≤ s.length := by rw [List.length_drop, List.length_take]; omega
    rw [small_t (by omega), cond_true]
    unfold v6c
    cases hv : v6B ((s.take (s.length - 1)).drop 1) with
    | none => exact ⟨_, _, rfl, rfl⟩
    | some a => exact ⟨_, _, rfl, rfl⟩
  · rw [if_neg (fun h => h93 ((last_eq s 93 hne).1 h.1)), show (s.getD (s.length - 1) 0 == 93) = false by simpa using h93]
    exact bad
theorem strE_set (l : List By) (i : Nat) (y : By) (h : i < l.length) : List.set (strE l) i (putAt ((strE l).getD i []) 0 [SV.str y]) = strE (l.set i y) := by
  have e : (strE l).getD i [] = [SV.str (l.getD i [])] := by
    unfold strE
    rw [List.getD_eq_getElem?_getD, List.getElem?_map, List.getElem?_eq_getElem h, List.getD_eq_getElem?_getD, List.getElem?_eq_getElem h]
    rfl
  rw [e]
  unfold strE
  rw [List.map_set]
  rfl
theorem hparse_loop (N : Nat) (hN : N ≤ 1000000001) : ∀ (rest : List By) (done : List By) (n : Nat), done.length + rest.length = N → rest.length < n → (∀ x ∈ rest, x.length ≤ 1000000000) →
    ((asciis rest).2 = 0 → ∀ (R : Type) (k0 : Int → LL → Option R) (k1 : Nat → LL → Option R), hparse_l0 LF n N (N : Int) (done.length : Int) (strE (done ++ rest)) k0 k1 = k1 N (strE (done ++ (asciis rest).1))) ∧
    ((asciis rest).2 ≠ 0 → ∃ l, ∀ (R : Type) (k0 : Int → LL → Option R) (k1 : Nat → LL → Option R), hparse_l0 LF n N (N : Int) (done.length : Int) (strE (done ++ rest)) k0 k1 = k0 ((asciis rest).2 : Nat) l) := by
  intro rest
  induction rest with
  | nil =>
    intro done n hd hn hx
    obtain ⟨n, rfl⟩ : ∃ m, n = m + 1 := ⟨n - 1, by simp at hn; omega⟩
    simp only [List.length_nil] at hd
    refine ⟨fun _ R k0 k1 => ?_, fun h => absurd rfl h⟩
    rw [hparse_l0_s]
    unfold hparse_l0f
    rw [ltI_f (by omega)]
    rfl
  | cons x r ih =>
    intro done n hd hn hx
    simp only [List.length_cons] at hd hn
    obtain ⟨n, rfl⟩ : ∃ m, n = m + 1 := ⟨n - 1, by omega⟩
    have e1 : wi64 ((done.length : Int) + 1) = ((done.length + 1 : Nat) : Int) := by rw [wi64_id (by omega) (by omega)]; rfl
    have hlen : (done ++ x :: r).length = N := by rw [List.length_append, List.length_cons]; omega
    have hgx : (done ++ x :: r).getD done.length [] = x := by
      rw [List.getD_eq_getElem?_getD, List.getElem?_append_right (Nat.le_refl _), Nat.sub_self]
      rfl
    have hset : ∀ y, (done ++ x :: r).set done.length y = (done ++ [y]) ++ r := fun y => by
      rw [List.set_append_right _ _ (Nat.le_refl _), Nat.sub_self, List.set_cons_zero, List.append_assoc]
      rfl
    have top : ∀ (R : Type) (k0 : Int → LL → Option R) (k1 : Nat → LL → Option R), hparse_l0 LF (n + 1) N (N : Int) (done.length : Int) (strE (done ++ x :: r)) k0 k1 = cond (((toAsc x).2 : Int) != 0) (k0 ((toAsc x).2 : Nat) (strE (done ++ x :: r))) (hparse_l0 LF n N (N : Int) ((done.length + 1 : Nat) : Int) (strE ((done ++ [(toAsc x).1]) ++ r)) k0 k1) := by
      intro R k0 k1
      rw [hparse_l0_s]
      unfold hparse_l0f
      rw [ltI_t (by omega), inR_t (by omega) (by omega), Int.toNat_natCast, Nat.zero_add, okE_strE (by omega), gX_strE, hgx]
      simp only [vl, cond_true]
      rw [small_t (hx x (by simp)), strE_len, decide_eq_true (show done.length < (done ++ x :: r).length by omega), strE_set _ _ _ (by omega), hset, e1]
      rfl
    unfold asciis
    obtain ⟨i1, i2⟩ := ih (done ++ [(toAsc x).1]) n (by simp; omega) (by omega) (fun y hy => hx y (by simp [hy]))
    have hdl : (done ++ [(toAsc x).1]).length = done.length + 1 := by simp
    rw [hdl] at i1 i2
    by_cases h : (toAsc x).2 = 0
    · rw [if_pos h]
      have hb : (((toAsc x).2 : Int) != 0) = false := by rw [h]; rfl
      refine ⟨fun h2 R k0 k1 => ?_, fun h2 => ?_⟩
      · rw [top, hb, cond_false, i1 h2, List.append_assoc]
        rfl
      · obtain ⟨l, e⟩ := i2 h2
        exact ⟨l, fun R k0 k1 => by rw [top, hb, cond_false, e]⟩
    · rw [if_neg h]
      have hb : (((toAsc x).2 : Int) != 0) = true := by simpa using h
      exact ⟨fun h2 => absurd h2 h, fun _ => ⟨_, fun R k0 k1 => by rw [top, hb, cond_true]⟩⟩
theorem join_le (p : By) (m : Nat) : ∀ l : List By, (∀ x ∈ l, x.length ≤ m) → (Lib.join l p).length ≤ (m + p.length) * l.length
  | [], _ => by simp [Lib.join]
  | [x], h => by
    have := h x (by simp)
    rw [show Lib.join [x] p = x by simp [Lib.join, Lib.joinTail]]
    simp
    omega
  | x :: y :: r, h => by
    have h1 := h x (by simp)
    have h2 := join_le p m (y :: r) (fun z hz => h z (by simp [hz]))
    rw [join_cons2, List.length_append, List.length_append, List.length_cons, Nat.mul_add, Nat.mul_one]
    omega
theorem all_isS_strE (l : List By) : (strE l).all isS = true := by
  unfold strE
  rw [List.all_map, List.all_eq_true]
  intro x _
  rfl
theorem tsuf_dot (s : By) : tsuf s [46] = trimDot s := by
  unfold tsuf trimDot
  by_cases h : s.getLast? = some 46
  · obtain ⟨t, rfl⟩ := List.getLast?_eq_some_iff.1 h
    rw [if_pos h, if_pos (by rw [List.isSuffixOf_iff_suffix]; exact ⟨t, rfl⟩)]
    simp
  · rw [if_neg h, if_neg]
    rw [List.isSuffixOf_iff_suffix]
    rintro ⟨t, ht⟩
    exact h (List.getLast?_eq_some_iff.2 ⟨t, ht.symm⟩)
abbrev hpK0 : Int → By → Int → Int → Int → Int → Int → Int → Int → Int → Int → Int → Int → By → Int → Int → Int → Int → Int → Int → Int → Int → Int → Option (PV × List Blk × Unit) := fun r0 r1 r2 r3 r4 r5 r6 r7 r8 r9 r10 r11 n12 s13 n14 n15 n16 n17 n18 n19 n20 n21 n22 => rv (.tup [.agg (aggH r0 r1 r2 r3 r4 r5 r6 r7 r8 r9 r10), .s (.int .i64 r11)]) [.box (aggH n12 s13 n14 n15 n16 n17 n18 n19 n20 n21 n22)]
abbrev hpK1 : Int → By → Int → Int → By → LL → Option (PV × List Blk × Unit) := fun r0 r1 r2 n3 s4 l5 => rv (.tup [.agg (aggH r0 r1 0 0 0 0 0 0 0 0 0), .s (.int .i64 r2)]) [.box (aggH n3 s4 0 0 0 0 0 0 0 0 0), .arr false 9 1 l5]
theorem hparse_sp (s : By) (h0 : small s.length = true) : ∃ r H, hparse LF s hpK0 hpK1 = rv r H ∧ r.stab [0, 0] H = .tup [hostA (parseH s).1, .s (.int .i64 ((parseH s).2 : Nat))] := by
  have hs := maxL h0
  have hLF := LF_big
  have bad : ∀ e : Nat, ∃ r H, hpK0 0 [] 0 0 0 0 0 0 0 0 0 (e : Int) 0 [] 0 0 0 0 0 0 0 0 0 = rv r H ∧ r.stab [0, 0] H = .tup [hostA noHost, .s (.int .i64 (e : Nat))] := fun e => ⟨_, _, rfl, rfl⟩
  have bad2 : ∀ (e : Nat) (l : LL), ∃ r H, hpK1 0 [] (e : Int) 0 [] l = rv r H ∧ r.stab [0, 0] H = .tup [hostA noHost, .s (.int .i64 (e : Nat))] := fun e l => ⟨_, _, rfl, rfl⟩
  by_cases h1 : 1024 < s.length
  · have e : parseH s = (noHost, 3) := by unfold parseH; rw [if_pos h1]
    rw [e]
    unfold hparse
    rw [ltI_t (by omega), cond_true]
    exact bad 3
  · have hbr : ([91] : By).isPrefixOf s = decide (s.head? = some 91) := by
      cases s with
      | nil => rfl
      | cons b t =>
        simp only [List.isPrefixOf, Bool.and_true, List.head?_cons, Option.some.injEq]
        rw [Bool.eq_iff_iff, beq_iff_eq, decide_eq_true_eq]
        exact eq_comm
    by_cases h2 : s.head? = some 91
    · have hb : ([91] : By).isPrefixOf s = true := by rw [hbr, decide_eq_true h2]
      have e : parseH s = addrH s := by unfold parseH addrH; rw [if_neg h1, if_pos h2] <;> rfl
      rw [e]
      unfold hparse
      rw [ltI_f (by omega), cond_false, h0, cond_true, hb, cond_true, cond_true, show isBr s = true from hb, cond_true]
      exact ⟨_, _, rfl, rfl⟩
    · have hb : ([91] : By).isPrefixOf s = false := by rw [hbr, decide_eq_false h2]
      unfold hparse
      rw [ltI_f (by omega), cond_false, h0, cond_true, hb, cond_false, cond_true]
      cases hp : pctB s with
      | none =>
        have e : parseH s = (noHost, 14) := by unfold parseH; rw [if_neg h1, if_neg h2, hp]
        rw [e]
        exact bad 14
      | some t =>
        have htl : t.length ≤ s.length := pctB_le s t hp
        have hv : pctV s = t := by unfold pctV; rw [hp]; rfl
        rw [hv, small_t (by omega)]
        simp only [Option.isSome_some, Bool.not_true, cond_false, cond_true, vl]
        rw [tsuf_dot]
        have htd : (trimDot t).length ≤ t.length := by unfold trimDot; split <;> simp
        have hP : parseH s = if numericB (trimDot t) then (match pnB (trimDot t) with
            | some v => (⟨2, [], v, z8⟩, 0)
            | none => (noHost, 14))
          else if (asciis (pcs 46 (trimDot t))).2 = 0 then (
            let name := Lib.join (asciis (pcs 46 (trimDot t))).1 [46]
            if 253 < name.length then (noHost, 3) else if numericB name then (noHost, 14) else (⟨1, name, 0, z8⟩, 0))
          else (noHost, (asciis (pcs 46 (trimDot t))).2) := by
          unfold parseH
          rw [if_neg h1, if_neg h2, hp]
          rfl
        rw [hP]
        generalize trimDot t = u at *
        rw [small_t (by omega), cond_true]
        cases hn : numericB u with
        | true =>
          rw [if_pos rfl, cond_true, cond_true]
          cases hq : pnB u with
          | none => exact bad 14
          | some v => exact ⟨_, _, rfl, rfl⟩
        | false =>
          rw [if_neg (by simp), cond_false, cond_true, show ((1 : Nat) == 1) = true from rfl, cond_true]
          have hc : ([46] : By).getD 0 0 = 46 := rfl
          rw [hc]
          have hpl := pcs_len 46 u
          have hcl := count_le 46 u
          obtain ⟨i1, i2⟩ := hparse_loop (pcs 46 u).length (by omega) (pcs 46 u) [] LF (by simp) (by omega) (fun x hx => by have := (pcs_mem hx).2; omega)
          rw [List.nil_append, List.length_nil] at i1 i2
          by_cases hz : (asciis (pcs 46 u)).2 = 0
          · rw [if_pos hz]
            obtain ⟨a1, a2⟩ := asciis_ok _ hz
            have hjl := join_le [46] 63 (asciis (pcs 46 u)).1 (fun x hx => (validL_VL (a1 x hx)).le)
            have he : ∀ {R : Type} (K0 : Int → LL → Option R) (K1 : Nat → LL → Option R), hparse_l0 LF LF (pcs 46 u).length ((pcs 46 u).length : Int) 0 (strE (pcs 46 u)) K0 K1 = K1 (pcs 46 u).length (strE (asciis (pcs 46 u)).1) := fun K0 K1 => i1 hz _ K0 K1
            rw [he]
            have hA : (asciis (pcs 46 u)).1.length ≤ 1025 := by omega
            have htk : List.take (pcs 46 u).length (List.drop 0 (strE (asciis (pcs 46 u)).1)) = strE (asciis (pcs 46 u)).1 := by
              rw [List.drop_zero, List.take_of_length_le (by rw [strE_len]; omega)]
            have hmul : (63 + ([46] : By).length) * (asciis (pcs 46 u)).1.length ≤ 64 * 1025 := Nat.mul_le_mul (by simp) hA
            rw [htk, all_isS_strE, elS_strE, strE_len, small_t (by omega), small_t (by omega)]
            simp only [cond_true]
            generalize Lib.join (asciis (pcs 46 u)).1 [46] = name at *
            by_cases h253 : 253 < name.length
            · rw [if_pos h253, ltI_t (by omega), cond_true]
              exact bad2 3 _
            · rw [if_neg h253, ltI_f (by omega), cond_false]
              cases hnn : numericB name with
              | true => exact bad2 14 _
              | false => exact ⟨_, _, rfl, rfl⟩
          · rw [if_neg hz]
            obtain ⟨l, e⟩ := i2 hz
            have he : ∀ {R : Type} (K0 : Int → LL → Option R) (K1 : Nat → LL → Option R), hparse_l0 LF LF (pcs 46 u).length ((pcs 46 u).length : Int) 0 (strE (pcs 46 u)) K0 K1 = K0 ((asciis (pcs 46 u)).2 : Nat) l := fun K0 K1 => e _ K0 K1
            rw [he]
            exact bad2 _ _
end Go.Proofs.YtokehocipgepnaaGreatDoor.E
namespace Go.Proofs.YtokehocipgepnaaGreatDoor.E
open Go Go.Proofs
set_option linter.unusedVariables false
set_option linter.unusedSimpArgs false
theorem hvn_loop {R : Type} {k0 k1 : Unit → Option R} : ∀ l : List By, (∀ x ∈ l, x.length ≤ 1000000000) → hvn_g0 LF l k0 k1 = if l.all validL then k0 () else k1 ()
  | [], _ => rfl
  | x :: r, h => by
    rw [hvn_g0_s]
    unfold hvn_g0f
    rw [small_t (h x (by simp)), cond_true, List.all_cons]
    have ih := hvn_loop (k0 := k0) (k1 := k1) r (fun y hy => h y (by simp [hy]))
    cases validL x with
    | true => rw [Bool.true_and]; exact ih
    | false => rfl
theorem hvn_sp (s : By) (h0 : small s.length = true) : ∃ r H, hvn LF s (fun _ => rv (.s (.bool false)) [.box [.s (.bool false)]]) (fun r0 b1 => rv (.s (.bool r0)) [.box [.s (.bool b1)], .box [.bad], .box [.bad], .box [.bad]]) = rv r H ∧ r.stab [] H = .s (.bool (validN s)) := by
  have hs := maxL h0
  unfold hvn hvn_e1 validN
  by_cases h1 : 253 < s.length
  · rw [ltI_t (by omega), show Nat.ble s.length 253 = false by rw [Bool.eq_false_iff, ne_eq, Nat.ble_eq]; omega]
    exact ⟨_, _, rfl, rfl⟩
  · rw [ltI_f (by omega), cond_false, h0, cond_true, show Nat.ble s.length 253 = true by rw [Nat.ble_eq]; omega]
    cases h2 : numericB s with
    | true => exact ⟨_, _, rfl, rfl⟩
    | false =>
      rw [cond_false, show ((1 : Nat) == 1 && (0 : Int) == (0 : Int)) = true from rfl, show ([46] : By).getD 0 0 = 46 from rfl, Bool.and_true, cond_true, hvn_loop _ (fun x hx => by have := (pcs_mem hx).2; omega)]
      cases h3 : (pcs 46 s).all validL with
      | true => exact ⟨_, _, rfl, rfl⟩
      | false => exact ⟨_, _, rfl, rfl⟩
theorem n8_z8 (b0 b1 b2 b3 b4 b5 b6 b7 : Nat) : (n8 (b0 : Int) b1 b2 b3 b4 b5 b6 b7 == z8) = (((b0 : Int) == 0) && (((b1 : Int) == 0) && (((b2 : Int) == 0) && (((b3 : Int) == 0) && (((b4 : Int) == 0) && (((b5 : Int) == 0) && (((b6 : Int) == 0) && (((b7 : Int) == 0) && true)))))))) := by
  have e : n8 (b0 : Int) b1 b2 b3 b4 b5 b6 b7 = [b0, b1, b2, b3, b4, b5, b6, b7] := rfl
  have q : ∀ b : Nat, ((b : Int) == 0) = (b == 0) := fun b => by
    rw [Bool.eq_iff_iff, beq_iff_eq, beq_iff_eq]; omega
  rw [e]
  simp only [q, z8]
  rfl
theorem hval_sp (kd : Int) (nm : By) (v4 a0 a1 a2 a3 a4 a5 a6 a7 : Int) (h0 : small nm.length = true) (h1 : ltN v4 4294967296 = true) (h2 : ok8 a0 a1 a2 a3 a4 a5 a6 a7 = true) :
    ∃ r H, hval LF kd nm v4 a0 a1 a2 a3 a4 a5 a6 a7 (fun r0 n1 s2 n3 n4 n5 n6 n7 n8 n9 n10 n11 l12 => rv (.s (.bool r0)) [.box (aggH n1 s2 n3 n4 n5 n6 n7 n8 n9 n10 n11), .arr false 26 1 l12]) = rv r H ∧
      r.stab [] H = .s (.bool (validH (mkH kd nm v4 (n8 a0 a1 a2 a3 a4 a5 a6 a7)))) := by
  obtain ⟨b0, b1, b2, b3, b4, b5, b6, b7, rfl, rfl, rfl, rfl, rfl, rfl, rfl, rfl, hb⟩ := ok8_iff h2
  obtain ⟨v0, v1⟩ := ltN_iff.1 h1
  obtain ⟨v, rfl⟩ := Int.eq_ofNat_of_zero_le v0
  have qv : ((v : Int) == 0) = (v == 0) := by
    rw [Bool.eq_iff_iff, beq_iff_eq, beq_iff_eq]; omega
  have qn : (nm == ([] : By)) = nm.isEmpty := by cases nm <;> rfl
  have hk : (mkH kd nm (v : Int) (n8 (b0 : Int) b1 b2 b3 b4 b5 b6 b7)).kind = if ltN kd 4 then kd.toNat else 0 := rfl
  have hn : (mkH kd nm (v : Int) (n8 (b0 : Int) b1 b2 b3 b4 b5 b6 b7)).name = nm := rfl
  have hv : (mkH kd nm (v : Int) (n8 (b0 : Int) b1 b2 b3 b4 b5 b6 b7)).v4 = v := Int.toNat_natCast v
  have h6 : (mkH kd nm (v : Int) (n8 (b0 : Int) b1 b2 b3 b4 b5 b6 b7)).v6 = n8 (b0 : Int) b1 b2 b3 b4 b5 b6 b7 := rfl
  unfold hval validH
  rw [hk, hn, hv, h6, n8_z8, qv, qn]
  by_cases k1 : kd = 1
  · subst k1
    rw [show ((1 : Int) == 1) = true from rfl, cond_true, h0, cond_true, if_pos (by decide)]
    cases validN nm with
    | false => exact ⟨_, _, rfl, rfl⟩
    | true =>
      cases (v == 0) with
      | false => exact ⟨_, _, rfl, rfl⟩
      | true => exact ⟨_, _, rfl, rfl⟩
  · rw [show (kd == (1 : Int)) = false by simpa using k1, cond_false]
    by_cases k2 : kd = 2
    · subst k2
      rw [show ((2 : Int) == 2) = true from rfl, cond_true, if_neg (by decide), if_pos (by decide)]
      cases nm.isEmpty with
      | false => exact ⟨_, _, rfl, rfl⟩
      | true => exact ⟨_, _, rfl, rfl⟩
    · rw [show (kd == (2 : Int)) = false by simpa using k2, cond_false]
      by_cases k3 : kd = 3
      · subst k3
        rw [show ((3 : Int) == 3) = true from rfl, cond_true, if_neg (by decide), if_neg (by decide), if_pos (by decide)]
        cases nm.isEmpty with
        | false => exact ⟨_, _, rfl, rfl⟩
        | true => exact ⟨_, _, rfl, rfl⟩
      · rw [show (kd == (3 : Int)) = false by simpa using k3, cond_false]
        have hkk : (if ltN kd 4 then kd.toNat else 0) = 0 := by
          split
          · rename_i h
            have := ltN_iff.1 h
            omega
          · rfl
        rw [hkk]
        exact ⟨_, _, rfl, rfl⟩
theorem n8_ok {a0 a1 a2 a3 a4 a5 a6 a7 : Int} (h : ok8 a0 a1 a2 a3 a4 a5 a6 a7 = true) : (n8 a0 a1 a2 a3 a4 a5 a6 a7).length = 8 ∧ ∀ x ∈ n8 a0 a1 a2 a3 a4 a5 a6 a7, x < 65536 := by
  obtain ⟨b0, b1, b2, b3, b4, b5, b6, b7, rfl, rfl, rfl, rfl, rfl, rfl, rfl, rfl, hb⟩ := ok8_iff h
  refine ⟨rfl, fun x hx => ?_⟩
  simp only [n8, Int.toNat_natCast, List.mem_cons, List.not_mem_nil, or_false] at hx
  omega
theorem hfmt_sp (kd : Int) (nm : By) (v4 a0 a1 a2 a3 a4 a5 a6 a7 : Int) (h0 : small nm.length = true) (h1 : ltN v4 4294967296 = true) (h2 : ok8 a0 a1 a2 a3 a4 a5 a6 a7 = true) :
    ∃ r H, hfmt LF kd nm v4 a0 a1 a2 a3 a4 a5 a6 a7 (fun r0 n1 s2 n3 n4 n5 n6 n7 n8 n9 n10 n11 => rv (.s (.str r0)) [.box (aggH n1 s2 n3 n4 n5 n6 n7 n8 n9 n10 n11)]) = rv r H ∧
      r.stab [] H = .s (.str (fmtH (mkH kd nm v4 (n8 a0 a1 a2 a3 a4 a5 a6 a7)))) := by
  obtain ⟨o1, o2⟩ := n8_ok h2
  have hl6 := v6_len _ o1 o2
  unfold hfmt fmtH
  rw [h0, h1, h2]
  simp only [cond_true, vl]
  have hk : (mkH kd nm v4 (n8 a0 a1 a2 a3 a4 a5 a6 a7)).kind = if ltN kd 4 then kd.toNat else 0 := rfl
  cases hvd : validH (mkH kd nm v4 (n8 a0 a1 a2 a3 a4 a5 a6 a7)) with
  | false => exact ⟨_, _, rfl, rfl⟩
  | true =>
    rw [if_pos rfl, Bool.not_true, cond_false, hk]
    by_cases k1 : kd = 1
    · subst k1
      rw [if_pos (by decide)]
      exact ⟨_, _, rfl, rfl⟩
    · rw [show (kd == (1 : Int)) = false by simpa using k1, cond_false]
      have n1 : ¬ (if ltN kd 4 then kd.toNat else 0) = 1 := by
        split
        · rename_i h
          have := ltN_iff.1 h
          omega
        · decide
      rw [if_neg n1]
      by_cases k2 : kd = 2
      · subst k2
        rw [if_pos (by decide)]
        exact ⟨_, _, rfl, rfl⟩
      · rw [show (kd == (2 : Int)) = false by simpa using k2, cond_false]
        have n2 : ¬ (if ltN kd 4 then kd.toNat else 0) = 2 := by
          split
          · rename_i h
            have := ltN_iff.1 h
            omega
          · decide
        rw [if_neg n2, catOk_t (by omega), cond_true, catOk_t (by rw [List.length_append, List.length_singleton]; omega), cond_true]
        exact ⟨_, _, rfl, rfl⟩
theorem hlab_spec {R : Type} {k0 : Int → Option R} (s : By) (h0 : small s.length = true) : hlab LF s k0 = k0 (labelsN s : Nat) := by
  have hs := maxL h0
  have hc := count_le 46 s
  unfold hlab labelsN
  rw [h0, cond_true]
  cases validN s with
  | false => rfl
  | true =>
    rw [show ([46] : By).getD 0 0 = 46 from rfl, if_pos rfl]
    simp only [vl]
    rw [wi64_id (by omega) (by omega)]
    rfl
theorem hcov_spec {R : Type} {k0 : Bool → Option R} (p s : By) (h0 : small p.length = true) (h1 : small s.length = true) : hcov LF p s k0 = k0 (coversN p s) := by
  have hp := maxL h0
  unfold hcov coversN
  rw [h0, h1, catOk_t (by omega)]
  cases validN p with
  | false => rfl
  | true =>
    cases validN s with
    | false => rfl
    | true =>
      cases (p == s) with
      | true => rfl
      | false => rfl
theorem lsseq_spec {R : Type} {k0 : By → By → Int → Option R} (t p : By) (n : Int) : lsseq LF t p n k0 = k0 t p n := rfl
theorem sseq_spec {R : Type} {k0 : By → By → Option R} (t p : By) : sseq LF t p k0 = k0 t p := rfl
theorem sseqf_loop {σ R : Type} (yh : Yh σ) (c : UInt8) : ∀ (m : Nat) (t : By) (n : Nat) (s s' : σ), t.length ≤ m → t.length ≤ 1000000000 → m < n → seqRun yh ((pcs c t).map fun x => ([.s (.str x)] : List PV)) s = some s' →
    ∃ t' , (∃ s0 : σ, ∃ b : Bool, yh [.s (.str t')] s0 = some (b, s') ∧ ∀ (k0 k1 : By → By → Int → σ → Option R), sseqf_l1 yh LF n [c] t 0 s k0 k1 = k0 [c] t' 0 s0) ∨ (∀ (k0 k1 : By → By → Int → σ → Option R), sseqf_l1 yh LF n [c] t 0 s k0 k1 = k1 [c] t' 0 s') := by
  intro m
  induction m with
  | zero =>
    intro t n s s' ht ht2 hn h
    obtain rfl := List.length_eq_zero_iff.1 (Nat.le_zero.1 ht)
    obtain ⟨n, rfl⟩ : ∃ m, n = m + 1 := ⟨n - 1, by omega⟩
    rw [pcs_none (by simp)] at h
    simp only [List.map_cons, List.map_nil, seqRun] at h
    refine ⟨[], .inl ⟨s, ?_⟩⟩
    have e : ∀ (k0 k1 : By → By → Int → σ → Option R), sseqf_l1 yh LF (n + 1) [c] [] 0 s k0 k1 = k0 [c] [] 0 s := fun k0 k1 => by
      rw [sseqf_l1_s]
      unfold sseqf_l1f
      rw [index_none (by simp)]
      rfl
    cases hy : yh [.s (.str [])] s with
    | none => rw [hy] at h; cases h
    | some q =>
      obtain ⟨b, s1⟩ := q
      rw [hy] at h
      have : s1 = s' := by cases b <;> simpa using h
      subst this
      exact ⟨b, rfl, e⟩
  | succ m ih =>
    intro t n s s' ht ht2 hn h
    obtain ⟨n, rfl⟩ : ∃ m, n = m + 1 := ⟨n - 1, by omega⟩
    rcases split_first c t with hc | ⟨p, r, rfl, hc⟩
    · rw [pcs_none hc] at h
      simp only [List.map_cons, List.map_nil, seqRun] at h
      refine ⟨t, .inl ⟨s, ?_⟩⟩
      have e : ∀ (k0 k1 : By → By → Int → σ → Option R), sseqf_l1 yh LF (n + 1) [c] t 0 s k0 k1 = k0 [c] t 0 s := fun k0 k1 => by
        rw [sseqf_l1_s]
        unfold sseqf_l1f
        rw [index_none hc, small_t ht2]
        rfl
      cases hy : yh [.s (.str t)] s with
      | none => rw [hy] at h; cases h
      | some q =>
        obtain ⟨b, s1⟩ := q
        rw [hy] at h
        have : s1 = s' := by cases b <;> simpa using h
        subst this
        exact ⟨b, rfl, e⟩
    · rw [pcs_app hc] at h
      simp only [List.map_cons, seqRun] at h
      have hlen : (p ++ c :: r).length = p.length + r.length + 1 := by rw [List.length_append, List.length_cons]; omega
      have e1 : wi64 ((p.length : Int) + 0) = ((p.length : Nat) : Int) := by rw [wi64_id (by omega) (by omega)]; omega
      have e2 : wi64 ((p.length : Int) + (([c] : By).length : Int)) = ((p.length + 1 : Nat) : Int) := by
        rw [wi64_id (by simp; omega) (by simp; omega)]; simp
      have e3 : cut (p ++ c :: r) 0 (p.length : Int) = p := by rw [cut_zero, Int.toNat_natCast, List.take_left]
      have e4 : cut (p ++ c :: r) ((p.length + 1 : Nat) : Int) ((p ++ c :: r).length : Int) = r := by
        rw [cut_all, Int.toNat_natCast, show p ++ c :: r = (p ++ [c]) ++ r by simp, List.drop_left' (by simp)]
      have top : ∀ (k0 k1 : By → By → Int → σ → Option R), sseqf_l1 yh LF (n + 1) [c] (p ++ c :: r) 0 s k0 k1 = ydK (yh [.s (.str p)] s) fun b s1 => cond (not b) (k1 [c] (p ++ c :: r) 0 s1) (sseqf_l1 yh LF n [c] r 0 s1 k0 k1) := fun k0 k1 => by
        rw [sseqf_l1_s]
        unfold sseqf_l1f
        rw [index_app hc, small_t ht2, cond_true, ltI_f (by omega), cond_false]
        simp only [vl, e1, e2, e3, e4]
        rw [sub3_t (by omega) (by omega) (by omega), cond_true, sub3_t (by omega) (by omega) (by omega)]
        rfl
      cases hy : yh [.s (.str p)] s with
      | none => rw [hy] at h; cases h
      | some q =>
        obtain ⟨b, s1⟩ := q
        rw [hy] at h top
        cases b with
        | false =>
          have : s1 = s' := by simpa using h
          subst this
          exact ⟨p ++ c :: r, .inr fun k0 k1 => by rw [top]; rfl⟩
        | true =>
          simp only at h
          obtain ⟨t', ⟨s0, b, e, f⟩ | f⟩ := ih r n s1 s' (by omega) (by omega) (by omega) h
          · exact ⟨t', .inl ⟨s0, b, e, fun k0 k1 => by rw [top]; exact f k0 k1⟩⟩
          · exact ⟨t', .inr fun k0 k1 => by rw [top]; exact f k0 k1⟩
theorem sseqf_spec {σ R : Type} (yh : Yh σ) (p t : By) (n : Int) (s s' : σ) (h : (small t.length && (p.length == 1 && n == 0)) = true) (hr : seqRun yh ((pcs (p.getD 0 0) t).map fun x => ([.s (.str x)] : List PV)) s = some s') :
    ∃ t', ∀ (k0 : By → By → Int → σ → Option R), sseqf yh LF p t n s k0 = k0 p t' n s' := by
  have hLF := LF_big
  simp only [Bool.and_eq_true, beq_iff_eq] at h
  obtain ⟨h1, h2, rfl⟩ := h
  obtain ⟨c, rfl⟩ := List.length_eq_one_iff.1 h2
  have ht := maxL h1
  obtain ⟨t', ⟨s0, b, e, f⟩ | f⟩ := sseqf_loop (R := R) yh c t.length t LF s s' (Nat.le_refl _) ht (by omega) hr
  · refine ⟨t', fun k0 => ?_⟩
    unfold sseqf
    rw [show (((([c] : By).length : Nat) : Int) == 0) = false from rfl, cond_false]
    refine Eq.trans (f _ _) ?_
    rw [e]
    rfl
  · refine ⟨t', fun k0 => ?_⟩
    unfold sseqf
    rw [show (((([c] : By).length : Nat) : Int) == 0) = false from rfl, cond_false]
    exact f _ _
end Go.Proofs.YtokehocipgepnaaGreatDoor.E
namespace Go.Proofs.YtokehocipgepnaaGreatDoor.E
open Go Go.Proofs
set_option linter.unusedVariables false
set_option linter.unusedSimpArgs false
set_option maxRecDepth 100000
def hostTys : List Ty := [.int .i64, .str, .int .u32, .int .u16, .int .u16, .int .u16, .int .u16, .int .u16, .int .u16, .int .u16, .int .u16]
def hostPV (kd : Int) (nm : By) (v4 a0 a1 a2 a3 a4 a5 a6 a7 : Int) : List SV := [.int .i64 kd, .str nm, .int .u32 v4, .int .u16 a0, .int .u16 a1, .int .u16 a2, .int .u16 a3, .int .u16 a4, .int .u16 a5, .int .u16 a6, .int .u16 a7]
theorem ty_u16 {x : SV} (h : (Ty.int .u16).of x) : ∃ n, x = .int .u16 n ∧ ltN n 65536 = true := by
  obtain ⟨n, rfl, h1, h2⟩ := h
  simp [IntKind.min, IntKind.max, IntKind.signed, IntKind.bits] at h1 h2
  exact ⟨n, rfl, ltN_iff.2 ⟨h1, by omega⟩⟩
theorem host_cells {l : List SV} (h : Ty.ofL hostTys l) : ∃ kd nm v4 a0 a1 a2 a3 a4 a5 a6 a7, l = hostPV kd nm v4 a0 a1 a2 a3 a4 a5 a6 a7 ∧ nm.length ≤ maxLen ∧ ltN v4 4294967296 = true ∧ ok8 a0 a1 a2 a3 a4 a5 a6 a7 = true ∧ (-9223372036854775808 ≤ kd ∧ kd < 9223372036854775808) := by
  simp only [hostTys, Ty.ofL] at h
  obtain ⟨_, _, rfl, ⟨kd, rfl, k1, k2⟩, _, _, rfl, ⟨nm, rfl, hn⟩, _, _, rfl, ⟨v4, rfl, v1, v2⟩, _, _, rfl, h0, _, _, rfl, h1, _, _, rfl, h2, _, _, rfl, h3, _, _, rfl, h4, _, _, rfl, h5, _, _, rfl, h6, _, _, rfl, h7, rfl⟩ := h
  simp [IntKind.min, IntKind.max, IntKind.signed, IntKind.bits] at v1 v2 k1 k2
  obtain ⟨a0, rfl, q0⟩ := ty_u16 h0
  obtain ⟨a1, rfl, q1⟩ := ty_u16 h1
  obtain ⟨a2, rfl, q2⟩ := ty_u16 h2
  obtain ⟨a3, rfl, q3⟩ := ty_u16 h3
  obtain ⟨a4, rfl, q4⟩ := ty_u16 h4
  obtain ⟨a5, rfl, q5⟩ := ty_u16 h5
  obtain ⟨a6, rfl, q6⟩ := ty_u16 h6
  obtain ⟨a7, rfl, q7⟩ := ty_u16 h7
  exact ⟨kd, nm, v4, a0, a1, a2, a3, a4, a5, a6, a7, rfl, hn, ltN_iff.2 ⟨v1, by omega⟩, by simp [ok8, q0, q1, q2, q3, q4, q5, q6, q7], by omega⟩
theorem arg_host {P : Program} {t : Nat} {v : PV} (h : ArgOf P t v) (e : tysOf P 20 t = some hostTys) (ha : aggOf P t = true) :
    ∃ kd nm v4 a0 a1 a2 a3 a4 a5 a6 a7, v = .agg ((hostPV kd nm v4 a0 a1 a2 a3 a4 a5 a6 a7).map .s) ∧ nm.length ≤ maxLen ∧ ltN v4 4294967296 = true ∧ ok8 a0 a1 a2 a3 a4 a5 a6 a7 = true ∧ (-9223372036854775808 ≤ kd ∧ kd < 9223372036854775808) := by
  obtain ⟨tys, l, h1, h2, h3⟩ := h
  rw [e] at h1
  obtain rfl := Option.some.inj h1
  obtain ⟨kd, nm, v4, a0, a1, a2, a3, a4, a5, a6, a7, rfl, q⟩ := host_cells h2
  rcases h3 with ⟨_, rfl⟩ | ⟨h3, _⟩
  · exact ⟨kd, nm, v4, a0, a1, a2, a3, a4, a5, a6, a7, rfl, q⟩
  · rw [ha] at h3; cases h3
def Tru (x : Option (PV × List Blk × Unit)) : Prop := ∃ H, x = some (.s (.bool true), H, ())
theorem eq8 {v6 : List Nat} (h : v6.length = 8) : ∃ a b c d e f g i, v6 = [a, b, c, d, e, f, g, i] := by
  match v6, h with
  | [a, b, c, d, e, f, g, i], _ => exact ⟨a, b, c, d, e, f, g, i, rfl⟩
theorem mkH_host {kd v4 : Nat} {nm : By} {a b c d e f g i : Nat} (hk : kd < 4) : mkH (kd : Int) nm (v4 : Int) (n8 a b c d e f g i) = ⟨kd, nm, v4, [a, b, c, d, e, f, g, i]⟩ := by
  unfold mkH n8
  rw [if_pos (ltN_iff.2 ⟨by omega, by omega⟩)]
  simp only [Int.toNat_natCast]
theorem ok8_nat {a b c d e f g i : Nat} (h : ∀ x ∈ [a, b, c, d, e, f, g, i], x < 65536) : ok8 a b c d e f g i = true := by
  have q : ∀ x ∈ [a, b, c, d, e, f, g, i], ltN (x : Int) 65536 = true := fun x hx => ltN_iff.2 ⟨by omega, by have := h x hx; omega⟩
  simp [ok8, q a, q b, q c, q d, q e, q f, q g, q i]
theorem validH_name {h : HostV} (hv : validH h = true) : h.name.length ≤ 253 := by
  unfold validH at hv
  split at hv
  · simp only [Bool.and_eq_true] at hv
    exact (validN_iff.1 hv.1.1).le
  · split at hv
    · simp only [Bool.and_eq_true, List.isEmpty_iff] at hv
      rw [hv.1]; simp
    · split at hv
      · simp only [Bool.and_eq_true, List.isEmpty_iff] at hv
        rw [hv.1]; simp
      · cases hv
theorem fmtH_len {h : HostV} (ok : HostOk h) : (fmtH h).length ≤ 300 := by
  cases hv : validH h with
  | false => rw [fmtH_bad hv]; simp
  | true =>
    have hn := validH_name hv
    have h6 := v6_len _ ok.v6.1 ok.v6.2
    have h4 := v4_len _ ok.v4
    unfold fmtH
    rw [if_pos hv]
    split
    · omega
    · split
      · omega
      · simp only [List.length_cons, List.length_append, List.length_nil]; omega
theorem eq_self (n : Int) : (n == n) = true := beq_self_eq_true n
theorem eqB_self (n : By) : (n == n) = true := beq_self_eq_true n
theorem host_mk {h0 h2 h3 h4 h5 h6 h7 h8 h9 h10 : Int} {h1 : By} (k2 : ltN h2 4294967296 = true) (k8 : ok8 h3 h4 h5 h6 h7 h8 h9 h10 = true) : HostOk (mkH h0 h1 h2 (n8 h3 h4 h5 h6 h7 h8 h9 h10)) := by
  have ⟨q1, q2⟩ := ltN_iff.1 k2
  refine ⟨by show h2.toNat < _; omega, n8_ok k8, ?_⟩
  show (if ltN h0 4 then h0.toNat else 0) < 4
  split
  · rename_i h
    have := ltN_iff.1 h
    omega
  · omega
theorem mk_kind {h0 : Int} {nm : By} {v : Int} {a : List Nat} (h : validH (mkH h0 nm v a) = true) : (((mkH h0 nm v a).kind : Nat) : Int) = h0 := by
  show (((if ltN h0 4 then h0.toNat else 0 : Nat)) : Int) = h0
  split
  · rename_i q
    have := ltN_iff.1 q
    omega
  · rename_i q
    exfalso
    have : (mkH h0 nm v a).kind = 0 := if_neg q
    unfold validH at h
    rw [this] at h
    simp at h
theorem lrt_true (h0 : Int) (h1 : By) (h2 h3 h4 h5 h6 h7 h8 h9 h10 : Int) (raw : By) (k2 : ltN h2 4294967296 = true) (k8 : ok8 h3 h4 h5 h6 h7 h8 h9 h10 = true) :
    Tru (evC (c_lrt LF) 1 Unit noY 10 [.agg ((hostPV h0 h1 h2 h3 h4 h5 h6 h7 h8 h9 h10).map .s), .s (.str raw)] [] ()) := by
  refine Eq.subst (motive := Tru) (lrt_ev (σ := Unit) LF noY () 0 h0 h1 h2 h3 h4 h5 h6 h7 h8 h9 h10 raw).symm ?_
  unfold lrt
  by_cases c1 : (400 : Int) < h1.length
  · rw [ltI_t c1]; exact ⟨_, rfl⟩
  rw [ltI_f (by omega), cond_false]
  by_cases c2 : (1100 : Int) < raw.length
  · rw [ltI_t c2]; exact ⟨_, rfl⟩
  rw [ltI_f (by omega), cond_false, small_t (by omega), cond_true]
  obtain ⟨ok, hv⟩ := parseH_ok raw
  have hok := host_mk (h0 := h0) (h1 := h1) k2 k8
  have hfl := fmtH_len hok
  have z0 : (((0 : Nat) : Int) == (0 : Int)) = true := rfl
  obtain ⟨b0, b1⟩ := ltN_iff.1 k2
  have q1 : (mkH h0 h1 h2 (n8 h3 h4 h5 h6 h7 h8 h9 h10)).name = h1 := rfl
  have q2 : (((mkH h0 h1 h2 (n8 h3 h4 h5 h6 h7 h8 h9 h10)).v4 : Nat) : Int) = h2 := Int.toNat_of_nonneg b0
  have rr : ∀ x ∈ [h3, h4, h5, h6, h7, h8, h9, h10], ((x.toNat : Nat) : Int) = x := fun x hx => by
    have := List.all_eq_true.1 k8 x hx
    exact Int.toNat_of_nonneg (ltN_iff.1 this).1
  have r0 : ((List.getD (mkH h0 h1 h2 (n8 h3 h4 h5 h6 h7 h8 h9 h10)).v6 0 0 : Nat) : Int) = h3 := rr h3 (by simp)
  have r1 : ((List.getD (mkH h0 h1 h2 (n8 h3 h4 h5 h6 h7 h8 h9 h10)).v6 1 0 : Nat) : Int) = h4 := rr h4 (by simp)
  have r2 : ((List.getD (mkH h0 h1 h2 (n8 h3 h4 h5 h6 h7 h8 h9 h10)).v6 2 0 : Nat) : Int) = h5 := rr h5 (by simp)
  have r3 : ((List.getD (mkH h0 h1 h2 (n8 h3 h4 h5 h6 h7 h8 h9 h10)).v6 3 0 : Nat) : Int) = h6 := rr h6 (by simp)
  have r4 : ((List.getD (mkH h0 h1 h2 (n8 h3 h4 h5 h6 h7 h8 h9 h10)).v6 4 0 : Nat) : Int) = h7 := rr h7 (by simp)
  have r5 : ((List.getD (mkH h0 h1 h2 (n8 h3 h4 h5 h6 h7 h8 h9 h10)).v6 5 0 : Nat) : Int) = h8 := rr h8 (by simp)
  have r6 : ((List.getD (mkH h0 h1 h2 (n8 h3 h4 h5 h6 h7 h8 h9 h10)).v6 6 0 : Nat) : Int) = h9 := rr h9 (by simp)
  have r7 : ((List.getD (mkH h0 h1 h2 (n8 h3 h4 h5 h6 h7 h8 h9 h10)).v6 7 0 : Nat) : Int) = h10 := rr h10 (by simp)
  have q0 := fun h => mk_kind (h0 := h0) (nm := h1) (v := h2) (a := n8 h3 h4 h5 h6 h7 h8 h9 h10) h
  generalize parseH raw = pr at ok hv ⊢
  obtain ⟨⟨kd, nm, v4, v6⟩, e⟩ := pr
  obtain ⟨a, b, c, d, f, g, i, j, rfl⟩ := eq8 ok.v6.1
  simp only [List.getD_cons_zero, List.getD_cons_succ]
  by_cases he : e = 0
  · subst he
    have hv1 := hv rfl
    have hn := validH_name hv1
    have hl1 := fmtH_len ok
    simp only at hn hv1 hl1
    have o8 := ok8_nat ok.v6.2
    have o4 : ltN (v4 : Int) 4294967296 = true := ltN_iff.2 ⟨by omega, by have := ok.v4; simp only at this; omega⟩
    have hk : kd < 4 := ok.kd
    simp only [vl]
    rw [z0, cond_true, small_t (by omega), cond_true, o4, cond_true, o8, cond_true, mkH_host hk, small_t (by omega), cond_true, host_round ok hv1]
    simp only [List.getD_cons_zero, List.getD_cons_succ, hv1, cond_true, Bool.not_true, cond_false, eq_self, eqB_self, Bool.and_true, bne, z0]
    have sm1 : small h1.length = true := small_t (by omega)
    simp only [sm1, k2, k8, cond_true]
    cases hv2 : validH (mkH h0 h1 h2 (n8 h3 h4 h5 h6 h7 h8 h9 h10)) with
    | false =>
      rw [fmtH_bad hv2]
      exact ⟨_, rfl⟩
    | true =>
      rw [host_round hok hv2, small_t (by omega)]
      simp only [Bool.not_true, cond_false, cond_true, q0 hv2, q1, q2, r0, r1, r2, r3, r4, r5, r6, r7, eq_self, eqB_self, Bool.and_true, z0]
      exact ⟨_, rfl⟩
  · simp only [vl]
    rw [show ((e : Int) == (0 : Int)) = false by simpa using he, cond_false]
    have sm1 : small h1.length = true := small_t (by omega)
    simp only [sm1, k2, k8, cond_true]
    cases hv2 : validH (mkH h0 h1 h2 (n8 h3 h4 h5 h6 h7 h8 h9 h10)) with
    | false =>
      rw [fmtH_bad hv2]
      exact ⟨_, rfl⟩
    | true =>
      rw [host_round hok hv2, small_t (by omega)]
      simp only [Bool.not_true, cond_false, cond_true, q0 hv2, q1, q2, r0, r1, r2, r3, r4, r5, r6, r7, eq_self, eqB_self, Bool.and_true, z0]
      exact ⟨_, rfl⟩
theorem awake_run : resTrue (evC (c_awake LF) 1 Unit noY 20 [] [] ()) = true := by kernel_rfl
end Go.Proofs.YtokehocipgepnaaGreatDoor.E
namespace Go.Proofs.YtokehocipgepnaaGreatDoor.E
open Go Go.Proofs Go.ChangeShapes Go.WideShapes Go.ChangeAt Go.RowKit
set_option linter.unusedVariables false
set_option linter.unusedSimpArgs false
set_option maxRecDepth 100000
theorem own : ownKnob Tryz.prog.godebug = none := by kernel_rfl
theorem laidOut : laidOutB Tryz.prog = true := by kernel_rfl
noncomputable def gTy (g : Nat) : Nat := match Tryz.prog.globals[g]? with | some x => x.type | none => 0
noncomputable def dbT : Nat := gTy 5
noncomputable def powT : Nat := gTy 3
noncomputable def accT : Nat := gTy 1
noncomputable def firT : Nat := gTy 0
noncomputable def accE : Nat := match Tryz.prog.underlying accT with | some (.array _ e) => e | _ => 0
noncomputable def accF : Array Field := match Tryz.prog.underlying accE with | some (.struct fs) => fs | _ => #[]
noncomputable def accF0 : Field := match accF.toList with | a :: _ => a | _ => default
noncomputable def accF1 : Field := match accF.toList with | _ :: a :: _ => a | _ => default
theorem accF_0 : accF[0]? = some accF0 := by unfold accF0 accF accE accT gTy; kernel_rfl
theorem accF_1 : accF[1]? = some accF1 := by unfold accF1 accF accE accT gTy; kernel_rfl
def laidH : List (String × DataW Unit) := [("math/bits.deBruijn32tab", Rows.laid_math_bits_deBruijn32tab), ("math/bits.deBruijn64tab", Rows.laid_math_bits_deBruijn64tab), ("internal/strconv.uint64pow10", Rows.laid_internal_strconv_uint64pow10), ("unicode/utf8.acceptRanges", Rows.laid_unicode_utf8_acceptRanges), ("unicode/utf8.first", Rows.laid_unicode_utf8_first)]
theorem var_cells {W : World} {n : String} {g : Nat} {cs : Array Value} (hg : Tryz.prog.globalNamed n = some g) (h : W.var? Tryz.prog n = some cs) : ∃ e x, W.heap[g]? = some (.cells cs e x) := by
  unfold World.var? at h
  rw [hg, Option.bind_some] at h
  split at h
  · rename_i c e x hh
    simp only [Option.some.injEq] at h
    subst h
    exact ⟨e, x, hh⟩
  · cases h
theorem tab_cells {W : World} {n : String} {g t e m : Nat} {k : IntKind} {zs : List Int} (hg : Tryz.prog.globalNamed n = some g) (hty : (Tryz.prog.globals[g]?).map (·.type) = some t) (ht : Tryz.prog.underlying t = some (.array m e)) (he : Tryz.prog.underlying e = some (.int k)) (hce : Tryz.prog.cellsOf e = 1) (hct : Tryz.prog.cellsOf t = m)
    (h : Lib.VarReads Tryz.prog W n (Lib.tabData k zs)) : ∃ e x, W.heap[g]? = some (.cells (zs.map fun z => Value.int k z).toArray e x) := by
  obtain ⟨g', t', cs, fuel, p, h1, h2, h3, h4⟩ := h
  obtain rfl := Option.some.inj (hg.symm.trans h1)
  obtain rfl := Option.some.inj (hty.symm.trans h2)
  have hcs := Lib.cells_of_tab ht he hce hct h4
  have : cs = (zs.map fun z => Value.int k z).toArray := by rw [← hcs]
  rw [this] at h3
  exact var_cells hg h3
theorem trod_array_len {H : Type} {enc : TypeId × Value → H} {P : Program} {w : World} {base : Nat} {sp : Nat → Bool} {held : Bool} {fuel : Nat} {t e : TypeId} {n : Nat} {cs : List Value} {d : DataW H} {p : List MemPlace} (ht : P.underlying t = some (.array n e))
    (h : DataW.trod enc P w base sp held fuel t cs = some (d, p)) : cs.length = P.cellsOf t := by
  cases fuel with
  | zero => simp [DataW.trod] at h
  | succ fuel =>
    simp only [DataW.trod, ht] at h
    split at h
    · rename_i hl
      simpa using hl
    · cases h
theorem acc_cells {W : World} (hg : Tryz.prog.globalNamed "unicode/utf8.acceptRanges" = some 1) (h : Lib.VarReads Tryz.prog W "unicode/utf8.acceptRanges" Lib.acceptData) :
    ∃ e x, W.heap[1]? = some (.cells (accTab.map fun z => Value.int .u8 z).toArray e x) := by
  obtain ⟨g', t, cs, fuel, p, h1, h2, h3, h4⟩ := h
  obtain rfl := Option.some.inj (hg.symm.trans h1)
  have hty : (Tryz.prog.globals[1]?).map (·.type) = some accT := by unfold accT; kernel_rfl
  obtain rfl := Option.some.inj (hty.symm.trans h2)
  have ht : Tryz.prog.underlying accT = some (.array 16 accE) := by unfold accT accE; kernel_rfl
  have hl := trod_array_len ht h4
  have hct : Tryz.prog.cellsOf accT = 32 := by unfold accT; kernel_rfl
  have hce : Tryz.prog.cellsOf accE = 2 := by unfold accE; kernel_rfl
  have hu : ∃ fs, Tryz.prog.underlying accE = some (.struct fs) ∧ fs.size = 2 ∧ ∀ (i : Nat) (f : Field), fs[i]? = some f → Tryz.prog.underlying f.type = some (.int .u8) ∧ f.offset = i ∧ Tryz.prog.cellsOf f.type = 1 := by
    refine ⟨accF, by unfold accE accF; kernel_rfl, by unfold accF; kernel_rfl, fun i f hf => ?_⟩
    have : i < 2 := by
      have := (Array.getElem?_eq_some_iff.1 hf).1
      rwa [show accF.size = 2 by unfold accF; kernel_rfl] at this
    match i, this with
    | 0, _ =>
      obtain rfl := Option.some.inj (hf.symm.trans (show accF[0]? = some accF0 from accF_0))
      exact ⟨by unfold accF0; kernel_rfl, by unfold accF0; kernel_rfl, by unfold accF0; kernel_rfl⟩
    | 1, _ =>
      obtain rfl := Option.some.inj (hf.symm.trans (show accF[1]? = some accF1 from accF_1))
      exact ⟨by unfold accF1; kernel_rfl, by unfold accF1; kernel_rfl, by unfold accF1; kernel_rfl⟩
  obtain ⟨fs, hu1, hu2, hu3⟩ := hu
  have hcs : cs.toList = accTab.map fun z => Value.int .u8 z := by
    have hlen : (accTab.map fun z => Value.int .u8 z).length = 32 := by rw [List.length_map]; rfl
    apply List.ext_getElem?
    intro q
    by_cases hq : q < 32
    · obtain ⟨fuel', d, q', hdi, he⟩ := Lib.array_elem ht h4 (q / 2) (by omega)
      simp only [List.getElem?_map, List.getElem?_range (show q / 2 < 16 by omega), Option.map_some, Option.some.injEq] at hdi
      subst hdi
      rw [hce] at he
      have hz := Lib.ints_of_struct hu1 hu3 (by rw [hce, hu2]) he
      have e0 := congrArg (·[q % 2]?) hz
      simp only [List.getElem?_take, List.getElem?_drop] at e0
      rw [if_pos (by omega), show q / 2 * 2 + q % 2 = q by omega] at e0
      rw [e0]
      unfold accTab
      have er : ∀ g : Nat → Value, (List.map g (List.range 32))[q]? = some (g q) := fun g => by
        rw [List.getElem?_map, List.getElem?_range hq]
        rfl
      rw [List.map_map, er]
      rcases Nat.mod_two_eq_zero_or_one q with h2 | h2
      · simp [h2]
      · simp [h2]
    · rw [List.getElem?_eq_none (by omega), List.getElem?_eq_none (by omega)]
  have : cs = (accTab.map fun z => Value.int .u8 z).toArray := by rw [← hcs]
  rw [this] at h3
  exact var_cells hg h3
theorem gx_of_laid {C : Cfg} (hC : C.G = GX) {W : World} (hL : laidMet Tryz.prog laidH W) (hsh : W.ShapedOpen Tryz.prog) : GOK C (· < W.heap.size) W := by
  have lt : ∀ {g : Nat} {o : Obj}, W.heap[g]? = some o → g < W.heap.size := fun h => (Array.getElem?_eq_some_iff.1 h).1
  have r1 : Lib.VarReads Tryz.prog W "math/bits.deBruijn64tab" (Lib.tabData .u8 (Lib.deBruijn64tab.map fun n : Nat => (n : Int))) := Lib.laidMet.reads hL (by rw [show (Lib.tabData .u8 (Lib.deBruijn64tab.map fun n : Nat => (n : Int)) : DataW Unit) = Rows.laid_math_bits_deBruijn64tab by kernel_rfl]; simp [laidH])
  have r2 : Lib.VarReads Tryz.prog W "internal/strconv.uint64pow10" (Lib.tabData .u64 Lib.pow10Tab) := Lib.laidMet.reads hL (by rw [show (Lib.tabData .u64 Lib.pow10Tab : DataW Unit) = Rows.laid_internal_strconv_uint64pow10 by kernel_rfl]; simp [laidH])
  have r3 : Lib.VarReads Tryz.prog W "unicode/utf8.acceptRanges" Lib.acceptData := Lib.laidMet.reads hL (by rw [show Lib.acceptData = Rows.laid_unicode_utf8_acceptRanges by kernel_rfl]; simp [laidH])
  have r4 : Lib.VarReads Tryz.prog W "unicode/utf8.first" (Lib.tabData .u8 Lib.firstTab) := Lib.laidMet.reads hL (by rw [show (Lib.tabData .u8 Lib.firstTab : DataW Unit) = Rows.laid_unicode_utf8_first by kernel_rfl]; simp [laidH])
  have c1 := tab_cells (g := 5) (t := dbT) (e := 5) (m := 64) (by kernel_rfl) (by unfold dbT; kernel_rfl) (by unfold dbT; kernel_rfl) (by kernel_rfl) (by kernel_rfl) (by unfold dbT; kernel_rfl) r1
  have c2 := tab_cells (g := 3) (t := powT) (e := 174) (m := 20) (by kernel_rfl) (by unfold powT; kernel_rfl) (by unfold powT; kernel_rfl) (by kernel_rfl) (by kernel_rfl) (by unfold powT; kernel_rfl) r2
  have c3 := acc_cells (by kernel_rfl) r3
  have c4 := tab_cells (g := 0) (t := firT) (e := 5) (m := 256) (by kernel_rfl) (by unfold firT; kernel_rfl) (by unfold firT; kernel_rfl) (by kernel_rfl) (by kernel_rfl) (by unfold firT; kernel_rfl) r4
  have c5 := cell_of_shapedOpen_int (k := .i64) (g := 2) (t := 3) (zero := #[.int .i64 0]) hsh (of_decide_eq_true (by kernel_rfl)) (by kernel_rfl) rfl (by kernel_rfl) (by kernel_rfl) (by kernel_rfl)
  refine ⟨fun g k zs h => ?_, fun g h => ?_⟩
  · rw [hC] at h
    simp only [GX] at h
    have key : ∀ {g0 : Nat} {k0 : IntKind} {zs0 : List Int}, (∃ e x, W.heap[g0]? = some (.cells (zs0.map fun z => Value.int k0 z).toArray e x)) → g = g0 → (k0, zs0) = (k, zs) → g < W.heap.size ∧ ∃ e x, W.heap[g]? = some (.cells (zs.map fun z => Value.int k z).toArray e x) := fun hx e1 e2 => by
      subst e1
      cases e2
      obtain ⟨e, x, hx⟩ := hx
      exact ⟨lt hx, e, x, hx⟩
    cases b1 : Nat.beq g 0 with
    | true => rw [b1, cond_true] at h; exact key c4 (Nat.eq_of_beq_eq_true b1) (Option.some.inj h)
    | false =>
      rw [b1, cond_false] at h
      cases b2 : Nat.beq g 1 with
      | true => rw [b2, cond_true] at h; exact key c3 (Nat.eq_of_beq_eq_true b2) (Option.some.inj h)
      | false =>
        rw [b2, cond_false] at h
        cases b3 : Nat.beq g 3 with
        | true => rw [b3, cond_true] at h; exact key c2 (Nat.eq_of_beq_eq_true b3) (Option.some.inj h)
        | false =>
          rw [b3, cond_false] at h
          cases b4 : Nat.beq g 5 with
          | true => rw [b4, cond_true] at h; exact key c1 (Nat.eq_of_beq_eq_true b4) (Option.some.inj h)
          | false => rw [b4, cond_false] at h; cases h
  · rw [hC] at h
    have e := Nat.eq_of_beq_eq_true h
    subst e
    obtain ⟨m, hm⟩ := c5
    refine ⟨?_, m, hm⟩
    apply Classical.byContradiction
    intro hge
    simp [World.cell?, Array.getElem?_eq_none (Nat.le_of_not_lt hge)] at hm
theorem laidWorld_shaped (os : Os) (args : Array Value) : ((World.laidAll Tryz.prog os laidH).forCall (fun _ _ => 0) ⟨#[], args, []⟩).Shaped Tryz.prog :=
  World.shaped_of_ZipB (by kernel_rfl) (by kernel_rfl)
theorem laidWorld_met (os : Os) (args : Array Value) : laidMetH Tryz.prog laidH ((World.laidAll Tryz.prog os laidH).forCall (fun _ _ => 0) ⟨#[], args, []⟩).memory := by
  rw [MakeChecks.laidMetH_plain _ _ _ (by kernel_rfl)]
  exact laidMet_laidAll _ (by kernel_rfl) (by kernel_rfl)
theorem law_handed {H : Type} {enc : TypeId × Value → H} {os : Os} (started : os.Started) {C : Cfg} (hCP : C.P = Tryz.prog) (hCG : C.G = GX) (hX : XOK C) (hO : OkFns C) {f tb : Nat} {fn : Func} {c : Code} {s : ChangeSpec} {conds : List PathCond} {apart fresh handsOn again : Bool} (noInit : Tryz.prog.inits.idxOf? f = none) (hfn : Tryz.prog.funcs[f]? = some fn) (hb : fn.body = some c) (hname : (fn.name == "runtime.NumGoroutine") = false)
    (hp : ∀ t ∈ fn.params.toList, (Tryz.prog.readableRec t = true ∧ t < Tryz.prog.types.size) ∧ (tysOf Tryz.prog 20 t).isSome = true) (hres : fn.resultTypes = #[tb]) (hbool : Tryz.prog.underlying tb = some .bool) (hvars : s.vars = [])
    (hspec : ∀ ds : List (DataW H), ds.length = fn.params.toList.length → s.fn H ds = { results := [.lit (.bool true)], args := ds })
    (wit : Array Value) (fuel : Nat) (hok : Input.okWideB Tryz.prog ((World.laidAll Tryz.prog os laidH).forCall (fun _ _ => 0) ⟨#[], wit, []⟩) f ⟨#[], wit, []⟩ = true)
    (hpre : s.preB enc Tryz.prog fn conds apart ((World.laidAll Tryz.prog os laidH).forCall (fun _ _ => 0) ⟨#[], wit, []⟩).memory wit fuel = true)
    (hsz : s.sizedB enc Tryz.prog fn apart ((World.laidAll Tryz.prog os laidH).forCall (fun _ _ => 0) ⟨#[], wit, []⟩).memory wit fuel = true)
    (hev : ∀ args, ArgsOf Tryz.prog fn.params.toList args → ∃ d Hc, evC C d Unit noY f args [] () = some (.s (.bool true), Hc, ())) :
    ReturnsInHanded {} Tryz.checked os f .any (fun w args => (s.pre enc Tryz.prog fn conds apart w args ∧ laidMetH Tryz.prog laidH w) ∧ sizedMet enc Tryz.prog fn (OpenSpec.ofChange s) apart w args) (s.post enc Tryz.prog fn apart fresh handsOn again) := by
  obtain ⟨P, G, X, lend, okf, lf, keep, keepR, xp, keepE, keepT, Y, S, nt⟩ := C
  simp only at hCP hCG
  subst hCP
  refine returnsInHanded_of_calls (C := Tryz.checked) own started noInit
    (ChangeSpec.witness_shaped (enc := enc) (C := Tryz.checked) (os := os) (X := fun w _ => laidMetH Tryz.prog laidH w) false (World.laidAll Tryz.prog os laidH) wit fuel (World.laidAll_os _ _ _) (laidWorld_shaped os wit) hok hpre hsz (laidWorld_met os wit)) ?_
  intro w tape i _ hsh _ hok hpre hholds
  obtain ⟨_, _, _, fn', hfn', _, _, _, _, hval⟩ := hok
  have e : fn' = fn := Option.some.inj (hfn'.symm.trans hfn)
  subst e
  obtain ⟨⟨⟨ds, gs, before, hw, hc⟩, hx⟩, hz⟩ := hpre
  have hw' := DataW.Whole.of_heap (w' := w.forCall tape i) (by rfl) hw
  have hL : laidMet Tryz.prog laidH (w.forCall tape i) := by
    rw [MakeChecks.laidMetH_plain _ _ _ (by kernel_rfl)] at hx
    exact laidMet.of_heap (w' := w.forCall tape i) (by rfl) hx
  refine (contract (apart := apart) (fresh := fresh) (handsOn := handsOn) (again := again) hX hO follows laidOut hfn hb hname hp hres hbool hvars hspec hev (w.forCall tape i) (gx_of_laid hCG hL hsh) w.heap.size i.args ds gs before hval hw').mono fun e W' ⟨v, he, hp⟩ => ?_
  subst he
  exact ChangeSpec.post_blind hp
end Go.Proofs.YtokehocipgepnaaGreatDoor.E
namespace Go.Proofs.YtokehocipgepnaaGreatDoor.E
open Go Go.Proofs
set_option linter.unusedVariables false
set_option maxRecDepth 100000
section
theorem x_explode : XFact Tryz.prog GX 137 X_explode := fun args ret Hc h => by
  have : trRes (X_explode args) = none := by unfold X_explode X_explode0; split <;> rfl
  rw [this] at h; cases h
theorem x_lpre : XFact Tryz.prog GX 86 X_lpre := by
  refine XFact.fix (pf := X_lpre0) _ (xfact_of_stab [] (C₀ := c_lpre LF) (XFacts.ok (l := []) rfl trivial) (okFns_of rfl (by kernel_rfl)) follows ?_)
  intro args ret Hc h
  unfold X_lpre0 at h
  split at h
  · rename_i s p
    obtain ⟨h0, h⟩ := tr_need h
    obtain ⟨rfl, rfl⟩ := tr_ret h
    have e := (lpre_ev LF noY () 0 s p).trans (lpre_spec s p h0)
    exact ⟨rfl, rfl, rfl, 1, _, _, e, rfl⟩
  · cases h
theorem x_hpre : XFact Tryz.prog GX 44 X_hpre := by
  refine XFact.fix (pf := X_hpre0) _ (xfact_of_stab [] (C₀ := c_hpre LF) (XFacts.ok (l := [(86, X_lpre)]) rfl ⟨x_lpre, trivial⟩) (okFns_of rfl (by kernel_rfl)) follows ?_)
  intro args ret Hc h
  unfold X_hpre0 at h
  split at h
  · rename_i s p
    obtain ⟨h0, h⟩ := tr_need h
    obtain ⟨rfl, rfl⟩ := tr_ret h
    have e := (hpre_ev LF noY () 0 s p).trans (hpre_spec s p h0)
    exact ⟨rfl, rfl, rfl, 1, _, _, e, rfl⟩
  · cases h
theorem x_lsuf : XFact Tryz.prog GX 117 X_lsuf := by
  refine XFact.fix (pf := X_lsuf0) _ (xfact_of_stab [] (C₀ := c_lsuf LF) (XFacts.ok (l := []) rfl trivial) (okFns_of rfl (by kernel_rfl)) follows ?_)
  intro args ret Hc h
  unfold X_lsuf0 at h
  split at h
  · rename_i s p
    obtain ⟨h0, h⟩ := tr_need h
    obtain ⟨rfl, rfl⟩ := tr_ret h
    have e := (lsuf_ev LF noY () 0 s p).trans (lsuf_spec s p h0)
    exact ⟨rfl, rfl, rfl, 1, _, _, e, rfl⟩
  · cases h
theorem x_hsuf : XFact Tryz.prog GX 63 X_hsuf := by
  refine XFact.fix (pf := X_hsuf0) _ (xfact_of_stab [] (C₀ := c_hsuf LF) (XFacts.ok (l := [(117, X_lsuf)]) rfl ⟨x_lsuf, trivial⟩) (okFns_of rfl (by kernel_rfl)) follows ?_)
  intro args ret Hc h
  unfold X_hsuf0 at h
  split at h
  · rename_i s p
    obtain ⟨h0, h⟩ := tr_need h
    obtain ⟨rfl, rfl⟩ := tr_ret h
    have e := (hsuf_ev LF noY () 0 s p).trans (hsuf_spec s p h0)
    exact ⟨rfl, rfl, rfl, 1, _, _, e, rfl⟩
  · cases h
theorem x_ltsuf : XFact Tryz.prog GX 89 X_ltsuf := by
  refine XFact.fix (pf := X_ltsuf0) _ (xfact_of_stab [] (C₀ := c_ltsuf LF) (XFacts.ok (l := [(117, X_lsuf)]) rfl ⟨x_lsuf, trivial⟩) (okFns_of rfl (by kernel_rfl)) follows ?_)
  intro args ret Hc h
  unfold X_ltsuf0 at h
  split at h
  · rename_i s p
    obtain ⟨h0, h⟩ := tr_need h
    obtain ⟨rfl, rfl⟩ := tr_ret h
    have e := (ltsuf_ev LF noY () 0 s p).trans (ltsuf_spec s p h0)
    exact ⟨rfl, rfl, rfl, 1, _, _, e, rfl⟩
  · cases h
theorem x_tsufc : XFact Tryz.prog GX 47 X_tsufc := by
  refine XFact.fix (pf := X_tsufc0) _ (xfact_of_stab [] (C₀ := c_tsufc LF) (XFacts.ok (l := [(89, X_ltsuf)]) rfl ⟨x_ltsuf, trivial⟩) (okFns_of rfl (by kernel_rfl)) follows ?_)
  intro args ret Hc h
  unfold X_tsufc0 at h
  split at h
  · rename_i s p
    obtain ⟨h0, h⟩ := tr_need h
    obtain ⟨rfl, rfl⟩ := tr_ret h
    have e := (tsufc_ev LF noY () 0 s p).trans (tsufc_spec s p h0)
    exact ⟨rfl, rfl, rfl, 1, _, _, e, rfl⟩
  · cases h
theorem x_lcpre : XFact Tryz.prog GX 154 X_lcpre := by
  refine XFact.fix (pf := X_lcpre0) _ (xfact_of_stab [0, 0] (C₀ := c_lcpre LF) (XFacts.ok (l := [(86, X_lpre)]) rfl ⟨x_lpre, trivial⟩) (okFns_of rfl (by kernel_rfl)) follows ?_)
  intro args ret Hc h
  unfold X_lcpre0 at h
  split at h
  · rename_i s p
    obtain ⟨h0, h⟩ := tr_need h
    obtain ⟨rfl, rfl⟩ := tr_ret h
    have e := (lcpre_ev LF noY () 0 s p).trans (lcpre_spec s p h0)
    exact ⟨rfl, rfl, rfl, 1, _, _, e, rfl⟩
  · cases h
theorem x_cpre : XFact Tryz.prog GX 113 X_cpre := by
  refine XFact.fix (pf := X_cpre0) _ (xfact_of_stab [0, 0] (C₀ := c_cpre LF) (XFacts.ok (l := [(154, X_lcpre)]) rfl ⟨x_lcpre, trivial⟩) (okFns_of rfl (by kernel_rfl)) follows ?_)
  intro args ret Hc h
  unfold X_cpre0 at h
  split at h
  · rename_i s p
    obtain ⟨h0, h⟩ := tr_need h
    obtain ⟨rfl, rfl⟩ := tr_ret h
    have e := (cpre_ev LF noY () 0 s p).trans (cpre_spec s p h0)
    exact ⟨rfl, rfl, rfl, 1, _, _, e, rfl⟩
  · cases h
theorem x_gsplit : XFact Tryz.prog GX 94 X_gsplit := by
  refine XFact.fix (pf := X_gsplit0) _ (xfact_of_stab [1] (C₀ := c_gsplit LF) (XFacts.ok (l := [(137, X_explode), (62, X_scnt), (116, X_sidx)]) rfl ⟨x_explode, x_scnt, x_sidx, trivial⟩) (okFns_of rfl (by kernel_rfl)) follows ?_)
  intro args ret Hc h
  unfold X_gsplit0 at h
  split at h
  · rename_i s p v n
    obtain ⟨h0, h⟩ := tr_need h
    obtain ⟨h1, h⟩ := tr_need h
    obtain ⟨h2, h⟩ := tr_need h
    obtain ⟨h3, h⟩ := tr_need h
    obtain ⟨rfl, rfl⟩ := tr_ret h
    obtain ⟨r, H, e, hs⟩ := gsplit_spec s p v n h0 h1 h2 h3
    exact ⟨rfl, rfl, rfl, 1, r, H, (gsplit_ev LF noY () 0 s p v n).trans e, hs⟩
  · cases h
theorem x_ssplit : XFact Tryz.prog GX 50 X_ssplit := by
  refine XFact.fix (pf := X_ssplit0) _ (xfact_of_stab [1] (C₀ := c_ssplit LF) (XFacts.ok (l := [(94, X_gsplit)]) rfl ⟨x_gsplit, trivial⟩) (okFns_of rfl (by kernel_rfl)) follows ?_)
  intro args ret Hc h
  unfold X_ssplit0 at h
  split at h
  · rename_i s p
    obtain ⟨h0, h⟩ := tr_need h
    obtain ⟨h1, h⟩ := tr_need h
    obtain ⟨rfl, rfl⟩ := tr_ret h
    have e := (ssplit_ev LF noY () 0 s p).trans (ssplit_spec s p h0 h1)
    exact ⟨rfl, rfl, rfl, 1, _, _, e, rfl⟩
  · cases h
theorem x_lowc : XFact Tryz.prog GX 97 X_lowc := by
  refine XFact.fix (pf := X_lowc0) _ (xfact_of_stab [] (C₀ := c_lowc LF) (XFacts.ok (l := []) rfl trivial) (okFns_of rfl (by kernel_rfl)) follows ?_)
  intro args ret Hc h
  unfold X_lowc0 at h
  split at h
  · rename_i s
    obtain ⟨h0, h⟩ := tr_need h
    obtain ⟨rfl, rfl⟩ := tr_ret h
    have e := (lowc_ev LF noY () 0 s).trans (lowc_spec s h0)
    exact ⟨rfl, rfl, rfl, 1, _, _, e, rfl⟩
  · cases h
theorem x_hexc : XFact Tryz.prog GX 91 X_hexc := by
  refine XFact.fix (pf := X_hexc0) _ (xfact_of_stab [] (C₀ := c_hexc LF) (XFacts.ok (l := [(44, X_hpre)]) rfl ⟨x_hpre, trivial⟩) (okFns_of rfl (by kernel_rfl)) follows ?_)
  intro args ret Hc h
  unfold X_hexc0 at h
  split at h
  · rename_i s
    obtain ⟨h0, h⟩ := tr_need h
    obtain ⟨rfl, rfl⟩ := tr_ret h
    have e := (hexc_ev LF noY () 0 s).trans (hexc_spec s h0)
    exact ⟨rfl, rfl, rfl, 1, _, _, e, rfl⟩
  · cases h
theorem x_digs : XFact Tryz.prog GX 93 X_digs := by
  refine XFact.fix (pf := X_digs0) _ (xfact_of_stab [0, 0] (C₀ := c_digs LF) (XFacts.ok (l := []) rfl trivial) (okFns_of rfl (by kernel_rfl)) follows ?_)
  intro args ret Hc h
  unfold X_digs0 at h
  split at h
  · rename_i s base
    obtain ⟨h0, h⟩ := tr_need h
    obtain ⟨h1, h⟩ := tr_need h
    obtain ⟨rfl, rfl⟩ := tr_ret h
    have e := (digs_ev LF noY () 0 s base).trans (digs_spec s base h0 h1)
    exact ⟨rfl, rfl, rfl, 1, _, _, e, rfl⟩
  · cases h
theorem x_num : XFact Tryz.prog GX 92 X_num := by
  refine XFact.fix (pf := X_num0) _ (xfact_of_stab [0, 0] (C₀ := c_num LF) (XFacts.ok (l := [(91, X_hexc), (93, X_digs)]) rfl ⟨x_hexc, x_digs, trivial⟩) (okFns_of rfl (by kernel_rfl)) follows ?_)
  intro args ret Hc h
  unfold X_num0 at h
  split at h
  · rename_i s
    obtain ⟨h0, h⟩ := tr_need h
    obtain ⟨rfl, rfl⟩ := tr_ret h
    have e := (num_ev LF noY () 0 s).trans (num_spec s h0)
    exact ⟨rfl, rfl, rfl, 1, _, _, e, rfl⟩
  · cases h
theorem x_parts : XFact Tryz.prog GX 90 X_parts := by
  refine XFact.fix (pf := X_parts0) _ (xfact_of_stab [1] (C₀ := c_parts LF) (XFacts.ok (l := [(50, X_ssplit)]) rfl ⟨x_ssplit, trivial⟩) (okFns_of rfl (by kernel_rfl)) follows ?_)
  intro args ret Hc h
  unfold X_parts0 at h
  split at h
  · rename_i s
    obtain ⟨h0, h⟩ := tr_need h
    obtain ⟨rfl, rfl⟩ := tr_ret h
    have e := (parts_ev LF noY () 0 s).trans (parts_spec s h0)
    exact ⟨rfl, rfl, rfl, 1, _, _, e, rfl⟩
  · cases h
theorem x_numeric : XFact Tryz.prog GX 48 X_numeric := by
  refine XFact.fix (pf := X_numeric0) _ (xfact_of_stab [] (C₀ := c_numeric LF) (XFacts.ok (l := [(90, X_parts), (91, X_hexc), (92, X_num), (93, X_digs)]) rfl ⟨x_parts, x_hexc, x_num, x_digs, trivial⟩) (okFns_of rfl (by kernel_rfl)) follows ?_)
  intro args ret Hc h
  unfold X_numeric0 at h
  split at h
  · rename_i s
    obtain ⟨h0, h⟩ := tr_need h
    obtain ⟨rfl, rfl⟩ := tr_ret h
    have e := (numeric_ev LF noY () 0 s).trans (numeric_spec s h0)
    exact ⟨rfl, rfl, rfl, 1, _, _, e, rfl⟩
  · cases h
theorem x_pnum : XFact Tryz.prog GX 49 X_pnum := by
  refine XFact.fix (pf := X_pnum0) _ (xfact_of_stab [0, 0] (C₀ := c_pnum LF) (XFacts.ok (l := [(90, X_parts), (92, X_num)]) rfl ⟨x_parts, x_num, trivial⟩) (okFns_of rfl (by kernel_rfl)) follows ?_)
  intro args ret Hc h
  unfold X_pnum0 at h
  split at h
  · rename_i s
    obtain ⟨h0, h⟩ := tr_need h
    obtain ⟨rfl, rfl⟩ := tr_ret h
    have e := (pnum_ev LF noY () 0 s).trans (pnum_spec s h0)
    exact ⟨rfl, rfl, rfl, 1, _, _, e, rfl⟩
  · cases h
theorem x_v4p : XFact Tryz.prog GX 174 X_v4p := by
  refine XFact.fix (pf := X_v4p0) _ (xfact_of_stab [0, 0] (C₀ := c_v4p LF) (XFacts.ok (l := [(50, X_ssplit), (93, X_digs), (122, X_itoa)]) rfl ⟨x_ssplit, x_digs, x_itoa, trivial⟩) (okFns_of rfl (by kernel_rfl)) follows ?_)
  intro args ret Hc h
  unfold X_v4p0 at h
  split at h
  · rename_i s
    obtain ⟨h0, h⟩ := tr_need h
    obtain ⟨rfl, rfl⟩ := tr_ret h
    have e := (v4p_ev LF noY () 0 s).trans (v4p_spec s h0)
    exact ⟨rfl, rfl, rfl, 1, _, _, e, rfl⟩
  · cases h
theorem x_v4f : XFact Tryz.prog GX 69 X_v4f := by
  refine XFact.fix (pf := X_v4f0) _ (xfact_of_stab [] (C₀ := c_v4f LF) (XFacts.ok (l := [(122, X_itoa)]) rfl ⟨x_itoa, trivial⟩) (okFns_of rfl (by kernel_rfl)) follows ?_)
  intro args ret Hc h
  unfold X_v4f0 at h
  split at h
  · rename_i v
    obtain ⟨h0, h⟩ := tr_need h
    obtain ⟨rfl, rfl⟩ := tr_ret h
    have e := (v4f_ev LF noY () 0 v).trans (v4f_spec v h0)
    exact ⟨rfl, rfl, rfl, 1, _, _, e, rfl⟩
  · cases h
theorem x_gsplitM : XFact Tryz.prog GX 94 X_gsplitM := by
  refine XFact.fix (pf := X_gsplitM0) _ (xfact_of_run (C₀ := c_gsplit LF) (XFacts.ok (l := [(137, X_explode), (62, X_scnt), (116, X_sidx)]) rfl ⟨x_explode, x_scnt, x_sidx, trivial⟩) (okFns_of rfl (by kernel_rfl)) follows ?_)
  intro args ret Hc h
  unfold X_gsplitM0 at h
  split at h
  · rename_i s p v n
    obtain ⟨h0, h⟩ := tr_need h
    obtain ⟨h1, h⟩ := tr_need h
    obtain ⟨h2, h⟩ := tr_need h
    obtain ⟨h3, h⟩ := tr_need h
    obtain ⟨rfl, rfl⟩ := tr_ret h
    have e := (gsplit_ev LF noY () 0 s p v n).trans (gsplit_run s p v n h0 h1 h2 h3)
    exact ⟨rfl, 1, _, [], e, rfl, rfl⟩
  · cases h
theorem x_ssplitM : XFact Tryz.prog GX 50 X_ssplitM := by
  refine XFact.fix (pf := X_ssplitM0) _ (xfact_of_run (C₀ := c_ssplitM LF) (XFacts.ok (l := [(94, X_gsplitM)]) rfl ⟨x_gsplitM, trivial⟩) (okFns_of rfl (by kernel_rfl)) follows ?_)
  intro args ret Hc h
  unfold X_ssplitM0 at h
  split at h
  · rename_i s p
    obtain ⟨h0, h⟩ := tr_need h
    obtain ⟨h1, h⟩ := tr_need h
    obtain ⟨rfl, rfl⟩ := tr_ret h
    have e := (ssplitM_ev LF noY () 0 s p).trans (ssplitM_spec s p h0 h1)
    exact ⟨rfl, 1, _, [], e, rfl, rfl⟩
  · cases h
end
end Go.Proofs.YtokehocipgepnaaGreatDoor.E
namespace Go.Proofs.YtokehocipgepnaaGreatDoor.E
open Go Go.Proofs
set_option linter.unusedVariables false
set_option maxRecDepth 100000
section
theorem x_grpc : XFact Tryz.prog GX 173 X_grpc := by
  refine XFact.fix (pf := X_grpc0) _ (xfact_of_stab [0, 0] (C₀ := c_grpc LF) (XFacts.ok (l := []) rfl trivial) (okFns_of rfl (by kernel_rfl)) follows ?_)
  intro args ret Hc h
  unfold X_grpc0 at h
  split at h
  · rename_i s
    obtain ⟨h0, h⟩ := tr_need h
    obtain ⟨rfl, rfl⟩ := tr_ret h
    have e := (grpc_ev LF noY () 0 s).trans (grpc_spec s h0)
    exact ⟨rfl, rfl, rfl, 1, _, _, e, rfl⟩
  · cases h
theorem x_grpsc : XFact Tryz.prog GX 136 X_grpsc := by
  refine XFact.fix (pf := X_grpsc0) _ (xfact_of_stab [1, 0] (C₀ := c_grpsc LF) (XFacts.ok (l := [(50, X_ssplit), (173, X_grpc), (174, X_v4p)]) rfl ⟨x_ssplit, x_grpc, x_v4p, trivial⟩) (okFns_of rfl (by kernel_rfl)) follows ?_)
  intro args ret Hc h
  unfold X_grpsc0 at h
  split at h
  · rename_i s last
    obtain ⟨h0, h⟩ := tr_need h
    obtain ⟨rfl, rfl⟩ := tr_ret h
    obtain ⟨r, H, e, hs⟩ := grpsc_spec s last h0
    exact ⟨rfl, rfl, rfl, 1, r, H, (grpsc_ev LF noY () 0 s last).trans e, hs⟩
  · cases h
theorem x_v6p : XFact Tryz.prog GX 87 X_v6p := by
  refine XFact.fix (pf := X_v6p0) _ (xfact_of_stab [0, 0] (C₀ := c_v6p LF) (XFacts.ok (l := [(84, X_scut), (136, X_grpsc)]) rfl ⟨x_scut, x_grpsc, trivial⟩) (okFns_of rfl (by kernel_rfl)) follows ?_)
  intro args ret Hc h
  unfold X_v6p0 at h
  split at h
  · rename_i s
    obtain ⟨h0, h⟩ := tr_need h
    obtain ⟨rfl, rfl⟩ := tr_ret h
    obtain ⟨r, H, e, hs⟩ := v6p_sp s h0
    exact ⟨rfl, rfl, rfl, 1, r, H, (v6p_ev LF noY () 0 s).trans e, hs⟩
  · cases h
theorem x_zeros : XFact Tryz.prog GX 123 X_zeros := by
  refine XFact.fix (pf := X_zeros0) _ (xfact_of_stab [0, 0] (C₀ := c_zeros LF) (XFacts.ok (l := []) rfl trivial) (okFns_of rfl (by kernel_rfl)) follows ?_)
  intro args ret Hc h
  unfold X_zeros0 at h
  split at h
  · rename_i a0 a1 a2 a3 a4 a5 a6 a7
    obtain ⟨h0, h⟩ := tr_need h
    obtain ⟨rfl, rfl⟩ := tr_ret h
    have e := (zeros_ev LF noY () 0 a0 a1 a2 a3 a4 a5 a6 a7).trans (zeros_spec a0 a1 a2 a3 a4 a5 a6 a7 h0)
    exact ⟨rfl, rfl, rfl, 1, _, _, e, rfl⟩
  · cases h
theorem x_v6j : XFact Tryz.prog GX 124 X_v6j := by
  refine XFact.fix (pf := X_v6j0) _ (xfact_of_stab [] (C₀ := c_v6j LF) (XFacts.ok (l := [(159, X_fmtu), (52, X_sjoin)]) rfl ⟨x_fmtu, x_sjoin, trivial⟩) (okFns_of rfl (by kernel_rfl)) follows ?_)
  intro args ret Hc h
  unfold X_v6j0 at h
  split at h
  · rename_i l_z l_t l
    obtain ⟨h0, h⟩ := tr_need h
    obtain ⟨h1, h⟩ := tr_need h
    obtain ⟨rfl, rfl⟩ := tr_ret h
    obtain ⟨r, H, e, hs⟩ := v6j_sp l_z l_t l h0 h1
    exact ⟨rfl, rfl, rfl, 1, r, H, (v6j_ev LF noY () 0 l_z l_t l).trans e, hs⟩
  · cases h
theorem x_v6f : XFact Tryz.prog GX 70 X_v6f := by
  refine XFact.fix (pf := X_v6f0) _ (xfact_of_stab [] (C₀ := c_v6f LF) (XFacts.ok (l := [(123, X_zeros), (124, X_v6j)]) rfl ⟨x_zeros, x_v6j, trivial⟩) (okFns_of rfl (by kernel_rfl)) follows ?_)
  intro args ret Hc h
  unfold X_v6f0 at h
  split at h
  · rename_i a0 a1 a2 a3 a4 a5 a6 a7
    obtain ⟨h0, h⟩ := tr_need h
    obtain ⟨rfl, rfl⟩ := tr_ret h
    obtain ⟨r, H, e, hs⟩ := v6f_sp a0 a1 a2 a3 a4 a5 a6 a7 h0
    exact ⟨rfl, rfl, rfl, 1, r, H, (v6f_ev LF noY () 0 a0 a1 a2 a3 a4 a5 a6 a7).trans e, hs⟩
  · cases h
theorem x_ppoint : XFact Tryz.prog GX 139 X_ppoint := by
  refine XFact.fix (pf := X_ppoint0) _ (xfact_of_stab [] (C₀ := c_ppoint LF) (XFacts.ok (l := []) rfl trivial) (okFns_of rfl (by kernel_rfl)) follows ?_)
  intro args ret Hc h
  unfold X_ppoint0 at h
  split at h
  · rename_i n
    obtain ⟨rfl, rfl⟩ := tr_ret h
    have e := (ppoint_ev LF noY () 0 n).trans (ppoint_spec n )
    exact ⟨rfl, rfl, rfl, 1, _, _, e, rfl⟩
  · cases h
theorem x_padapt : XFact Tryz.prog GX 141 X_padapt := by
  refine XFact.fix (pf := X_padapt0) _ (xfact_of_stab [] (C₀ := c_padapt LF) (XFacts.ok (l := []) rfl trivial) (okFns_of rfl (by kernel_rfl)) follows ?_)
  intro args ret Hc h
  unfold X_padapt0 at h
  split at h
  · rename_i d c f
    obtain ⟨h0, h⟩ := tr_need h
    obtain ⟨h1, h⟩ := tr_need h
    obtain ⟨h2, h⟩ := tr_need h
    obtain ⟨rfl, rfl⟩ := tr_ret h
    have e := (padapt_ev LF noY () 0 d c f).trans (padapt_spec d c f h0 h1 h2)
    exact ⟨rfl, rfl, rfl, 1, _, _, e, rfl⟩
  · cases h
theorem x_pdig : XFact Tryz.prog GX 176 X_pdig := by
  refine XFact.fix (pf := X_pdig0) _ (xfact_of_stab [] (C₀ := c_pdig LF) (XFacts.ok (l := []) rfl trivial) (okFns_of rfl (by kernel_rfl)) follows ?_)
  intro args ret Hc h
  unfold X_pdig0 at h
  split at h
  · rename_i d
    obtain ⟨h0, h⟩ := tr_need h
    obtain ⟨rfl, rfl⟩ := tr_ret h
    have e := (pdig_ev LF noY () 0 d).trans (pdig_spec d h0)
    exact ⟨rfl, rfl, rfl, 1, _, _, e, rfl⟩
  · cases h
theorem x_pval : XFact Tryz.prog GX 205 X_pval := by
  refine XFact.fix (pf := X_pval0) _ (xfact_of_stab [] (C₀ := c_pval LF) (XFacts.ok (l := []) rfl trivial) (okFns_of rfl (by kernel_rfl)) follows ?_)
  intro args ret Hc h
  unfold X_pval0 at h
  split at h
  · rename_i b
    obtain ⟨h0, h⟩ := tr_need h
    obtain ⟨rfl, rfl⟩ := tr_ret h
    have e := (pval_ev LF noY () 0 b).trans (pval_spec b h0)
    exact ⟨rfl, rfl, rfl, 1, _, _, e, rfl⟩
  · cases h
end
end Go.Proofs.YtokehocipgepnaaGreatDoor.E
namespace Go.Proofs.YtokehocipgepnaaGreatDoor.E
open Go Go.Proofs
set_option linter.unusedVariables false
set_option maxRecDepth 100000
section
theorem x_pthr : XFact Tryz.prog GX 175 X_pthr := by
  refine XFact.fix (pf := X_pthr0) _ (xfact_of_run (C₀ := c_pthr LF) (XFacts.ok (l := []) rfl trivial) (okFns_of rfl (by kernel_rfl)) follows ?_)
  intro args ret Hc h
  unfold X_pthr0 at h
  split at h
  · rename_i b
    obtain ⟨rfl, rfl⟩ := tr_ret h
    have e := (pthr_ev LF noY () 0 b).trans (pthr_spec b )
    exact ⟨rfl, 1, _, [], e, rfl, rfl⟩
  · cases h
theorem y_pnext : YFact Tryz.prog GX 195 X_pnext := by
  refine yfact_of_run (C₀ := c_pnext LF) (XFacts.ok (l := []) rfl trivial) (okFns_of rfl (by kernel_rfl)) follows ?_
  intro args H ret Hc h
  unfold X_pnext at h
  split at h
  · rename_i k b
    obtain ⟨h0, h⟩ := tr_need h
    obtain ⟨h1, h⟩ := tr_need h
    obtain ⟨rfl, rfl⟩ := tr_ret h
    refine ⟨rfl, rfl, fun σ yh s => ?_⟩
    have e := (pnext_ev LF yh s 0 k b).trans (pnext_spec k b h0 h1)
    exact ⟨1, _, e, rfl⟩
  · cases h
theorem y_papp : YFact Tryz.prog GX 140 X_papp := by
  refine yfact_of_run (C₀ := c_papp LF) (xok_of (lx := [(175, X_pthr), (176, X_pdig)]) (ly := [(195, X_pnext)]) (ls := []) rfl rfl rfl ⟨x_pthr, x_pdig, trivial⟩ ⟨y_pnext, trivial⟩ trivial) (okFns_of rfl (by kernel_rfl)) follows ?_
  intro args H ret Hc h
  unfold X_papp at h
  split at h
  · rename_i q b z l
    obtain ⟨h0, h⟩ := tr_need h
    obtain ⟨h1, h⟩ := tr_need h
    obtain ⟨h2, h⟩ := tr_need h
    obtain ⟨rfl, rfl⟩ := tr_ret h
    obtain ⟨x0, x1, e0⟩ := papp_spec q b z l h0 h1 h2
    exact ⟨rfl, rfl, fun σ yh s => ⟨1, _, (papp_ev LF yh s 0 q b z l).trans (e0 _ _), rfl⟩⟩
  · cases h
theorem x_penc : XFact Tryz.prog GX 98 X_penc := by
  refine XFact.fix (pf := X_penc0) _ (xfact_of_stab [0, 0] (C₀ := c_penc LF) (xok_of (lx := [(139, X_ppoint), (141, X_padapt)]) (ly := [(140, X_papp)]) (ls := []) rfl rfl rfl ⟨x_ppoint, x_padapt, trivial⟩ ⟨y_papp, trivial⟩ trivial) (okFns_of rfl (by kernel_rfl)) follows ?_)
  intro args ret Hc h
  unfold X_penc0 at h
  split at h
  · rename_i p_z p_t p
    obtain ⟨h0, h⟩ := tr_need h
    obtain ⟨rfl, rfl⟩ := tr_ret h
    obtain ⟨r, H, e, hs⟩ := penc_sp p_z p_t p h0
    exact ⟨rfl, rfl, rfl, 1, r, H, (penc_ev LF noY () 0 p_z p_t p).trans e, hs⟩
  · cases h
end
end Go.Proofs.YtokehocipgepnaaGreatDoor.E
namespace Go.Proofs.YtokehocipgepnaaGreatDoor.E
open Go Go.Proofs
set_option linter.unusedVariables false
set_option maxRecDepth 100000
section
theorem y_dnum : YFact Tryz.prog GX 196 X_dnum := by
  refine yfact_of_run (C₀ := c_dnum LF) (xok_of (lx := [(175, X_pthr), (205, X_pval)]) (ly := [(195, X_pnext)]) (ls := []) rfl rfl rfl ⟨x_pthr, x_pval, trivial⟩ ⟨y_pnext, trivial⟩ trivial) (okFns_of rfl (by kernel_rfl)) follows ?_
  intro args H ret Hc h
  unfold X_dnum at h
  split at h
  · rename_i rest n i b st z l
    obtain ⟨h0, h⟩ := tr_need h
    obtain ⟨h1, h⟩ := tr_need h
    obtain ⟨h2, h⟩ := tr_need h
    obtain ⟨rfl, rfl⟩ := tr_ret h
    obtain ⟨x0, e0⟩ := dnum_spec rest n i b st z l h0 h1 h2
    exact ⟨rfl, rfl, fun σ yh s => ⟨1, _, (dnum_ev LF yh s 0 rest n i b st z l).trans (e0 _ _), rfl⟩⟩
  · cases h
theorem x_ilastb : XFact Tryz.prog GX 160 X_ilastb := by
  refine XFact.fix (pf := X_ilastb0) _ (xfact_of_stab [] (C₀ := c_ilastb LF) (XFacts.ok (l := []) rfl trivial) (okFns_of rfl (by kernel_rfl)) follows ?_)
  intro args ret Hc h
  unfold X_ilastb0 at h
  split at h
  · rename_i s c
    obtain ⟨h0, h⟩ := tr_need h
    obtain ⟨h1, h⟩ := tr_need h
    obtain ⟨rfl, rfl⟩ := tr_ret h
    have e := (ilastb_ev LF noY () 0 s c).trans (ilastb_spec s c h0 h1)
    exact ⟨rfl, rfl, rfl, 1, _, _, e, rfl⟩
  · cases h
theorem x_lastb : XFact Tryz.prog GX 127 X_lastb := by
  refine XFact.fix (pf := X_lastb0) _ (xfact_of_stab [] (C₀ := c_lastb LF) (XFacts.ok (l := [(160, X_ilastb)]) rfl ⟨x_ilastb, trivial⟩) (okFns_of rfl (by kernel_rfl)) follows ?_)
  intro args ret Hc h
  unfold X_lastb0 at h
  split at h
  · rename_i s c
    obtain ⟨h0, h⟩ := tr_need h
    obtain ⟨h1, h⟩ := tr_need h
    obtain ⟨rfl, rfl⟩ := tr_ret h
    have e := (lastb_ev LF noY () 0 s c).trans (lastb_spec s c h0 h1)
    exact ⟨rfl, rfl, rfl, 1, _, _, e, rfl⟩
  · cases h
end
end Go.Proofs.YtokehocipgepnaaGreatDoor.E
namespace Go.Proofs.YtokehocipgepnaaGreatDoor.E
open Go Go.Proofs Go.Sort
set_option linter.unusedVariables false
set_option linter.unusedSimpArgs false
set_option maxRecDepth 100000
theorem sins_res {C : Cfg} {σ : Type} {I : σ → (Nat → Prop) → (Nat → Prop) → World → Prop} (hI : HI I) {Γ : Ctx} {Φ : Nat → Prop} {w w' : World} {z v1 : Bool} {E e1 s1 : Nat} {l l' m : LL} {s : σ} (g cap : Nat) (Vs : List Value) (cur : Array Value)
    (hnf : fixedT C E = false) (hH : HR Γ [.arr z E 1 l, .arr v1 e1 s1 m] w) (hi : I s Γ.St Φ w) (hd : ∀ b g, Γ.nm b = some g → ¬ Φ g)
    (hown : Γ.nm 0 = some g ∨ g = w.heap.size) (hgl : g < w'.heap.size) (hoth : ∀ k, k < w.heap.size → Γ.nm 0 ≠ some k → w'.heap[k]? = w.heap[k]?) (hsz : w.heap.size ≤ w'.heap.size) (h1 : w'.os = w.os) (h2 : w'.tape = w.tape) (h3 : w'.output = w.output)
    (hrow : w'.heap[g]? = some (.cells cur E (0, 0))) (hE : Els Γ.St w' 1 l' Vs) (hl' : l' ≠ []) (hc : ∀ q, q < Vs.length → cur[q]? = Vs[q]?) (hl : Vs.length ≤ cur.size) (hcap : l'.length ≤ cap) (hm : cap ≤ maxLen) (hcs : cur.size = cap) :
    CRes C I Γ [.arr z E 1 l, .arr v1 e1 s1 m] w Φ (.fl 0) [.arr z E 1 l', .arr v1 e1 s1 m] s (.slice (some ⟨g, 0, none⟩) l'.length cap) w' := by
  have hblt : 0 < [Blk.arr z E 1 l, .arr v1 e1 s1 m].length := by simp
  have hng : (Γ.re 0 (some g)).nm 0 = some g := by simp [Ctx.re]
  have hnf' : ¬ fixS C (shpOf [Blk.arr z E 1 l, .arr v1 e1 s1 m] 0) := by simp [shpOf, Blk.shp, fixS, hnf]
  have hk : ([Blk.arr z E 1 l, .arr v1 e1 s1 m].map (Blk.kill 0)).set 0 (.arr z E 1 l') = [.arr z E 1 l', .arr v1 e1 s1 m] := rfl
  have hgS : ¬ Γ.St g := by
    rcases hown with h | h
    · exact (hH.lt 0 g h).2.2
    · intro hs
      have := hH.stlt g hs
      omega
  obtain ⟨q1, q2, q3⟩ := rebind (C := C) (y := .arr z E 1 l') (ng := some g) (w' := w') hH hblt hnf' (fun k hk => by
      simp only [Option.some.injEq] at hk; subst hk
      refine ⟨hgl, hgS, fun c hc hc2 => ?_⟩
      rcases hown with h | h
      · exact hc (hH.inj c 0 _ hc2 h)
      · have := (hH.lt c _ hc2).2.1
        omega)
    (fun k hk => by
      simp only [Option.some.injEq] at hk; subst hk
      rcases hown with h | h
      · exact .inl h
      · exact .inr (by omega)) hoth hsz h1 h2 h3
    (BR.els hng hrow hE (by rintro ⟨_, h⟩; exact hl' h) hc hl) rfl
  rw [hk] at q1 q2
  refine ⟨_, Φ, q1.lift Φ, q2, ?_, fun c hc => ?_, ?_, fun b g' hb => ?_⟩
  · refine .fl 0 g z E 1 l'.length cap rfl (fun _ h => hl' (List.length_eq_zero_iff.1 h)) hng hcap hm ?_
    simp only [World.shape?, hrow, hcs, Nat.mul_one]
  · simp only [PV.nms, List.mem_singleton] at hc
    subst hc
    simp
  · refine hI.mono s Γ.St Φ w Γ.St w' hi (fun _ h => h) (fun k hk hp => (hI.foot _ _ _ _ hi k hp).2 hk) (fun k hk => Nat.lt_of_lt_of_le (hH.stlt k hk) hsz) (fun k hk => ?_) hsz h1 h2 h3
    rcases hk with hk | hk
    · exact hoth k (hH.stlt k hk) (fun h => (hH.lt 0 k h).2.2 hk)
    · exact hoth k (hI.foot _ _ _ _ hi k hk).1 (fun h => hd 0 k h hk)
  · simp only [Ctx.re] at hb
    split at hb
    · simp only [Option.some.injEq] at hb
      subst hb
      rcases hown with h | h
      · exact hd 0 _ h
      · intro hp
        have := (hI.foot _ _ _ _ hi _ hp).1
        omega
    · exact hd b g' hb
theorem setCells_row {w : World} {g o e : Nat} {vs : List Value} {cur : Array Value} (hg : w.heap[g]? = some (.cells cur e (0, 0))) (hle : o + vs.length ≤ cur.size) (h1 : ∀ v ∈ vs, v.oneCell' = true) :
    (w.setCells g o vs).heap[g]? = some (.cells (putAt cur.toList o vs).toArray e (0, 0)) ∧ (∀ k, k ≠ g → (w.setCells g o vs).heap[k]? = w.heap[k]?) ∧ (w.setCells g o vs).heap.size = w.heap.size ∧ (w.setCells g o vs).os = w.os ∧ (w.setCells g o vs).tape = w.tape ∧ (w.setCells g o vs).output = w.output := by
  obtain ⟨w', r1, r2, r3, r4, r5, r6, r7, _⟩ := run_storeCells_put (P := Tryz.prog) (o := o) hg hle h1
  have hcell : ∀ j, j < vs.length → ∃ v, w.cell? ⟨g, o + 0 + j, none⟩ = some v := fun j hj => by
    refine ⟨cur[o + j]'(by omega), ?_⟩
    simp [World.cell?, hg, Array.getElem?_eq_getElem (show o + j < cur.size by omega)]
  have r := run_storeCells_cells (P := Tryz.prog) g o vs 0 w (fun j hj => by obtain ⟨v, h⟩ := hcell j hj; rw [h]; rfl) (fun j hj => by simp [World.frozen?, hg]) h1
  rw [r] at r1
  simp only [Nat.add_zero, Result.ok.injEq, true_and] at r1
  rw [r1]
  exact ⟨r2, r3, r4, r5, r6, r7⟩
theorem insR_els {St : Nat → Prop} {w : World} {l : LL} {cs : List Value} {i : Nat} {n : Int} (h : Els St w 1 l cs) (hi : i ≤ l.length) : Els St w 1 (insR l i n) (cs.take i ++ Value.int .i64 n :: cs.drop i) := by
  have hlen := h.1
  rw [Nat.mul_one] at hlen
  have h1 : Els St w 1 (l.take i) (cs.take i) := by
    refine ⟨by rw [List.length_take, List.length_take, hlen, Nat.mul_one], fun j hj => ?_⟩
    rw [List.length_take] at hj
    rw [List.getElem_take]
    obtain ⟨a, b⟩ := h.2 j (by omega)
    refine ⟨a, fun k hk => ?_⟩
    obtain ⟨U, e, v⟩ := b k hk
    exact ⟨U, by rw [List.getElem?_take_of_lt (by omega)]; exact e, v⟩
  have h2 : Els St w 1 [[SV.int .i64 n]] [Value.int .i64 n] := by
    refine ⟨rfl, fun j hj => ?_⟩
    have : j = 0 := by simpa using hj
    subst this
    refine ⟨rfl, fun k hk => ?_⟩
    have : k = 0 := by simpa using hk
    subst this
    exact ⟨_, rfl, .int _ _⟩
  have h3 : Els St w 1 (l.drop i) (cs.drop i) := by
    refine ⟨by rw [List.length_drop, List.length_drop, hlen, Nat.mul_one], fun j hj => ?_⟩
    rw [List.length_drop] at hj
    rw [List.getElem_drop]
    obtain ⟨a, b⟩ := h.2 (i + j) (by omega)
    refine ⟨a, fun k hk => ?_⟩
    obtain ⟨U, e, v⟩ := b k hk
    exact ⟨U, by rw [List.getElem?_drop]; rw [show i + (j * 1 + k) = (i + j) * 1 + k by omega]; exact e, v⟩
  have := (h1.append h2).append h3
  unfold insR
  simpa using this
theorem insR_len (l : LL) (i : Nat) (n : Int) (h : i ≤ l.length) : (insR l i n).length = l.length + 1 := by
  unfold insR
  rw [List.length_append, List.length_cons, List.length_take, List.length_drop]
  omega
theorem insR_ne (l : LL) (i : Nat) (n : Int) : insR l i n ≠ [] := by
  unfold insR
  simp
theorem y_sins : YFact Tryz.prog GX 197 X_sins := by
  intro C hP hG σ I yh yv hI hy args H s ret Hc hpf Γ Φ w Vs hyv hH hg hi hd hc hn
  unfold X_sins at hpf
  split at hpf
  · rename_i i z l nn
    obtain ⟨h0, hpf⟩ := tr_need hpf
    obtain ⟨h1, hpf⟩ := tr_need hpf
    obtain ⟨rfl, rfl⟩ := tr_ret hpf
    obtain ⟨i0, i1⟩ := ltN_iff.1 h0
    obtain ⟨i, rfl⟩ := Int.eq_ofNat_of_zero_le i0
    have hl := Nat.le_of_ble_eq_true h1
    have hil : i ≤ l.length := by
      have : (i : Int) < ((l.length + 1 : Nat) : Int) := i1
      omega
    obtain ⟨S, X0, V, rfl, hs, hx, hv⟩ := hc.arr3
    obtain rfl := hx.inv_int
    have hnf : fixedT C 3 = false := by
      unfold fixedT Cfg.sh
      rw [hP]
      kernel_rfl
    obtain ⟨g1, cur1, n1, n2, n3, n4, n5⟩ := hH.arr' (b := 1) rfl (by simp)
    have hvs : ∃ cap, V = .slice (some ⟨g1, 0, none⟩) 1 cap := by
      cases hv with
      | flv _ e sz h => simp [shpOf, Blk.shp] at h
      | fl _ g v e sz n cap h hv' hg' hcap hm hs' =>
        rw [n1] at hg'
        simp only [Option.some.injEq] at hg'
        subst hg'
        simp only [shpOf, List.getElem?_cons_succ, List.getElem?_cons_zero, Option.map_some, Blk.shp, Option.some.injEq, Shp.arr.injEq] at h
        obtain ⟨_, _, _, h4⟩ := h
        subst h4
        exact ⟨cap, rfl⟩
    obtain ⟨cap1, rfl⟩ := hvs
    obtain ⟨V1, p1, p2⟩ := n5 0 (by simp) 0 (by simp)
    have p3 : V1 = .int .i64 nn := by cases p2; rfl
    subst p3
    have hvcell : ∀ j v, [Value.int .i64 nn][j]? = some v → w.cell? ⟨g1, 0 + j, none⟩ = some v := by
      intro j v hj
      have : j = 0 := by
        have := (List.getElem?_eq_some_iff.1 hj).1
        simpa using this
      subst this
      simp only [List.getElem?_cons_zero, Option.some.injEq] at hj
      subst hj
      simpa [World.cell?, n2] using p1
    have hv1 : ∀ v ∈ [Value.int .i64 nn], v.oneCell' = true := by simp [Value.oneCell']
    rw [Int.toNat_natCast]
    refine upon_of_calls (fn := Tryz.f197) (by kernel_rfl) (by kernel_rfl) (by kernel_rfl) ?_
    have grownEnd : ∀ (base : Option Addr) (c : Nat) (cs : List Value), l.length ≤ c → c < l.length + 1 → cs.length = l.length → (base = none → l.length = 0) → (∀ a, base = some a → ∀ j v, cs[j]? = some v → w.cell? (a.add j) = some v) → Els Γ.St w 1 l cs →
        Calls Tryz.prog 197 #[.slice base l.length c, .int .i64 (l.length : Int), .slice (some ⟨g1, 0, none⟩) 1 cap1] w fun e w' => ∃ V, e = .returned V ∧ CRes C I Γ [.arr z 3 1 l, .arr false 3 1 [[SV.int .i64 nn]]] w Φ (.fl 0) [.arr z 3 1 (insR l l.length nn), .arr false 3 1 [[SV.int .i64 nn]]] s V w' := by
      intro base c cs a1 a2 a3 a4 a5 a6
      refine (Any2.slices_Insert_int_end_grow Tryz.lays2_21 base l.length c g1 0 1 cap1 cs [.int .i64 nn] w (by omega) a1 a2 (by omega) a3 rfl a4 a5 hvcell hv1).mono ?_
      rintro e w' ⟨rfl, rfl⟩
      refine ⟨_, rfl, ?_⟩
      obtain ⟨hge, hle⟩ := grown_facts (w := w) (need := l.length + 1) (cap := c) (e := 3) (by omega)
      have hE := insR_els (n := nn) a6 (Nat.le_refl l.length)
      have hcsl : cs.take l.length ++ Value.int .i64 nn :: cs.drop l.length = cs ++ [Value.int .i64 nn] := by
        rw [List.take_of_length_le (by omega), List.drop_of_length_le (by omega)]
      rw [hcsl] at hE
      have hlen := insR_len l l.length nn (Nat.le_refl _)
      obtain ⟨r1, r2⟩ := grown_row (olds := cs) (Vs := [Value.int .i64 nn]) (z := (Value.int .i64 0).cells) (k := grownCap w (l.length + 1) c 3) (n := l.length) (m := 1) (size := 1) rfl (by omega) rfl hge
      have hrowE : (cs.toArray ++ [Value.int .i64 nn].toArray) = (cs ++ [Value.int .i64 nn]).toArray := by simp
      rw [hrowE] at r1 r2
      have key : ∀ (row : Array Value) (kc : Nat), row.size = kc → (∀ q, q < (cs ++ [Value.int .i64 nn]).length → row[q]? = (cs ++ [Value.int .i64 nn])[q]?) → l.length + 1 ≤ kc → kc ≤ maxLen →
          CRes C I Γ [.arr z 3 1 l, .arr false 3 1 [[SV.int .i64 nn]]] w Φ (.fl 0) [.arr z 3 1 (insR l l.length nn), .arr false 3 1 [[SV.int .i64 nn]]] s (.slice (some ⟨w.heap.size, 0, none⟩) (l.length + 1) kc) (w.drew.alloc (.cells row 3)) := by
        intro row kc b1 b2 b3 b4
        have hwh : (w.drew.alloc (.cells row 3)).heap = w.heap.push (.cells row 3) := rfl
        have := sins_res (C := C) (w' := w.drew.alloc (.cells row 3)) (l' := insR l l.length nn) hI w.heap.size kc (cs ++ [Value.int .i64 nn]) row hnf hH hi hd (.inr rfl) (by rw [hwh]; simp) (fun k hk _ => heap_push_lt hwh hk) (by rw [hwh]; simp) rfl rfl rfl (heap_push_eq hwh) (hE.mono (fun g hg => heap_push_lt hwh (hH.stlt g hg)) (fun _ h => h)) (insR_ne _ _ _) b2 (by rw [b1, List.length_append, List.length_singleton]; omega) (by rw [hlen]; exact b3) b4 b1
        rw [hlen] at this
        exact this
      exact key _ _ (r1.trans (Nat.mul_one _)) r2 hge hle
    -- the row behind two writes
    have two : ∀ (row : Array Value) (cs : List Value), cs.length = l.length → i < l.length → l.length + 1 ≤ row.size → (∀ q, q < i → row[q]? = cs[q]?) →
        ∀ q, q < (cs.take i ++ Value.int .i64 nn :: cs.drop i).length → (putAt (putAt row.toList i [Value.int .i64 nn]) (i + 1) (cs.drop i)).toArray[q]? = (cs.take i ++ Value.int .i64 nn :: cs.drop i)[q]? := by
      intro row cs a1 a2 a3 a4 q hq
      have hq' : q < l.length + 1 := by
        rw [List.length_append, List.length_cons, List.length_take, List.length_drop] at hq
        omega
      have ht : (cs.take i).length = i := by rw [List.length_take]; omega
      have hrl : row.toList.length = row.size := Array.length_toList
      simp only [List.getElem?_toArray]
      rw [putAt_get _ _ _ (by rw [putAt_length, List.length_drop, hrl]; omega), putAt_get _ _ _ (by rw [List.length_singleton, hrl]; omega)]
      by_cases h1 : q < i
      · rw [if_neg (by omega), if_neg (by omega), List.getElem?_append_left (by omega), List.getElem?_take_of_lt h1]
        simpa using a4 q h1
      · by_cases h2 : q = i
        · subst h2
          rw [if_neg (by omega), if_pos (by rw [List.length_singleton]; omega), List.getElem?_append_right (by omega), ht, Nat.sub_self]
          rfl
        · rw [if_pos (by rw [List.length_drop]; omega), List.getElem?_append_right (by omega), ht, show q - i = (q - (i + 1)) + 1 by omega, List.getElem?_cons_succ]
    have grownMid : ∀ (g c : Nat) (cs : List Value), i < l.length → l.length ≤ c → c < l.length + 1 → cs.length = l.length → (∀ j v, cs[j]? = some v → w.cell? ⟨g, 0 + j, none⟩ = some v) → (∀ v ∈ cs, v.oneCell' = true) → Els Γ.St w 1 l cs →
        Calls Tryz.prog 197 #[.slice (some ⟨g, 0, none⟩) l.length c, .int .i64 (i : Int), .slice (some ⟨g1, 0, none⟩) 1 cap1] w fun e w' => ∃ V, e = .returned V ∧ CRes C I Γ [.arr z 3 1 l, .arr false 3 1 [[SV.int .i64 nn]]] w Φ (.fl 0) [.arr z 3 1 (insR l i nn), .arr false 3 1 [[SV.int .i64 nn]]] s V w' := by
      intro g c cs hi' a1 a2 a3 a4 a5 a6
      refine (Any2.slices_Insert_int_grow Tryz.lays2_21 g 0 l.length c i g1 0 1 cap1 cs [.int .i64 nn] w hi' (by omega) a1 a2 (by omega) a3 rfl a4 hvcell a5 hv1).mono ?_
      rintro e w' ⟨rfl, rfl⟩
      refine ⟨_, rfl, ?_⟩
      obtain ⟨hge, hle⟩ := grown_facts (w := w) (need := l.length + 1) (cap := c) (e := 3) (by omega)
      have hE := insR_els (n := nn) a6 hil
      have hlen := insR_len l i nn hil
      have key : ∀ (row : Array Value) (kc : Nat), row.size = kc → (∀ q, q < i → row[q]? = cs[q]?) → l.length + 1 ≤ kc → kc ≤ maxLen →
          CRes C I Γ [.arr z 3 1 l, .arr false 3 1 [[SV.int .i64 nn]]] w Φ (.fl 0) [.arr z 3 1 (insR l i nn), .arr false 3 1 [[SV.int .i64 nn]]] s (.slice (some ⟨w.heap.size, 0, none⟩) (l.length + 1) kc) (((w.alloc (.cells row 3)).drew.setCells w.heap.size i [Value.int .i64 nn]).drew.setCells w.heap.size (i + 1) (cs.drop i)) := by
        intro row kc b1 b2 b3 b4
        have hwh : (w.alloc (.cells row 3)).drew.heap = w.heap.push (.cells row 3) := rfl
        obtain ⟨c1, c2, c3, c4, c5, c6⟩ := setCells_row (w := (w.alloc (.cells row 3)).drew) (o := i) (vs := [Value.int .i64 nn]) (heap_push_eq hwh) (by rw [List.length_singleton]; omega) hv1
        generalize hw1 : (w.alloc (.cells row 3)).drew.setCells w.heap.size i [Value.int .i64 nn] = w1 at *
        have hs1 : (putAt row.toList i [Value.int .i64 nn]).toArray.size = kc := by rw [List.size_toArray, putAt_length]; simpa using b1
        obtain ⟨d1, d2, d3, d4, d5, d6⟩ := setCells_row (w := w1.drew) (o := i + 1) (vs := cs.drop i) c1 (by rw [hs1, List.length_drop]; omega) (fun v hv => a5 v (List.mem_of_mem_drop hv))
        have hoth : ∀ k, k < w.heap.size → (w1.drew.setCells w.heap.size (i + 1) (cs.drop i)).heap[k]? = w.heap[k]? := fun k hk => by
          rw [d2 k (by omega)]
          exact (c2 k (by omega)).trans (heap_push_lt hwh hk)
        have hsz : (w1.drew.setCells w.heap.size (i + 1) (cs.drop i)).heap.size = w.heap.size + 1 := by
          rw [d3]
          show w1.heap.size = _
          rw [c3, hwh]
          simp
        have := sins_res (C := C) (w' := w1.drew.setCells w.heap.size (i + 1) (cs.drop i)) (l' := insR l i nn) hI w.heap.size kc (cs.take i ++ Value.int .i64 nn :: cs.drop i) _ hnf hH hi hd (.inr rfl) (by rw [hsz]; omega) (fun k hk _ => hoth k hk) (by rw [hsz]; omega) (d4.trans c4) (d5.trans c5) (d6.trans c6) d1 (hE.mono (fun g hg => hoth g (hH.stlt g hg)) (fun _ h => h)) (insR_ne _ _ _) (two row cs a3 hi' (by omega) b2) (by rw [List.size_toArray, putAt_length, List.length_append, List.length_cons, List.length_take, List.length_drop]; simp only [List.size_toArray, putAt_length] at hs1 ⊢; omega) (by rw [hlen]; exact b3) b4 (by rw [List.size_toArray, putAt_length]; simpa using hs1)
        rw [hlen] at this
        exact this
      have hz1 : (Value.int .i64 0).cells.size = 1 := rfl
      have ht : (cs.take i).length = i := by rw [List.length_take]; omega
      refine key _ _ ?_ (fun q hq => ?_) hge hle
      · simp only [Array.size_append, List.size_toArray, size_zeroCells, hz1, Nat.mul_one, ht]
        have : l.length + 1 ≤ grownCap w (l.length + 1) c 3 := hge
        show i + (l.length + 1 - i) + (grownCap w (l.length + 1) c 3 - (l.length + 1)) = grownCap w (l.length + 1) c 3
        omega
      · rw [Array.getElem?_append_left (by simp only [Array.size_append, List.size_toArray, ht]; omega), Array.getElem?_append_left (by simp only [List.size_toArray, ht]; omega), List.getElem?_toArray, List.getElem?_take_of_lt hq]
    -- the row behind two writes, the later part first
    have two' : ∀ (row : Array Value) (cs : List Value), cs.length = l.length → i < l.length → l.length + 1 ≤ row.size → (∀ q, q < i → row[q]? = cs[q]?) →
        ∀ q, q < (cs.take i ++ Value.int .i64 nn :: cs.drop i).length → (putAt (putAt row.toList (i + 1) (cs.drop i)) i [Value.int .i64 nn]).toArray[q]? = (cs.take i ++ Value.int .i64 nn :: cs.drop i)[q]? := by
      intro row cs a1 a2 a3 a4 q hq
      have hq' : q < l.length + 1 := by
        rw [List.length_append, List.length_cons, List.length_take, List.length_drop] at hq
        omega
      have ht : (cs.take i).length = i := by rw [List.length_take]; omega
      have hrl : row.toList.length = row.size := Array.length_toList
      simp only [List.getElem?_toArray]
      rw [putAt_get _ _ _ (by rw [putAt_length, List.length_singleton, hrl]; omega), putAt_get _ _ _ (by rw [List.length_drop, hrl]; omega)]
      by_cases h1 : q < i
      · rw [if_neg (by omega), if_neg (by omega), List.getElem?_append_left (by omega), List.getElem?_take_of_lt h1]
        simpa using a4 q h1
      · by_cases h2 : q = i
        · subst h2
          rw [if_pos (by rw [List.length_singleton]; omega), List.getElem?_append_right (by omega), ht, Nat.sub_self]
          rfl
        · rw [if_neg (by rw [List.length_singleton]; omega), if_pos (by rw [List.length_drop]; omega), List.getElem?_append_right (by omega), ht, show q - i = (q - (i + 1)) + 1 by omega, List.getElem?_cons_succ]
    cases hs with
    | flv _ e2 sz2 h' =>
      simp only [shpOf, List.getElem?_cons_zero, Option.map_some, Blk.shp, Option.some.injEq, Shp.arr.injEq] at h'
      obtain ⟨q1, q2, q3, h4⟩ := h'
      obtain rfl := List.length_eq_zero_iff.1 h4
      obtain rfl : i = 0 := by simpa using hil
      exact grownEnd none 0 [] (by simp) (by simp) rfl (fun _ => rfl) (fun a h => by cases h) ⟨rfl, fun j hj => by simp at hj⟩
    | fl _ g z' e2 sz2 n' cap h' hv' hg' hcap hm hs' =>
      simp only [shpOf, List.getElem?_cons_zero, Option.map_some, Blk.shp, Option.some.injEq, Shp.arr.injEq] at h'
      obtain ⟨rfl, rfl, rfl, rfl⟩ := h'
      have hne : ¬ (z = true ∧ l = []) := by rintro ⟨q1, q2⟩; exact hv' q1 (by rw [q2]; rfl)
      obtain ⟨g', cur, hg2, hh, hsize, hlens, hels⟩ := hH.arr' (b := 0) rfl hne
      obtain rfl : g = g' := by
        rw [hg'] at hg2
        exact Option.some.inj hg2
      have hcs : cur.size = cap := by
        have := hs'
        simp only [World.shape?, hh, Option.some.injEq, Prod.mk.injEq, true_and, Nat.mul_one] at this
        exact this
      rw [Nat.mul_one] at hsize
      have hO : Els Γ.St w 1 l (cur.toList.take l.length) := by
        refine ⟨by rw [List.length_take, Array.length_toList (xs := cur)]; omega, fun j hj => ⟨hlens j hj, fun k hk => ?_⟩⟩
        obtain ⟨U, e1, u⟩ := hels j hj k hk
        refine ⟨U, ?_, u⟩
        have hk' : k < 1 := by rw [← hlens j hj]; exact hk
        rw [List.getElem?_take, if_pos (by omega)]
        simpa using e1
      have hol : (cur.toList.take l.length).length = l.length := by rw [List.length_take, Array.length_toList (xs := cur)]; omega
      have hcell : ∀ j v, (cur.toList.take l.length)[j]? = some v → w.cell? ⟨g, 0 + j, none⟩ = some v := by
        intro j v hj
        have hj' : j < l.length := by
          have := (List.getElem?_eq_some_iff.1 hj).1
          omega
        rw [List.getElem?_take, if_pos hj'] at hj
        simpa [World.cell?, hh] using hj
      have h1c : ∀ v ∈ cur.toList.take l.length, v.oneCell' = true := by
        intro v hv
        obtain ⟨j, hj, rfl⟩ := List.getElem_of_mem hv
        have hj' : j < l.length := by omega
        obtain ⟨_, u⟩ := hO.2 j hj'
        obtain ⟨U, e1, u2⟩ := u 0 (by rw [hlens j hj']; exact Nat.one_pos)
        rw [Nat.mul_one, Nat.add_zero, List.getElem?_eq_getElem hj] at e1
        cases e1
        exact u2.oneCell
      have hlen := insR_len l i nn hil
      have hE := insR_els (n := nn) hO hil
      have hsome : ∀ j, j < cap → (w.cell? ⟨g, j, none⟩).isSome = true := by
        intro j hj
        simp only [World.cell?, hh]
        rw [Array.getElem?_eq_getElem (by omega)]
        rfl
      have hfrz : ∀ j, w.frozen? ⟨g, j, none⟩ = false := fun j => by simp [World.frozen?, hh]
      have hng1 : g1 ≠ g := fun e => by
        have := hH.inj 1 0 g (by rw [← e]; exact n1) hg'
        omega
      have hmx : cap ≤ 9223372036854775807 := by
        simp only [maxLen] at hm
        omega
      by_cases hroom : l.length + 1 ≤ cap
      · have key : ∀ (w' : World) (row : List Value), w'.heap[g]? = some (.cells row.toArray 3 (0, 0)) → (∀ k, k ≠ g → w'.heap[k]? = w.heap[k]?) → w'.heap.size = w.heap.size → w'.os = w.os → w'.tape = w.tape → w'.output = w.output → row.length = cap →
            (∀ q, q < ((cur.toList.take l.length).take i ++ Value.int .i64 nn :: (cur.toList.take l.length).drop i).length → row.toArray[q]? = ((cur.toList.take l.length).take i ++ Value.int .i64 nn :: (cur.toList.take l.length).drop i)[q]?) →
            CRes C I Γ [.arr z 3 1 l, .arr false 3 1 [[SV.int .i64 nn]]] w Φ (.fl 0) [.arr z 3 1 (insR l i nn), .arr false 3 1 [[SV.int .i64 nn]]] s (.slice (some ⟨g, 0, none⟩) (l.length + 1) cap) w' := by
          intro w' row k1 k2 k3 k4 k5 k6 k7 k8
          have hgS : ¬ Γ.St g := (hH.lt 0 g hg').2.2
          have := sins_res (C := C) (w' := w') (l' := insR l i nn) hI g cap ((cur.toList.take l.length).take i ++ Value.int .i64 nn :: (cur.toList.take l.length).drop i) row.toArray hnf hH hi hd (.inl hg') (by rw [k3]; exact (hH.lt 0 g hg').2.1) (fun k hk hk2 => k2 k (fun e => hk2 (e ▸ hg'))) (by omega) k4 k5 k6 k1
            (hE.mono (fun k hk => k2 k (fun e => hgS (e ▸ hk))) (fun _ h => h)) (insR_ne _ _ _) k8
            (by rw [List.size_toArray, k7, List.length_append, List.length_cons, List.length_take, List.length_drop, hol]; omega) (by rw [hlen]; exact hroom) hm (by rw [List.size_toArray, k7])
          rw [hlen] at this
          exact this
        by_cases hie : i = l.length
        · subst hie
          refine (Any2.slices_Insert_int_end_room Tryz.lays2_21 g 0 l.length cap g1 0 1 cap1 [.int .i64 nn] w (by omega) hroom hmx rfl (fun j hj => hsome _ (by omega)) (fun j hj => hfrz _) hvcell hv1).mono ?_
          rintro e w' ⟨rfl, rfl⟩
          refine ⟨_, rfl, ?_⟩
          obtain ⟨c1, c2, c3, c4, c5, c6⟩ := setCells_row (w := w) (o := 0 + l.length) (vs := [Value.int .i64 nn]) hh (by rw [List.length_singleton]; omega) hv1
          refine key _ _ c1 c2 c3 c4 c5 c6 (by rw [putAt_length]; simpa using hcs) (fun q hq => ?_)
          rw [List.take_of_length_le (by omega), List.drop_of_length_le (by omega)] at hq ⊢
          rw [List.length_append, hol, List.length_singleton] at hq
          simp only [List.getElem?_toArray]
          rw [putAt_get _ _ _ (by rw [List.length_singleton, Array.length_toList (xs := cur)]; omega)]
          by_cases hq2 : q < l.length
          · rw [if_neg (by omega), List.getElem?_append_left (by omega), List.getElem?_take, if_pos hq2]
          · obtain rfl : q = l.length := by omega
            rw [if_pos (by rw [List.length_singleton]; omega), List.getElem?_append_right (by omega), hol]
            simp
        · have hi' : i < l.length := by omega
          refine (Any2.slices_Insert_int_shift Tryz.lays2_21 g 0 l.length cap i g1 0 1 cap1 (cur.toList.take l.length) [.int .i64 nn] w hi' (by omega) hroom hmx hng1 hol rfl hcell (fun j hj => hsome _ (by omega)) (fun j hj => hfrz _) hvcell h1c hv1 3 3 cur1.size cur.size (by simp [World.shape?, n2]) (by simp [World.shape?, hh]) (by omega) (by simp [World.frozen?, n2]) (by simp [World.frozen?, n2])).mono ?_
          rintro e w' ⟨rfl, rfl⟩
          refine ⟨_, rfl, ?_⟩
          obtain ⟨c1, c2, c3, c4, c5, c6⟩ := setCells_row (w := w.drew) (o := 0 + (i + 1)) (vs := (cur.toList.take l.length).drop i) hh (by rw [List.length_drop, hol]; omega) (fun v hv => h1c v (List.mem_of_mem_drop hv))
          generalize hw1 : w.drew.setCells g (0 + (i + 1)) ((cur.toList.take l.length).drop i) = w1 at *
          have hs1 : (putAt cur.toList (0 + (i + 1)) ((cur.toList.take l.length).drop i)).toArray.size = cap := by rw [List.size_toArray, putAt_length]; simpa using hcs
          obtain ⟨d1, d2, d3, d4, d5, d6⟩ := setCells_row (w := w1) (o := 0 + i) (vs := [Value.int .i64 nn]) c1 (by rw [hs1, List.length_singleton]; omega) hv1
          refine key _ _ d1 (fun k hk => (d2 k hk).trans (c2 k hk)) (d3.trans c3) (d4.trans c4) (d5.trans c5) (d6.trans c6) (by rw [putAt_length]; simpa using hs1) ?_
          rw [Nat.zero_add, Nat.zero_add]
          exact two' cur _ hol hi' (by omega) (fun q hq => by rw [List.getElem?_take, if_pos (by omega)]; simp)
      · by_cases hie : i = l.length
        · subst hie
          exact grownEnd (some ⟨g, 0, none⟩) cap (cur.toList.take l.length) hcap (by omega) hol (fun h => by cases h) (fun a h j v hj => by
            obtain rfl := Option.some.inj h
            rw [addr_add]
            exact hcell j v hj) hO
        · exact grownMid g cap _ (by omega) hcap (by omega) hol hcell h1c hO
  · cases hpf
end Go.Proofs.YtokehocipgepnaaGreatDoor.E
namespace Go.Proofs.YtokehocipgepnaaGreatDoor.E
open Go Go.Proofs
set_option linter.unusedVariables false
set_option maxRecDepth 100000
section
theorem y_dstep : YFact Tryz.prog GX 182 X_dstep := by
  refine yfact_of_run (C₀ := c_dstep LF) (xok_of (lx := [(141, X_padapt), (139, X_ppoint)]) (ly := [(196, X_dnum), (197, X_sins)]) (ls := []) rfl rfl rfl ⟨x_padapt, x_ppoint, trivial⟩ ⟨y_dnum, y_sins, trivial⟩ trivial) (okFns_of rfl (by kernel_rfl)) follows ?_
  intro args H ret Hc h
  unfold X_dstep at h
  split at h
  · rename_i rest n i b st z l
    obtain ⟨h0, h⟩ := tr_need h
    obtain ⟨h1, h⟩ := tr_need h
    obtain ⟨h2, h⟩ := tr_need h
    obtain ⟨h3, h⟩ := tr_need h
    obtain ⟨h4, h⟩ := tr_need h
    obtain ⟨rfl, rfl⟩ := tr_ret h
    refine ⟨rfl, rfl, fun σ yh s => ?_⟩
    have e := (dstep_ev LF yh s 0 rest n i b st z l).trans (dstep_spec rest n i b st z l h0 h1 h2 h3 h4)
    exact ⟨1, _, e, rfl⟩
  · cases h
theorem x_pdec : XFact Tryz.prog GX 155 X_pdec := by
  refine XFact.fix (pf := X_pdec0) _ (xfact_of_stab [1, 0] (C₀ := c_pdec LF) (xok_of (lx := [(127, X_lastb)]) (ly := [(182, X_dstep)]) (ls := []) rfl rfl rfl ⟨x_lastb, trivial⟩ ⟨y_dstep, trivial⟩ trivial) (okFns_of rfl (by kernel_rfl)) follows ?_)
  intro args ret Hc h
  unfold X_pdec0 at h
  split at h
  · rename_i s
    obtain ⟨h0, h⟩ := tr_need h
    obtain ⟨rfl, rfl⟩ := tr_ret h
    obtain ⟨r, H, e, hs⟩ := pdec_sp s h0
    exact ⟨rfl, rfl, rfl, 1, r, H, (pdec_ev LF noY () 0 s).trans e, hs⟩
  · cases h
end
end Go.Proofs.YtokehocipgepnaaGreatDoor.E
namespace Go.Proofs.YtokehocipgepnaaGreatDoor.E
open Go Go.Proofs Go.Sort
set_option linter.unusedVariables false
set_option linter.unusedSimpArgs false
set_option maxRecDepth 100000
theorem x_uvalid : XFact Tryz.prog GX 95 X_uvalid := by
  refine XFact.fix (pf := X_uvalid0) _ (xfact_of_calls (fn := Tryz.f95) (by kernel_rfl) (by kernel_rfl) (by kernel_rfl) ?_)
  intro args ret Hc h
  unfold X_uvalid0 at h
  split at h
  · rename_i s
    obtain ⟨h0, h⟩ := tr_need h
    obtain ⟨rfl, rfl⟩ := tr_ret h
    refine ⟨rfl, rfl, fun C hP hCG Γ w Vs hG hlt hc => ?_⟩
    obtain ⟨U, rfl, hu⟩ := hc.arr1
    obtain ⟨s', rfl, rfl⟩ := hu.inv_str
    have hs := maxL h0
    refine (Any.utf8_ValidString Tryz.lays196 s' w (by simp at hs; omega) (gk_utf8 hG hCG)).mono ?_
    rintro e w' ⟨rfl, hb⟩
    rw [← validD_pts]
    exact ⟨_, rfl, hb, VP.mk_bool _⟩
  · cases h
theorem x_ucount : XFact Tryz.prog GX 96 X_ucount := by
  refine XFact.fix (pf := X_ucount0) _ (xfact_of_calls (fn := Tryz.f96) (by kernel_rfl) (by kernel_rfl) (by kernel_rfl) ?_)
  intro args ret Hc h
  unfold X_ucount0 at h
  split at h
  · rename_i s
    obtain ⟨h0, h⟩ := tr_need h
    obtain ⟨rfl, rfl⟩ := tr_ret h
    refine ⟨rfl, rfl, fun C hP hCG Γ w Vs hG hlt hc => ?_⟩
    obtain ⟨U, rfl, hu⟩ := hc.arr1
    obtain ⟨s', rfl, rfl⟩ := hu.inv_str
    have hs := maxL h0
    refine (Any.utf8_RuneCountInString Tryz.lays195 s' w (by simp at hs; omega)).mono ?_
    rintro e w' ⟨rfl, pos, rfl⟩
    rw [Lib.runeCountL_eq]
    exact ⟨_, rfl, below_iter _ _ _, VP.mk_int _ _⟩
  · cases h
theorem x_drune : XFact Tryz.prog GX 153 X_drune := fun args ret Hc h => by
  have : trRes (X_drune args) = none := by unfold X_drune X_drune0; split <;> rfl
  rw [this] at h; cases h
theorem z_sseqf : SFact Tryz.prog GX 152 X_sseqf := by
  refine sfact_of_ev (C₀ := c_sseqf LF) ((XFacts.ok (l := [(153, X_drune), (116, X_sidx)]) rfl ⟨x_drune, x_sidx, trivial⟩)) (okFns_of rfl (by kernel_rfl)) follows ?_
  intro args H L h σ yh s s' hr
  unfold X_sseqf at h
  split at h
  · rename_i p t n
    simp only [Option.some.injEq, Prod.mk.injEq] at h
    obtain ⟨h1, rfl⟩ := h
    obtain ⟨t', f⟩ := sseqf_spec (R := PV × List Blk × σ) yh p t n s s' h1 hr
    exact ⟨1, _, (sseqf_ev LF yh 0 p t n s).trans (f _)⟩
  · cases h
end Go.Proofs.YtokehocipgepnaaGreatDoor.E
namespace Go.Proofs.YtokehocipgepnaaGreatDoor.E
open Go Go.Proofs
set_option linter.unusedVariables false
set_option maxRecDepth 100000
section
theorem x_lprop : XFact Tryz.prog GX 114 X_lprop := by
  refine XFact.fix (pf := X_lprop0) _ (xfact_of_stab [] (C₀ := c_lprop LF) (XFacts.ok (l := [(155, X_pdec), (98, X_penc)]) rfl ⟨x_pdec, x_penc, trivial⟩) (okFns_of rfl (by kernel_rfl)) follows ?_)
  intro args ret Hc h
  unfold X_lprop0 at h
  split at h
  · rename_i s
    obtain ⟨h0, h⟩ := tr_need h
    obtain ⟨rfl, rfl⟩ := tr_ret h
    have e := (lprop_ev LF noY () 0 s).trans (lprop_spec s h0)
    exact ⟨rfl, rfl, rfl, 1, _, _, e, rfl⟩
  · cases h
theorem x_lval : XFact Tryz.prog GX 61 X_lval := by
  refine XFact.fix (pf := X_lval0) _ (xfact_of_stab [] (C₀ := c_lval LF) (XFacts.ok (l := [(113, X_cpre), (114, X_lprop)]) rfl ⟨x_cpre, x_lprop, trivial⟩) (okFns_of rfl (by kernel_rfl)) follows ?_)
  intro args ret Hc h
  unfold X_lval0 at h
  split at h
  · rename_i s
    obtain ⟨h0, h⟩ := tr_need h
    obtain ⟨rfl, rfl⟩ := tr_ret h
    have e := (lval_ev LF noY () 0 s).trans (lval_spec s h0)
    exact ⟨rfl, rfl, rfl, 1, _, _, e, rfl⟩
  · cases h
theorem x_lasc : XFact Tryz.prog GX 51 X_lasc := by
  refine XFact.fix (pf := X_lasc0) _ (xfact_of_stab [0, 0] (C₀ := c_lasc LF) (XFacts.ok (l := [(95, X_uvalid), (96, X_ucount), (97, X_lowc), (98, X_penc), (61, X_lval)]) rfl ⟨x_uvalid, x_ucount, x_lowc, x_penc, x_lval, trivial⟩) (okFns_of rfl (by kernel_rfl)) follows ?_)
  intro args ret Hc h
  unfold X_lasc0 at h
  split at h
  · rename_i s
    obtain ⟨h0, h⟩ := tr_need h
    obtain ⟨rfl, rfl⟩ := tr_ret h
    obtain ⟨r, H, e, hs⟩ := lasc_sp s h0
    exact ⟨rfl, rfl, rfl, 1, r, H, (lasc_ev LF noY () 0 s).trans e, hs⟩
  · cases h
theorem x_hdig : XFact Tryz.prog GX 88 X_hdig := by
  refine XFact.fix (pf := X_hdig0) _ (xfact_of_stab [] (C₀ := c_hdig LF) (XFacts.ok (l := []) rfl trivial) (okFns_of rfl (by kernel_rfl)) follows ?_)
  intro args ret Hc h
  unfold X_hdig0 at h
  split at h
  · rename_i b
    obtain ⟨h0, h⟩ := tr_need h
    obtain ⟨rfl, rfl⟩ := tr_ret h
    have e := (hdig_ev LF noY () 0 b).trans (hdig_spec b h0)
    exact ⟨rfl, rfl, rfl, 1, _, _, e, rfl⟩
  · cases h
theorem x_hdec : XFact Tryz.prog GX 46 X_hdec := by
  refine XFact.fix (pf := X_hdec0) _ (xfact_of_stab [0, 0] (C₀ := c_hdec LF) (XFacts.ok (l := [(88, X_hdig)]) rfl ⟨x_hdig, trivial⟩) (okFns_of rfl (by kernel_rfl)) follows ?_)
  intro args ret Hc h
  unfold X_hdec0 at h
  split at h
  · rename_i s
    obtain ⟨h0, h⟩ := tr_need h
    obtain ⟨rfl, rfl⟩ := tr_ret h
    obtain ⟨r, H, e, hs⟩ := hdec_sp s h0
    exact ⟨rfl, rfl, rfl, 1, r, H, (hdec_ev LF noY () 0 s).trans e, hs⟩
  · cases h
theorem x_haddr : XFact Tryz.prog GX 45 X_haddr := by
  refine XFact.fix (pf := X_haddr0) _ (xfact_of_stab [0, 0] (C₀ := c_haddr LF) (XFacts.ok (l := [(87, X_v6p)]) rfl ⟨x_v6p, trivial⟩) (okFns_of rfl (by kernel_rfl)) follows ?_)
  intro args ret Hc h
  unfold X_haddr0 at h
  split at h
  · rename_i s
    obtain ⟨h0, h⟩ := tr_need h
    obtain ⟨h1, h⟩ := tr_need h
    obtain ⟨rfl, rfl⟩ := tr_ret h
    obtain ⟨r, H, e, hs⟩ := haddr_sp s h0 h1
    exact ⟨rfl, rfl, rfl, 1, r, H, (haddr_ev LF noY () 0 s).trans e, hs⟩
  · cases h
theorem x_hparse : XFact Tryz.prog GX 21 X_hparse := by
  refine XFact.fix (pf := X_hparse0) _ (xfact_of_stab [0, 0] (C₀ := c_hparse LF) (XFacts.ok (l := [(44, X_hpre), (45, X_haddr), (46, X_hdec), (47, X_tsufc), (48, X_numeric), (49, X_pnum), (50, X_ssplitM), (51, X_lasc), (52, X_sjoin)]) rfl ⟨x_hpre, x_haddr, x_hdec, x_tsufc, x_numeric, x_pnum, x_ssplitM, x_lasc, x_sjoin, trivial⟩) (okFns_of rfl (by kernel_rfl)) follows ?_)
  intro args ret Hc h
  unfold X_hparse0 at h
  split at h
  · rename_i s
    obtain ⟨h0, h⟩ := tr_need h
    obtain ⟨rfl, rfl⟩ := tr_ret h
    obtain ⟨r, H, e, hs⟩ := hparse_sp s h0
    exact ⟨rfl, rfl, rfl, 1, r, H, (hparse_ev LF noY () 0 s).trans e, hs⟩
  · cases h
theorem x_lsseq : XFact Tryz.prog GX 112 X_lsseq := by
  refine XFact.fix (pf := X_lsseq0) _ (xfact_of_run (C₀ := c_lsseq LF) (XFacts.ok (l := []) rfl trivial) (okFns_of rfl (by kernel_rfl)) follows ?_)
  intro args ret Hc h
  unfold X_lsseq0 at h
  split at h
  · rename_i t p n
    obtain ⟨rfl, rfl⟩ := tr_ret h
    have e := (lsseq_ev LF noY () 0 t p n).trans (lsseq_spec t p n )
    exact ⟨rfl, 1, _, [], e, rfl, rfl⟩
  · cases h
theorem x_sseq : XFact Tryz.prog GX 60 X_sseq := by
  refine XFact.fix (pf := X_sseq0) _ (xfact_of_run (C₀ := c_sseq LF) (XFacts.ok (l := [(112, X_lsseq)]) rfl ⟨x_lsseq, trivial⟩) (okFns_of rfl (by kernel_rfl)) follows ?_)
  intro args ret Hc h
  unfold X_sseq0 at h
  split at h
  · rename_i t p
    obtain ⟨rfl, rfl⟩ := tr_ret h
    have e := (sseq_ev LF noY () 0 t p).trans (sseq_spec t p )
    exact ⟨rfl, 1, _, [], e, rfl, rfl⟩
  · cases h
theorem x_hvn : XFact Tryz.prog GX 25 X_hvn := by
  refine XFact.fix (pf := X_hvn0) _ (xfact_of_stab [] (C₀ := c_hvn LF) (xok_of (lx := [(48, X_numeric), (60, X_sseq), (61, X_lval)]) (ly := []) (ls := [(152, X_sseqf)]) rfl rfl rfl ⟨x_numeric, x_sseq, x_lval, trivial⟩ trivial ⟨z_sseqf, trivial⟩) (okFns_of rfl (by kernel_rfl)) follows ?_)
  intro args ret Hc h
  unfold X_hvn0 at h
  split at h
  · rename_i s
    obtain ⟨h0, h⟩ := tr_need h
    obtain ⟨rfl, rfl⟩ := tr_ret h
    obtain ⟨r, H, e, hs⟩ := hvn_sp s h0
    exact ⟨rfl, rfl, rfl, 1, r, H, (hvn_ev LF noY () 0 s).trans e, hs⟩
  · cases h
theorem x_hval : XFact Tryz.prog GX 34 X_hval := by
  refine XFact.fix (pf := X_hval0) _ (xfact_of_stab [] (C₀ := c_hval LF) (XFacts.ok (l := [(25, X_hvn)]) rfl ⟨x_hvn, trivial⟩) (okFns_of rfl (by kernel_rfl)) follows ?_)
  intro args ret Hc h
  unfold X_hval0 at h
  split at h
  · rename_i kd nm v4 a0 a1 a2 a3 a4 a5 a6 a7
    obtain ⟨h0, h⟩ := tr_need h
    obtain ⟨h1, h⟩ := tr_need h
    obtain ⟨h2, h⟩ := tr_need h
    obtain ⟨rfl, rfl⟩ := tr_ret h
    obtain ⟨r, H, e, hs⟩ := hval_sp kd nm v4 a0 a1 a2 a3 a4 a5 a6 a7 h0 h1 h2
    exact ⟨rfl, rfl, rfl, 1, r, H, (hval_ev LF noY () 0 kd nm v4 a0 a1 a2 a3 a4 a5 a6 a7).trans e, hs⟩
  · cases h
theorem x_hfmt : XFact Tryz.prog GX 36 X_hfmt := by
  refine XFact.fix (pf := X_hfmt0) _ (xfact_of_stab [] (C₀ := c_hfmt LF) (XFacts.ok (l := [(34, X_hval), (69, X_v4f), (70, X_v6f)]) rfl ⟨x_hval, x_v4f, x_v6f, trivial⟩) (okFns_of rfl (by kernel_rfl)) follows ?_)
  intro args ret Hc h
  unfold X_hfmt0 at h
  split at h
  · rename_i kd nm v4 a0 a1 a2 a3 a4 a5 a6 a7
    obtain ⟨h0, h⟩ := tr_need h
    obtain ⟨h1, h⟩ := tr_need h
    obtain ⟨h2, h⟩ := tr_need h
    obtain ⟨rfl, rfl⟩ := tr_ret h
    obtain ⟨r, H, e, hs⟩ := hfmt_sp kd nm v4 a0 a1 a2 a3 a4 a5 a6 a7 h0 h1 h2
    exact ⟨rfl, rfl, rfl, 1, r, H, (hfmt_ev LF noY () 0 kd nm v4 a0 a1 a2 a3 a4 a5 a6 a7).trans e, hs⟩
  · cases h
theorem x_hlab : XFact Tryz.prog GX 26 X_hlab := by
  refine XFact.fix (pf := X_hlab0) _ (xfact_of_stab [] (C₀ := c_hlab LF) (XFacts.ok (l := [(25, X_hvn), (62, X_scnt)]) rfl ⟨x_hvn, x_scnt, trivial⟩) (okFns_of rfl (by kernel_rfl)) follows ?_)
  intro args ret Hc h
  unfold X_hlab0 at h
  split at h
  · rename_i s
    obtain ⟨h0, h⟩ := tr_need h
    obtain ⟨rfl, rfl⟩ := tr_ret h
    have e := (hlab_ev LF noY () 0 s).trans (hlab_spec s h0)
    exact ⟨rfl, rfl, rfl, 1, _, _, e, rfl⟩
  · cases h
theorem x_hcov : XFact Tryz.prog GX 31 X_hcov := by
  refine XFact.fix (pf := X_hcov0) _ (xfact_of_stab [] (C₀ := c_hcov LF) (XFacts.ok (l := [(25, X_hvn), (63, X_hsuf)]) rfl ⟨x_hvn, x_hsuf, trivial⟩) (okFns_of rfl (by kernel_rfl)) follows ?_)
  intro args ret Hc h
  unfold X_hcov0 at h
  split at h
  · rename_i p s
    obtain ⟨h0, h⟩ := tr_need h
    obtain ⟨h1, h⟩ := tr_need h
    obtain ⟨rfl, rfl⟩ := tr_ret h
    have e := (hcov_ev LF noY () 0 p s).trans (hcov_spec p s h0 h1)
    exact ⟨rfl, rfl, rfl, 1, _, _, e, rfl⟩
  · cases h
end
end Go.Proofs.YtokehocipgepnaaGreatDoor.E
namespace Go.Proofs.YtokehocipgepnaaGreatDoor.E
open Go Go.Proofs Go.ChangeShapes Go.WideShapes Go.ChangeAt Go.RowKit
set_option linter.unusedVariables false
set_option linter.unusedSimpArgs false
set_option maxRecDepth 100000
theorem x_awake : XFact Tryz.prog GX 20 X_awake :=
  XFact.fix (pf := X_awake0) _ (by
    have h := xfact_true (C₀ := c_awake LF) (XFacts.ok (l := [(21, X_hparse), (26, X_hlab), (31, X_hcov)]) rfl ⟨x_hparse, x_hlab, x_hcov, trivial⟩) (okFns_of rfl (by kernel_rfl)) follows awake_run
    have e : (fun args : List PV => match args with | [] => Tr.ret (.s (.bool true)) [] | _ => .fail) = X_awake0 := by
      funext args
      cases args <;> rfl
    rw [← e]
    exact h)
theorem rt_run (args : List PV) (h : ArgsOf Tryz.prog [28, 9] args) : ∃ d Hc, evC (c_lrt LF) d Unit noY 10 args [] () = some (.s (.bool true), Hc, ()) := by
  obtain ⟨v1, q1, rfl, h1, v2, q2, rfl, h2, rfl⟩ := h
  obtain ⟨kd, nm, v4, a0, a1, a2, a3, a4, a5, a6, a7, rfl, hn, k2, k8, _⟩ := arg_host h1 (by kernel_rfl) (by kernel_rfl)
  obtain ⟨s, rfl, hs⟩ := arg_str h2 (by kernel_rfl) (by kernel_rfl)
  obtain ⟨H, e⟩ := lrt_true kd nm v4 a0 a1 a2 a3 a4 a5 a6 a7 s k2 k8
  exact ⟨1, H, e⟩
theorem rt_lifted (os : Os) (started : os.Started) (H : Type) (enc : TypeId × Value → H) :
    ReturnsInHanded {} Tryz.checked os 10 .any (fun w args => (Rows.hostRoundTripSpec.pre enc Tryz.prog Tryz.f10 Rows.hostRoundTripRow.domain false w args ∧ laidMetH Tryz.prog laidH w) ∧ sizedMet enc Tryz.prog Tryz.f10 (OpenSpec.ofChange Rows.hostRoundTripSpec) false w args) (Rows.hostRoundTripSpec.post enc Tryz.prog Tryz.f10 false true false false) :=
  law_handed started (C := c_lrt LF) (tb := 4) rfl rfl (XFacts.ok (l := [(20, X_awake), (21, X_hparse), (36, X_hfmt), (34, X_hval)]) rfl ⟨x_awake, x_hparse, x_hfmt, x_hval, trivial⟩) (okFns_of rfl (by kernel_rfl)) (by kernel_rfl) Tryz.func10 (c := bodyOf Tryz.f10) rfl (by kernel_rfl)
    (by
      intro t ht
      have : t = 28 ∨ t = 9 := by simpa using (show t ∈ [28, 9] from ht)
      rcases this with rfl | rfl
      · exact ⟨⟨by kernel_rfl, of_decide_eq_true (by kernel_rfl)⟩, by kernel_rfl⟩
      · exact ⟨⟨by kernel_rfl, of_decide_eq_true (by kernel_rfl)⟩, by kernel_rfl⟩) rfl (by kernel_rfl) rfl
    (fun ds hds => by
      match ds, hds with
      | [d, d2], _ => rfl)
    #[.agg #[.int .i64 0, .string ⟨#[]⟩, .int .u32 0, .int .u16 0, .int .u16 0, .int .u16 0, .int .u16 0, .int .u16 0, .int .u16 0, .int .u16 0, .int .u16 0], .string ⟨#[]⟩] 8 (by kernel_rfl) (by kernel_rfl) (by kernel_rfl)
    (fun args h => rt_run args h)
theorem rt_holds : Rows.HostRoundTripSaid :=
  OpenClaim.holds_of_wide 10 Tryz.f10 rfl rfl rfl rfl rfl rfl rfl ⟨rfl, rfl, rfl, rfl, rfl⟩ rfl rfl rfl rfl rfl (by kernel_rfl) Tryz.func10 (by kernel_rfl)
    (of_decide_eq_true (by kernel_rfl)) (by unfold Func.isWrapper; first | (rw [if_pos (by decide +kernel)]; kernel_rfl) | (rw [if_neg (by decide +kernel)]; exact ⟨rfl, rfl⟩))
    (fun os started H enc _ => rt_lifted os started H enc)
theorem rt_card : Rows.HostRoundTripCardSaid :=
  Claim7.holds_tied_plain_at .later [] [.data, .data, .data, .data, .pinned] true (true, "2d4461915ea06489d68a60bf686921bd6071300f588936464676204155834289") false rt_holds (fun _ h => by cases h) (by kernel_rfl) (fun _ h => by cases h) hostRoundTrip_row_tie rfl ⟨rfl, rfl⟩ (by kernel_rfl) rfl
    (fun f fn hf hfn => by
      obtain rfl : f = 10 := Option.some.inj ((show Tryz.prog.funcNamed "hstsstore/hstsstorelaw14.HostRoundTrip" = some 10 by kernel_rfl).symm.trans hf) |>.symm
      obtain rfl : fn = Tryz.f10 := (Option.some.inj (Tryz.func10.symm.trans hfn)).symm
      exact ⟨by kernel_rfl, fun j t ht => by
        have hm : t ∈ [28, 9] := by
          have := Array.mem_of_getElem? ht
          have := Array.mem_toList_iff.2 this
          exact this
        have hall : ([28, 9].all fun u => !Tryz.prog.wantsStandIn u) = true := by kernel_rfl
        exact (show Tryz.prog.wantsStandIn t = false by simpa using List.all_eq_true.1 hall t hm)⟩)
    (by kernel_rfl)
#print axioms rt_card
end Go.Proofs.YtokehocipgepnaaGreatDoor.E
