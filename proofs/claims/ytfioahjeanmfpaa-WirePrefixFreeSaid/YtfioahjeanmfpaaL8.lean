/-
  No encoding of a number is a beginning of the encoding of another one, and greater numbers do not have shorter encodings: the law WirePrefixFree holds. Conditions: none.
-/
import Derived.Test.YtfioahjeanmfpaaL7
import Derived.Test.YtfioahjeanmfpaaG7
namespace Go.Proofs.Ytfioahjeanmfpaa.E
open Go Go.Proofs Go.ChangeShapes Go.WideShapes Go.ChangeAt Go.RowKit
set_option linter.unusedVariables false
set_option linter.unusedSimpArgs false
set_option maxRecDepth 100000

theorem minE (a b : Nat) : (bif false then if Int.ofNat b > Int.ofNat a then Int.ofNat b else Int.ofNat a else if Int.ofNat b < Int.ofNat a then Int.ofNat b else Int.ofNat a) = Int.ofNat (min a b) := by
  simp only [cond_false, Int.ofNat_eq_natCast]
  split <;> simp only [Int.natCast_inj] <;> omega

theorem prefix_true (args : List PV) (h : ArgsOf Try.prog [22, 22] args) : ∃ d Hc, evC (cfgL LF) d Unit noY 3 args [] () = some (.s (.bool true), Hc, ()) := by
  obtain ⟨v1, q, rfl, h1, v2, q, rfl, h2, rfl⟩ := h
  obtain ⟨v, rfl, hv⟩ := arg_u64 h1
  obtain ⟨w, rfl, hw⟩ := arg_u64 h2
  suffices hs : ∃ Hc, evCode (cfgL LF) (evC (cfgL LF) 0) noY (bodyOf Try.f3) ⟨([.s (.int .u64 (v : Int)), .s (.int .u64 (w : Int))] : List PV) ++ List.replicate (Try.f3.ntmps - 2) (.tup []), [], ()⟩ (retK (cfgL LF) Try.f3) = some (.s (.bool true), Hc, ()) by
    obtain ⟨Hc, e⟩ := hs
    exact ⟨1, Hc, run_of Try.func3 rfl rfl e⟩
  have e1 (n : Nat) : Int.toNat (Int.ofNat n) = n := rfl
  have lt (n : Nat) (h : n < 18446744073709551616) : u64ok (Int.ofNat n) = true := ltN_iff.mpr ⟨by simp only [Int.ofNat_eq_natCast]; omega, by simp only [Int.ofNat_eq_natCast]; omega⟩
  by_cases hvw : v = w
  · subst hvw
    exact ⟨_, l_prefA LF 0 noY () v v (lt v hv) (lt v hv) (by simp only [beq_self_eq_true]) (by simp only [encB, all_isU8, Bool.and_true]) (by simp only [beq_self_eq_true])⟩
  have h2 : (Int.ofNat v == Int.ofNat w) = false := by
    rw [beq_eq_false_iff_ne]; simp only [Int.ofNat_eq_natCast, ne_eq, Int.natCast_inj]; exact hvw
  have eb (n : Nat) : (encB n).length = (enc n).length := by simp only [encB, List.length_map]
  have et (k n : Nat) : List.take k (encB n) = List.map u8el ((enc n).take k) := by simp only [encB, List.map_take]
  have ok (a b m : Nat) (h : m = a ∨ m = b) (g : min a b = m) : True := trivial
  have c3 : (decide (0 ≤ Int.ofNat (min (enc v).length (enc w).length)) && decide (Int.ofNat (min (enc v).length (enc w).length) ≤ Int.ofNat (enc v).length)) = true := by
    rw [Bool.and_eq_true]; exact ⟨decide_eq_true (by simp only [Int.ofNat_eq_natCast]; omega), decide_eq_true (by simp only [Int.ofNat_eq_natCast]; omega)⟩
  have c4 : (decide (0 ≤ Int.ofNat (min (enc v).length (enc w).length)) && decide (Int.ofNat (min (enc v).length (enc w).length) ≤ Int.ofNat (enc w).length)) = true := by
    rw [Bool.and_eq_true]; exact ⟨decide_eq_true (by simp only [Int.ofNat_eq_natCast]; omega), decide_eq_true (by simp only [Int.ofNat_eq_natCast]; omega)⟩
  have c6 : (!(List.take (min (enc v).length (enc w).length) (enc v) == List.take (min (enc v).length (enc w).length) (enc w))) = true := by
    rw [Bool.not_eq_true', beq_eq_false_iff_ne]; exact enc_prefix hv hw hvw
  by_cases hl : (enc v).length < (enc w).length
  · have hlt : v < w := by
      rcases Nat.lt_or_ge v w with h | h
      · exact h
      · have := enc_mono h; omega
    exact ⟨_, l_prefB LF 0 noY () v w (lt v hv) (lt w hw) h2
      (by simp only [e1, eb, minE]; exact c3) (by simp only [e1, eb, minE]; exact c4)
      (by simp only [e1, eb, minE, et, all_isU8, Bool.and_true]) (by simp only [e1, eb, minE, et, map_elU8, Nat.sub_zero]; exact c6)
      (by simp only [e1, eb]; exact decide_eq_true (by simp only [Int.ofNat_eq_natCast]; omega))
      (by rw [decide_eq_true (show Int.ofNat v < Int.ofNat w by simp only [Int.ofNat_eq_natCast]; omega)]; rfl)⟩
  have hl7 : decide (Int.ofNat (enc v).length < Int.ofNat (enc w).length) = false := decide_eq_false (by simp only [Int.ofNat_eq_natCast]; omega)
  by_cases he : (enc v).length = (enc w).length
  · exact ⟨_, l_prefC LF 0 noY () v w (lt v hv) (lt w hw) h2
      (by simp only [e1, eb, minE]; exact c3) (by simp only [e1, eb, minE]; exact c4)
      (by simp only [e1, eb, minE, et, all_isU8, Bool.and_true]) (by simp only [e1, eb, minE, et, map_elU8, Nat.sub_zero]; exact c6)
      (by simp only [e1, eb]; exact hl7) (by simp only [e1, eb, he, beq_self_eq_true]) (by simp only [beq_self_eq_true])⟩
  · have hge : ¬ v < w := fun h => by have := enc_mono (Nat.le_of_lt h); omega
    exact ⟨_, l_prefD LF 0 noY () v w (lt v hv) (lt w hw) h2
      (by simp only [e1, eb, minE]; exact c3) (by simp only [e1, eb, minE]; exact c4)
      (by simp only [e1, eb, minE, et, all_isU8, Bool.and_true]) (by simp only [e1, eb, minE, et, map_elU8, Nat.sub_zero]; exact c6)
      (by simp only [e1, eb]; exact hl7) (by simp only [e1, eb]; rw [beq_eq_false_iff_ne]; simp only [Int.ofNat_eq_natCast, ne_eq, Int.natCast_inj]; exact he)
      (by rw [decide_eq_false (show ¬ Int.ofNat v < Int.ofNat w by simp only [Int.ofNat_eq_natCast]; omega)]; rfl)⟩

theorem prefix_lifted (os : Os) (started : os.Started) (H : Type) (enc : TypeId × Value → H) :
    ReturnsInHanded {} Try.checked os 3 .any (Rows.wirePrefixFreeSpec.pre6 enc Try.prog Try.f3 Rows.wirePrefixFreeRow.domain false) (Rows.wirePrefixFreeSpec.post enc Try.prog Try.f3 false true false false) := by
  refine returnsInHanded_of_change (C := Try.checked) own started (by kernel_rfl) Try.func3
    (ChangeSpec.witness6 (enc := enc) (C := Try.checked) false ⟨#[], #[.int .u64 0, .int .u64 0], []⟩ 8 (by kernel_rfl) (by kernel_rfl) (by kernel_rfl) (by kernel_rfl)) ?_
  intro W base args ds gs before hval hW _ _
  exact contract (C := cfgL LF) (tb := 4) (XFacts.ok (l := X3) rfl x3) okLaws follows laidOut Try.func3 (c := bodyOf Try.f3) rfl (by kernel_rfl)
    (by
      intro t ht
      have : t = 22 := by simpa using (show t ∈ [22, 22] from ht)
      subst this
      exact ⟨⟨by kernel_rfl, of_decide_eq_true (by kernel_rfl)⟩, by kernel_rfl⟩) rfl (by kernel_rfl) rfl
    (fun ds hds => by
      match ds, hds with
      | [d1, d2], _ => rfl) (fun W g cells h => by cases h) (fun args h => prefix_true args h) W base args ds gs before hval hW

theorem prefix_over : Rows.wirePrefixFreeRow.holds Try.pinned (OpenSpec.ofChange Rows.wirePrefixFreeSpec) :=
  OpenClaim.holds_of_wide 3 Try.f3 rfl rfl rfl rfl rfl rfl rfl ⟨rfl, rfl, rfl, rfl, rfl⟩ rfl rfl rfl rfl rfl (by kernel_rfl) Try.func3 (by kernel_rfl)
    (of_decide_eq_true (by kernel_rfl)) (by unfold Func.isWrapper; first | (rw [if_pos (by decide +kernel)]; kernel_rfl) | (rw [if_neg (by decide +kernel)]; exact ⟨rfl, rfl⟩))
    (fun os started H enc _ => prefix_lifted os started H enc)

/-- The statement. -/
theorem prefix_proved : Rows.WirePrefixFreeSaid := prefix_over

#print axioms prefix_proved
end Go.Proofs.Ytfioahjeanmfpaa.E
