/-
  Decoding what was encoded returns the value and the number of its bytes, whatever follows: the law WireRoundTrip holds. Conditions: none.
-/
import Derived.Test.YtfioahjeanmfpaaL6
import Derived.Test.YtfioahjeanmfpaaG6
namespace Go.Proofs.Ytfioahjeanmfpaa.E
open Go Go.Proofs Go.ChangeShapes Go.WideShapes Go.ChangeAt Go.RowKit
set_option linter.unusedVariables false
set_option linter.unusedSimpArgs false
set_option maxRecDepth 100000

theorem clean_two (b : Bool) (l : List UInt8) : List.all [Blk.dead, Blk.arr b 5 1 (List.map u8el l)] Blk.clean = true := by
  have h : (List.map u8el l).all (fun el => el.all SV.plain) = true := by
    simp only [List.all_eq_true, List.mem_map]
    rintro el ⟨c, _, rfl⟩
    intro v hv
    simp only [u8el, List.mem_singleton] at hv
    subst hv
    rfl
  simp only [List.all_cons, List.all_nil, Blk.clean, h, Bool.and_true]

theorem arg_int {P : Program} {t : Nat} {k : IntKind} {v : PV} (e : tysOf P 20 t = some [.int k]) (ha : aggOf P t = false) (h : ArgOf P t v) : ∃ n : Int, v = .s (.int k n) ∧ k.min ≤ n ∧ n ≤ k.max := by
  obtain ⟨tys, l, h1, h2, h3⟩ := h
  rw [e] at h1
  simp only [Option.some.injEq] at h1
  subst h1
  rcases h3 with ⟨h3, _⟩ | ⟨_, x, rfl, rfl⟩
  · rw [ha] at h3; cases h3
  · simp only [Ty.ofL] at h2
    obtain ⟨v, q, h4, h5, rfl⟩ := h2
    simp only [List.cons.injEq, and_true] at h4
    subst h4
    simp only [Ty.of] at h5
    obtain ⟨n, rfl, h6, h7⟩ := h5
    exact ⟨n, rfl, h6, h7⟩

theorem arg_str {P : Program} {t : Nat} {v : PV} (e : tysOf P 20 t = some [.str]) (ha : aggOf P t = false) (h : ArgOf P t v) : ∃ l, v = .s (.str l) ∧ l.length ≤ maxLen := by
  obtain ⟨tys, l, h1, h2, h3⟩ := h
  rw [e] at h1
  simp only [Option.some.injEq] at h1
  subst h1
  rcases h3 with ⟨h3, _⟩ | ⟨_, x, rfl, rfl⟩
  · rw [ha] at h3; cases h3
  · simp only [Ty.ofL] at h2
    obtain ⟨v, q, h4, h5, rfl⟩ := h2
    simp only [List.cons.injEq, and_true] at h4
    subst h4
    simp only [Ty.of] at h5
    obtain ⟨n, rfl, h6⟩ := h5
    exact ⟨n, rfl, h6⟩

theorem arg_u64 {v : PV} (h : ArgOf Try.prog 22 v) : ∃ n : Nat, v = .s (.int .u64 (n : Int)) ∧ n < 18446744073709551616 := by
  obtain ⟨n, rfl, h1, h2⟩ := arg_int (k := .u64) (by kernel_rfl) (by kernel_rfl) h
  simp [IntKind.min, IntKind.max, IntKind.signed, IntKind.bits] at h1 h2
  exact ⟨n.toNat, by rw [Int.toNat_of_nonneg h1], by omega⟩

theorem round_true (args : List PV) (h : ArgsOf Try.prog [22, 9, 23] args) : ∃ d Hc, evC (cfgL LF) d Unit noY 7 args [] () = some (.s (.bool true), Hc, ()) := by
  obtain ⟨v1, q, rfl, h1, v2, q, rfl, h2, v3, q, rfl, h3, rfl⟩ := h
  obtain ⟨v, rfl, hv⟩ := arg_u64 h1
  obtain ⟨x, rfl, hx⟩ := arg_str (by kernel_rfl) (by kernel_rfl) h2
  obtain ⟨z, rest, rfl, hrest⟩ := arg_bytes h3
  suffices hs : ∃ Hc, evCode (cfgL LF) (evC (cfgL LF) 0) noY (bodyOf Try.f7) ⟨([.s (.int .u64 (v : Int)), .s (.str x), .s (.sl z false 1 (rest.map u8el))] : List PV) ++ List.replicate (Try.f7.ntmps - 3) (.tup []), [], ()⟩ (retK (cfgL LF) Try.f7) = some (.s (.bool true), Hc, ()) by
    obtain ⟨Hc, e⟩ := hs
    exact ⟨1, Hc, run_of Try.func7 rfl rfl e⟩
  by_cases hA : x.length > 4096
  · exact ⟨_, l_roundA LF 0 noY () z false v x rest (decide_eq_true (by simp only [Int.ofNat_eq_natCast]; omega))⟩
  have h0 : decide (Int.ofNat x.length > 4096) = false := decide_eq_false (by simp only [Int.ofNat_eq_natCast]; omega)
  by_cases hB : rest.length > 1000
  · exact ⟨_, l_roundB LF 0 noY () z false v x rest h0 (decide_eq_true (by simp only [List.length_map, Int.ofNat_eq_natCast]; omega))⟩
  have e1 : Int.toNat (Int.ofNat v) = v := rfl
  have e2 : IntKind.wrap IntKind.u32 (Int.ofNat v) = ((v % 4294967296 : Nat) : Int) := wrapu32 v
  have e3 : v % 4294967296 < 4294967296 := Nat.mod_lt _ (by decide)
  have lv := enc_len64 hv
  have lx := enc_len64 (v := x.length) (by omega)
  have m (a b : List UInt8) : List.map u8el a ++ List.map u8el b = List.map u8el (a ++ b) := (List.map_append).symm
  have f4 (n : Nat) : (fix4 n).length = 4 := rfl
  exact ⟨_, l_roundC LF 0 noY () z false v x rest h0
    (decide_eq_false (by simp only [List.length_map, Int.ofNat_eq_natCast]; omega))
    (ltN_iff.mpr ⟨by simp only [Int.ofNat_eq_natCast]; omega, by simp only [Int.ofNat_eq_natCast]; omega⟩)
    (decide_eq_true (by omega))
    (by rw [e2]; exact ltN_iff.mpr ⟨by omega, by omega⟩)
    (decide_eq_true (by simp only [e1, encB, List.length_map]; omega))
    (clean_two _ _)
    (decide_eq_true (by simp only [e1, encB, List.length_map]; omega))
    (by simp only [e1, encB, m, all_isU8])
    (decide_eq_true (by simp only [encB, List.length_map, List.length_append]; omega))
    (by simp only [encB, m]; exact clean_two _ _)
    (decide_eq_true (by simp only [encB, List.length_map, List.length_append]; omega))
    (by simp only [encB, m, all_isU8, Bool.true_and]; exact decide_eq_true (by simp only [List.length_map, List.length_append]; omega))
    (decide_eq_true (by simp only [List.length_map, f4]; omega))
    (clean_two _ _)
    (decide_eq_true (by simp only [List.length_map, f4]; omega))
    (by simp only [m, all_isU8])
    (by simp only [e1, encB, m, map_elU8, decU_enc hv]; rfl)
    (by simp only [e1, encB, m, map_elU8, decU_enc hv, beq_self_eq_true])
    (by simp only [e1, encB, m, map_elU8, decU_enc hv, List.length_map, beq_self_eq_true])
    (by simp only [encB, m, map_elU8, decT_enc (Nat.le_of_not_lt hA)]; rfl)
    (by simp only [encB, m, map_elU8, decT_enc (Nat.le_of_not_lt hA), beq_self_eq_true])
    (by simp only [encB, m, map_elU8, decT_enc (Nat.le_of_not_lt hA), List.length_map, beq_self_eq_true])
    (by simp only [e2, Int.toNat_natCast, m, map_elU8, decF_fix4 e3]; rfl)
    (by rw [e2]; simp only [Int.toNat_natCast, m, map_elU8, decF_fix4 e3, Int.ofNat_eq_natCast, beq_self_eq_true])
    (by simp only [List.length_map, f4]; rfl)⟩

theorem round_lifted (os : Os) (started : os.Started) (H : Type) (enc : TypeId × Value → H) :
    ReturnsInHanded {} Try.checked os 7 .any (Rows.wireRoundTripSpec.pre6 enc Try.prog Try.f7 Rows.wireRoundTripRow.domain false) (Rows.wireRoundTripSpec.post enc Try.prog Try.f7 false true false false) := by
  refine returnsInHanded_of_change (C := Try.checked) own started (by kernel_rfl) Try.func7
    (ChangeSpec.witness6 (enc := enc) (C := Try.checked) false ⟨#[], #[.int .u64 0, .string ⟨#[]⟩, .slice none 0 0], []⟩ 8 (by kernel_rfl) (by kernel_rfl) (by kernel_rfl) (by kernel_rfl)) ?_
  intro W base args ds gs before hval hW _ _
  exact contract (C := cfgL LF) (tb := 4) (XFacts.ok (l := X3) rfl x3) okLaws follows laidOut Try.func7 (c := bodyOf Try.f7) rfl (by kernel_rfl)
    (by
      intro t ht
      have : t = 22 ∨ t = 9 ∨ t = 23 := by simpa using (show t ∈ [22, 9, 23] from ht)
      rcases this with rfl | rfl | rfl <;> exact ⟨⟨by kernel_rfl, of_decide_eq_true (by kernel_rfl)⟩, by kernel_rfl⟩) rfl (by kernel_rfl) rfl
    (fun ds hds => by
      match ds, hds with
      | [d1, d2, d3], _ => rfl) (fun W g cells h => by cases h) (fun args h => round_true args h) W base args ds gs before hval hW

theorem round_over : Rows.wireRoundTripRow.holds Try.pinned (OpenSpec.ofChange Rows.wireRoundTripSpec) :=
  OpenClaim.holds_of_wide 7 Try.f7 rfl rfl rfl rfl rfl rfl rfl ⟨rfl, rfl, rfl, rfl, rfl⟩ rfl rfl rfl rfl rfl (by kernel_rfl) Try.func7 (by kernel_rfl)
    (of_decide_eq_true (by kernel_rfl)) (by unfold Func.isWrapper; first | (rw [if_pos (by decide +kernel)]; kernel_rfl) | (rw [if_neg (by decide +kernel)]; exact ⟨rfl, rfl⟩))
    (fun os started H enc _ => round_lifted os started H enc)

/-- The statement. -/
theorem round_proved : Rows.WireRoundTripSaid := round_over

#print axioms round_proved
end Go.Proofs.Ytfioahjeanmfpaa.E
