/-
  Numbers, strings and fixed numbers are decoded as specified from arbitrary bytes: the law WireDecodesMatchSpec holds. Conditions: none.
-/
import Derived.Test.YtfioahjeanmfpaaW7
import Derived.Test.YtfioahjeanmfpaaG3
import Derived.Test.YtfioahjeanmfpaaRows
import Derived.Test.YtfioahjeanmfpaaChecked
namespace Go.Proofs.Ytfioahjeanmfpaa.E
open Go Go.Proofs Go.ChangeShapes Go.WideShapes Go.ChangeAt Go.RowKit
set_option linter.unusedVariables false
set_option linter.unusedSimpArgs false
set_option maxRecDepth 100000

theorem okLaws : OkFns (cfgL LF) := okFns_of rfl (by kernel_rfl)

/-- A slice of bytes among the arguments. -/
theorem arg_bytes {v : PV} (h : ArgOf Try.prog 23 v) : ∃ z b, v = .s (.sl z false 1 (List.map u8el b)) ∧ b.length ≤ maxLen := by
  obtain ⟨tys, l, h1, h2, h3⟩ := h
  have e : tysOf Try.prog 20 23 = some [.slice [.int .u8]] := by kernel_rfl
  rw [e] at h1
  simp only [Option.some.injEq] at h1
  subst h1
  have ha : aggOf Try.prog 23 = false := by kernel_rfl
  rcases h3 with ⟨h3, _⟩ | ⟨_, x, rfl, rfl⟩
  · rw [ha] at h3; cases h3
  · simp only [Ty.ofL] at h2
    obtain ⟨v, q, h4, h5, rfl⟩ := h2
    simp only [List.cons.injEq, and_true] at h4
    subst h4
    simp only [Ty.of, List.length_cons, List.length_nil] at h5
    rcases h5 with rfl | ⟨els, rfl, hl, hall⟩
    · exact ⟨true, [], rfl, by simp⟩
    · obtain ⟨b, rfl⟩ := bytes_of_Ty hall
      exact ⟨false, b, rfl, by simpa using hl⟩

theorem decodes_true (args : List PV) (h : ArgsOf Try.prog [23] args) : ∃ d Hc, evC (cfgL LF) d Unit noY 6 args [] () = some (.s (.bool true), Hc, ()) := by
  obtain ⟨v, q, rfl, h1, rfl⟩ := h
  obtain ⟨z, b, rfl, hb⟩ := arg_bytes h1
  refine ⟨1, [], run_of Try.func6 rfl rfl ((l_decodes LF 0 noY () z false b).trans ?_)⟩
  simp only [all_isU8, map_elU8, List.length_map, Int.ofNat_eq_natCast, Bool.true_and, cond_true, beq_self_eq_true]
  by_cases hl : (b.length : Int) > 6000
  · rw [decide_eq_true hl]; rfl
  · rw [decide_eq_false hl, decide_eq_true (by omega : b.length ≤ 1000000000)]; rfl

theorem own : ownKnob Try.prog.godebug = none := by kernel_rfl
theorem laidOut : laidOutB Try.prog = true := by kernel_rfl

theorem decodes_lifted (os : Os) (started : os.Started) (H : Type) (enc : TypeId × Value → H) :
    ReturnsInHanded {} Try.checked os 6 .any (Rows.wireDecodesMatchSpecSpec.pre6 enc Try.prog Try.f6 Rows.wireDecodesMatchSpecRow.domain false) (Rows.wireDecodesMatchSpecSpec.post enc Try.prog Try.f6 false true false false) := by
  refine returnsInHanded_of_change (C := Try.checked) own started (by kernel_rfl) Try.func6
    (ChangeSpec.witness6 (enc := enc) (C := Try.checked) false ⟨#[], #[.slice none 0 0], []⟩ 8 (by kernel_rfl) (by kernel_rfl) (by kernel_rfl) (by kernel_rfl)) ?_
  intro W base args ds gs before hval hW _ _
  exact contract (C := cfgL LF) (tb := 4) (XFacts.ok (l := X3) rfl x3) okLaws follows laidOut Try.func6 (c := bodyOf Try.f6) rfl (by kernel_rfl)
    (by
      intro t ht
      have : t = 23 := by simpa using (show t ∈ [23] from ht)
      subst this
      exact ⟨⟨by kernel_rfl, of_decide_eq_true (by kernel_rfl)⟩, by kernel_rfl⟩) rfl (by kernel_rfl) rfl
    (fun ds hds => by
      match ds, hds with
      | [d], _ => rfl) (fun W g cells h => by cases h) (fun args h => decodes_true args h) W base args ds gs before hval hW

theorem decodes_over : Rows.wireDecodesMatchSpecRow.holds Try.pinned (OpenSpec.ofChange Rows.wireDecodesMatchSpecSpec) :=
  OpenClaim.holds_of_wide 6 Try.f6 rfl rfl rfl rfl rfl rfl rfl ⟨rfl, rfl, rfl, rfl, rfl⟩ rfl rfl rfl rfl rfl (by kernel_rfl) Try.func6 (by kernel_rfl)
    (of_decide_eq_true (by kernel_rfl)) (by unfold Func.isWrapper; first | (rw [if_pos (by decide +kernel)]; kernel_rfl) | (rw [if_neg (by decide +kernel)]; exact ⟨rfl, rfl⟩))
    (fun os started H enc _ => decodes_lifted os started H enc)

/-- The statement. -/
theorem decodes_proved : Rows.WireDecodesMatchSpecSaid := decodes_over

#print axioms decodes_proved
end Go.Proofs.Ytfioahjeanmfpaa.E
