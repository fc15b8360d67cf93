/-
  Whatever is decoded has exactly the bytes of its encoding: the law WireCanonical holds. Conditions: none.
-/
import Derived.Test.YtfioahjeanmfpaaF3
import Derived.Test.YtfioahjeanmfpaaRows
import Derived.Test.YtfioahjeanmfpaaChecked
namespace Go.Proofs.Ytfioahjeanmfpaa.E
open Go Go.Proofs Go.ChangeShapes Go.WideShapes Go.ChangeAt Go.RowKit
set_option linter.unusedVariables false
set_option linter.unusedSimpArgs false
set_option maxRecDepth 100000

noncomputable def c_awake (lf : Nat) : Cfg := mkCfg lf [10, 8, 12, 17, 23] (fun _ => none) []
theorem awake_run : resTrue (evC (c_awake LF) 9 Unit noY 10 [] [] ()) = true := by kernel_rfl
theorem x_awake : XFact Try.prog G0 10 X_awake :=
  XFact.fix (pf := X_awake0) _ (by
    have h := xfact_true (C₀ := c_awake LF) (XFacts.ok (l := []) rfl trivial) (okFns_of rfl (by kernel_rfl)) follows awake_run
    have e : (fun args : List PV => match args with | [] => Tr.ret (.s (.bool true)) [] | _ => .fail) = X_awake0 := by
      funext args
      cases args <;> rfl
    rw [← e]
    exact h)

theorem encB_u8 (v : Nat) : (encB v).all isU8 = true ∧ (encB v).map elU8 = enc v := ⟨all_isU8 _, map_elU8 _⟩

theorem cut0 (bs : List UInt8) (n : Nat) : cut (bs.map u8el) 0 (n : Int) = (bs.take n).map u8el := by
  unfold cut
  rw [Int.toNat_natCast, ← List.map_take]
  rfl

theorem lawC_true (z t : Bool) (b : List UInt8) : lawC LF z t (b.map u8el) (fun r0 => some (PV.s (.bool r0), ([] : List Blk), ())) = some (.s (.bool true), [], ()) := by
  unfold lawC
  by_cases h1 : (6000 : Int) < b.length
  · rw [List.length_map, ltI_t h1]; rfl
  rw [List.length_map, ltI_f (by omega)]
  have hs : small (b.map u8el).length = true := small_iff.2 (by rw [List.length_map]; omega)
  unfold lawC_a2
  simp only [cond_false, all_isU8, hs, cond_true, map_elU8]
  have step1 : ∀ (k : Bool → Bool → LL → Bool → Option (PV × List Blk × Unit)), lawC_a3 z t (b.map u8el) ((decU b).1 : Int) ((decU b).2.1 : Int) ((decU b).2.2 : Int) k = k z t (b.map u8el) false := by
    intro k
    unfold lawC_a3
    by_cases he : (decU b).2.2 = 0
    · obtain ⟨c1, c2, c3, c4⟩ := decU_canon (bs := b) (x := (decU b).1) (n := (decU b).2.1) (by rw [← he])
      have c5 := (enc_len64 c1).1
      rw [show (((decU b).2.2 : Int) == 0) = true by rw [he]; rfl, ltI_f (by omega), List.length_map, ltI_f (by omega), u64ok_iff.2 ⟨by omega, by omega⟩, sub3_t (by omega) (by omega) (by omega), Int.toNat_natCast, (encB_u8 _).1, (encB_u8 _).2, cut0, all_isU8, map_elU8, ← c4]
      simp
    · rw [show (((decU b).2.2 : Int) == 0) = false by rw [beq_eq_false_iff_ne]; omega]
      rfl
  rw [step1]
  unfold lawC_a5
  simp only [cond_false, all_isU8, hs, cond_true, map_elU8]
  have step2 : ∀ (k : Bool → Option (PV × List Blk × Unit)), lawC_a6 (b.map u8el) (decT b).1 ((decT b).2.1 : Int) ((decT b).2.2 : Int) k = k false := by
    intro k
    unfold lawC_a6
    by_cases he : (decT b).2.2 = 0
    · obtain ⟨c1, c2, c3, c4⟩ := decT_canon (bs := b) (s := (decT b).1) (n := (decT b).2.1) (by rw [← he])
      rw [show (((decT b).2.2 : Int) == 0) = true by rw [he]; rfl, ltI_f (by omega), List.length_map, ltI_f (by omega), small_iff.2 (by omega), sub3_t (by omega) (by omega) (by omega), cut0, all_isU8, map_elU8]
      unfold encB
      rw [← List.map_append, all_isU8, map_elU8, c1]
      simp
    · rw [show (((decT b).2.2 : Int) == 0) = false by rw [beq_eq_false_iff_ne]; omega]
      rfl
  rw [step2]
  rfl

theorem canon_true (args : List PV) (h : ArgsOf Try.prog [23] args) : ∃ d Hc, evC (c_lawC LF) d Unit noY 5 args [] () = some (.s (.bool true), Hc, ()) := by
  obtain ⟨v1, q1, rfl, h1, rfl⟩ := h
  obtain ⟨z, b, rfl, hb, hz⟩ := arg_bytes h1 (by kernel_rfl) (by kernel_rfl)
  exact ⟨1, [], (lawC_ev LF noY () 0 z false (b.map u8el)).trans (lawC_true z false b)⟩

theorem own : ownKnob Try.prog.godebug = none := by kernel_rfl
theorem laidOut : laidOutB Try.prog = true := by kernel_rfl

theorem canon_lifted (os : Os) (started : os.Started) (H : Type) (enc : TypeId × Value → H) :
    ReturnsInHanded {} Try.checked os 5 .any (Rows.wireCanonicalSpec.pre6 enc Try.prog Try.f5 Rows.wireCanonicalRow.domain false) (Rows.wireCanonicalSpec.post enc Try.prog Try.f5 false true false false) := by
  refine returnsInHanded_of_change (C := Try.checked) own started (by kernel_rfl) Try.func5
    (ChangeSpec.witness6 (enc := enc) (C := Try.checked) false ⟨#[], #[.slice none 0 0], []⟩ 8 (by kernel_rfl) (by kernel_rfl) (by kernel_rfl) (by kernel_rfl)) ?_
  intro W base args ds gs before hval hW _ _
  exact contract (C := c_lawC LF) (tb := 4) (XFacts.ok (l := [(10, X_awake), (17, X_wuint), (8, X_app), (9, X_kbytes), (18, X_wtext), (12, X_apptext)]) rfl ⟨x_awake, x_wuint, x_app, x_kbytes, x_wtext, x_apptext, trivial⟩) (okFns_of rfl (by kernel_rfl)) follows laidOut Try.func5 (c := bodyOf Try.f5) rfl (by kernel_rfl)
    (by
      intro t ht
      have : t = 23 := by simpa using (show t ∈ [23] from ht)
      subst this
      exact ⟨⟨by kernel_rfl, of_decide_eq_true (by kernel_rfl)⟩, by kernel_rfl⟩) rfl (by kernel_rfl) rfl
    (fun ds hds => by
      match ds, hds with
      | [d], _ => rfl) (fun args h => canon_true args h) W (GOK.none rfl) base args ds gs before hval hW

theorem canon_over : Rows.wireCanonicalRow.holds Try.pinned (OpenSpec.ofChange Rows.wireCanonicalSpec) :=
  OpenClaim.holds_of_wide 5 Try.f5 rfl rfl rfl rfl rfl rfl rfl ⟨rfl, rfl, rfl, rfl, rfl⟩ rfl rfl rfl rfl rfl (by kernel_rfl) Try.func5 (by kernel_rfl)
    (of_decide_eq_true (by kernel_rfl)) (by unfold Func.isWrapper; first | (rw [if_pos (by decide +kernel)]; kernel_rfl) | (rw [if_neg (by decide +kernel)]; exact ⟨rfl, rfl⟩))
    (fun os started H enc _ => canon_lifted os started H enc)

/-- The statement. -/
theorem canon_proved : Rows.WireCanonicalSaid := canon_over

#print axioms canon_proved
end Go.Proofs.Ytfioahjeanmfpaa.E
