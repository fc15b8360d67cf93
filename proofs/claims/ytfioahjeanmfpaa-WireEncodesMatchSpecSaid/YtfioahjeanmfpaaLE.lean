/-
  Encodings are appended as specified, and the argument is unchanged, also in its spare capacity: the law WireEncodesMatchSpec holds. Conditions: none.
-/
import Derived.Test.YtfioahjeanmfpaaF1
import Derived.Test.YtfioahjeanmfpaaRows
import Derived.Test.YtfioahjeanmfpaaChecked
namespace Go.Proofs.Ytfioahjeanmfpaa.E
open Go Go.Proofs Go.ChangeShapes Go.WideShapes Go.ChangeAt Go.RowKit
set_option linter.unusedVariables false
set_option linter.unusedSimpArgs false
set_option maxRecDepth 100000

noncomputable def c_awake (lf : Nat) : Cfg := mkCfg lf [10, 8, 12, 17, 23] (fun _ => none) []
theorem awake_run : resTrue (evC (c_awake LF) 9 Unit noY 10 [] [] ()) = true := by kernel_rfl
theorem x_awake : XFact Try.prog (fun _ => none) 10 X_awake :=
  XFact.fix (pf := X_awake0) _ (by
    have h := xfact_true (C₀ := c_awake LF) (XFacts.ok (l := []) rfl trivial) (okFns_of rfl (by kernel_rfl)) follows awake_run
    have e : (fun args : List PV => match args with | [] => Tr.ret (.s (.bool true)) [] | _ => .fail) = X_awake0 := by
      funext args
      cases args <;> rfl
    rw [← e]
    exact h)

theorem sevens : [[SV.int .u8 (7 : Int)], [SV.int .u8 (7 : Int)], [SV.int .u8 (7 : Int)], [SV.int .u8 (7 : Int)], [SV.int .u8 (7 : Int)], [SV.int .u8 (7 : Int)], [SV.int .u8 (7 : Int)], [SV.int .u8 (7 : Int)], [SV.int .u8 (7 : Int)], [SV.int .u8 (7 : Int)], [SV.int .u8 (7 : Int)]] = (List.replicate 11 (7 : UInt8)).map u8el := rfl

theorem fix4L_u8 (v : Int) : ∃ bs : List UInt8, fix4L v = bs.map u8el ∧ bs.length = 4 := by
  have key : ∀ n : Int, ∃ b : UInt8, [SV.int .u8 (wu8 n)] = u8el b := fun n => by
    refine ⟨UInt8.ofNat (wu8 n).toNat, ?_⟩
    have h : 0 ≤ wu8 n ∧ wu8 n < 256 := by
      unfold wu8
      simp only [IntKind.wrap, IntKind.bits, IntKind.signed]
      simp
      omega
    obtain ⟨m, hm⟩ := Int.eq_ofNat_of_zero_le h.1
    rw [hm, Int.toNat_natCast, u8el_nat (by omega)]
  obtain ⟨a, ha⟩ := key v
  obtain ⟨b, hb⟩ := key (shrI .u32 v 8)
  obtain ⟨c, hc⟩ := key (shrI .u32 v 16)
  obtain ⟨d, hd⟩ := key (shrI .u32 v 24)
  refine ⟨[a, b, c, d], ?_, rfl⟩
  unfold fix4L
  rw [ha, hb, hc, hd]
  rfl

theorem lawE_loop {R : Type} {k0 : LL → LL → LL → LL → Option R} {k1 : Bool → Bool → LL → Nat → LL → LL → LL → LL → Option R} (z t : Bool) (b : List UInt8) (m : Nat) (l6 l7 l8 : LL) (hb : b.length ≤ 2000) : ∀ (r i n : Nat), i + r = b.length + 11 → b.length ≤ i → r < n →
    lawE_l8 LF n z t (b.map u8el) m (i : Int) ((b ++ List.replicate 11 (7 : UInt8)).map u8el) l6 l7 l8 k0 k1 = k1 z t (b.map u8el) m ((b ++ List.replicate 11 (7 : UInt8)).map u8el) l6 l7 l8 := by
  intro r
  induction r with
  | zero =>
    intro i n hi hb hn
    obtain ⟨n, rfl⟩ : ∃ m, n = m + 1 := ⟨n - 1, by omega⟩
    rw [lawE_l8_s]
    unfold lawE_l8f lawE_a7
    rw [ltI_f (by simp; omega)]
    rfl
  | succ r ih =>
    intro i n hi hb hn
    obtain ⟨n, rfl⟩ : ∃ m, n = m + 1 := ⟨n - 1, by omega⟩
    rw [lawE_l8_s]
    unfold lawE_l8f lawE_a7
    have hlen : (b ++ List.replicate 11 (7 : UInt8)).length = b.length + 11 := by simp
    rw [ltI_t (by rw [List.length_map, hlen]; omega), inR_t (by omega) (by rw [List.length_map, hlen]; omega), Int.toNat_natCast, okE_u8 _ _ (by rw [hlen]; omega), gE_u8]
    have hg : (b ++ List.replicate 11 (7 : UInt8)).getD i 0 = 7 := by
      rw [List.getD_eq_getElem?_getD, List.getElem?_append_right (by omega), List.getElem?_replicate, if_pos (by omega)]
      rfl
    rw [hg]
    simp only [cond_true]
    rw [show ((((7 : UInt8).toNat : Nat) : Int) != 7) = false from rfl, cond_false, wi64_id (by omega) (by omega)]
    exact ih (i + 1) n (by omega) (by omega) (by omega)

theorem lawE_true (z t : Bool) (b : List UInt8) (v : Int) (s : By) (hz : z = true → b = []) (hv0 : 0 ≤ v) (hv1 : v < 18446744073709551616) :
    ∃ H, lawE LF z t (b.map u8el) v s (fun _ => some (PV.s (.bool true), ([] : List Blk), ())) (fun b0 l1 l2 l3 l4 => some (PV.s (.bool b0), [.arr false 5 1 l1, .arr false 5 1 l2, .arr false 5 1 l3, .arr false 5 1 l4], ())) = some (.s (.bool true), H, ()) := by
  have hLF := LF_big
  unfold lawE lawE_a1
  by_cases h1 : (2000 : Int) < b.length
  · rw [List.length_map, ltI_t h1]; exact ⟨_, rfl⟩
  rw [List.length_map, ltI_f (by omega)]
  by_cases h2 : (5000 : Int) < s.length
  · rw [ltI_t h2]; exact ⟨_, rfl⟩
  rw [ltI_f (by omega)]
  simp only [cond_false]
  unfold lawE_a2
  rw [sevens, ← List.map_append]
  have hlen : (b ++ List.replicate 11 (7 : UInt8)).length = b.length + 11 := by simp
  simp only [List.length_map, roomy_of (show b.length ≤ 68719476736 by omega), roomy_of (show b.length + 11 ≤ 68719476736 by omega), cond_true, hlen, sub3_t (show (0 : Int) ≤ 0 by omega) (show (0 : Int) ≤ (b.length : Int) by omega) (show (b.length : Int) ≤ ((b.length + 11 : Nat) : Int) by omega)]
  have htk : List.take (Int.toNat (b.length : Int) - 0) (List.drop 0 ((b ++ List.replicate 11 (7 : UInt8)).map u8el)) = b.map u8el := by
    rw [Int.toNat_natCast, Nat.sub_zero, List.drop_zero, ← List.map_take, List.take_left']
    rfl
  obtain ⟨f4, hf4, hf4l⟩ := fix4L_u8 (wu32 v)
  have hu : u64ok v = true := u64ok_iff.2 ⟨hv0, hv1⟩
  have hsm : small b.length = true := small_iff.2 (by omega)
  have hss : small s.length = true := small_iff.2 (by omega)
  have he1 := (enc_len64 (v := v.toNat) (by omega)).2
  have he2 := (enc_len64 (v := s.length) (by omega)).2
  unfold lawE_a4
  rw [htk]
  simp only [Bool.not_false, Bool.or_true, cond_true, List.length_map, hsm, hss, hu]
  unfold lawE_a5
  have r1 : roomy (b.length + (enc v.toNat).length) = true := roomy_of (by omega)
  have r2 : roomy (b.length + ((enc s.length).length + s.length)) = true := roomy_of (by omega)
  have r3 : roomy (b.length + f4.length) = true := roomy_of (by omega)
  simp only [encB, hf4, ← List.map_append, List.length_map, List.length_append, roomy_of (show b.length ≤ 68719476736 by omega), hu, hss, r1, r2, r3, all_isU8, map_elU8, cond_true, List.append_assoc, beq_self_eq_true, Bool.not_true, cond_false]
  rw [lawE_loop z t b _ _ _ _ (by omega) 11 b.length LF (by omega) (by omega) (by omega)]
  unfold lawE_a12
  rw [htk]
  simp only [all_isU8, map_elU8, cond_true, beq_self_eq_true, plE_u8, Bool.and_true]
  exact ⟨_, rfl⟩

theorem encodes_true (args : List PV) (h : ArgsOf Try.prog [23, 22, 9] args) : ∃ d Hc, evC (c_lawE LF) d Unit noY 4 args [] () = some (.s (.bool true), Hc, ()) := by
  obtain ⟨v1, q1, rfl, h1, v2, q2, rfl, h2, v3, q3, rfl, h3, rfl⟩ := h
  obtain ⟨z, b, rfl, hb, hz⟩ := arg_bytes h1 (by kernel_rfl) (by kernel_rfl)
  obtain ⟨v, rfl, hv0, hv1⟩ := arg_int (k := .u64) h2 (by kernel_rfl) (by kernel_rfl)
  obtain ⟨s, rfl, hs⟩ := arg_str h3 (by kernel_rfl) (by kernel_rfl)
  simp [IntKind.min, IntKind.max, IntKind.signed, IntKind.bits] at hv0 hv1
  obtain ⟨H, e⟩ := lawE_true z false b v s hz hv0 (by omega)
  exact ⟨1, H, (lawE_ev LF noY () 0 z false (b.map u8el) v s).trans e⟩

theorem own : ownKnob Try.prog.godebug = none := by kernel_rfl
theorem laidOut : laidOutB Try.prog = true := by kernel_rfl

theorem encodes_lifted (os : Os) (started : os.Started) (H : Type) (enc : TypeId × Value → H) :
    ReturnsInHanded {} Try.checked os 4 .any (Rows.wireEncodesMatchSpecSpec.pre6 enc Try.prog Try.f4 Rows.wireEncodesMatchSpecRow.domain false) (Rows.wireEncodesMatchSpecSpec.post enc Try.prog Try.f4 false true false false) := by
  refine returnsInHanded_of_change (C := Try.checked) own started (by kernel_rfl) Try.func4
    (ChangeSpec.witness6 (enc := enc) (C := Try.checked) false ⟨#[], #[.slice none 0 0, .int .u64 0, .string ⟨#[]⟩], []⟩ 8 (by kernel_rfl) (by kernel_rfl) (by kernel_rfl) (by kernel_rfl)) ?_
  intro W base args ds gs before hval hW _ _
  exact contract (C := c_lawE LF) (tb := 4) (XFacts.ok (l := [(10, X_awake), (11, X_kown), (8, X_app), (12, X_apptext), (13, X_appfix), (14, X_ruint), (9, X_kbytes), (15, X_rtext), (16, X_rfix)]) rfl ⟨x_awake, x_kown, x_app, x_apptext, x_appfix, x_ruint, x_kbytes, x_rtext, x_rfix, trivial⟩) (okFns_of rfl (by kernel_rfl)) follows laidOut Try.func4 (c := bodyOf Try.f4) rfl (by kernel_rfl)
    (by
      intro t ht
      have : t = 23 ∨ t = 22 ∨ t = 9 := by simpa using (show t ∈ [23, 22, 9] from ht)
      rcases this with rfl | rfl | rfl
      · exact ⟨⟨by kernel_rfl, of_decide_eq_true (by kernel_rfl)⟩, by kernel_rfl⟩
      · exact ⟨⟨by kernel_rfl, of_decide_eq_true (by kernel_rfl)⟩, by kernel_rfl⟩
      · exact ⟨⟨by kernel_rfl, of_decide_eq_true (by kernel_rfl)⟩, by kernel_rfl⟩) rfl (by kernel_rfl) rfl
    (fun ds hds => by
      match ds, hds with
      | [d, d2, d3], _ => rfl) (fun W g cells h => by cases h) (fun args h => encodes_true args h) W base args ds gs before hval hW

theorem encodes_over : Rows.wireEncodesMatchSpecRow.holds Try.pinned (OpenSpec.ofChange Rows.wireEncodesMatchSpecSpec) :=
  OpenClaim.holds_of_wide 4 Try.f4 rfl rfl rfl rfl rfl rfl rfl ⟨rfl, rfl, rfl, rfl, rfl⟩ rfl rfl rfl rfl rfl (by kernel_rfl) Try.func4 (by kernel_rfl)
    (of_decide_eq_true (by kernel_rfl)) (by unfold Func.isWrapper; first | (rw [if_pos (by decide +kernel)]; kernel_rfl) | (rw [if_neg (by decide +kernel)]; exact ⟨rfl, rfl⟩))
    (fun os started H enc _ => encodes_lifted os started H enc)

/-- The statement. -/
theorem encodes_proved : Rows.WireEncodesMatchSpecSaid := encodes_over

#print axioms encodes_proved
end Go.Proofs.Ytfioahjeanmfpaa.E
