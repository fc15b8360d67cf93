/-
  Wire: strings.
-/
import Derived.Test.YtfioahjeanmfpaaW6
import Derived.Test.YtfioahjeanmfpaaG2
namespace Go.Proofs.Ytfioahjeanmfpaa.E
open Go Go.Proofs
set_option linter.unusedVariables false
set_option linter.unusedSimpArgs false
set_option maxRecDepth 100000

theorem len64 (x : List UInt8) (h : x.length ≤ 1000000000) : u64ok (IntKind.wrap IntKind.u64 (Int.ofNat x.length)) = true ∧ Int.toNat (IntKind.wrap IntKind.u64 (Int.ofNat x.length)) = x.length := by
  rw [Int.ofNat_eq_natCast, wrapu64, Nat.mod_eq_of_lt (by omega)]
  refine ⟨?_, by simp⟩
  simp only [u64ok, ltN_iff]
  omega

theorem x_text : XFact Try.prog noG 12 textX := by
  refine xfact_of_run (C₀ := cfgT LF) (XFacts.ok (l := X2) rfl x2) okT follows ?_
  intro args ret Hc h
  unfold textX at h
  split at h
  · rename_i t k l x
    obtain ⟨h1, h2⟩ := trNeed h
    obtain ⟨rfl, rfl⟩ := trRet h2
    simp only [small, decide_eq_true_eq] at h1
    obtain ⟨e1, e2⟩ := len64 x h1
    have hl := enc_len64 (v := x.length) (by omega)
    refine ⟨rfl, 1, [.arr true 0 0 [], .dead, .dead, .arr true 5 1 (encB x.length ++ x.map u8el), .dead], [0], run_of Try.func12 rfl rfl ((text_evn LF 0 noY () t k l x).trans ?_), ?_, ?_⟩
    · rw [e1, e2, cond_true, show decide ((List.map u8el (enc x.length)).length + (List.map u8el x).length ≤ 68719476736) = true from decide_eq_true (by simp; omega)]
      rfl
    · rfl
    · rfl
  · rename_i t l x
    obtain ⟨h1, h2⟩ := trNeed h
    obtain ⟨rfl, rfl⟩ := trRet h2
    simp only [small, Bool.and_eq_true, decide_eq_true_eq] at h1
    obtain ⟨e1, e2⟩ := len64 x h1.2
    have hl := enc_len64 (v := x.length) (by omega)
    refine ⟨rfl, 1, [.arr true 0 0 [], .dead, .dead, .arr false 5 1 (l ++ encB x.length ++ x.map u8el), .dead], [0], run_of Try.func12 rfl rfl ((text_ev LF 0 noY () t l x).trans ?_), ?_, ?_⟩
    · rw [e1, e2, Bool.true_and, decide_eq_true h1.1, cond_true, show decide ((l ++ List.map u8el (enc x.length)).length + (List.map u8el x).length ≤ 68719476736) = true from decide_eq_true (by simp; omega)]
      rfl
    · rfl
    · rfl
  · exact (trFail h).elim

theorem x_rtext : XFact Try.prog noG 15 rtextX := by
  refine xfact_of_run (C₀ := cfgT LF) (XFacts.ok (l := X2) rfl x2) okT follows ?_
  intro args ret Hc h
  unfold rtextX at h
  split at h
  · rename_i x
    obtain ⟨h1, h2⟩ := trNeed h
    obtain ⟨rfl, rfl⟩ := trRet h2
    simp only [small, decide_eq_true_eq] at h1
    obtain ⟨e1, e2⟩ := len64 x h1
    have hl := enc_len64 (v := x.length) (by omega)
    refine ⟨rfl, 1, [.arr true 0 0 [], .dead, .arr true 5 1 (encB x.length ++ x.map u8el), .dead], [0], run_of Try.func15 rfl rfl ((rtext_ev LF 0 noY () x).trans ?_), ?_, ?_⟩
    · rw [e1, e2, cond_true, show decide ((List.map u8el (enc x.length)).length + (List.map u8el x).length ≤ 68719476736) = true from decide_eq_true (by simp; omega)]
      rfl
    · rfl
    · rfl
  · exact (trFail h).elim

/-- What both walks come to. -/
theorem dect_tree {σ : Type} (s : σ) (b : List UInt8) (hb : b.length ≤ 1000000000) :
    (cond (List.all (List.map u8el b) isU8)
  (cond (Int.ofNat (decU (List.map elU8 (List.map u8el b))).2.2 != 0)
    (some (PV.tup [PV.s (SV.str []), PV.s (SV.int IntKind.i64 0), PV.s (SV.int IntKind.i64 (Int.ofNat (decU (List.map elU8 (List.map u8el b))).2.2))], ([] : List Blk), s))
    (cond (decide (Int.ofNat (decU (List.map elU8 (List.map u8el b))).1 > 4096))
      (some (PV.tup [PV.s (SV.str []), PV.s (SV.int IntKind.i64 0), PV.s (SV.int IntKind.i64 3)], [], s))
      (cond (decide (IntKind.wrap IntKind.i64 (Int.ofNat (List.length (List.map u8el b)) - Int.ofNat (decU (List.map elU8 (List.map u8el b))).2.1) < IntKind.wrap IntKind.i64 (Int.ofNat (decU (List.map elU8 (List.map u8el b))).1)))
        (some (PV.tup [PV.s (SV.str []), PV.s (SV.int IntKind.i64 0), PV.s (SV.int IntKind.i64 5)], [], s))
        (cond (decide (0 ≤ Int.ofNat (decU (List.map elU8 (List.map u8el b))).2.1) && decide (Int.ofNat (decU (List.map elU8 (List.map u8el b))).2.1 ≤ IntKind.wrap IntKind.i64 (Int.ofNat (decU (List.map elU8 (List.map u8el b))).2.1 + IntKind.wrap IntKind.i64 (Int.ofNat (decU (List.map elU8 (List.map u8el b))).1))) && decide (IntKind.wrap IntKind.i64 (Int.ofNat (decU (List.map elU8 (List.map u8el b))).2.1 + IntKind.wrap IntKind.i64 (Int.ofNat (decU (List.map elU8 (List.map u8el b))).1)) ≤ Int.ofNat (List.length (List.map u8el b))))
          (cond (List.all (List.drop (Int.toNat (Int.ofNat (decU (List.map elU8 (List.map u8el b))).2.1)) (List.take (Int.toNat (IntKind.wrap IntKind.i64 (Int.ofNat (decU (List.map elU8 (List.map u8el b))).2.1 + IntKind.wrap IntKind.i64 (Int.ofNat (decU (List.map elU8 (List.map u8el b))).1)))) (List.map u8el b))) isU8)
            (some (PV.tup [PV.s (SV.str (List.map elU8 (List.drop (Int.toNat (Int.ofNat (decU (List.map elU8 (List.map u8el b))).2.1)) (List.take (Int.toNat (IntKind.wrap IntKind.i64 (Int.ofNat (decU (List.map elU8 (List.map u8el b))).2.1 + IntKind.wrap IntKind.i64 (Int.ofNat (decU (List.map elU8 (List.map u8el b))).1)))) (List.map u8el b))))), PV.s (SV.int IntKind.i64 (IntKind.wrap IntKind.i64 (Int.ofNat (decU (List.map elU8 (List.map u8el b))).2.1 + IntKind.wrap IntKind.i64 (Int.ofNat (decU (List.map elU8 (List.map u8el b))).1)))), PV.s (SV.int IntKind.i64 0)], [], s))
            none)
          none))))
  none) = some (PV.tup [PV.s (SV.str (decT b).1), PV.s (SV.int IntKind.i64 ((decT b).2.1 : Int)), PV.s (SV.int IntKind.i64 ((decT b).2.2 : Int))], [], s) := by
  rw [map_elU8, all_isU8, cond_true]
  simp only [Int.ofNat_eq_natCast, List.length_map, Int.toNat_natCast]
  unfold decT
  by_cases he : (decU b).2.2 = 0
  · obtain ⟨q1, q2, q3, q4⟩ := decU_canon (bs := b) (x := (decU b).1) (n := (decU b).2.1) (by rw [← he])
    rw [if_neg (by simp [he]), he, show (((0 : Nat) : Int) != 0) = false from rfl, cond_false]
    generalize (decU b).1 = v at *
    generalize (decU b).2.1 = n at *
    by_cases hv : 4096 < v
    · rw [if_pos hv, show decide ((v : Int) > 4096) = true by simp; omega, cond_true]; rfl
    · rw [if_neg hv, show decide ((v : Int) > 4096) = false by simp; omega, cond_false]
      have w1 : IntKind.wrap IntKind.i64 (v : Int) = (v : Int) := wrapi64n v (by omega)
      have w2 : IntKind.wrap IntKind.i64 ((b.length : Int) - (n : Int)) = ((b.length - n : Nat) : Int) := by rw [wrapi64 _ (by omega) (by omega)]; omega
      have w3 : IntKind.wrap IntKind.i64 ((n : Int) + (v : Int)) = ((n + v : Nat) : Int) := by rw [wrapi64 _ (by omega) (by omega)]; simp
      simp only [w1, w2, w3]
      by_cases hs : b.length - n < v
      · rw [if_pos hs, show decide (((b.length - n : Nat) : Int) < (v : Int)) = true from decide_eq_true (by omega), cond_true]; rfl
      · rw [if_neg hs, show decide (((b.length - n : Nat) : Int) < (v : Int)) = false from decide_eq_false (by omega), cond_false]
        have g1 : (decide (0 ≤ (n : Int)) && decide ((n : Int) ≤ ((n + v : Nat) : Int)) && decide (((n + v : Nat) : Int) ≤ (b.length : Int))) = true := by
          simp only [Bool.and_eq_true, decide_eq_true_eq]; omega
        rw [g1, cond_true]
        have e : List.drop n (List.take (n + v) (List.map u8el b)) = ((b.drop n).take v).map u8el := by
          rw [List.drop_take, Nat.add_sub_cancel_left, List.map_take, List.map_drop]
        simp only [Int.toNat_natCast, e, all_isU8, cond_true, map_elU8]
        rfl
  · rw [if_pos he, show (((decU b).2.2 : Int) != 0) = true by simp; exact he, cond_true]
    rfl

theorem x_dect : XFact Try.prog noG 18 decTX := by
  refine xfact_of_run (C₀ := cfgT LF) (XFacts.ok (l := X2) rfl x2) okT follows ?_
  intro args ret Hc h
  unfold decTX at h
  split at h
  · rename_i z t l
    obtain ⟨h1, h2⟩ := trNeed h
    obtain ⟨rfl, rfl⟩ := trRet h2
    simp only [small, Bool.and_eq_true, decide_eq_true_eq] at h1
    obtain ⟨b, rfl⟩ := bytes_of_all h1.1
    refine ⟨rfl, 1, [], [], run_of Try.func18 rfl rfl ((dect_ev LF 0 noY () z t b).trans ?_), rfl, rfl⟩
    rw [map_elU8 b]
    have := dect_tree () b (by simpa using h1.2)
    rw [map_elU8 b] at this
    exact this
  · exact (trFail h).elim

theorem x_rdect : XFact Try.prog noG 20 decTX := by
  refine xfact_of_run (C₀ := cfgT LF) (XFacts.ok (l := X2) rfl x2) okT follows ?_
  intro args ret Hc h
  unfold decTX at h
  split at h
  · rename_i z t l
    obtain ⟨h1, h2⟩ := trNeed h
    obtain ⟨rfl, rfl⟩ := trRet h2
    simp only [small, Bool.and_eq_true, decide_eq_true_eq] at h1
    obtain ⟨b, rfl⟩ := bytes_of_all h1.1
    refine ⟨rfl, 1, [], [], run_of Try.func20 rfl rfl ((rdect_ev LF 0 noY () z t b).trans ?_), rfl, rfl⟩
    rw [map_elU8 b]
    have := dect_tree () b (by simpa using h1.2)
    rw [map_elU8 b] at this
    exact this
  · exact (trFail h).elim

/-! ### The examples -/
noncomputable def cfgAw : Cfg := mkCfg LF [10, 12, 8, 17, 23] (fun _ => none) []
theorem okAw : OkFns cfgAw := okFns_of rfl (by kernel_rfl)
def isTrue (r : Option (PV × List Blk × Unit)) : Bool := match r with
  | some (.s (.bool true), _, _) => true
  | _ => false
theorem awake_run : isTrue (evC cfgAw 10 Unit noY 10 [] [] ()) = true := by kernel_rfl

theorem isTrue_some {r : Option (PV × List Blk × Unit)} (h : isTrue r = true) : ∃ H, r = some (.s (.bool true), H, ()) := by
  unfold isTrue at h
  split at h
  · exact ⟨_, rfl⟩
  · cases h

theorem x_awake : XFact Try.prog noG 10 awakeX := by
  refine xfact_of_val (C₀ := cfgAw) (XFacts.ok (l := []) rfl trivial) okAw follows ?_
  intro args ret Hc h
  unfold awakeX at h
  split at h
  · obtain ⟨rfl, rfl⟩ := trRet h
    obtain ⟨H0, e⟩ := isTrue_some awake_run
    exact ⟨rfl, rfl, rfl, 10, _, H0, e, rfl⟩
  · exact (trFail h).elim

theorem x3 : XFacts Try.prog noG X3 := ⟨x_bytes, x_awake, x_own, x_text, x_fix, x_rtext, x_rfix, x_dect, x_rdect, x_decf, x_rdecf, x2⟩

end Go.Proofs.Ytfioahjeanmfpaa.E
