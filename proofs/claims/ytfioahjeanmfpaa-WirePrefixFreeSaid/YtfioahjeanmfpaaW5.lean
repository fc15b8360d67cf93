/-
  Wire: further contracts.
-/
import Derived.Test.YtfioahjeanmfpaaW4
namespace Go.Proofs.Ytfioahjeanmfpaa.E
open Go Go.Proofs
set_option linter.unusedVariables false
set_option linter.unusedSimpArgs false
set_option maxRecDepth 100000

theorem fix4_map (v : Nat) : [[SV.int IntKind.u8 (IntKind.wrap IntKind.u8 (Int.ofNat v))], [SV.int IntKind.u8 (IntKind.wrap IntKind.u8 (Int.fdiv (Int.ofNat v) 256))], [SV.int IntKind.u8 (IntKind.wrap IntKind.u8 (Int.fdiv (Int.ofNat v) 65536))], [SV.int IntKind.u8 (IntKind.wrap IntKind.u8 (Int.fdiv (Int.ofNat v) 16777216))]] = (fix4 v).map u8el := by
  rw [show Int.fdiv (Int.ofNat v) 256 = Int.ofNat (v / 256) from fdiv_nat v 256, show Int.fdiv (Int.ofNat v) 65536 = Int.ofNat (v / 65536) from fdiv_nat v 65536, show Int.fdiv (Int.ofNat v) 16777216 = Int.ofNat (v / 16777216) from fdiv_nat v 16777216]
  simp only [byteLow, fix4, List.map_cons, List.map_nil]

theorem x_fix : XFact Try.prog noG 13 fixX := by
  refine xfact_of_run (C₀ := cfgApp LF) (XFacts.ok (l := X1) rfl x1) okApp follows ?_
  intro args ret Hc h
  unfold fixX at h
  split at h
  · rename_i t k l v
    obtain ⟨h1, h2⟩ := trNeed h
    obtain ⟨rfl, rfl⟩ := trRet h2
    obtain ⟨v, rfl, hv⟩ := u32_nat h1
    refine ⟨rfl, 1, [.arr true 0 0 [], .dead, .arr true 5 1 ((fix4 v).map u8el), .arr false 5 1 ((fix4 v).map u8el)], [0, 3], run_of Try.func13 rfl rfl ((fix_evn LF 0 noY () t k l v).trans ?_), ?_, ?_⟩
    · rw [fix4_map]
    · rfl
    · rfl
  · rename_i t l v
    obtain ⟨h1, h2⟩ := trNeed h
    obtain ⟨rfl, rfl⟩ := trRet h2
    simp only [Bool.and_eq_true, small, decide_eq_true_eq] at h1
    obtain ⟨v, rfl, hv⟩ := u32_nat h1.1
    refine ⟨rfl, 1, [.arr true 0 0 [], .dead, .arr false 5 1 (l ++ (fix4 v).map u8el), .arr false 5 1 ((fix4 v).map u8el)], [0, 3], run_of Try.func13 rfl rfl ((fix_ev LF 0 noY () t l v).trans ?_), ?_, ?_⟩
    · rw [fix4_map, show decide (l.length ≤ 68719476736) = true from decide_eq_true (by omega), show decide (l.length + 4 ≤ 68719476736) = true from decide_eq_true (by omega)]
      rfl
    · rfl
    · rfl
  · exact (trFail h).elim

theorem x_rfix : XFact Try.prog noG 16 rfixX := by
  refine xfact_of_run (C₀ := cfg0 LF) (XFacts.ok (l := []) rfl trivial) ok0 follows ?_
  intro args ret Hc h
  unfold rfixX at h
  split at h
  · rename_i v
    obtain ⟨h1, h2⟩ := trNeed h
    obtain ⟨rfl, rfl⟩ := trRet h2
    obtain ⟨v, rfl, hv⟩ := u32_nat h1
    refine ⟨rfl, 1, [.arr true 0 0 [], .arr false 5 1 ((fix4 v).map u8el)], [0], run_of Try.func16 rfl rfl ((rfix_ev LF 0 noY () v).trans ?_), ?_, ?_⟩
    · rw [fix4_map]
    · rfl
    · rfl
  · exact (trFail h).elim

theorem x_dec : XFact Try.prog noG 17 decX := by
  refine xfact_of_run (C₀ := cfgDU LF) (XFacts.ok (l := X1) rfl x1) okDU follows ?_
  intro args ret Hc h
  unfold decX at h
  split at h
  · rename_i z t l
    obtain ⟨h1, h2⟩ := trNeed h
    obtain ⟨rfl, rfl⟩ := trRet h2
    obtain ⟨b, rfl⟩ := bytes_of_all h1
    refine ⟨rfl, 1, [], [], run_of Try.func17 rfl rfl ((dec_ev LF 0 noY () z t b).trans ?_), rfl, rfl⟩
    have := dec_loop LF (evC (cfgDU LF) 0) noY () z t b b 0 0 LF (by simp) (by omega) (by omega) (by simp) (by unfold LF; omega)
    rw [map_elU8]
    exact this
  · exact (trFail h).elim

theorem decide_int {p : Prop} [Decidable p] {q : Prop} [Decidable q] (h : p ↔ q) : decide p = decide q := by congr 1; exact propext h

theorem rdec_tail (b : List UInt8) (z t : Bool) (N : Nat) (hN : N < b.length) (hN9 : N ≤ 9) (h9 : N = 9 → (b.getD 9 0).toNat ≤ 1) (cl : CallT) :
    rL2 LF cl noY LF (rS2 () z t b 0 (N : Int) (N : Int)) (blkK 2 (seqK (cfgRDU LF) cl noY (cd [1, 1, 1, 1, 1, 1, 1, 1, 1] (bodyOf Try.f19)) (retK (cfgRDU LF) Try.f19))) =
      some (PV.tup [PV.s (SV.int IntKind.u64 (hv (b.take (N + 1)) : Int)), PV.s (SV.int IntKind.i64 ((N + 1 : Nat) : Int)), PV.s (SV.int IntKind.i64 0)], [], ()) := by
  have hB := hv_bound b N hN hN9 h9
  have := rL2_run LF cl noY () z t b (blkK 2 (seqK (cfgRDU LF) cl noY (cd [1, 1, 1, 1, 1, 1, 1, 1, 1] (bodyOf Try.f19)) (retK (cfgRDU LF) Try.f19))) N hN hN9 hB (N + 1) LF (Nat.le_refl _) (by unfold LF; omega)
  rw [show ((N + 1 : Nat) : Int) - 1 = (N : Int) by omega, List.drop_eq_nil_of_le (by simp; omega)] at this
  refine this.trans ?_
  refine (rdec_aft2 LF cl noY () z t b N (hv (b.take (N + 1))) (-1)).trans ?_
  rw [show IntKind.wrap IntKind.i64 (Int.ofNat N + 1) = ((N + 1 : Nat) : Int) from wrapi64s N (by omega)]
  rfl

theorem x_rdec : XFact Try.prog noG 19 decX := by
  refine xfact_of_run (C₀ := cfgRDU LF) (XFacts.ok (l := X1) rfl x1) okRDU follows ?_
  intro args ret Hc h
  unfold decX at h
  split at h
  · rename_i z t l
    obtain ⟨h1, h2⟩ := trNeed h
    obtain ⟨rfl, rfl⟩ := trRet h2
    obtain ⟨b, rfl⟩ := bytes_of_all h1
    refine ⟨rfl, 1, [], [], run_of Try.func19 rfl rfl ((rdec_ev LF 0 noY () z t b).trans ?_), rfl, rfl⟩
    rw [map_elU8, decU_ref]
    refine (rL1_run LF (evC (cfgRDU LF) 0) noY () z t b _ 10 0 LF rfl (by omega) (by omega) (by unfold LF; omega)).trans ?_
    simp only [List.drop_zero, Nat.sub_zero, Nat.zero_add, refGo, Nat.mul_zero, Nat.pow_zero, Nat.one_mul]
    obtain ⟨c1, c2⟩ := cntB_le b 10
    generalize hN : cntB b 10 = N at *
    have ha := rdec_aft LF (evC (cfgRDU LF) 0) noY () z t b N
    refine ha.trans ?_
    simp only [Int.ofNat_eq_natCast, Int.toNat_natCast, List.length_map, gI_u8, show (9 : Int).toNat = 9 from rfl]
    by_cases e10 : N = 10
    · rw [if_pos e10, show ((N : Int) == 10) = true by simp [e10], cond_true]; rfl
    · rw [if_neg e10, show ((N : Int) == 10) = false by simp; omega, cond_false]
      by_cases el : N = b.length
      · rw [if_pos el, show ((N : Int) == (b.length : Int)) = true by simp [el], cond_true]; rfl
      · rw [if_neg el, show ((N : Int) == (b.length : Int)) = false by simp; omega, cond_false]
        have hlt : N < b.length := by omega
        have g0 : decide (0 ≤ (N : Int)) = true := by simp
        have g1 : decide ((N : Int) < (b.length : Int)) = true := by simpa using hlt
        have g2 : decide (N < b.length) = true := by simpa using hlt
        have g3 : decide ((N : Int) > 0) = decide (0 < N) := decide_int (by omega)
        have g4 : ((((b.getD N 0).toNat : Nat) : Int) == 0) = decide ((b.getD N 0).toNat = 0) := by rw [Bool.eq_iff_iff]; simp
        simp only [g0, g1, g2, g3, g4, okS_u8 b N hlt, Bool.and_true, cond_true]
        have hcast : PV.s (SV.int IntKind.i64 ((0 : Nat) : Int)) = PV.s (SV.int IntKind.i64 0) := rfl
        by_cases e9 : N = 9
        · subst e9
          have k1 : decide ((9 : Int) < (b.length : Int)) = true := by simp; omega
          have k2 : decide (9 < b.length) = true := by simpa using hlt
          have k3 : decide ((((b.getD 9 0).toNat : Nat) : Int) > 1) = decide (1 < (b.getD 9 0).toNat) := decide_int (by omega)
          rw [show (((9 : Nat) : Int) == 9) = true from rfl, cond_true, k1, k2, okS_u8 b 9 hlt, k3]
          simp only [Bool.and_true, cond_true]
          by_cases h1 : 1 < (b.getD 9 0).toNat
          · rw [if_pos ⟨by trivial, h1⟩, decide_eq_true h1, cond_true]; rfl
          · rw [if_neg (fun q => h1 q.2), decide_eq_false h1, cond_false, show decide (0 < 9) = true from rfl, cond_true]
            by_cases h0 : (b.getD 9 0).toNat = 0
            · rw [if_pos ⟨by omega, h0⟩, decide_eq_true h0, cond_true]; rfl
            · rw [if_neg (fun q => h0 q.2), decide_eq_false h0, cond_false]
              exact rdec_tail b z t 9 hlt (by omega) (fun _ => by omega) _
        · rw [show ((N : Int) == 9) = false by simp; omega, cond_false, if_neg (fun q => e9 q.1)]
          by_cases hp : 0 < N
          · rw [decide_eq_true hp, cond_true]
            by_cases h0 : (b.getD N 0).toNat = 0
            · rw [if_pos ⟨hp, h0⟩, decide_eq_true h0, cond_true]; rfl
            · rw [if_neg (fun q => h0 q.2), decide_eq_false h0, cond_false]
              refine (rdec_tail b z t N hlt (by omega) (fun q => absurd q e9) _).trans ?_
              simp
          · rw [decide_eq_false hp, cond_false, if_neg (fun q => hp q.1)]
            refine (rdec_tail b z t N hlt (by omega) (fun q => absurd q e9) _).trans ?_
            simp
  · exact (trFail h).elim

end Go.Proofs.Ytfioahjeanmfpaa.E
