/-
  Wire: the contracts of the functions that call nobody or only 'slices.Clone'.
-/
import Derived.Test.YtfioahjeanmfpaaW3
namespace Go.Proofs.Ytfioahjeanmfpaa.E
open Go Go.Proofs
set_option linter.unusedVariables false
set_option linter.unusedSimpArgs false
set_option maxRecDepth 100000

def LF : Nat := 18446744073709551700
def noG : Nat → Option (List SV) := fun _ => none

theorem run_of {C : Cfg} {d f : Nat} {fn : Func} {σ : Type} {yh : Yh σ} {args : List PV} {s : σ} {r : Option (PV × List Blk × σ)} (h2 : C.P.funcs[f]? = some fn) (h1 : C.okf f = true) (h3 : fn.body = some (bodyOf fn))
    (h : evCode C (evC C d) yh (bodyOf fn) ⟨args ++ List.replicate (fn.ntmps - args.length) (.tup []), [], s⟩ (retK C fn) = r) : evC C (d + 1) σ yh f args [] s = r := by rw [evC_eq h2 h1 h3]; exact h

theorem trRet {v w : PV} {H K : List Blk} (h : trRes (.ret v H) = some (w, K)) : w = v ∧ K = H := by
  simp only [trRes, runTr, Option.some.injEq, Prod.mk.injEq] at h
  exact ⟨h.1.symm, h.2.symm⟩
theorem trNeed {c : Bool} {t : Tr} {w : PV} {K : List Blk} (h : trRes (.need c t) = some (w, K)) : c = true ∧ trRes t = some (w, K) := by
  cases c with
  | true => exact ⟨rfl, h⟩
  | false => cases h
theorem trFail {w : PV} {K : List Blk} (h : trRes .fail = some (w, K)) : False := by cases h

theorem u64_nat {v : Int} (h : u64ok v = true) : ∃ n : Nat, v = (n : Int) ∧ n < 18446744073709551616 := by
  simp only [u64ok, ltN_iff] at h
  exact ⟨v.toNat, by omega, by omega⟩
theorem u32_nat {v : Int} (h : u32ok v = true) : ∃ n : Nat, v = (n : Int) ∧ n < 4294967296 := by
  simp only [u32ok, ltN_iff] at h
  exact ⟨v.toNat, by omega, by omega⟩

theorem ok0 : OkFns (cfg0 LF) := okFns_of rfl (by kernel_rfl)
theorem okApp : OkFns (cfgApp LF) := okFns_of rfl (by kernel_rfl)
theorem okRU : OkFns (cfgRU LF) := okFns_of rfl (by kernel_rfl)
theorem okDU : OkFns (cfgDU LF) := okFns_of rfl (by kernel_rfl)
theorem okRDU : OkFns (cfgRDU LF) := okFns_of rfl (by kernel_rfl)
theorem okDF : OkFns (cfgDF LF) := okFns_of rfl (by kernel_rfl)
theorem okT : OkFns (cfgT LF) := okFns_of rfl (by kernel_rfl)

theorem x_clone : XFact Try.prog noG 23 cloneX := by
  refine xfact_of_run (C₀ := cfg0 LF) (XFacts.ok (l := []) rfl trivial) ok0 follows ?_
  intro args ret Hc h
  unfold cloneX at h
  split at h
  · rename_i t k l
    obtain ⟨rfl, rfl⟩ := trRet h
    refine ⟨rfl, 1, [.arr true 0 0 [], .arr true 0 0 []], [0], run_of Try.func23 rfl rfl ((clone_ev LF 0 noY () true t k l).trans ?_), ?_, ?_⟩
    · rfl
    · rfl
    · rfl
  · rename_i t l
    obtain ⟨h1, h2⟩ := trNeed h
    obtain ⟨rfl, rfl⟩ := trRet h2
    simp only [decide_eq_true_eq] at h1
    refine ⟨rfl, 1, [.arr true 0 0 [], .arr false 5 1 l], [0], run_of Try.func23 rfl rfl ((clone_ev LF 0 noY () false t 1 l).trans ?_), ?_, ?_⟩
    · simp [srcOk, h1]
    · rfl
    · rfl
  · exact (trFail h).elim

theorem x_own : XFact Try.prog noG 11 ownX := by
  refine xfact_of_run (C₀ := cfg0 LF) (XFacts.ok (l := []) rfl trivial) ok0 follows ?_
  intro args ret Hc h
  unfold ownX at h
  split at h
  · rename_i z t k l
    obtain ⟨h1, h2⟩ := trNeed h
    obtain ⟨rfl, rfl⟩ := trRet h2
    simp only [Bool.and_eq_true, decide_eq_true_eq] at h1
    refine ⟨rfl, 1, [.arr true 0 0 [], .arr false 5 1 l], [0], run_of Try.func11 rfl rfl ((own_ev LF 0 noY () z t k l).trans ?_), ?_, ?_⟩
    · have hs : srcOk 1 [Blk.arr true 0 0 [], Blk.arr false 5 1 []] (PV.s (SV.sl z t k l)) = true := h1.1
      rw [if_pos hs, show decide (0 + l.length ≤ 68719476736) = true from decide_eq_true (by omega)]
      rfl
    · rfl
    · rfl
  · exact (trFail h).elim

theorem x_bytes : XFact Try.prog noG 9 bytesX := by
  refine xfact_of_run (C₀ := cfg0 LF) (XFacts.ok (l := []) rfl trivial) ok0 follows ?_
  intro args ret Hc h
  unfold bytesX at h
  split at h
  · rename_i z t k l z' t' k' m
    obtain ⟨h1, h2⟩ := trNeed h
    obtain ⟨rfl, rfl⟩ := trRet h2
    simp only [Bool.and_eq_true] at h1
    refine ⟨rfl, 1, [], [], run_of Try.func9 rfl rfl ((bytes_ev LF 0 noY () z t z' t' k k' l m).trans ?_), ?_, ?_⟩
    · rw [h1.1, h1.2]; rfl
    · rfl
    · rfl
  · exact (trFail h).elim

theorem x1 : XFacts Try.prog noG X1 := ⟨x_clone, trivial⟩

theorem x_app : XFact Try.prog noG 8 appX := by
  refine xfact_of_run (C₀ := cfgApp LF) (XFacts.ok (l := X1) rfl x1) okApp follows ?_
  intro args ret Hc h
  unfold appX at h
  split at h
  · rename_i t k l v
    obtain ⟨h1, h2⟩ := trNeed h
    obtain ⟨rfl, rfl⟩ := trRet h2
    obtain ⟨v, rfl, hv⟩ := u64_nat h1
    refine ⟨rfl, 1, [.arr true 0 0 [], .dead, .arr true 5 1 (encB v), .arr false 5 1 [[SV.int IntKind.u8 (IntKind.wrap IntKind.u8 (encLast v : Int))]]], [0, 3], run_of Try.func8 rfl rfl ((app_evn LF 0 noY () t k l v).trans ?_), ?_, ?_⟩
    · have e := encB_split v
      by_cases hs : v < 128
      · refine (app_step0 LF _ noY () (LF - 1) _ v).trans ?_
        rw [show decide ((Int.ofNat v) ≥ 128) = false from decide_eq_false (by simp; omega), cond_false]
        refine (app_aft0 LF _ noY () v).trans ?_
        rw [e, encPre_small hs, encLast_small hs, byteLow v]
        simp [byteLow v, ← byteLow v]
      · refine (app_step0 LF _ noY () (LF - 1) _ v).trans ?_
        rw [show decide ((Int.ofNat v) ≥ 128) = true from decide_eq_true (by simp; omega), cond_true, byteOr v, show Int.fdiv (Int.ofNat v) 128 = ((v / 128 : Nat) : Int) from fdiv_nat v 128]
        refine (app_loop LF _ noY () _ true (v / 128) (LF - 1) _ (by unfold LF; omega) (by have := encPre_len (v := v / 128) (by omega); simp; omega)).trans ?_
        refine (app_aft LF _ noY () true _ (encLast (v / 128))).trans ?_
        rw [show decide (([u8el (UInt8.ofNat (v % 128 + 128))] ++ List.map u8el (encPre (v / 128))).length + 1 ≤ 68719476736) = true from decide_eq_true (by have := encPre_len (v := v / 128) (by omega); simp; omega), cond_true, e, encPre_big hs, encLast_big hs, byteLow]
        simp [← byteLow]
    · rfl
    · rfl
  · rename_i t l v
    obtain ⟨h1, h2⟩ := trNeed h
    obtain ⟨rfl, rfl⟩ := trRet h2
    simp only [Bool.and_eq_true, small, decide_eq_true_eq] at h1
    obtain ⟨v, rfl, hv⟩ := u64_nat h1.1
    refine ⟨rfl, 1, [.arr true 0 0 [], .dead, .arr false 5 1 (l ++ encB v), .arr false 5 1 [[SV.int IntKind.u8 (IntKind.wrap IntKind.u8 (encLast v : Int))]]], [0, 3], run_of Try.func8 rfl rfl ((app_ev LF 0 noY () t l v).trans ?_), ?_, ?_⟩
    · have hp := encPre_len hv
      rw [show decide (l.length ≤ 68719476736) = true from decide_eq_true (by omega), cond_true]
      refine (app_loop LF _ noY () _ false v LF _ (by unfold LF; omega) (by omega)).trans ?_
      refine (app_aft LF _ noY () false _ (encLast v)).trans ?_
      rw [show decide ((l ++ List.map u8el (encPre v)).length + 1 ≤ 68719476736) = true from decide_eq_true (by simp; omega), cond_true, encB_split v, byteLow]
      simp [← byteLow]
    · rfl
    · rfl
  · exact (trFail h).elim

theorem x_ruint : XFact Try.prog noG 14 ruintX := by
  refine xfact_of_run (C₀ := cfgRU LF) (XFacts.ok (l := X1) rfl x1) okRU follows ?_
  intro args ret Hc h
  unfold ruintX at h
  split at h
  · rename_i v
    obtain ⟨h1, h2⟩ := trNeed h
    obtain ⟨rfl, rfl⟩ := trRet h2
    obtain ⟨v, rfl, hv⟩ := u64_nat h1
    refine ⟨rfl, 1, [.arr true 0 0 [], .arr true 5 1 (encB v), .arr false 5 1 [[SV.int IntKind.u8 (IntKind.wrap IntKind.u8 (encLast v : Int))]]], [0, 2], run_of Try.func14 rfl rfl ((ruint_ev LF 0 noY () v).trans ?_), ?_, ?_⟩
    · have e := encB_split v
      by_cases hs : v < 128
      · refine (ruint_step0 LF _ noY () (LF - 1) _ v).trans ?_
        rw [show decide ((Int.ofNat v) ≥ 128) = false from decide_eq_false (by simp; omega), cond_false]
        refine (ruint_aft0 LF _ noY () v).trans ?_
        rw [e, encPre_small hs, encLast_small hs, byteLow v]
        simp [byteLow v, ← byteLow v]
      · refine (ruint_step0 LF _ noY () (LF - 1) _ v).trans ?_
        have hb : IntKind.wrap IntKind.u8 (IntKind.wrap IntKind.u64 (Int.tmod (Int.ofNat v) 128 + 128)) = (((v % 128 + 128) % 256 : Nat) : Int) := by
          rw [show Int.tmod (Int.ofNat v) 128 = ((v % 128 : Nat) : Int) from tmod_nat v 128, show ((v % 128 : Nat) : Int) + 128 = ((v % 128 + 128 : Nat) : Int) from rfl, wrapu64, wrapu8, Nat.mod_eq_of_lt (by omega : v % 128 + 128 < 18446744073709551616)]
        have hd : IntKind.wrap IntKind.u64 (Int.tdiv (Int.ofNat v) 128) = ((v / 128 : Nat) : Int) := by
          rw [show Int.tdiv (Int.ofNat v) 128 = ((v / 128 : Nat) : Int) from tdiv_nat v 128, wrapu64, Nat.mod_eq_of_lt (by omega)]
        rw [show decide ((Int.ofNat v) ≥ 128) = true from decide_eq_true (by simp; omega), cond_true, hb, hd, ← u8el_ofNat]
        refine (ruint_loop LF _ noY () _ (v / 128) (LF - 1) _ (by unfold LF; omega) (by omega) (by have := encPre_len (v := v / 128) (by omega); simp; omega)).trans ?_
        refine (ruint_aft LF _ noY () (encLast (v / 128)) _).trans ?_
        rw [show decide (([u8el (UInt8.ofNat (v % 128 + 128))] ++ List.map u8el (encPre (v / 128))).length + 1 ≤ 68719476736) = true from decide_eq_true (by have := encPre_len (v := v / 128) (by omega); simp; omega), cond_true, e, encPre_big hs, encLast_big hs, byteLow]
        simp [← byteLow]
    · rfl
    · rfl
  · exact (trFail h).elim

end Go.Proofs.Ytfioahjeanmfpaa.E
