/-
  Wire: fixed numbers decoded.
-/
import Derived.Test.YtfioahjeanmfpaaW5
namespace Go.Proofs.Ytfioahjeanmfpaa.E
open Go Go.Proofs
set_option linter.unusedVariables false
set_option linter.unusedSimpArgs false
set_option maxRecDepth 100000

/-- The value of the first bytes. -/
def lowF (b : List UInt8) : Nat → Nat
  | 0 => 0
  | i + 1 => lowF b i + (b.getD i 0).toNat * 2 ^ (8 * i)

theorem lowF_lt (b : List UInt8) : ∀ i, lowF b i < 2 ^ (8 * i)
  | 0 => by simp [lowF]
  | i + 1 => by
    have h := lowF_lt b i
    have hc := (b.getD i 0).toNat_lt
    have : (b.getD i 0).toNat * 2 ^ (8 * i) ≤ 255 * 2 ^ (8 * i) := Nat.mul_le_mul (by omega) (Nat.le_refl _)
    simp only [lowF]
    rw [show 8 * (i + 1) = 8 * i + 8 by omega, Nat.pow_add]
    generalize 2 ^ (8 * i) = M at *
    omega

theorem orPart32 (v p i : Nat) (hi : i ≤ 3) (hv : v < 2 ^ (8 * i)) (hp : p < 256) :
    IntKind.wrap IntKind.u32 (Int.ofNat (BitVec.toNat (BitVec.ofInt 32 ((v : Nat) : Int) ||| BitVec.ofInt 32 (IntKind.wrap IntKind.u32 (IntKind.wrap IntKind.u32 ((p : Nat) : Int) * 2 ^ min (Int.toNat (IntKind.wrap IntKind.i64 (8 * (i : Int)))) 32))))) = ((v + p * 2 ^ (8 * i) : Nat) : Int) := by
  have e1 : IntKind.wrap IntKind.i64 (8 * (i : Int)) = ((8 * i : Nat) : Int) := by rw [wrapi64 _ (by omega) (by omega)]; rfl
  have hpw : 2 ^ (8 * i) ≤ 2 ^ 24 := pow_le (by omega)
  have hp32 : p * 2 ^ (8 * i) ≤ 255 * 2 ^ 24 := Nat.mul_le_mul (by omega) hpw
  rw [e1, Int.toNat_natCast, Nat.min_eq_left (by omega), wrapu32 p, Nat.mod_eq_of_lt (by omega)]
  have e2 : ((p : Nat) : Int) * 2 ^ (8 * i) = ((p * 2 ^ (8 * i) : Nat) : Int) := by simp
  rw [e2, wrapu32, Nat.mod_eq_of_lt (by omega), bvor 32 _ _ (by omega) (by omega), or_add _ _ _ hv, Int.ofNat_eq_natCast, wrapu32]
  rw [Nat.mod_eq_of_lt (by omega)]

theorem decf_loop {σ : Type} (lf : Nat) (cl : CallT) (yh : Yh σ) (s : σ) (k : Out → St σ → Option (PV × List Blk × σ)) (z t : Bool) (b : List UInt8) (hb : 4 ≤ b.length) : ∀ (m i n : Nat), m + i = 4 → m < n →
    loopK 0 ((cfgDF lf).keep 5) (bd (cfgDF lf) cl yh (cd [1, 1, 1, 0, 1, 0, 0] (bodyOf Try.f21))) n ⟨([PV.s (SV.sl z t 1 (List.map u8el b)), .bad, PV.s (SV.int IntKind.u32 0), PV.s (SV.int IntKind.i64 0), PV.s (SV.int IntKind.u32 (lowF b i : Int))] ++ bds 4 ++ [PV.s (SV.int IntKind.i64 (i : Int))] ++ bds 14), [], s⟩ k =
      k (.exit 0) ⟨([PV.s (SV.sl z t 1 (List.map u8el b)), .bad, PV.s (SV.int IntKind.u32 0), PV.s (SV.int IntKind.i64 0), PV.s (SV.int IntKind.u32 (lowF b 4 : Int))] ++ bds 4 ++ [PV.s (SV.int IntKind.i64 4)] ++ bds 14), [], s⟩ := by
  intro m
  induction m with
  | zero =>
    intro i n hi hn
    obtain ⟨n, rfl⟩ : ∃ m, n = m + 1 := ⟨n - 1, by omega⟩
    have : i = 4 := by omega
    subst this
    exact decf_step lf cl yh s n k z t b (lowF b 4) 4
  | succ m ih =>
    intro i n hi hn
    obtain ⟨n, rfl⟩ : ∃ m, n = m + 1 := ⟨n - 1, by omega⟩
    have hs := decf_step lf cl yh s n k z t b (lowF b i) i
    simp only [Int.ofNat_eq_natCast, Int.toNat_natCast, gI_u8, List.length_map] at hs
    refine hs.trans ?_
    have hlt : i < b.length := by omega
    have hc := (b.getD i 0).toNat_lt
    have ho := orPart32 (lowF b i) (b.getD i 0).toNat i (by omega) (lowF_lt b i) (by omega)
    simp only [Int.ofNat_eq_natCast] at ho
    rw [show decide ((i : Int) < 4) = true by simp; omega, cond_true, show decide (0 ≤ (i : Int)) = true by simp, show decide ((i : Int) < (b.length : Int)) = true by simpa using hlt, show decide (i < b.length) = true by simpa using hlt, okS_u8 b i hlt]
    simp only [Bool.and_true, cond_true]
    rw [show decide (0 ≤ IntKind.wrap IntKind.i64 (8 * (i : Int))) = true by rw [wrapi64 _ (by omega) (by omega)]; simp; omega, cond_true, ho, wrapi64s i (by omega)]
    exact ih (i + 1) n (by omega) (by omega)

theorem decF_val (b : List UInt8) (hb : 4 ≤ b.length) : decF b = (lowF b 4, 0) := by
  unfold decF
  rw [if_neg (by omega)]
  simp [lowF]

theorem x_decf : XFact Try.prog noG 21 decFX := by
  refine xfact_of_run (C₀ := cfgDF LF) (XFacts.ok (l := X1) rfl x1) okDF follows ?_
  intro args ret Hc h
  unfold decFX at h
  split at h
  · rename_i z t l
    obtain ⟨h1, h2⟩ := trNeed h
    obtain ⟨rfl, rfl⟩ := trRet h2
    obtain ⟨b, rfl⟩ := bytes_of_all h1
    refine ⟨rfl, 1, [], [], run_of Try.func21 rfl rfl ((decf_ev LF 0 noY () z t b).trans ?_), rfl, rfl⟩
    rw [map_elU8]
    by_cases hb : b.length < 4
    · rw [show decide (Int.ofNat (List.map u8el b).length < 4) = true by simp; omega, cond_true]
      unfold decF
      rw [if_pos hb]
      rfl
    · rw [show decide (Int.ofNat (List.map u8el b).length < 4) = false by simp; omega, cond_false, decF_val b (by omega)]
      refine (decf_loop LF _ noY () _ z t b (by omega) 4 0 LF rfl (by unfold LF; omega)).trans ?_
      exact decf_aft LF _ noY () z t b (lowF b 4) 4
  · exact (trFail h).elim

theorem x_rdecf : XFact Try.prog noG 22 decFX := by
  refine xfact_of_run (C₀ := cfg0 LF) (XFacts.ok (l := []) rfl trivial) ok0 follows ?_
  intro args ret Hc h
  unfold decFX at h
  split at h
  · rename_i z t l
    obtain ⟨h1, h2⟩ := trNeed h
    obtain ⟨rfl, rfl⟩ := trRet h2
    obtain ⟨b, rfl⟩ := bytes_of_all h1
    refine ⟨rfl, 1, [], [], run_of Try.func22 rfl rfl ((rdecf_ev LF 0 noY () z t b).trans ?_), rfl, rfl⟩
    rw [map_elU8]
    by_cases hb : b.length < 4
    · rw [show decide (Int.ofNat (List.map u8el b).length < 4) = true by simp; omega, cond_true]
      unfold decF
      rw [if_pos hb]
      rfl
    · have c0 := (b.getD 0 0).toNat_lt
      have c1 := (b.getD 1 0).toNat_lt
      have c2 := (b.getD 2 0).toNat_lt
      have c3 := (b.getD 3 0).toNat_lt
      simp only [Int.ofNat_eq_natCast, List.length_map, gI_u8]
      rw [show decide ((b.length : Int) < 4) = false by simp; omega, cond_false]
      have d0 : decide ((0 : Int) < (b.length : Int)) = true := by simp; omega
      have d1 : decide ((1 : Int) < (b.length : Int)) = true := by simp; omega
      have d2 : decide ((2 : Int) < (b.length : Int)) = true := by simp; omega
      have d3 : decide ((3 : Int) < (b.length : Int)) = true := by simp; omega
      have f0 : decide (0 < b.length) = true := by simp; omega
      have f1 : decide (1 < b.length) = true := by simp; omega
      have f2 : decide (2 < b.length) = true := by simp; omega
      have f3 : decide (3 < b.length) = true := by simp; omega
      simp only [d0, d1, d2, d3, f0, f1, f2, f3, okS_u8 b 0 (by omega), okS_u8 b 1 (by omega), okS_u8 b 2 (by omega), okS_u8 b 3 (by omega), Bool.and_true, cond_true]
      unfold decF
      rw [if_neg hb]
      have m (x : Nat) (hx : x < 256) (q : Nat) (hq : x * q < 4294967296) (hx' : True) : IntKind.wrap IntKind.u32 (IntKind.wrap IntKind.u32 ((x : Nat) : Int) * (q : Int)) = ((x * q : Nat) : Int) := by
        rw [wrapu32, Nat.mod_eq_of_lt (by omega), show ((x : Nat) : Int) * ((q : Nat) : Int) = ((x * q : Nat) : Int) by simp, wrapu32, Nat.mod_eq_of_lt hq]
      have ad (x y : Nat) (h : x + y < 4294967296) : IntKind.wrap IntKind.u32 ((x : Int) + (y : Int)) = ((x + y : Nat) : Int) := by
        rw [show (x : Int) + (y : Int) = ((x + y : Nat) : Int) by simp, wrapu32, Nat.mod_eq_of_lt h]
      have m1 := m (b.getD 1 0).toNat (by omega) 256 (by omega) trivial
      have m2 := m (b.getD 2 0).toNat (by omega) 65536 (by omega) trivial
      have m3 := m (b.getD 3 0).toNat (by omega) 16777216 (by omega) trivial
      have m0 : IntKind.wrap IntKind.u32 (((b.getD 0 0).toNat : Nat) : Int) = (((b.getD 0 0).toNat : Nat) : Int) := by rw [wrapu32, Nat.mod_eq_of_lt (by omega)]
      rw [show (256 : Int) = ((256 : Nat) : Int) from rfl, show (65536 : Int) = ((65536 : Nat) : Int) from rfl, show (16777216 : Int) = ((16777216 : Nat) : Int) from rfl, m0, m1, m2, m3, ad _ _ (by omega), ad _ _ (by omega), ad _ _ (by omega)]
      rfl
  · exact (trFail h).elim

theorem x2 : XFacts Try.prog noG X2 := ⟨x_clone, x_app, x_ruint, x_dec, x_rdec, trivial⟩

end Go.Proofs.Ytfioahjeanmfpaa.E
