/-
  Contracts: nil slices in their type's form; words for reading contracts.
-/
import Derived.Test.YtfioahjeanmfpaaE32
namespace Go.Proofs.Ytfioahjeanmfpaa.E
open Go
set_option linter.unusedVariables false

/-- A nil slice takes on the size that its type says. -/
def fix1 (n : Nat) : PV → PV
  | .s (.sl z t k els) => if n = 0 then .s (.sl z t k els) else if k = n then .s (.sl z t k els) else .s (.sl z t (cond z n k) els)
  | v => v
def fixC : List Nat → List PV → List PV
  | n :: r, v :: l => fix1 n v :: fixC r l
  | _, l => l
def fixA (szs : List Nat) : PV → PV
  | .agg l => .agg (fixC szs l)
  | v => fix1 (szs.headD 0) v
def fixL : List (List Nat) → List PV → List PV
  | s :: r, v :: l => fixA s v :: fixL r l
  | _, l => l

section
variable {Γ : Ctx} {sh : Nat → Option Shp} {w : World}

theorem fix1_VP {n : Nat} {v : PV} {V : Value} (h : VP Γ sh w v V) : VP Γ sh w (fix1 n v) V := by
  unfold fix1
  split
  · rename_i z t k els
    split
    · exact h
    · split
      · exact h
      · cases z with
        | false => exact h
        | true =>
          have hs := h.inv_s
          cases hs with
          | nil => exact .s _ _ (.nil _ _)
  · exact h

theorem fixC_len : ∀ (szs : List Nat) (l : List PV), (fixC szs l).length = l.length
  | [], _ => rfl
  | _ :: _, [] => rfl
  | n :: r, v :: l => by simp [fixC, fixC_len r l]

theorem fixC_get : ∀ (szs : List Nat) (l : List PV) (j : Nat) (h : j < l.length) (h' : j < (fixC szs l).length), ∃ n, (fixC szs l)[j] = fix1 n l[j]
  | [], l, j, h, h' => ⟨0, by
    have e : fixC [] l = l := by cases l <;> rfl
    simp only [e]
    unfold fix1
    split
    · rename_i he; rw [he]; simp
    · rfl⟩
  | n :: r, v :: l, 0, h, h' => ⟨n, rfl⟩
  | n :: r, v :: l, j + 1, h, h' => by
    obtain ⟨m, e⟩ := fixC_get r l j (by simpa using h) (by simpa [fixC] using h')
    exact ⟨m, by simpa [fixC] using e⟩

theorem fixA_VP {szs : List Nat} {v : PV} {V : Value} (h : VP Γ sh w v V) : VP Γ sh w (fixA szs v) V := by
  unfold fixA
  split
  · rename_i l
    obtain ⟨A, rfl, hA, hc⟩ := h.inv_agg
    refine VP.mk_agg (by rw [fixC_len]; exact hA) fun j hj => ?_
    have hj' : j < l.length := by rw [fixC_len] at hj; exact hj
    obtain ⟨U, e, k⟩ := hc j hj'
    obtain ⟨m, e2⟩ := fixC_get szs l j hj' hj
    exact ⟨U, e, by rw [e2]; exact fix1_VP k⟩
  · exact fix1_VP h

theorem fixL_len : ∀ (szs : List (List Nat)) (l : List PV), (fixL szs l).length = l.length
  | [], _ => rfl
  | _ :: _, [] => rfl
  | n :: r, v :: l => by simp [fixL, fixL_len r l]

theorem fixL_CR : ∀ (szs : List (List Nat)) (l : List PV) (V : Array Value), CR Γ sh w l V → CR Γ sh w (fixL szs l) V := by
  intro szs l V h
  refine ⟨by rw [fixL_len]; exact h.1, ?_⟩
  have key : ∀ (szs : List (List Nat)) (l : List PV) (As : Nat → Option Value), (∀ j (h : j < l.length), ∃ U, As j = some U ∧ VP Γ sh w (l[j]) U) → ∀ j (h : j < (fixL szs l).length), ∃ U, As j = some U ∧ VP Γ sh w ((fixL szs l)[j]) U := by
    intro szs
    induction szs with
    | nil => intro l As hl j hj; exact hl j (by cases l <;> exact hj)
    | cons s r ih =>
      intro l As hl j hj
      cases l with
      | nil => simp [fixL] at hj
      | cons v l =>
        cases j with
        | zero =>
          obtain ⟨U, e, k⟩ := hl 0 (by simp)
          exact ⟨U, e, fixA_VP k⟩
        | succ j =>
          have := ih l (fun j => As (j + 1)) (fun j h => hl (j + 1) (by simpa using h)) j (by simpa [fixL] using hj)
          simpa [fixL] using this
  exact key szs l (fun j => V[j]?) h.2
end

theorem XFact.fix {P : Program} {G : GT} {g : Nat} {pf : List PV → Tr} (szs : List (List Nat)) (h : XFact P G g pf) : XFact P G g (fun args => pf (fixL szs args)) :=
  fun args ret Hc hpf C hP hGe Γ w Vs hnm hH hG hc => h (fixL szs args) ret Hc hpf C hP hGe Γ w Vs hnm hH hG (fixL_CR szs args Vs hc)

/-- The elements bear no reference. -/
def plE (els : LL) : Bool := els.all fun el => el.all SV.plain

/-! Reading results of contracts. -/
theorem tr_ret {v : PV} {H : List Blk} {ret : PV} {Hc : List Blk} (h : trRes (.ret v H) = some (ret, Hc)) : ret = v ∧ Hc = H := by
  simp only [trRes, runTr, Option.some.injEq, Prod.mk.injEq] at h
  exact ⟨h.1.symm, h.2.symm⟩
theorem tr_need {c : Bool} {t : Tr} {ret : PV} {Hc : List Blk} (h : trRes (.need c t) = some (ret, Hc)) : c = true ∧ trRes t = some (ret, Hc) := by
  cases c with
  | true => exact ⟨rfl, h⟩
  | false => cases h
theorem tr_split {c : Bool} {a b : Tr} {ret : PV} {Hc : List Blk} (h : trRes (.split c a b) = some (ret, Hc)) : (c = true ∧ trRes a = some (ret, Hc)) ∨ (c = false ∧ trRes b = some (ret, Hc)) := by
  cases c with
  | true => exact .inl ⟨rfl, h⟩
  | false => exact .inr ⟨rfl, h⟩

/-- Rounds enough for every loop. -/
def LF : Nat := 100000000000000000000
theorem LF_big : 100000000000000000000 ≤ LF := Nat.le_refl _
attribute [irreducible] LF

end Go.Proofs.Ytfioahjeanmfpaa.E
