/-
  Contracts: blocks that nobody names are left out; results of which only the value counts.
-/
import Derived.Test.YtfioahjeanmfpaaE30
namespace Go.Proofs.Ytfioahjeanmfpaa.E
open Go
set_option linter.unusedVariables false

def deadAt : List Nat → List Blk → List Blk
  | [], H => H
  | i :: r, H => deadAt r (H.set i .dead)

def deadOk (idx : List Nat) (ret : PV) (H : List Blk) : Bool := idx.all fun i => !(ret.nms.contains i) && (deadAt idx H).all fun b => !(b.nms.contains i)

theorem deadAt_spec : ∀ (idx : List Nat) (H : List Blk), (deadAt idx H).length = H.length ∧ ∀ i (h : i < (deadAt idx H).length) (h' : i < H.length), (i ∈ idx ∧ (deadAt idx H)[i] = .dead) ∨ (i ∉ idx ∧ (deadAt idx H)[i] = H[i])
  | [], H => ⟨rfl, fun i h h' => .inr ⟨by simp, rfl⟩⟩
  | a :: r, H => by
    obtain ⟨h1, h2⟩ := deadAt_spec r (H.set a .dead)
    simp only [deadAt]
    refine ⟨by rw [h1, List.length_set], fun i h h' => ?_⟩
    rcases h2 i h (by rw [List.length_set]; exact h') with ⟨q1, q2⟩ | ⟨q1, q2⟩
    · exact .inl ⟨by simp [q1], q2⟩
    · by_cases e : a = i
      · subst e
        exact .inl ⟨by simp, by rw [q2]; simp⟩
      · exact .inr ⟨by simp [q1, Ne.symm e], by rw [q2, List.getElem_set_ne e]⟩

theorem CRes.dead {C : Cfg} {Γ : Ctx} {w w' : World} {ret : PV} {Hc : List Blk} {V : Value} {idx : List Nat} (h : CRes C I0 Γ [] w noΦ ret Hc () V w') (hok : deadOk idx ret Hc = true) : CRes C I0 Γ [] w noΦ ret (deadAt idx Hc) () V w' := by
  obtain ⟨Γ1, Φ1, hs, hH1, hv, hvn, hi1, hd1⟩ := h
  obtain ⟨hl, hsp⟩ := deadAt_spec idx Hc
  simp only [deadOk, List.all_eq_true, Bool.and_eq_true, Bool.not_eq_true', List.contains_iff_mem, ← Bool.not_eq_true] at hok
  let Γ2 : Ctx := { Γ1 with nm := fun b => if b ∈ idx then none else Γ1.nm b }
  have hnm : ∀ b g, Γ2.nm b = some g → b ∉ idx ∧ Γ1.nm b = some g := fun b g h => by
    simp only [Γ2] at h
    split at h
    · cases h
    · exact ⟨‹_›, h⟩
  have M : Mono Γ1 (shpOf Hc) w' Γ2 (shpOf (deadAt idx Hc)) w' (· ∉ idx) := ⟨fun _ _ => rfl, fun _ h => h, fun b hb => by simp only [Γ2]; rw [if_neg hb], fun b hb => by
    simp only [shpOf]
    by_cases hlt : b < Hc.length
    · rcases hsp b (by omega) hlt with ⟨q, _⟩ | ⟨_, q⟩
      · exact absurd q hb
      · rw [List.getElem?_eq_getElem (by omega), List.getElem?_eq_getElem hlt, q]
    · rw [List.getElem?_eq_none (by omega), List.getElem?_eq_none (by omega)], fun _ _ _ _ => rfl, rfl⟩
  refine ⟨Γ2, Φ1, ⟨hs.os, hs.tape, hs.output, hs.size, hs.sub, hs.stnew, fun b g h => hs.own b g (hnm b g h).2, hs.foot, hs.frame, hs.yv, Nat.zero_le _, fun b hb => by simp at hb⟩,
    ⟨fun b b' g h1 h2 => hH1.inj b b' g (hnm b g h1).2 (hnm b' g h2).2, fun b g h => by have := hH1.lt b g (hnm b g h).2; rw [hl]; exact this, hH1.stlt, fun b hb c hc => ?_, fun b hb => ?_⟩,
    hv.mono M (fun b hb hi => by have := (hok b hi).1; exact this hb), fun c hc => by rw [hl]; exact hvn c hc, hi1, fun b g h => hd1 b g (hnm b g h).2⟩
  · have hlt : b < Hc.length := by omega
    rcases hsp b hb hlt with ⟨_, q⟩ | ⟨_, q⟩
    · rw [q] at hc; simp [Blk.nms] at hc
    · rw [q] at hc; rw [hl]; exact hH1.nms b hlt c hc
  · have hlt : b < Hc.length := by omega
    rcases hsp b hb hlt with ⟨_, q⟩ | ⟨q0, q⟩
    · rw [q]; trivial
    · rw [q]
      refine (hH1.blk b hlt).mono M (M.nm b q0) (fun _ _ => rfl) (fun c hc hi => ?_)
      have := (hok c hi).2 _ (List.getElem_mem hb)
      rw [q] at this
      exact this hc

def Tr.dead (idx : List Nat) : Tr → Tr
  | .ret v H => cond (deadOk idx v H) (.ret v (deadAt idx H)) .fail
  | .need c t => .need c (t.dead idx)
  | .split c a b => .split c (a.dead idx) (b.dead idx)
  | .fail => .fail

/-- A contract out of runs: the run may leave more blocks than the contract tells. -/
theorem xfact_of_run {C₀ : Cfg} {g : Nat} {pf : List PV → Tr} (hX : XOK C₀) (hO : OkFns C₀) (hm : C₀.P.follows .mixedOrders = true)
    (h : ∀ args ret Hc, trRes (pf args) = some (ret, Hc) → nmsL args = [] ∧ ∃ d H0 idx, evC C₀ d Unit noY g args [] () = some (ret, H0, ()) ∧ deadOk idx ret H0 = true ∧ deadAt idx H0 = Hc) : XFact C₀.P C₀.G g pf := by
  intro args ret Hc hpf C hP hGe Γ w Vs hnm hH hG hc
  obtain ⟨hna, d, H0, idx, hev, hd, rfl⟩ := h args ret Hc hpf
  have h0 := xfact_of_ev (C₀ := C₀) (g := g) (pf := fun a => match trRes (pf a) with | some _ => (match evC C₀ d Unit noY g a [] () with | some (r, H, _) => cond (nmsL a).isEmpty (.ret r H) .fail | none => .fail) | none => .fail) hX hO hm (fun a r H hr => by
    split at hr
    · split at hr
      · rename_i r' H' _ he
        cases hn : (nmsL a).isEmpty with
        | true =>
          rw [hn] at hr
          simp only [cond_true, trRes, runTr, Option.some.injEq, Prod.mk.injEq] at hr
          obtain ⟨rfl, rfl⟩ := hr
          exact ⟨List.isEmpty_iff.1 hn, d, he⟩
        | false => rw [hn] at hr; cases hr
      · cases hr
    · cases hr)
  refine (h0 args ret H0 ?_ C hP hGe Γ w Vs hnm hH hG hc).mono fun V w' hR => hR.dead hd
  dsimp only
  rw [hpf]
  dsimp only
  rw [hev]
  dsimp only
  rw [hna]
  rfl

/-- Only the value counts. -/
theorem xfact_of_val {C₀ : Cfg} {g : Nat} {pf : List PV → Tr} (hX : XOK C₀) (hO : OkFns C₀) (hm : C₀.P.follows .mixedOrders = true)
    (h : ∀ args ret Hc, trRes (pf args) = some (ret, Hc) → nmsL args = [] ∧ Hc = [] ∧ ret.nms = [] ∧ ∃ d ret' H0, evC C₀ d Unit noY g args [] () = some (ret', H0, ()) ∧ ret'.snap H0 = ret) : XFact C₀.P C₀.G g pf := by
  intro args ret Hc hpf C hP hGe Γ w Vs hnm hH hG hc
  obtain ⟨hna, rfl, hnr, d, ret', H0, hev, rfl⟩ := h args ret Hc hpf
  have h0 := xfact_of_ev (C₀ := C₀) (g := g) (pf := fun a => match evC C₀ d Unit noY g a [] () with | some (r, H, _) => cond (nmsL a).isEmpty (.ret r H) .fail | none => .fail) hX hO hm (fun a r H hr => by
    split at hr
    · rename_i r' H' _ he
      cases hn : (nmsL a).isEmpty with
      | true =>
        rw [hn] at hr
        simp only [cond_true, trRes, runTr, Option.some.injEq, Prod.mk.injEq] at hr
        obtain ⟨rfl, rfl⟩ := hr
        exact ⟨List.isEmpty_iff.1 hn, d, he⟩
      | false => rw [hn] at hr; cases hr
    · cases hr)
  refine h0.snap args (ret'.snap H0) [] ?_ C hP hGe Γ w Vs hnm hH hG hc
  dsimp only
  rw [hev]
  dsimp only
  rw [hna]
  simp only [List.isEmpty_nil, cond_true, Tr.snap, hnr]
  rfl

end Go.Proofs.Ytfioahjeanmfpaa.E
