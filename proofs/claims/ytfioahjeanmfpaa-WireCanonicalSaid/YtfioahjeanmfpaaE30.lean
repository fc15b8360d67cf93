/-
  Contracts of functions, handed on as known results; words for walks by program.
-/
import Derived.Test.YtfioahjeanmfpaaE29
namespace Go.Proofs.Ytfioahjeanmfpaa.E
open Go
set_option linter.unusedVariables false

/-- A function whose results are known. -/
def XFact (P : Program) (G : GT) (g : Nat) (pf : List PV → Tr) : Prop :=
  ∀ args ret Hc, trRes (pf args) = some (ret, Hc) → ∀ C : Cfg, C.P = P → C.G = G → ∀ Γ w Vs, (∀ b, Γ.nm b = none) → HR Γ [] w → GOK C Γ.St w → CR Γ (shpOf []) w args Vs →
    UponOK P ((callFunc g Vs).run P w) (CRes C I0 Γ [] w noΦ ret Hc ())

theorem xfact_of_ev {C₀ : Cfg} {g : Nat} {pf : List PV → Tr} (hX : XOK C₀) (hO : OkFns C₀) (hm : C₀.P.follows .mixedOrders = true)
    (h : ∀ args ret Hc, trRes (pf args) = some (ret, Hc) → nmsL args = [] ∧ ∃ d, evC C₀ d Unit noY g args [] () = some (ret, Hc, ())) : XFact C₀.P C₀.G g pf := by
  intro args ret Hc hpf C hP hGe Γ w Vs hnm hH hG hc
  obtain ⟨hna, d, hev⟩ := h args ret Hc hpf
  have hG0 : GOK C₀ Γ.St w := hG.congr hGe.symm
  refine (evC_sound hX hO hm d Unit I0 noY Γ.yv I0_HI I0_Yd g args [] () ret Hc () hev Γ noΦ w Vs rfl hH hG0 (fun _ h => h) (fun b g h => by rw [hnm] at h; cases h) hc (by rw [hna]; simp)).mono ?_
  rintro V w' ⟨Γ1, Φ1, hs, hH1, hv, hvn, hi1, hd1⟩
  exact ⟨Γ1, Φ1, ⟨hs.os, hs.tape, hs.output, hs.size, hs.sub, hs.stnew, hs.own, hs.foot, hs.frame, hs.yv, hs.len, fun b hb => by simp at hb⟩, hH1, hv, hvn, hi1, hd1⟩

/-- The same, where a row that is handed back is known to nobody else. -/
def Tr.snap : Tr → Tr
  | .ret v H => cond (v.snap H).nms.isEmpty (.ret (v.snap H) []) .fail
  | .need c t => .need c t.snap
  | .split c a b => .split c a.snap b.snap
  | .fail => .fail

theorem Tr.snap_res : ∀ {t : Tr} {v : PV} {H : List Blk}, trRes t.snap = some (v, H) → ∃ v' H', trRes t = some (v', H') ∧ v = v'.snap H' ∧ H = [] ∧ v.nms = []
  | .ret v' H', v, H, h => by
    simp only [Tr.snap] at h
    cases he : (v'.snap H').nms.isEmpty with
    | false => rw [he] at h; cases h
    | true =>
      rw [he] at h
      simp only [cond_true, trRes, runTr, Option.some.injEq, Prod.mk.injEq] at h
      obtain ⟨rfl, rfl⟩ := h
      exact ⟨v', H', rfl, rfl, rfl, List.isEmpty_iff.1 he⟩
  | .need c t, v, H, h => by
    cases c with
    | true => exact Tr.snap_res (t := t) h
    | false => cases h
  | .split c a b, v, H, h => by
    cases c with
    | true => exact Tr.snap_res (t := a) h
    | false => exact Tr.snap_res (t := b) h
  | .fail, _, _, h => by cases h

theorem XFact.snap {P : Program} {G : GT} {g : Nat} {pf : List PV → Tr} (h : XFact P G g pf) : XFact P G g (fun args => (pf args).snap) := by
  intro args ret Hc hpf C hP hGe Γ w Vs hnm hH hG hc
  obtain ⟨ret', Hc', hpf', rfl, rfl, hnr⟩ := Tr.snap_res hpf
  refine (h args ret' Hc' hpf' C hP hGe Γ w Vs hnm hH hG hc).mono ?_
  rintro V w' ⟨Γ1, Φ1, hs, hH1, hv, hvn, hi1, hd1⟩
  let Γ2 : Ctx := { Γ1.all with nm := fun _ => none }
  have hlt : ∀ g, Γ2.St g → g < w'.heap.size := fun g hg => by
    rcases hg with hg | ⟨b, hb⟩
    · exact hH1.stlt g hg
    · exact (hH1.lt b g hb).2.1
  refine ⟨Γ2, Φ1, ⟨hs.os, hs.tape, hs.output, hs.size, fun g hg => .inl (hs.sub g hg), fun g hg => ?_, fun b g h => by simp [Γ2] at h, hs.foot, hs.frame, hs.yv, Nat.le_refl _, fun b hb => by simp at hb⟩,
    bare_HR (fun _ => rfl) hlt, ?_, by rw [hnr]; simp, hi1, fun b g h => by simp [Γ2] at h⟩
  · rcases hg with hg | ⟨b, hb⟩
    · exact hs.stnew g hg
    · rcases hs.own b g hb with ⟨h', _⟩ | h'
      · simp at h'
      · exact .inr h'
  · exact VP.mono (Γ := Γ1.all) (Γ' := Γ2) (w := w') (w' := w') (sh := shpOf Hc') (ok := fun _ => False) ⟨fun _ _ => rfl, fun _ h => h, fun _ h => h.elim, fun _ h => h.elim, fun _ _ h => h.elim, rfl⟩ (hv.snap hH1) (by rw [hnr]; simp)

/-- A table of known results. -/
def tblX : List (Nat × (List PV → Tr)) → Nat → Option (List PV → Tr)
  | [], _ => none
  | (g, pf) :: r, n => cond (Nat.beq n g) (some pf) (tblX r n)

def XFacts (P : Program) (G : GT) : List (Nat × (List PV → Tr)) → Prop
  | [] => True
  | (g, pf) :: r => XFact P G g pf ∧ XFacts P G r

theorem XFacts.x1 {C : Cfg} {l : List (Nat × (List PV → Tr))} (hl : C.X = tblX l) (h : XFacts C.P C.G l) : X1OK C := by
  intro g pf args ret Hc hg hpf Γ w Vs hnm hH hG hc
  rw [hl] at hg
  have key : ∀ l : List (Nat × (List PV → Tr)), XFacts C.P C.G l → tblX l g = some pf → XFact C.P C.G g pf := by
    intro l
    induction l with
    | nil => intro _ h; cases h
    | cons e r ih =>
      intro h1 h2
      obtain ⟨n, q⟩ := e
      simp only [tblX] at h2
      cases hb : Nat.beq g n with
      | true =>
        rw [hb] at h2
        simp only [cond_true, Option.some.injEq] at h2
        have := Nat.eq_of_beq_eq_true hb
        subst this; subst h2
        exact h1.1
      | false =>
        rw [hb] at h2
        exact ih h1.2 h2
  exact key l h hg args ret Hc hpf C rfl rfl Γ w Vs hnm hH hG hc

/-! ### Calls with memory; calls that yield -/
theorem fixS_congr {C C' : Cfg} (h : C.P = C'.P) : fixS C = fixS C' := by
  funext s
  unfold fixS
  split
  · simp only [fixedT, Cfg.sh, h]
  · rfl
  · rfl

theorem Stp.congr {C C' : Cfg} (h : C.P = C'.P) {Γ Γ' : Ctx} {H H' : List Blk} {w w' : World} {Φ Φ' : Nat → Prop} (s : Stp C Γ H w Φ Γ' H' w' Φ') : Stp C' Γ H w Φ Γ' H' w' Φ' :=
  ⟨s.os, s.tape, s.output, s.size, s.sub, s.stnew, s.own, s.foot, s.frame, s.yv, s.len, fun b hb hf => s.keep b hb (by rw [fixS_congr h]; exact hf)⟩

/-- A function that changes what is lent, whose results are known. -/
def YFact (P : Program) (G : GT) (g : Nat) (pf : List PV → List Blk → Tr) : Prop :=
  ∀ C : Cfg, C.P = P → C.G = G → ∀ (σ : Type) (I : σ → (Nat → Prop) → (Nat → Prop) → World → Prop) (yh : Yh σ) (yv : Value), HI I → YdOK P I yh yv →
    ∀ args H s ret Hc, trRes (pf args H) = some (ret, Hc) → ∀ Γ Φ w Vs, Γ.yv = yv → HR Γ H w → GOK C Γ.St w → I s Γ.St Φ w → (∀ b g, Γ.nm b = some g → ¬ Φ g) → CR Γ (shpOf H) w args Vs → (∀ c ∈ nmsL args, c < H.length) →
      UponOK P ((callFunc g Vs).run P w) (CRes C I Γ H w Φ ret Hc s)

theorem yfact_of_ev {C₀ : Cfg} {g : Nat} {pf : List PV → List Blk → Tr} (hX : XOK C₀) (hO : OkFns C₀) (hm : C₀.P.follows .mixedOrders = true)
    (h : ∀ args H ret Hc, trRes (pf args H) = some (ret, Hc) → ∀ (σ : Type) (yh : Yh σ) (s : σ), ∃ d, evC C₀ d σ yh g args H s = some (ret, Hc, s)) : YFact C₀.P C₀.G g pf := by
  intro C hP hG σ I yh yv hI hy args H s ret Hc hpf Γ Φ w Vs hyv hH hg hi hd hc hn
  obtain ⟨d, hev⟩ := h args H ret Hc hpf σ yh s
  refine (evC_sound hX hO hm d σ I yh yv hI hy g args H s ret Hc s hev Γ Φ w Vs hyv hH (hg.congr hG.symm) hi hd hc hn).mono ?_
  rintro V w' ⟨Γ1, Φ1, hs, k1, k2, k3, k4, k5⟩
  exact ⟨Γ1, Φ1, hs.congr hP.symm, k1, k2, k3, k4, k5⟩

/-- A function that yields known values. -/
def SFact (P : Program) (G : GT) (g : Nat) (pf : List PV → List Blk → Option (Bool × List (List PV))) : Prop :=
  ∀ C : Cfg, C.P = P → C.G = G → ∀ (σ : Type) (I : σ → (Nat → Prop) → (Nat → Prop) → World → Prop) (yh : Yh σ) (yv : Value), HI I → YdOK P I yh yv →
    ∀ args H L s s', pf args H = some (true, L) → H.all isBox = true → seqRun yh L s = some s' → ∀ Γ Φ w Vs, Γ.yv = yv → HR Γ H w → GOK C Γ.St w → I s Γ.St Φ w → (∀ b g, Γ.nm b = some g → ¬ Φ g) → CR Γ (shpOf H) w args Vs → (∀ c ∈ nmsL args, c < H.length) →
      UponOK P ((callFunc g Vs).run P w) (CRes C I Γ H w Φ (.tup []) (H.map bareB) s')

theorem bare_res {C C₀ : Cfg} {σ : Type} {I : σ → (Nat → Prop) → (Nat → Prop) → World → Prop} {Γ : Ctx} {H Hc : List Blk} {w w' : World} {Φ : Nat → Prop} {s' : σ} {V : Value} (hP : C₀.P = C.P) (hb : H.all isBox = true) (hH : HR Γ H w) (h : CRes C₀ I Γ H w Φ (.tup []) Hc s' V w') : CRes C I Γ H w Φ (.tup []) (H.map bareB) s' V w' := by
  obtain ⟨Γ1, Φ1, hs, k1, k2, k3, k4, k5⟩ := h
  have hn : ∀ b g, (if b < H.length then Γ1.nm b else none) = some g → b < H.length ∧ Γ1.nm b = some g := fun b g h => by
    split at h
    · exact ⟨‹_›, h⟩
    · cases h
  have hlen : (H.map bareB).length = H.length := List.length_map _
  refine ⟨{ Γ1 with nm := fun b => if b < H.length then Γ1.nm b else none }, Φ1, ⟨hs.os, hs.tape, hs.output, hs.size, hs.sub, hs.stnew, fun b g hg => hs.own b g (hn b g hg).2, hs.foot, hs.frame, hs.yv, by rw [hlen]; exact Nat.le_refl _, fun b hbl hf => ?_⟩,
    ⟨fun b b' g h1 h2 => k1.inj b b' g (hn b g h1).2 (hn b' g h2).2, fun b g hg => ?_, k1.stlt, fun b hbl c hc => ?_, fun b hbl => ?_⟩, ?_, by simp [PV.nms, nmsL], k4, fun b g hg => k5 b g (hn b g hg).2⟩
  · obtain ⟨m1, m2, m3⟩ := hs.keep b hbl (by rw [fixS_congr hP]; exact hf)
    refine ⟨by simp only; rw [if_pos hbl]; exact m1, ?_, m3⟩
    simp only [shpOf, List.getElem?_map]
    cases H[b]? with
    | none => rfl
    | some x => exact congrArg some (bareB_shp x)
  · obtain ⟨q1, q2⟩ := hn b g hg
    have := k1.lt b g q2
    exact ⟨by rw [hlen]; exact q1, this.2⟩
  · rw [List.getElem_map, bareB_nms] at hc
    simp at hc
  · rw [hlen] at hbl
    rw [List.getElem_map]
    have hbx := List.all_eq_true.1 hb _ (List.getElem_mem hbl)
    have hB := hH.blk b hbl
    cases hx : H[b] with
    | box cells =>
      rw [hx] at hB
      obtain ⟨g, cur, e, h1, h2, h3, _⟩ := hB
      obtain ⟨m1, m2, m3⟩ := hs.keep b hbl (by simp only [shpOf, List.getElem?_eq_getElem hbl, hx]; exact trivial)
      have hl2 : b < Hc.length := Nat.lt_of_lt_of_le hbl hs.len
      have hB2 := k1.blk b hl2
      have hshp : (Hc[b]).shp = .box := by
        simp only [shpOf, List.getElem?_eq_getElem hbl, List.getElem?_eq_getElem hl2, Option.map_some, Option.some.injEq] at m2
        rw [m2, hx]; rfl
      cases hy : Hc[b] with
      | box cells' =>
        rw [hy] at hB2
        obtain ⟨g', cur', e', h1', h2', h3', h4'⟩ := hB2
        have hgg : g' = g := by
          rw [m1, h1] at h1'
          exact (Option.some.inj h1').symm
        subst hgg
        have hsz := m3 g' h1
        simp only [World.shape?, h2, h2', Option.some.injEq, Prod.mk.injEq] at hsz
        refine ⟨g', cur', e', by simp only; rw [if_pos hbl]; exact h1', h2', by rw [hsz.2, h3]; simp, fun j hj => ?_⟩
        have hj' : j < cur'.size := by rw [hsz.2, h3]; simpa using hj
        exact ⟨cur'[j], Array.getElem?_eq_getElem hj', by rw [List.getElem_map]; exact .bad _⟩
      | arr a b c d => rw [hy] at hshp; cases hshp
      | iter a b => rw [hy] at hshp; cases hshp
      | dead => rw [hy] at hshp; cases hshp
    | arr a b c d => rw [hx] at hbx; cases hbx
    | iter a b => rw [hx] at hbx; cases hbx
    | dead => rw [hx] at hbx; cases hbx
  · obtain ⟨A, rfl, hA, hcA⟩ := k2.inv_tup
    exact VP.mk_tup hA fun j hj => by simp at hj

theorem sfact_of_ev {C₀ : Cfg} {g : Nat} {pf : List PV → List Blk → Option (Bool × List (List PV))} (hX : XOK C₀) (hO : OkFns C₀) (hm : C₀.P.follows .mixedOrders = true)
    (h : ∀ args H L, pf args H = some (true, L) → ∀ (σ : Type) (yh : Yh σ) (s s' : σ), seqRun yh L s = some s' → ∃ d Hc, evC C₀ d σ yh g args H s = some (.tup [], Hc, s')) : SFact C₀.P C₀.G g pf := by
  intro C hP hG σ I yh yv hI hy args H L s s' hpf hb hrun Γ Φ w Vs hyv hH hg hi hdis hc hn
  obtain ⟨d, Hc, hev⟩ := h args H L hpf σ yh s s' hrun
  exact (evC_sound hX hO hm d σ I yh yv hI hy g args H s _ Hc s' hev Γ Φ w Vs hyv hH (hg.congr hG.symm) hi hdis hc hn).mono fun V w' hr => bare_res hP.symm hb hH hr

def tblG {α : Type} : List (Nat × α) → Nat → Option α
  | [], _ => none
  | (g, pf) :: r, n => cond (Nat.beq n g) (some pf) (tblG r n)

theorem tblG_mem {α : Type} : ∀ {l : List (Nat × α)} {g : Nat} {pf : α}, tblG l g = some pf → (g, pf) ∈ l
  | [], _, _, h => by cases h
  | (n, q) :: r, g, pf, h => by
    simp only [tblG] at h
    cases hb : Nat.beq g n with
    | true =>
      rw [hb] at h
      simp only [cond_true, Option.some.injEq] at h
      have := Nat.eq_of_beq_eq_true hb
      subst this; subst h
      simp
    | false =>
      rw [hb] at h
      exact List.mem_cons_of_mem _ (tblG_mem h)

def YFacts (P : Program) (G : GT) : List (Nat × (List PV → List Blk → Tr)) → Prop
  | [] => True
  | (g, pf) :: r => YFact P G g pf ∧ YFacts P G r
def SFacts (P : Program) (G : GT) : List (Nat × (List PV → List Blk → Option (Bool × List (List PV)))) → Prop
  | [] => True
  | (g, pf) :: r => SFact P G g pf ∧ SFacts P G r

theorem YFacts.mem {P : Program} {G : GT} : ∀ {l : List (Nat × (List PV → List Blk → Tr))} {g : Nat} {pf : List PV → List Blk → Tr}, YFacts P G l → (g, pf) ∈ l → YFact P G g pf
  | [], _, _, _, hm => by simp at hm
  | (n, q) :: r, g, pf, h, hm => by
    rcases List.mem_cons.1 hm with e | hm
    · cases e; exact h.1
    · exact YFacts.mem h.2 hm
theorem SFacts.mem {P : Program} {G : GT} : ∀ {l : List (Nat × (List PV → List Blk → Option (Bool × List (List PV))))} {g : Nat} {pf : List PV → List Blk → Option (Bool × List (List PV))}, SFacts P G l → (g, pf) ∈ l → SFact P G g pf
  | [], _, _, _, hm => by simp at hm
  | (n, q) :: r, g, pf, h, hm => by
    rcases List.mem_cons.1 hm with e | hm
    · cases e; exact h.1
    · exact SFacts.mem h.2 hm

theorem YFacts.ok {C : Cfg} {l : List (Nat × (List PV → List Blk → Tr))} (hl : C.Y = tblG l) (h : YFacts C.P C.G l) : CalleeOK C (clY C) := by
  intro σ I yh yv hI hy g args H s ret Hc s' hcl Γ Φ w Vs hyv hH hg hi hd hc hn
  simp only [clY, hl] at hcl
  split at hcl
  · rename_i pf hpf
    split at hcl
    · rename_i r' h' hr
      simp only [Option.some.injEq, Prod.mk.injEq] at hcl
      obtain ⟨rfl, rfl, rfl⟩ := hcl
      exact h.mem (tblG_mem hpf) C rfl rfl σ I yh yv hI hy args H s _ _ hr Γ Φ w Vs hyv hH hg hi hd hc hn
    · cases hcl
  · cases hcl

theorem SFacts.ok {C : Cfg} {l : List (Nat × (List PV → List Blk → Option (Bool × List (List PV))))} (hl : C.S = tblG l) (h : SFacts C.P C.G l) : CalleeOK C (clS C) := by
  intro σ I yh yv hI hy g args H s ret Hc s' hcl Γ Φ w Vs hyv hH hg hi hd hc hn
  simp only [clS, hl] at hcl
  split at hcl
  · rename_i pf hpf
    split at hcl
    · rename_i hb
      split at hcl
      · rename_i L hL
        split at hcl
        · rename_i s2 hr
          simp only [Option.some.injEq, Prod.mk.injEq] at hcl
          obtain ⟨rfl, rfl, rfl⟩ := hcl
          exact h.mem (tblG_mem hpf) C rfl rfl σ I yh yv hI hy args H L s _ hL hb hr Γ Φ w Vs hyv hH hg hi hd hc hn
        · cases hcl
      · cases hcl
    · cases hcl
  · cases hcl

/-- The tables' facts together. -/
theorem xok_of {C : Cfg} {lx : List (Nat × (List PV → Tr))} {ly : List (Nat × (List PV → List Blk → Tr))} {ls : List (Nat × (List PV → List Blk → Option (Bool × List (List PV))))} (h1 : C.X = tblX lx) (h2 : C.Y = tblG ly) (h3 : C.S = tblG ls) (x : XFacts C.P C.G lx) (y : YFacts C.P C.G ly) (s : SFacts C.P C.G ls) : XOK C :=
  ⟨XFacts.x1 h1 x, YFacts.ok h2 y, SFacts.ok h3 s⟩

theorem XFacts.ok {C : Cfg} {l : List (Nat × (List PV → Tr))} (hl : C.X = tblX l) (h : XFacts C.P C.G l) (h2 : C.Y = tblG [] := by rfl) (h3 : C.S = tblG [] := by rfl) : XOK C :=
  xok_of hl h2 h3 h trivial trivial

def okL : List Nat → Nat → Bool
  | [], _ => false
  | a :: r, n => Nat.beq n a || okL r n

def okFnsB (C : Cfg) (l : List Nat) : Bool := l.all fun f => match C.P.funcs[f]? with
  | some fn => match fn.body with
    | some c => codeOK C c && !(fn.name == "runtime.NumGoroutine")
    | none => true
  | none => true

theorem okFns_of {C : Cfg} {l : List Nat} (hl : C.okf = okL l) (h : okFnsB C l = true) : OkFns C := by
  intro f fn c hok hf hb
  have key : ∀ l : List Nat, okL l f = true → f ∈ l := by
    intro l
    induction l with
    | nil => intro h; cases h
    | cons a r ih =>
      intro h
      simp only [okL, Bool.or_eq_true] at h
      rcases h with h | h
      · have := Nat.eq_of_beq_eq_true h; subst this; simp
      · exact List.mem_cons_of_mem _ (ih h)
  have hm : f ∈ l := key l (by rw [← hl]; exact hok)
  simp only [okFnsB, List.all_eq_true] at h
  have := h f hm
  rw [hf] at this
  simp only [hb, Bool.and_eq_true, Bool.not_eq_true'] at this
  exact this

/-- A part of the code, by its path. -/
def cd : List Nat → Code → Code
  | [], c => c
  | 0 :: p, .seq a _ => cd p a
  | 1 :: p, .seq _ b => cd p b
  | 0 :: p, .cond _ a _ => cd p a
  | 1 :: p, .cond _ _ b => cd p b
  | 0 :: p, .block _ a => cd p a
  | 0 :: p, .loop a => cd p a
  | 0 :: p, .scope a => cd p a
  | 0 :: p, .rangeFunc _ _ a _ => cd p a
  | 1 :: p, .rangeFunc _ _ _ b => cd p b
  | _, _ => .skip

def bodyOf (f : Func) : Code := f.body.getD .skip

section
variable {σ R : Type}
def bd (C : Cfg) (cl : CallT) (yh : Yh σ) (c : Code) : St σ → (Out → St σ → Option R) → Option R := fun st k => evCode C cl yh c st k
def seqK (C : Cfg) (cl : CallT) (yh : Yh σ) (b : Code) (k : Out → St σ → Option R) : Out → St σ → Option R := fun o st' => match o with
  | .normal => evCode C cl yh b st' k
  | o => k o st'
def blkK (id : Nat) (k : Out → St σ → Option R) : Out → St σ → Option R := fun o st' => match o with
  | .exit j => if j = id then k .normal st' else k (.exit j) st'
  | o => k o st'
def retK (C : Cfg) (fn : Func) : Out → St σ → Option (PV × List Blk × σ) := fun o st => match o with
  | .normal => resK C st.sl st.hp fn.results.toList fun vs => some (packRes vs, st.hp, st.s)
  | .ret => resK C st.sl st.hp fn.results.toList fun vs => some (packRes vs, st.hp, st.s)
  | _ => none
def lpK (L : Nat) (ds : Option (List Nat)) (body : St σ → (Out → St σ → Option R) → Option R) (n : Nat) (k : Out → St σ → Option R) : Out → St σ → Option R := fun o st' => match o with
  | .normal => loopK L ds body n (forget ds (trunc L st')) k
  | o => k o (forget ds st')
end

theorem evC_eq {C : Cfg} {d f : Nat} {fn : Func} {σ : Type} {yh : Yh σ} {args : List PV} {H : List Blk} {s : σ} (h2 : C.P.funcs[f]? = some fn) (h1 : C.okf f = true) (h3 : fn.body = some (bodyOf fn)) :
    evC C (d + 1) σ yh f args H s = evCode C (evC C d) yh (bodyOf fn) { sl := args ++ List.replicate (fn.ntmps - args.length) (.tup []), hp := H, s := s } (retK C fn) := by
  simp only [evC, h1, h2]
  split
  · rename_i c hc
    rw [hc] at h3
    simp only [Option.some.injEq] at h3
    rw [← h3]
    rfl
  · rename_i hc
    rw [hc] at h3
    cases h3

end Go.Proofs.Ytfioahjeanmfpaa.E
