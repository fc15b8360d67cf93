/-
  Contracts of functions, handed on as known results; words for walks by program.
-/
import Derived.Test.YtfioahjeanmfpaaE29
namespace Go.Proofs.Ytfioahjeanmfpaa.E
open Go
set_option linter.unusedVariables false

/-- A function whose results are known. -/
def XFact (P : Program) (G : Nat → Option (List SV)) (g : Nat) (pf : List PV → Tr) : Prop :=
  ∀ args ret Hc, trRes (pf args) = some (ret, Hc) → ∀ C : Cfg, C.P = P → C.G = G → ∀ Γ w Vs, (∀ b, Γ.nm b = none) → HR Γ [] w → GOK C Γ.St w → CR Γ (shpOf []) w args Vs →
    UponOK P ((callFunc g Vs).run P w) (CRes C I0 Γ [] w noΦ ret Hc ())

theorem xfact_of_ev {C₀ : Cfg} {g : Nat} {pf : List PV → Tr} (hX : XOK C₀) (hO : OkFns C₀) (hm : C₀.P.follows .mixedOrders = true)
    (h : ∀ args ret Hc, trRes (pf args) = some (ret, Hc) → nmsL args = [] ∧ ∃ d, evC C₀ d Unit noY g args [] () = some (ret, Hc, ())) : XFact C₀.P C₀.G g pf := by
  intro args ret Hc hpf C hP hGe Γ w Vs hnm hH hG hc
  obtain ⟨hna, d, hev⟩ := h args ret Hc hpf
  have hG0 : GOK C₀ Γ.St w := fun b cells hb => hG b cells (by rw [hGe]; exact hb)
  refine (evC_sound hX hO hm d Unit I0 noY Γ.yv I0_HI I0_Yd g args [] () ret Hc () hev Γ noΦ w Vs rfl hH hG0 (fun _ h => h) (fun b g h => by rw [hnm] at h; cases h) hc (by rw [hna]; simp)).mono ?_
  rintro V w' ⟨Γ1, Φ1, hs, hH1, hv, hvn, hi1, hd1⟩
  exact ⟨Γ1, Φ1, ⟨hs.os, hs.tape, hs.output, hs.size, hs.sub, hs.stnew, hs.own, hs.foot, hs.frame, hs.yv, hs.len, fun b hb => by simp at hb⟩, hH1, hv, hvn, hi1, hd1⟩

/-- The same, where a row that is handed back is known to nobody else. -/
def Tr.snap : Tr → Tr
  | .ret v H => cond (v.snap H).nms.isEmpty (.ret (v.snap H) []) .fail
  | .need c t => .need c t.snap
  | .split c a b => .split c a.snap b.snap
  | .fail => .fail

theorem Tr.snap_res : ∀ {t : Tr} {v : PV} {H : List Blk}, trRes t.snap = some (v, H) → ∃ v' H', trRes t = some (v', H') ∧ v = v'.snap H' ∧ H = [] ∧ v.nms = []
  | .ret v' H', v, H, h => by
    simp only [Tr.snap] at h
    cases he : (v'.snap H').nms.isEmpty with
    | false => rw [he] at h; cases h
    | true =>
      rw [he] at h
      simp only [cond_true, trRes, runTr, Option.some.injEq, Prod.mk.injEq] at h
      obtain ⟨rfl, rfl⟩ := h
      exact ⟨v', H', rfl, rfl, rfl, List.isEmpty_iff.1 he⟩
  | .need c t, v, H, h => by
    cases c with
    | true => exact Tr.snap_res (t := t) h
    | false => cases h
  | .split c a b, v, H, h => by
    cases c with
    | true => exact Tr.snap_res (t := a) h
    | false => exact Tr.snap_res (t := b) h
  | .fail, _, _, h => by cases h

theorem XFact.snap {P : Program} {G : Nat → Option (List SV)} {g : Nat} {pf : List PV → Tr} (h : XFact P G g pf) : XFact P G g (fun args => (pf args).snap) := by
  intro args ret Hc hpf C hP hGe Γ w Vs hnm hH hG hc
  obtain ⟨ret', Hc', hpf', rfl, rfl, hnr⟩ := Tr.snap_res hpf
  refine (h args ret' Hc' hpf' C hP hGe Γ w Vs hnm hH hG hc).mono ?_
  rintro V w' ⟨Γ1, Φ1, hs, hH1, hv, hvn, hi1, hd1⟩
  let Γ2 : Ctx := { Γ1.all with nm := fun _ => none }
  have hlt : ∀ g, Γ2.St g → g < w'.heap.size := fun g hg => by
    rcases hg with hg | ⟨b, hb⟩
    · exact hH1.stlt g hg
    · exact (hH1.lt b g hb).2.1
  refine ⟨Γ2, Φ1, ⟨hs.os, hs.tape, hs.output, hs.size, fun g hg => .inl (hs.sub g hg), fun g hg => ?_, fun b g h => by simp [Γ2] at h, hs.foot, hs.frame, hs.yv, Nat.le_refl _, fun b hb => by simp at hb⟩,
    bare_HR (fun _ => rfl) hlt, ?_, by rw [hnr]; simp, hi1, fun b g h => by simp [Γ2] at h⟩
  · rcases hg with hg | ⟨b, hb⟩
    · exact hs.stnew g hg
    · rcases hs.own b g hb with ⟨h', _⟩ | h'
      · simp at h'
      · exact .inr h'
  · exact VP.mono (Γ := Γ1.all) (Γ' := Γ2) (w := w') (w' := w') (sh := shpOf Hc') (ok := fun _ => False) ⟨fun _ _ => rfl, fun _ h => h, fun _ h => h.elim, fun _ h => h.elim, fun _ _ h => h.elim, rfl⟩ (hv.snap hH1) (by rw [hnr]; simp)

/-- A table of known results. -/
def tblX : List (Nat × (List PV → Tr)) → Nat → Option (List PV → Tr)
  | [], _ => none
  | (g, pf) :: r, n => cond (Nat.beq n g) (some pf) (tblX r n)

def XFacts (P : Program) (G : Nat → Option (List SV)) : List (Nat × (List PV → Tr)) → Prop
  | [] => True
  | (g, pf) :: r => XFact P G g pf ∧ XFacts P G r

theorem XFacts.ok {C : Cfg} {l : List (Nat × (List PV → Tr))} (hl : C.X = tblX l) (h : XFacts C.P C.G l) : XOK C := by
  intro g pf args ret Hc hg hpf Γ w Vs hnm hH hG hc
  rw [hl] at hg
  have key : ∀ l : List (Nat × (List PV → Tr)), XFacts C.P C.G l → tblX l g = some pf → XFact C.P C.G g pf := by
    intro l
    induction l with
    | nil => intro _ h; cases h
    | cons e r ih =>
      intro h1 h2
      obtain ⟨n, q⟩ := e
      simp only [tblX] at h2
      cases hb : Nat.beq g n with
      | true =>
        rw [hb] at h2
        simp only [cond_true, Option.some.injEq] at h2
        have := Nat.eq_of_beq_eq_true hb
        subst this; subst h2
        exact h1.1
      | false =>
        rw [hb] at h2
        exact ih h1.2 h2
  exact key l h hg args ret Hc hpf C rfl rfl Γ w Vs hnm hH hG hc

def okL : List Nat → Nat → Bool
  | [], _ => false
  | a :: r, n => Nat.beq n a || okL r n

def okFnsB (C : Cfg) (l : List Nat) : Bool := l.all fun f => match C.P.funcs[f]? with
  | some fn => match fn.body with
    | some c => codeOK C c && !(fn.name == "runtime.NumGoroutine")
    | none => true
  | none => true

theorem okFns_of {C : Cfg} {l : List Nat} (hl : C.okf = okL l) (h : okFnsB C l = true) : OkFns C := by
  intro f fn c hok hf hb
  have key : ∀ l : List Nat, okL l f = true → f ∈ l := by
    intro l
    induction l with
    | nil => intro h; cases h
    | cons a r ih =>
      intro h
      simp only [okL, Bool.or_eq_true] at h
      rcases h with h | h
      · have := Nat.eq_of_beq_eq_true h; subst this; simp
      · exact List.mem_cons_of_mem _ (ih h)
  have hm : f ∈ l := key l (by rw [← hl]; exact hok)
  simp only [okFnsB, List.all_eq_true] at h
  have := h f hm
  rw [hf] at this
  simp only [hb, Bool.and_eq_true, Bool.not_eq_true'] at this
  exact this

/-- A part of the code, by its path. -/
def cd : List Nat → Code → Code
  | [], c => c
  | 0 :: p, .seq a _ => cd p a
  | 1 :: p, .seq _ b => cd p b
  | 0 :: p, .cond _ a _ => cd p a
  | 1 :: p, .cond _ _ b => cd p b
  | 0 :: p, .block _ a => cd p a
  | 0 :: p, .loop a => cd p a
  | 0 :: p, .scope a => cd p a
  | 0 :: p, .rangeFunc _ _ a _ => cd p a
  | 1 :: p, .rangeFunc _ _ _ b => cd p b
  | _, _ => .skip

def bodyOf (f : Func) : Code := f.body.getD .skip

section
variable {σ R : Type}
def bd (C : Cfg) (cl : CallT) (yh : Yh σ) (c : Code) : St σ → (Out → St σ → Option R) → Option R := fun st k => evCode C cl yh c st k
def seqK (C : Cfg) (cl : CallT) (yh : Yh σ) (b : Code) (k : Out → St σ → Option R) : Out → St σ → Option R := fun o st' => match o with
  | .normal => evCode C cl yh b st' k
  | o => k o st'
def blkK (id : Nat) (k : Out → St σ → Option R) : Out → St σ → Option R := fun o st' => match o with
  | .exit j => if j = id then k .normal st' else k (.exit j) st'
  | o => k o st'
def retK (C : Cfg) (fn : Func) : Out → St σ → Option (PV × List Blk × σ) := fun o st => match o with
  | .normal => resK C st.sl st.hp fn.results.toList fun vs => some (packRes vs, st.hp, st.s)
  | .ret => resK C st.sl st.hp fn.results.toList fun vs => some (packRes vs, st.hp, st.s)
  | _ => none
def lpK (L : Nat) (ds : Option (List Nat)) (body : St σ → (Out → St σ → Option R) → Option R) (n : Nat) (k : Out → St σ → Option R) : Out → St σ → Option R := fun o st' => match o with
  | .normal => loopK L ds body n (forget ds (trunc L st')) k
  | o => k o (forget ds st')
end

theorem evC_eq {C : Cfg} {d f : Nat} {fn : Func} {σ : Type} {yh : Yh σ} {args : List PV} {H : List Blk} {s : σ} (h2 : C.P.funcs[f]? = some fn) (h1 : C.okf f = true) (h3 : fn.body = some (bodyOf fn)) :
    evC C (d + 1) σ yh f args H s = evCode C (evC C d) yh (bodyOf fn) { sl := args ++ List.replicate (fn.ntmps - args.length) (.tup []), hp := H, s := s } (retK C fn) := by
  simp only [evC, h1, h2]
  split
  · rename_i c hc
    rw [hc] at h3
    simp only [Option.some.injEq] at h3
    rw [← h3]
    rfl
  · rename_i hc
    rw [hc] at h3
    cases h3

end Go.Proofs.Ytfioahjeanmfpaa.E
