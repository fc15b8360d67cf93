/-
  Ranges over functions: what a round leaves.
-/
import Derived.Test.YtfioahjeanmfpaaE40
import Derived.RangeFuncRecord
namespace Go.Proofs.Ytfioahjeanmfpaa.E
open Go
set_option linter.unusedVariables false

/-- The names from 'L' on are given up; their blocks are stable from now on. -/
def Ctx.cut (Γ : Ctx) (L : Nat) : Ctx := { Γ with St := fun g => Γ.St g ∨ ∃ b, L ≤ b ∧ Γ.nm b = some g, nm := fun b => if b < L then Γ.nm b else none }

def mkD (D : Nat) : Deferred := { target := .collected D, args := #[] }

section
variable {σ R : Type} {r : R} {C : Cfg} {I : σ → (Nat → Prop) → (Nat → Prop) → World → Prop} {Γ Γ' : Ctx} {Φ Φ' : Nat → Prop} {st : St σ} {a : Act} {w w' : World} {cl : CallT} {yh : Yh σ} {yv : Value} {o : Oper} {H H' : List Blk} {tmps : Array Value}

/-- A block of which the evaluator does not speak. -/
def Off (Γ : Ctx) (Φ : Nat → Prop) (w : World) (g : Nat) : Prop := g < w.heap.size ∧ ¬ Γ.St g ∧ (∀ b, Γ.nm b ≠ some g) ∧ ¬ Φ g

theorem Off.step {g : Nat} (h : Off Γ Φ w g) (s : Stp C Γ H w Φ Γ' H' w' Φ') : Off Γ' Φ' w' g ∧ w'.heap[g]? = w.heap[g]? := by
  obtain ⟨h1, h2, h3, h4⟩ := h
  refine ⟨⟨Nat.lt_of_lt_of_le h1 s.size, fun q => ?_, fun b q => ?_, fun q => ?_⟩, s.frame g h1 h3 h4⟩
  · rcases s.stnew g q with q | q
    · exact h2 q
    · omega
  · rcases s.own b g q with ⟨_, q⟩ | q
    · exact h3 b q
    · omega
  · rcases s.foot g q with q | q
    · exact h4 q
    · omega

/-- The marks of the ranges that are behind. -/
def Mk (n0 : Nat) (Γ : Ctx) (Φ : Nat → Prop) (w : World) (ds : List Deferred) : Prop := n0 ≤ w.heap.size ∧ ∃ Ds : List Nat, ds = Ds.map mkD ∧ Ds.Nodup ∧ ∀ D ∈ Ds, n0 ≤ D ∧ Off Γ Φ w D ∧ w.heap[D]? = some (.deferred (some []))

theorem Mk.nil {n0 : Nat} (h : n0 ≤ w.heap.size) : Mk n0 Γ Φ w [] := ⟨h, [], rfl, List.nodup_nil, by simp⟩

theorem Mk.step {n0 : Nat} {ds : List Deferred} (h : Mk n0 Γ Φ w ds) (s : Stp C Γ H w Φ Γ' H' w' Φ') : Mk n0 Γ' Φ' w' ds := by
  obtain ⟨h0, Ds, h1, h2, h3⟩ := h
  refine ⟨Nat.le_trans h0 s.size, Ds, h1, h2, fun D hD => ?_⟩
  obtain ⟨k1, k2, k3⟩ := h3 D hD
  obtain ⟨q1, q2⟩ := k2.step s
  exact ⟨k1, q1, q2.trans k3⟩

/-- The world changes where the evaluator does not look. -/
structure OffW (Γ : Ctx) (Φ : Nat → Prop) (w w' : World) : Prop where
  same : ∀ g, Γ.St g ∨ (∃ b, Γ.nm b = some g) ∨ Φ g → w'.heap[g]? = w.heap[g]?
  size : w.heap.size ≤ w'.heap.size
  os : w'.os = w.os
  tape : w'.tape = w.tape
  output : w'.output = w.output

theorem OffW.mono (h : OffW Γ Φ w w') : Mono Γ (shpOf H) w Γ (shpOf H) w' (fun _ => True) :=
  ⟨fun g hg => h.same g (.inl hg), fun _ h => h, fun _ _ => rfl, fun _ _ => rfl, fun b g _ hg => shape_of_heap (h.same g (.inr (.inl ⟨b, hg⟩))), rfl⟩

theorem SI.offW (hI : HI I) (S : SI C I Γ Φ st tmps w) (h : OffW Γ Φ w w') : SI C I Γ Φ st tmps w' := by
  have hf := hI.foot _ _ _ _ S.inv
  refine ⟨⟨S.hr.inj, fun b g hb => ?_, fun g hg => Nat.lt_of_lt_of_le (S.hr.stlt g hg) h.size, S.hr.nms, fun b hb => (S.hr.blk b hb).mono h.mono rfl (fun g hg => h.same g (.inr (.inl ⟨b, hg⟩))) (fun _ _ => trivial)⟩,
    S.sr.mono h.mono (fun c hc => ⟨trivial, S.sr.nms c hc⟩), S.g.mono (fun g hg => h.same g (.inl hg)) (fun _ h => h),
    hI.mono _ _ _ _ _ _ S.inv (fun _ h => h) (fun g hg hp => (hf g hp).2 hg) (fun g hg => Nat.lt_of_lt_of_le (S.hr.stlt g hg) h.size) (fun g hg => h.same g (hg.elim .inl (fun q => .inr (.inr q)))) h.size h.os h.tape h.output, S.dis⟩
  obtain ⟨q1, q2, q3⟩ := S.hr.lt b g hb
  exact ⟨q1, Nat.lt_of_lt_of_le q2 h.size, q3⟩

/-- More blocks are stable. -/
theorem SI.wideSt (hI : HI I) (S : SI C I Γ Φ st tmps w) {St' : Nat → Prop} (hs : ∀ g, Γ.St g → St' g) (hd : ∀ g, St' g → ¬ Φ g) (hn : ∀ b g, Γ.nm b = some g → ¬ St' g) (hlt : ∀ g, St' g → g < w.heap.size) : SI C I { Γ with St := St' } Φ st tmps w := by
  have M : Mono Γ (shpOf st.hp) w { Γ with St := St' } (shpOf st.hp) w (fun _ => True) := ⟨fun _ _ => rfl, hs, fun _ _ => rfl, fun _ _ => rfl, fun _ _ _ _ => rfl, rfl⟩
  refine ⟨⟨S.hr.inj, fun b g hb => ?_, hlt, S.hr.nms, fun b hb => (S.hr.blk b hb).mono M rfl (fun _ _ => rfl) (fun _ _ => trivial)⟩,
    S.sr.mono M (fun c hc => ⟨trivial, S.sr.nms c hc⟩), S.g.mono (fun _ _ => rfl) hs, hI.mono _ _ _ _ _ _ S.inv hs hd hlt (fun _ _ => rfl) (Nat.le_refl _) rfl rfl rfl, S.dis⟩
  obtain ⟨q1, q2, _⟩ := S.hr.lt b g hb
  exact ⟨q1, q2, hn b g hb⟩

/-- What rounds keep. -/
structure Pg (C : Cfg) (Γ : Ctx) (H : List Blk) (w : World) (Φ : Nat → Prop) (Γ' : Ctx) (H' : List Blk) (w' : World) (Φ' : Nat → Prop) : Prop where
  os : w'.os = w.os
  tape : w'.tape = w.tape
  output : w'.output = w.output
  size : w.heap.size ≤ w'.heap.size
  sub : ∀ g, Γ.St g → Γ'.St g
  own : ∀ b g, Γ'.nm b = some g → (b < H.length ∧ Γ.nm b = some g) ∨ w.heap.size ≤ g
  foot : ∀ g, Φ' g → Φ g ∨ w.heap.size ≤ g
  yv : Γ'.yv = Γ.yv
  len : H.length ≤ H'.length
  keep : ∀ b, b < H.length → fixS C (shpOf H b) → Γ'.nm b = Γ.nm b ∧ shpOf H' b = shpOf H b ∧ ∀ g, Γ.nm b = some g → w'.shape? g = w.shape? g

theorem Stp.pg (h : Stp C Γ H w Φ Γ' H' w' Φ') : Pg C Γ H w Φ Γ' H' w' Φ' := ⟨h.os, h.tape, h.output, h.size, h.sub, h.own, h.foot, h.yv, h.len, h.keep⟩

theorem Pg.trans {Γ'' : Ctx} {H'' : List Blk} {w'' : World} {Φ'' : Nat → Prop} (h : Pg C Γ H w Φ Γ' H' w' Φ') (k : Pg C Γ' H' w' Φ' Γ'' H'' w'' Φ'') : Pg C Γ H w Φ Γ'' H'' w'' Φ'' := by
  have h1 := h.size
  refine ⟨k.os.trans h.os, k.tape.trans h.tape, k.output.trans h.output, Nat.le_trans h.size k.size, fun g hg => k.sub g (h.sub g hg), fun b g hb => ?_, fun g hg => ?_, k.yv.trans h.yv, Nat.le_trans h.len k.len, fun b hb hf => ?_⟩
  · rcases k.own b g hb with ⟨_, q⟩ | q
    · exact h.own b g q
    · exact .inr (by omega)
  · rcases k.foot g hg with q | q
    · exact h.foot g q
    · exact .inr (by omega)
  · obtain ⟨k1, k2, k3⟩ := h.keep b hb hf
    have h2 := h.len
    obtain ⟨m1, m2, m3⟩ := k.keep b (by omega) (by rw [k2]; exact hf)
    exact ⟨m1.trans k1, m2.trans k2, fun g hg => (m3 g (k1.trans hg)).trans (k3 g hg)⟩

theorem Pg.off (hH : HR Γ H w) (h : OffW Γ Φ w w') : Pg C Γ H w Φ Γ H w' Φ :=
  ⟨h.os, h.tape, h.output, h.size, fun _ h => h, fun b g hb => .inl ⟨(hH.lt b g hb).1, hb⟩, fun _ h => .inl h, rfl, Nat.le_refl _, fun b hb _ => ⟨rfl, rfl, fun g hg => shape_of_heap (h.same g (.inr (.inl ⟨b, hg⟩)))⟩⟩

theorem Pg.wideSt {St' : Nat → Prop} (hH : HR Γ H w) (hs : ∀ g, Γ.St g → St' g) : Pg C Γ H w Φ { Γ with St := St' } H w Φ :=
  ⟨rfl, rfl, rfl, Nat.le_refl _, hs, fun b g hb => .inl ⟨(hH.lt b g hb).1, hb⟩, fun _ h => .inl h, rfl, Nat.le_refl _, fun _ _ _ => ⟨rfl, rfl, fun _ _ => rfl⟩⟩

/-- A change of one block that is off. -/
theorem OffW.put {l : Nat} {ob : Obj} (h : Off Γ Φ w l) : OffW Γ Φ w (w.putObj l ob) := by
  refine ⟨fun g hg => World.putObj_heap_other ?_, by simp, rfl, rfl, rfl⟩
  rintro rfl
  rcases hg with q | ⟨b, q⟩ | q
  · exact h.2.1 q
  · exact h.2.2.1 b q
  · exact h.2.2.2 q

theorem Off.put {g l : Nat} {ob : Obj} (h : Off Γ Φ w g) : Off Γ Φ (w.putObj l ob) g := ⟨by simpa using h.1, h.2⟩

theorem Mk.put {n0 l : Nat} {ob : Obj} {rr : Loop} {ds : List Deferred} (h : Mk n0 Γ Φ w ds) (hl : w.heap[l]? = some (.loop rr)) : Mk n0 Γ Φ (w.putObj l ob) ds := by
  obtain ⟨h0, Ds, h1, h2, h3⟩ := h
  refine ⟨by simpa using h0, Ds, h1, h2, fun D hD => ?_⟩
  obtain ⟨k1, k2, k3⟩ := h3 D hD
  refine ⟨k1, k2.put, (World.putObj_heap_other ?_).trans k3⟩
  rintro rfl
  rw [k3] at hl
  cases hl

/-- What holds behind the code. -/
def Post (C : Cfg) (I : σ → (Nat → Prop) → (Nat → Prop) → World → Prop) (n0 : Nat) (Γ : Ctx) (Φ : Nat → Prop) (H : List Blk) (w : World) (k : Out → St σ → Option R) (r : R) (Q : Exit → Act → World → Prop) : Prop :=
  ∀ o st' a' w' Γ' Φ', k o st' = some r → Stp C Γ H w Φ Γ' st'.hp w' Φ' → SI C I Γ' Φ' st' a'.tmps w' → Mk n0 Γ' Φ' w' a'.defers → Q o.exit' a' w'

/-- What is asked of a code within a round. -/
def WP (C : Cfg) (I : σ → (Nat → Prop) → (Nat → Prop) → World → Prop) (cl : CallT) (yh : Yh σ) (yv : Value) (c : Code) : Prop :=
  ∀ {R : Type} {r : R} {ro : Option Nat} {n n0 : Nat} {Γ : Ctx} {Φ : Nat → Prop} {st : St σ} {a : Act} {w : World} {k : Out → St σ → Option R} {Q : Exit → Act → World → Prop},
    Γ.yv = yv → evCode C cl yh c st k = some r → SI C I Γ Φ st a.tmps w → Mk n0 Γ Φ w a.defers → Post C I n0 Γ Φ st.hp w k r Q → c.wpIn (wideAt ro) n C.P Q a w

/-- The loop's record. -/
def recL (fn : FuncId) (tmps : Array Value) (ps : Array Tmp) (as body : Code) (D : Nat) (s : LoopState) (p : Option Code) : Loop := { state := s, pending := p, fn := fn, tmps := tmps, params := ps, assign := as, body := body, defers := D }

def jmp : Out → Code
  | .normal => .skip
  | .exit id => .exit id
  | .ret => .ret

def stOf : Option Out → LoopState
  | none => .ready
  | some _ => .done

/-- What holds between the rounds. -/
structure RIb (C : Cfg) (I : σ → (Nat → Prop) → (Nat → Prop) → World → Prop) (Γ0 : Ctx) (H0 : List Blk) (w0 : World) (Φ0 : Nat → Prop) (sl0 : List PV) (tmps : Array Value) (l D : Nat) (rc : LoopState → Option Code → Loop) (x : List Blk × Option Out × σ) (St Φ : Nat → Prop) (w : World) (Γb : Ctx) (Φb : Nat → Prop) : Prop where
  si : SI C I Γb Φb { sl := sl0, hp := x.1, s := x.2.2 } tmps w
  pg : Pg C Γ0 H0 w0 Φ0 Γb x.1 w Φb
  st : ∀ g, Γb.St g → St g
  ph : ∀ g, Φ g ↔ Φb g ∨ (∃ b, Γb.nm b = some g) ∨ g = l ∨ g = D
  ft : ∀ g, Φ g → g < w.heap.size ∧ ¬ St g
  ol : Off Γb Φb w l
  od : Off Γb Φb w D
  hl : w.heap[l]? = some (.loop (rc (stOf x.2.1) (x.2.1.map jmp)))
  hd : w.heap[D]? = some (.deferred (some []))

def RI (C : Cfg) (I : σ → (Nat → Prop) → (Nat → Prop) → World → Prop) (Γ0 : Ctx) (H0 : List Blk) (w0 : World) (Φ0 : Nat → Prop) (sl0 : List PV) (tmps : Array Value) (l D : Nat) (rc : LoopState → Option Code → Loop) : (List Blk × Option Out × σ) → (Nat → Prop) → (Nat → Prop) → World → Prop :=
  fun x St Φ w => ∃ Γb Φb, RIb C I Γ0 H0 w0 Φ0 sl0 tmps l D rc x St Φ w Γb Φb

theorem RI_HI {Γ0 : Ctx} {H0 : List Blk} {w0 : World} {Φ0 : Nat → Prop} {sl0 : List PV} {l D : Nat} {rc : LoopState → Option Code → Loop} (hI : HI I) : HI (RI C I Γ0 H0 w0 Φ0 sl0 tmps l D rc) := by
  refine ⟨fun x St Φ w ⟨Γb, Φb, r⟩ => r.ft, fun x St Φ w St' w' ⟨Γb, Φb, r⟩ hs hd hlt hh hz ho ht hu => ?_⟩
  have inΦ : ∀ {g}, Φb g ∨ (∃ b, Γb.nm b = some g) ∨ g = l ∨ g = D → Φ g := fun {g} h => (r.ph g).2 h
  have O : OffW Γb Φb w w' := ⟨fun g hg => by
    rcases hg with q | q | q
    · exact hh g (.inl (r.st g q))
    · exact hh g (.inr (inΦ (.inr (.inl q))))
    · exact hh g (.inr (inΦ (.inl q))), hz, ho, ht, hu⟩
  have up : ∀ {g}, Off Γb Φb w g → Off Γb Φb w' g := fun h => ⟨Nat.lt_of_lt_of_le h.1 hz, h.2⟩
  exact ⟨Γb, Φb, r.si.offW hI O, r.pg.trans (Pg.off r.si.hr O), fun g hg => hs g (r.st g hg), r.ph, fun g hg => ⟨Nat.lt_of_lt_of_le (r.ft g hg).1 hz, fun q => hd g q hg⟩, up r.ol, up r.od,
    (hh l (.inr (inΦ (.inr (.inr (.inl rfl)))))).trans r.hl, (hh D (.inr (inΦ (.inr (.inr (.inr rfl)))))).trans r.hd⟩

end
end Go.Proofs.Ytfioahjeanmfpaa.E
