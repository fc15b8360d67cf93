/-
  Steps that change the world: what they keep.
-/
import Derived.Test.YtfioahjeanmfpaaE10
import Derived.Below
namespace Go.Proofs.Ytfioahjeanmfpaa.E
open Go
set_option linter.unusedVariables false

/-- Blocks that never change their place or their shape. -/
def fixS (C : Cfg) : Option Shp → Prop
  | some (.arr _ e _ _) => fixedT C e = true
  | some _ => True
  | none => False

/-- What any number of steps keeps. 'Φ': the blocks of the handler. -/
structure Stp (C : Cfg) (Γ : Ctx) (H : List Blk) (w : World) (Φ : Nat → Prop) (Γ' : Ctx) (H' : List Blk) (w' : World) (Φ' : Nat → Prop) : Prop where
  os : w'.os = w.os
  tape : w'.tape = w.tape
  output : w'.output = w.output
  size : w.heap.size ≤ w'.heap.size
  sub : ∀ g, Γ.St g → Γ'.St g
  stnew : ∀ g, Γ'.St g → Γ.St g ∨ w.heap.size ≤ g
  own : ∀ b g, Γ'.nm b = some g → (b < H.length ∧ Γ.nm b = some g) ∨ w.heap.size ≤ g
  foot : ∀ g, Φ' g → Φ g ∨ w.heap.size ≤ g
  frame : ∀ g, g < w.heap.size → (∀ b, Γ.nm b ≠ some g) → ¬ Φ g → w'.heap[g]? = w.heap[g]?
  yv : Γ'.yv = Γ.yv
  len : H.length ≤ H'.length
  keep : ∀ b, b < H.length → fixS C (shpOf H b) → Γ'.nm b = Γ.nm b ∧ shpOf H' b = shpOf H b ∧ ∀ g, Γ.nm b = some g → w'.shape? g = w.shape? g

theorem Stp.refl {C : Cfg} {Γ : Ctx} {H : List Blk} {w : World} {Φ : Nat → Prop} (hH : HR Γ H w) : Stp C Γ H w Φ Γ H w Φ where
  os := rfl
  tape := rfl
  output := rfl
  size := Nat.le_refl _
  sub := fun _ h => h
  stnew := fun _ h => .inl h
  own := fun b g h => .inl ⟨(hH.lt b g h).1, h⟩
  foot := fun _ h => .inl h
  frame := fun _ _ _ _ => rfl
  yv := rfl
  len := Nat.le_refl _
  keep := fun _ _ _ => ⟨rfl, rfl, fun _ _ => rfl⟩

theorem Stp.trans {C : Cfg} {Γ Γ' Γ'' : Ctx} {H H' H'' : List Blk} {w w' w'' : World} {Φ Φ' Φ'' : Nat → Prop} (h : Stp C Γ H w Φ Γ' H' w' Φ') (k : Stp C Γ' H' w' Φ' Γ'' H'' w'' Φ'') : Stp C Γ H w Φ Γ'' H'' w'' Φ'' where
  os := k.os.trans h.os
  tape := k.tape.trans h.tape
  output := k.output.trans h.output
  size := Nat.le_trans h.size k.size
  sub := fun g hg => k.sub g (h.sub g hg)
  stnew := fun g hg => by
    rcases k.stnew g hg with hg | hg
    · exact h.stnew g hg
    · exact .inr (Nat.le_trans h.size hg)
  own := fun b g hg => by
    rcases k.own b g hg with ⟨_, hg⟩ | hg
    · exact h.own b g hg
    · exact .inr (Nat.le_trans h.size hg)
  foot := fun g hg => by
    rcases k.foot g hg with hg | hg
    · exact h.foot g hg
    · exact .inr (Nat.le_trans h.size hg)
  frame := fun g hg hn hp => by
    rw [k.frame g (Nat.lt_of_lt_of_le hg h.size) (fun b hb => by rcases h.own b g hb with ⟨_, e⟩ | e; exact hn b e; omega) (fun hp' => by rcases h.foot g hp' with e | e; exact hp e; omega), h.frame g hg hn hp]
  yv := k.yv.trans h.yv
  len := Nat.le_trans h.len k.len
  keep := fun b hb hf => by
    obtain ⟨e1, e2, e3⟩ := h.keep b hb hf
    obtain ⟨f1, f2, f3⟩ := k.keep b (Nat.lt_of_lt_of_le hb h.len) (by rw [e2]; exact hf)
    exact ⟨f1.trans e1, f2.trans e2, fun g hg => (f3 g (e1.trans hg)).trans (e3 g hg)⟩

/-- What a handler keeps: the state 's', with the stable blocks 'St', the handler's own blocks 'Φ'. -/
structure HI {σ : Type} (I : σ → (Nat → Prop) → (Nat → Prop) → World → Prop) : Prop where
  foot : ∀ s St Φ w, I s St Φ w → ∀ g, Φ g → g < w.heap.size ∧ ¬ St g
  mono : ∀ s St Φ w St' w', I s St Φ w → (∀ g, St g → St' g) → (∀ g, St' g → ¬ Φ g) → (∀ g, St' g → g < w'.heap.size) → (∀ g, St g ∨ Φ g → w'.heap[g]? = w.heap[g]?) → w.heap.size ≤ w'.heap.size →
    w'.os = w.os → w'.tape = w.tape → w'.output = w.output → I s St' Φ w'

/-- THE STATE of the evaluator and the state of the model. -/
structure SI {σ : Type} (C : Cfg) (I : σ → (Nat → Prop) → (Nat → Prop) → World → Prop) (Γ : Ctx) (Φ : Nat → Prop) (st : St σ) (tmps : Array Value) (w : World) : Prop where
  hr : HR Γ st.hp w
  sr : SR Γ st.hp w st.sl tmps
  g : GOK C Γ.St w
  inv : I st.s Γ.St Φ w
  dis : ∀ b g, Γ.nm b = some g → ¬ Φ g

def Ctx.upd (Γ : Ctx) (b g : Nat) : Ctx := { Γ with nm := fun c => if c = b then some g else Γ.nm c }

section
variable {Γ : Ctx} {H : List Blk} {w w' : World} {R : Type} {r : R} {C : Cfg}

theorem shpOf_append_lt {b : Nat} {T : List Blk} (h : b < H.length) : shpOf (H ++ T) b = shpOf H b := by
  simp [shpOf, List.getElem?_append_left h]

theorem shpOf_append_eq {x : Blk} : shpOf (H ++ [x]) H.length = some x.shp := by simp [shpOf]

theorem shpOf_lt {b : Nat} {s : Shp} (h : shpOf H b = some s) : b < H.length := by
  simp only [shpOf, Option.map_eq_some_iff] at h
  obtain ⟨x, hx, _⟩ := h
  exact (List.getElem?_eq_some_iff.1 hx).1

theorem shpOf_set {b c : Nat} {x : Blk} (h : b < H.length) : shpOf (H.set b x) c = if c = b then some x.shp else shpOf H c := by
  simp only [shpOf, List.getElem?_set]
  by_cases hc : b = c
  · subst hc; simp [h]
  · rw [if_neg hc, if_neg (fun e => hc e.symm)]

theorem Blk.kill_shp (b : Nat) (x : Blk) : (x.kill b).shp = x.shp := by cases x <;> rfl
theorem shpOf_kill (b c : Nat) : shpOf (H.map (Blk.kill b)) c = shpOf H c := by
  simp only [shpOf, List.getElem?_map, Option.map_map]
  congr 1
  funext x
  exact Blk.kill_shp b x

theorem VP.shape_lt {b g : Nat} {hH : HR Γ H w} (hg : Γ.nm b = some g) : g < w.heap.size := (hH.lt b g hg).2.1

theorem heap_push_lt {o : Obj} (hw : w'.heap = w.heap.push o) {g : Nat} (h : g < w.heap.size) : w'.heap[g]? = w.heap[g]? := by
  rw [hw, Array.getElem?_push, if_neg (by omega)]
theorem heap_push_eq {o : Obj} (hw : w'.heap = w.heap.push o) : w'.heap[w.heap.size]? = some o := by
  rw [hw, Array.getElem?_push, if_pos rfl]

theorem shape_of_heap {g : Nat} (h : w'.heap[g]? = w.heap[g]?) : w'.shape? g = w.shape? g := by simp [World.shape?, h]

/-- A new block. -/
theorem alloc_mono {x : Blk} {o : Obj} (hH : HR Γ H w) (hw : w'.heap = w.heap.push o) : Mono Γ (shpOf H) w (Γ.upd H.length w.heap.size) (shpOf (H ++ [x])) w' (· < H.length) where
  st := fun g hg => heap_push_lt hw (hH.stlt g hg)
  sub := fun _ h => h
  nm := fun b hb => by simp only [Ctx.upd]; rw [if_neg (by omega)]
  shp := fun b hb => shpOf_append_lt hb
  hs := fun b g hb hg => shape_of_heap (heap_push_lt hw (hH.lt b g hg).2.1)
  yv := rfl

theorem alloc_HR {x : Blk} {o : Obj} (hH : HR Γ H w) (hw : w'.heap = w.heap.push o) (hx : BR (Γ.upd H.length w.heap.size) (shpOf (H ++ [x])) w' H.length x) (hn : ∀ c ∈ x.nms, c < H.length + 1) :
    HR (Γ.upd H.length w.heap.size) (H ++ [x]) w' := by
  have M := alloc_mono (x := x) hH hw
  have hsz : w'.heap.size = w.heap.size + 1 := by rw [hw]; simp
  refine ⟨fun b b' g h1 h2 => ?_, fun b g h => ?_, fun g hg => ?_, fun b hb c hc => ?_, fun b hb => ?_⟩
  · simp only [Ctx.upd] at h1 h2
    split at h1 <;> split at h2
    · omega
    · simp only [Option.some.injEq] at h1; have := (hH.lt b' g h2).2.1; omega
    · simp only [Option.some.injEq] at h2; have := (hH.lt b g h1).2.1; omega
    · exact hH.inj b b' g h1 h2
  · simp only [Ctx.upd] at h
    split at h
    · simp only [Option.some.injEq] at h
      subst h
      refine ⟨by simp; omega, by omega, fun hs => ?_⟩
      have := hH.stlt _ hs; omega
    · have := hH.lt b g h
      exact ⟨by simp; omega, by omega, this.2.2⟩
  · have := hH.stlt g hg; omega
  · rw [List.length_append, List.length_singleton]
    rw [List.length_append, List.length_singleton] at hb
    by_cases e : b = H.length
    · subst e
      simp at hc
      exact hn c hc
    · have hb' : b < H.length := by omega
      rw [List.getElem_append_left hb'] at hc
      have := hH.nms b hb' c hc; omega
  · rw [List.length_append, List.length_singleton] at hb
    by_cases e : b = H.length
    · subst e
      simpa using hx
    · have hb' : b < H.length := by omega
      rw [List.getElem_append_left hb']
      exact (hH.blk b hb').mono M (M.nm b hb') (fun g hg => heap_push_lt hw (hH.lt b g hg).2.1) (fun c hc => hH.nms b hb' c hc)

theorem alloc_Stp {x : Blk} {o : Obj} {Φ : Nat → Prop} (hH : HR Γ H w) (hw : w'.heap = w.heap.push o) (h1 : w'.os = w.os) (h2 : w'.tape = w.tape) (h3 : w'.output = w.output) :
    Stp C Γ H w Φ (Γ.upd H.length w.heap.size) (H ++ [x]) w' Φ where
  os := h1
  tape := h2
  output := h3
  size := by rw [hw]; simp
  sub := fun _ h => h
  stnew := fun _ h => .inl h
  own := fun b g h => by
    simp only [Ctx.upd] at h
    split at h
    · simp only [Option.some.injEq] at h; exact .inr (by omega)
    · exact .inl ⟨(hH.lt b g h).1, h⟩
  foot := fun _ h => .inl h
  frame := fun g hg _ _ => heap_push_lt hw hg
  yv := rfl
  len := by simp
  keep := fun b hb hf => by
    have M := alloc_mono (x := x) hH hw
    exact ⟨M.nm b hb, M.shp b hb, fun g hg => M.hs b g hb hg⟩

/-- A block that has no place in the world (nil). -/
theorem nil_mono (x : Blk) (hH : HR Γ H w) : Mono Γ (shpOf H) w Γ (shpOf (H ++ [x])) w (· < H.length) where
  st := fun _ _ => rfl
  sub := fun _ h => h
  nm := fun _ _ => rfl
  shp := fun b hb => shpOf_append_lt hb
  hs := fun _ _ _ _ => rfl
  yv := rfl

theorem nil_HR {x : Blk} (hH : HR Γ H w) (hx : x.nms = []) (hb : BR Γ (shpOf (H ++ [x])) w H.length x) : HR Γ (H ++ [x]) w := by
  have M := nil_mono x hH
  refine ⟨hH.inj, fun b g h => ?_, hH.stlt, fun b hb c hc => ?_, fun b hb' => ?_⟩
  · have := hH.lt b g h
    exact ⟨by simp; omega, this.2⟩
  · rw [List.length_append, List.length_singleton] at hb ⊢
    by_cases e : b = H.length
    · subst e
      simp [hx] at hc
    · have hb' : b < H.length := by omega
      rw [List.getElem_append_left hb'] at hc
      have := hH.nms b hb' c hc; omega
  · rw [List.length_append, List.length_singleton] at hb'
    by_cases e : b = H.length
    · subst e
      simpa using hb
    · have hb'' : b < H.length := by omega
      rw [List.getElem_append_left hb'']
      exact (hH.blk b hb'').mono M rfl (fun g hg => rfl) (fun c hc => hH.nms b hb'' c hc)

theorem nil_Stp {x : Blk} {Φ : Nat → Prop} (hH : HR Γ H w) : Stp C Γ H w Φ Γ (H ++ [x]) w Φ where
  os := rfl
  tape := rfl
  output := rfl
  size := Nat.le_refl _
  sub := fun _ h => h
  stnew := fun _ h => .inl h
  own := fun b g h => .inl ⟨(hH.lt b g h).1, h⟩
  foot := fun _ h => .inl h
  frame := fun _ _ _ _ => rfl
  yv := rfl
  len := by simp
  keep := fun b hb hf => ⟨rfl, shpOf_append_lt hb, fun _ _ => rfl⟩

theorem GOK.mono {St St' : Nat → Prop} (h : GOK C St w) (hs : ∀ g, St g → w'.heap[g]? = w.heap[g]?) (hsub : ∀ g, St g → St' g) : GOK C St' w' :=
  ⟨fun g k zs hg => by
    obtain ⟨h1, e, x, h2⟩ := h.1 g k zs hg
    exact ⟨hsub g h1, e, x, by rw [hs g h1]; exact h2⟩, fun g hg => by
    obtain ⟨h1, m, h2⟩ := h.2 g hg
    exact ⟨hsub g h1, m, by rw [← h2]; simp [World.cell?, hs g h1]⟩⟩

/-- Stable blocks are left alone. -/
theorem Stp.st {Φ Φ' : Nat → Prop} {Γ' : Ctx} {H' : List Blk} (h : Stp C Γ H w Φ Γ' H' w' Φ') (hH : HR Γ H w) (hΦ : ∀ g, Φ g → ¬ Γ.St g) (g : Nat) (hg : Γ.St g) : w'.heap[g]? = w.heap[g]? :=
  h.frame g (hH.stlt g hg) (fun b hb => (hH.lt b g hb).2.2 hg) (fun hp => hΦ g hp hg)

/-- A step that leaves the handler alone. -/
theorem SI.step {σ : Type} {I : σ → (Nat → Prop) → (Nat → Prop) → World → Prop} (hI : HI I) {Φ : Nat → Prop} {st : St σ} {tmps : Array Value} {Γ' : Ctx} {H' : List Blk} (S : SI C I Γ Φ st tmps w) (h : Stp C Γ st.hp w Φ Γ' H' w' Φ)
    (hΦ : ∀ g, Φ g → w'.heap[g]? = w.heap[g]?) (hr : HR Γ' H' w') {sl' : List PV} {tmps' : Array Value} (sr : SR Γ' H' w' sl' tmps') :
    SI C I Γ' Φ { sl := sl', hp := H', s := st.s } tmps' w' := by
  have hf := hI.foot _ _ _ _ S.inv
  have hst := h.st S.hr (fun g hg => (hf g hg).2)
  refine ⟨hr, sr, S.g.mono hst h.sub, hI.mono _ _ _ _ _ _ S.inv h.sub (fun g hg hp => ?_) hr.stlt (fun g hg => ?_) h.size h.os h.tape h.output, fun b g hb hp => ?_⟩
  · rcases h.stnew g hg with hg | hg
    · exact (hf g hp).2 hg
    · have := (hf g hp).1; omega
  · rcases hg with hg | hg
    · exact hst g hg
    · exact hΦ g hg
  · rcases h.own b g hb with ⟨_, e⟩ | e
    · exact S.dis b g e hp
    · have := (hf g hp).1; omega

/-- A slot is set. -/
theorem SR.put {sl : List PV} {tmps : Array Value} (h : SR Γ H w sl tmps) (o : Oper) {v : PV} {V : Value} (hv : VP Γ (shpOf H) w v V) (hn : ∀ c ∈ v.nms, c < H.length) {ds : List Deferred} :
    SR Γ H w (putS o.dst v sl) (({ tmps := tmps, defers := ds } : Act).put o.dst V).tmps := by
  cases hd : o.dst with
  | none => exact h
  | some d =>
    simp only [putS, Act.put]
    refine ⟨by simp [h.size], fun c hc => ?_, fun i hi => ?_⟩
    · obtain ⟨j, hj, hc⟩ := mem_nmsL.1 hc
      rw [List.getElem_set] at hc
      split at hc
      · exact hn c hc
      · exact h.nms c (mem_nmsL.2 ⟨j, by simpa using hj, hc⟩)
    · have hi' : i < sl.length := by simpa using hi
      rw [List.getElem_set]
      by_cases e : d = i
      · subst e
        rw [if_pos rfl]
        exact ⟨V, by rw [Array.getElem?_setIfInBounds, if_pos rfl, if_pos (by rw [h.size]; exact hi')], hv⟩
      · rw [if_neg e]
        obtain ⟨U, e1, e2⟩ := h.slot i hi'
        exact ⟨U, by rw [Array.getElem?_setIfInBounds, if_neg e]; exact e1, e2⟩

end
end Go.Proofs.Ytfioahjeanmfpaa.E
