/-
  Calls: rows that are handed on as they stand.
-/
import Derived.Test.YtfioahjeanmfpaaE20
import Derived.TacticsIn
namespace Go.Proofs.Ytfioahjeanmfpaa.E
open Go
set_option linter.unusedVariables false

def wideAt (ro : Option Nat) : Fence := { Fence.wide with round := ro }

/-- Whatever follows: the operation's result leads to a value of which 'R' holds. -/
def UponOK (P : Program) (res : Result Next) (R : Value → World → Prop) : Prop :=
  ∀ (ro : Option Nat) (n : Nat) (o : Oper) (a : Act) (next : Act → World → Prop) (Q : Exit → Act → World → Prop), (∀ V w', R V w' → next (a.put o.dst V) w') → o.uponIn (wideAt ro) n P a next Q res

theorem UponOK.mono {P : Program} {res : Result Next} {R R' : Value → World → Prop} (h : UponOK P res R) (hr : ∀ V w', R V w' → R' V w') : UponOK P res R' :=
  fun ro n o a next Q hn => h ro n o a next Q fun V w' hR => hn V w' (hr V w' hR)

/-- What a call leaves. -/
def CRes {σ : Type} (C : Cfg) (I : σ → (Nat → Prop) → (Nat → Prop) → World → Prop) (Γ : Ctx) (H : List Blk) (w : World) (Φ : Nat → Prop) (ret : PV) (Hc : List Blk) (s' : σ) (V : Value) (w' : World) : Prop :=
  ∃ Γ' Φ', Stp C Γ H w Φ Γ' Hc w' Φ' ∧ HR Γ' Hc w' ∧ VP Γ' (shpOf Hc) w' ret V ∧ (∀ c ∈ ret.nms, c < Hc.length) ∧ I s' Γ'.St Φ' w' ∧ ∀ b g, Γ'.nm b = some g → ¬ Φ' g

/-- How the handler's value is called. -/
def YdOK {σ : Type} (P : Program) (I : σ → (Nat → Prop) → (Nat → Prop) → World → Prop) (yh : Yh σ) (yv : Value) : Prop :=
  ∀ args s b s', yh args s = some (b, s') → svArgs args = true → ∀ Γ Φ w Vs, I s Γ.St Φ w → (∀ g, Γ.St g → g < w.heap.size) → CR Γ (fun _ => none) w args Vs →
    UponOK P ((do let d ← Deferred.ofValue yv Vs; invoke d.target d.args).run P w) fun V w' => V = .bool b ∧ ∃ St' Φ', I s' St' Φ' w' ∧ (∀ g, Γ.St g → St' g) ∧ (∀ g, St' g → Γ.St g ∨ w.heap.size ≤ g) ∧ (∀ g, Φ' g → Φ g ∨ w.heap.size ≤ g) ∧
      (∀ g, g < w.heap.size → ¬ Φ g → w'.heap[g]? = w.heap[g]?) ∧ w.heap.size ≤ w'.heap.size ∧ w'.os = w.os ∧ w'.tape = w.tape ∧ w'.output = w.output ∧ ∀ g, St' g → g < w'.heap.size

def CalleeOK (C : Cfg) (cl : CallT) : Prop :=
  ∀ (σ : Type) (I : σ → (Nat → Prop) → (Nat → Prop) → World → Prop) (yh : Yh σ) (yv : Value), HI I → YdOK C.P I yh yv →
    ∀ g args H s ret Hc s', cl σ yh g args H s = some (ret, Hc, s') → ∀ Γ Φ w Vs, Γ.yv = yv → HR Γ H w → GOK C Γ.St w → I s Γ.St Φ w → (∀ b g, Γ.nm b = some g → ¬ Φ g) → CR Γ (shpOf H) w args Vs → (∀ c ∈ nmsL args, c < H.length) →
      UponOK C.P ((callFunc g Vs).run C.P w) (CRes C I Γ H w Φ ret Hc s')

def I0 : Unit → (Nat → Prop) → (Nat → Prop) → World → Prop := fun _ _ Φ _ => ∀ g, ¬ Φ g

def X1OK (C : Cfg) : Prop :=
  ∀ g pf args ret Hc, C.X g = some pf → trRes (pf args) = some (ret, Hc) → ∀ Γ w Vs, (∀ b, Γ.nm b = none) → HR Γ [] w → GOK C Γ.St w → CR Γ (shpOf []) w args Vs →
    UponOK C.P ((callFunc g Vs).run C.P w) (CRes C I0 Γ [] w noΦ ret Hc ())

/-- Calls that change what is lent, with known results. -/
def clY (C : Cfg) : CallT := fun _ _ g args H s => match C.Y g with
  | some pf => match trRes (pf args H) with
    | some (r, h) => some (r, h, s)
    | none => none
  | none => none

def seqRun {σ : Type} (yh : Yh σ) : List (List PV) → σ → Option σ
  | [], s => some s
  | x :: xs, s => match yh x s with
    | some (true, s') => seqRun yh xs s'
    | some (false, s') => some s'
    | none => none

/-- Calls that yield known values. -/
def clS (C : Cfg) : CallT := fun _ yh g args H s => match C.S g with
  | some pf => if H.all isBox = true then match pf args H with
    | some (true, L) => match seqRun yh L s with
      | some s' => some (.tup [], H.map bareB, s')
      | none => none
    | _ => none
    else none
  | none => none

/-- The known results are right. -/
structure XOK (C : Cfg) : Prop where
  x : X1OK C
  y : CalleeOK C (clY C)
  s : CalleeOK C (clS C)

section
variable {Γ : Ctx} {H : List Blk} {w : World} {C : Cfg}

/-- The stable blocks and the call's own. -/
def Ctx.all (Γ : Ctx) : Ctx := { Γ with St := fun g => Γ.St g ∨ ∃ b, Γ.nm b = some g }

theorem row_VS {St' : Nat → Prop} {b e sz i n : Nat} {v : Bool} {els : List (List SV)} {a : Addr} {cap g : Nat} (hH : HR Γ H w) (hb : H[b]? = some (.arr v e sz els)) (hne : ¬ (v = true ∧ els = [])) (hg : Γ.nm b = some g) (hi : i + n ≤ els.length) (ha : n ≠ 0 → a = ⟨g, i * sz, none⟩) (hcap : n ≤ cap) (hm : cap ≤ maxLen) (hs' : ∀ g, Γ.St g → St' g) (hg' : St' g) :
    VS St' w (.sl false false sz ((els.drop i).take n)) (.slice (some a) n cap) := by
  by_cases hn : n = 0
  · subst hn
    rw [List.take_zero]
    exact .emp false sz a cap (by simp) hm
  · rw [ha hn]
    obtain ⟨g', cur, h1, h2, h3, h4, h5⟩ := hH.arr' hb hne
    rw [hg] at h1; cases h1
    have hlen : ((els.drop i).take n).length = n := by simp; omega
    have hget : ∀ k (hk : k < ((els.drop i).take n).length), ∃ h' : i + k < els.length, ((els.drop i).take n)[k] = els[i + k] := fun k hk => by
      rw [hlen] at hk
      exact ⟨by omega, by simp⟩
    have hcell : ∀ k, k < cur.size → w.cell? ⟨g, k, none⟩ = cur[k]? := fun k _ => cell_of_row w g k cur e (0, 0) h2
    refine .sl false _ g (i * sz) n cap sz (fun k j => cur.getD (i * sz + k * sz + j) undef) hlen.symm hcap hm (by simp) hg' (fun k hk => ?_) (fun k hk j hj => ?_) (fun k hk j hj => ?_)
    · obtain ⟨h', e⟩ := hget k hk; rw [e]; exact h4 _ h'
    · obtain ⟨h', e⟩ := hget k hk
      obtain ⟨V, e1, e2⟩ := h5 _ h' j (by rw [← e]; exact hj)
      have e3 : cur[i * sz + k * sz + j]? = some V := by rw [← e1, Nat.add_mul]
      rw [cell_of_row w g _ cur _ (0, 0) h2, e3]
      simp [Array.getD_eq_getD_getElem?, e3]
    · obtain ⟨h', e⟩ := hget k hk
      obtain ⟨V, e1, e2⟩ := h5 _ h' j (by rw [← e]; exact hj)
      have e3 : cur[i * sz + k * sz + j]? = some V := by rw [← e1, Nat.add_mul]
      simp only [e, Array.getD_eq_getD_getElem?, e3]
      exact e2.mono (fun _ _ => rfl) hs'

theorem VP.toAll {sh : Nat → Option Shp} {v : PV} {V : Value} (h : VP Γ sh w v V) : VP Γ.all sh w v V :=
  h.mono (Γ' := Γ.all) (ok := fun _ => True) ⟨fun _ _ => rfl, fun _ h => Or.inl h, fun _ _ => rfl, fun _ _ => rfl, fun _ _ _ _ => rfl, rfl⟩ (fun _ _ => trivial)

/-- A row that is handed on as it stands. -/
theorem VP.snap (hH : HR Γ H w) {v : PV} {V : Value} (h : VP Γ (shpOf H) w v V) : VP Γ.all (shpOf H) w (v.snap H) V := by
  generalize hsh : shpOf H = sh at h
  induction h with
  | s v V h => exact (VP.s v V h).toAll
  | nsl => exact .s _ _ (.nil _ _)
  | flv b e sz h =>
    subst hsh
    obtain ⟨x, hx, hs⟩ : ∃ x, H[b]? = some x ∧ x.shp = .arr true e sz 0 := by simpa [shpOf] using h
    cases x <;> simp [Blk.shp] at hs
    rename_i v' e' sz' els
    obtain ⟨rfl, rfl, rfl, h4⟩ := hs
    subst h4
    simp only [PV.snap, hx]
    exact .s _ _ (.nil _ _)
  | fl b g v e sz n cap h hv hg hcap hm hs =>
    subst hsh
    obtain ⟨x, hx, hs'⟩ : ∃ x, H[b]? = some x ∧ x.shp = .arr v e sz n := by simpa [shpOf] using h
    cases x <;> simp [Blk.shp] at hs'
    rename_i v' e' sz' els
    obtain ⟨rfl, rfl, rfl, rfl⟩ := hs'
    have hne : ¬ (v' = true ∧ els = []) := by rintro ⟨q1, q2⟩; exact hv q1 (by rw [q2]; rfl)
    have hz : (v' && els.isEmpty) = false := by
      cases v' <;> simp_all
    simp only [PV.snap, hx, hz]
    have := row_VS (i := 0) (n := els.length) (a := ⟨g, 0, none⟩) (cap := cap) hH hx hne hg (by omega) (fun _ => by simp) hcap hm (St' := Γ.all.St) (fun _ h => Or.inl h) (.inr ⟨b, hg⟩)
    simp only [List.drop_zero, List.take_length] at this
    exact .s _ _ this
  | vwv b e sz i h =>
    subst hsh
    obtain ⟨x, hx, hs⟩ : ∃ x, H[b]? = some x ∧ x.shp = .arr true e sz 0 := by simpa [shpOf] using h
    cases x <;> simp [Blk.shp] at hs
    rename_i v' e' sz' els
    obtain ⟨rfl, rfl, rfl, h4⟩ := hs
    subst h4
    simp only [PV.snap, hx, List.drop_nil, List.take_nil]
    exact .s _ _ (.nil _ _)
  | vw b i n g a cap v e sz m h hv hg ha hi hcap hm =>
    subst hsh
    obtain ⟨x, hx, hs'⟩ : ∃ x, H[b]? = some x ∧ x.shp = .arr v e sz m := by simpa [shpOf] using h
    cases x <;> simp [Blk.shp] at hs'
    rename_i v' e' sz' els
    obtain ⟨rfl, rfl, rfl, rfl⟩ := hs'
    have hne : ¬ (v' = true ∧ els = []) := by rintro ⟨q1, q2⟩; exact hv q1 (by rw [q2]; rfl)
    have hz : (v' && els.isEmpty) = false := by
      cases v' <;> simp_all
    simp only [PV.snap, hx, hz]
    exact .s _ _ (row_VS hH hx hne hg hi ha hcap hm (fun _ h => Or.inl h) (.inr ⟨b, hg⟩))
  | ptrA b i off g v e sz n h hg => exact (VP.ptrA b i off g v e sz n h hg).toAll
  | ptrB b off g h hg => exact (VP.ptrB b off g h hg).toAll
  | fnr f x y A B As Bs hf hA hB ha hb hx hy ihx ihy => exact (VP.fnr f x y A B As Bs hf hA hB ha hb hx hy).toAll
  | it b g h hg => exact (VP.it b g h hg).toAll
  | yd => exact .yd
  | agg l A As hA ha hl ih =>
    simp only [PV.snap, snapL_eq]
    refine .agg _ A As (by simpa using hA) (fun j h => ha j (by simpa using h)) (fun j h => ?_)
    rw [List.getElem_map]
    exact ih j (by simpa using h)
  | tup l A As hA ha hl ih => exact (VP.tup l A As hA ha hl).toAll
  | bad V => exact .bad V

theorem rowsL_mem {l : List PV} (h : rowsL l = false) : ∀ v ∈ l, v.rows = false := by
  induction l with
  | nil => simp
  | cons a l ih =>
    simp only [rowsL, Bool.or_eq_false_iff] at h
    intro v hv
    rcases List.mem_cons.1 hv with rfl | hv
    · exact h.1
    · exact ih h.2 v hv

/-- Nothing is a row: nothing becomes stable. -/
theorem VP.snap_plain {sh : Nat → Option Shp} {v : PV} {V : Value} (h : VP Γ sh w v V) : v.rows = false → VP Γ sh w (v.snap H) V ∧ ∀ c ∈ (v.snap H).nms, c ∈ v.nms := by
  induction h with
  | nsl => intro _; exact ⟨.s _ _ (.nil _ _), by simp [PV.snap, PV.nms]⟩
  | flv b e sz h => intro hr; simp [PV.rows] at hr
  | fl b g v e sz n cap h hv hg hcap hm hs => intro hr; simp [PV.rows] at hr
  | vwv b e sz i h => intro hr; simp [PV.rows] at hr
  | vw b i n g a cap v e sz m h hv hg ha hi hcap hm => intro hr; simp [PV.rows] at hr
  | agg l A As hA ha hl ih =>
    intro hr
    simp only [PV.rows] at hr
    have hr' := rowsL_mem hr
    simp only [PV.snap, snapL_eq]
    refine ⟨.agg _ A As (by simpa using hA) (fun j h => ha j (by simpa using h)) (fun j h => ?_), fun c hc => ?_⟩
    · rw [List.getElem_map]
      exact (ih j (by simpa using h) (hr' _ (List.getElem_mem _))).1
    · simp only [PV.nms] at hc ⊢
      obtain ⟨j, hj, hc⟩ := mem_nmsL.1 hc
      rw [List.getElem_map] at hc
      exact mem_nmsL.2 ⟨j, by simpa using hj, (ih j (by simpa using hj) (hr' _ (List.getElem_mem _))).2 c hc⟩
  | s v V h => intro _; exact ⟨.s v V h, fun c hc => hc⟩
  | ptrA b i off g v e sz n h hg => intro _; exact ⟨.ptrA b i off g v e sz n h hg, fun c hc => hc⟩
  | ptrB b off g h hg => intro _; exact ⟨.ptrB b off g h hg, fun c hc => hc⟩
  | fnr f x y A B As Bs hf hA hB ha hb hx hy ihx ihy => intro _; exact ⟨.fnr f x y A B As Bs hf hA hB ha hb hx hy, fun c hc => hc⟩
  | it b g h hg => intro _; exact ⟨.it b g h hg, fun c hc => hc⟩
  | yd => intro _; exact ⟨.yd, fun c hc => hc⟩
  | tup l A As hA ha hl ih => intro _; exact ⟨.tup l A As hA ha hl, fun c hc => hc⟩
  | bad V => intro _; exact ⟨.bad V, fun c hc => hc⟩

theorem CR.snap (hH : HR Γ H w) {l : List PV} {A : Array Value} (h : CR Γ (shpOf H) w l A) : CR Γ.all (shpOf H) w (snapL H l) A := by
  rw [snapL_eq]
  refine ⟨by rw [List.length_map]; exact h.1, fun j hj => ?_⟩
  obtain ⟨U, e, k⟩ := h.2 j (by simpa using hj)
  exact ⟨U, e, by rw [List.getElem_map]; exact k.snap hH⟩

theorem CR.snap_plain {l : List PV} {A : Array Value} (h : CR Γ (shpOf H) w l A) (hr : rowsL l = false) : CR Γ (shpOf H) w (snapL H l) A ∧ ∀ c ∈ nmsL (snapL H l), c ∈ nmsL l := by
  have hr' := rowsL_mem hr
  rw [snapL_eq]
  refine ⟨⟨by rw [List.length_map]; exact h.1, fun j hj => ?_⟩, fun c hc => ?_⟩
  · obtain ⟨U, e, k⟩ := h.2 j (by simpa using hj)
    exact ⟨U, e, by rw [List.getElem_map]; exact (k.snap_plain (hr' _ (List.getElem_mem _))).1⟩
  · obtain ⟨j, hj, hc⟩ := mem_nmsL.1 hc
    rw [List.getElem_map] at hc
    have hj' : j < l.length := by simpa using hj
    obtain ⟨U, e, k⟩ := h.2 j hj'
    exact mem_nmsL.2 ⟨j, hj', (k.snap_plain (hr' _ (List.getElem_mem _))).2 c hc⟩

/-- No names at all. -/
theorem CR.bare {Γ' : Ctx} {sh sh' : Nat → Option Shp} {l : List PV} {A : Array Value} (h : CR Γ sh w l A) (hn : nmsL l = []) (hst : ∀ g, Γ.St g → Γ'.St g) (hyv : Γ'.yv = Γ.yv) : CR Γ' sh' w l A :=
  ⟨h.1, fun j hj => by
    obtain ⟨U, e, k⟩ := h.2 j hj
    refine ⟨U, e, k.mono (ok := fun _ => False) ⟨fun _ _ => rfl, hst, fun _ h => h.elim, fun _ h => h.elim, fun _ _ h => h.elim, hyv⟩ (fun b hb => ?_)⟩
    have : b ∈ nmsL l := mem_nmsL.2 ⟨j, hj, hb⟩
    rw [hn] at this
    simp at this⟩

/-- The world grows; nothing old changes. -/
theorem wide_Mono {St' : Nat → Prop} {w' : World} (hH : HR Γ H w) (hold : ∀ g, g < w.heap.size → w'.heap[g]? = w.heap[g]?) (hs : ∀ g, Γ.St g → St' g) : Mono Γ (shpOf H) w { Γ with St := St' } (shpOf H) w' (fun _ => True) :=
  ⟨fun g hg => hold g (hH.stlt g hg), hs, fun _ _ => rfl, fun _ _ => rfl, fun b g _ hg => shape_of_heap (hold g (hH.lt b g hg).2.1), rfl⟩

theorem wide_HR {St' : Nat → Prop} {w' : World} (hH : HR Γ H w) (hold : ∀ g, g < w.heap.size → w'.heap[g]? = w.heap[g]?) (hsz : w.heap.size ≤ w'.heap.size) (hs : ∀ g, Γ.St g → St' g) (hn : ∀ g, St' g → Γ.St g ∨ w.heap.size ≤ g) (hlt : ∀ g, St' g → g < w'.heap.size) : HR { Γ with St := St' } H w' := by
  refine ⟨hH.inj, fun b g hg => ?_, hlt, hH.nms, fun b hb => (hH.blk b hb).mono (wide_Mono hH hold hs) rfl (fun g hg => hold g (hH.lt b g hg).2.1) (fun _ _ => trivial)⟩
  have := hH.lt b g hg
  refine ⟨this.1, by omega, fun h => ?_⟩
  rcases hn g h with h | h
  · exact this.2.2 h
  · omega

theorem wide_Stp {St' : Nat → Prop} {w' : World} {Φ : Nat → Prop} (hH : HR Γ H w) (hold : ∀ g, g < w.heap.size → w'.heap[g]? = w.heap[g]?) (hsz : w.heap.size ≤ w'.heap.size) (hs : ∀ g, Γ.St g → St' g) (hn : ∀ g, St' g → Γ.St g ∨ w.heap.size ≤ g) (h1 : w'.os = w.os) (h2 : w'.tape = w.tape) (h3 : w'.output = w.output) :
    Stp C Γ H w Φ { Γ with St := St' } H w' Φ :=
  ⟨h1, h2, h3, hsz, hs, hn, fun b g hg => .inl ⟨(hH.lt b g hg).1, hg⟩, fun _ h => .inl h, fun g hg _ _ => hold g hg, rfl, Nat.le_refl _, fun b hb hf => ⟨rfl, rfl, fun g hg => shape_of_heap (hold g (hH.lt b g hg).2.1)⟩⟩

end
end Go.Proofs.Ytfioahjeanmfpaa.E
