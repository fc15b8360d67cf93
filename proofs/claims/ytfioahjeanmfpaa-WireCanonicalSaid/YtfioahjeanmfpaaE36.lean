/-
  Ranges over functions: the statement.
-/
import Derived.Test.YtfioahjeanmfpaaE35
import Derived.Test.YtfioahjeanmfpaaE38
namespace Go.Proofs.Ytfioahjeanmfpaa.E
open Go
set_option linter.unusedVariables false

def Ctx.hide (Γ : Ctx) (ns : List Nat) : Ctx := { Γ with nm := fun b => if b ∈ ns then none else Γ.nm b }
def Ctx.reyv (Γ : Ctx) (y : Value) (hy : y.oneCell' = true) : Ctx := { Γ with yv := y, yv1 := hy }

section
variable {σ R : Type} {r : R} {C : Cfg} {I : σ → (Nat → Prop) → (Nat → Prop) → World → Prop} {Γ Γ' : Ctx} {Φ Φ' : Nat → Prop} {st : St σ} {a : Act} {w w' : World} {cl : CallT} {yh : Yh σ} {yv : Value} {H H' : List Blk} {tmps : Array Value}

theorem yfL_mem : ∀ {l : List PV}, yfL l = true → ∀ v ∈ l, v.yf = true
  | [], _, v, hv => by simp at hv
  | x :: r, h, v, hv => by
    simp only [yfL, Bool.and_eq_true] at h
    rcases List.mem_cons.1 hv with rfl | hv
    · exact h.1
    · exact yfL_mem h.2 v hv

theorem VP.reyv {sh : Nat → Option Shp} {y : Value} {hy : y.oneCell' = true} {v : PV} {V : Value} (h : VP Γ sh w v V) : v.yf = true → VP (Γ.reyv y hy) sh w v V := by
  induction h with
  | s v V h => intro _; exact .s v V h
  | nsl => intro _; exact .nsl
  | flv b e sz h => intro _; exact .flv b e sz h
  | fl b g v e sz n cap h hv hg hcap hm hs => intro _; exact .fl b g v e sz n cap h hv hg hcap hm hs
  | vwv b e sz i h => intro _; exact .vwv b e sz i h
  | vw b i n g a cap v e sz m h hv hg ha hi hcap hm => intro _; exact .vw b i n g a cap v e sz m h hv hg ha hi hcap hm
  | ptrA b i off g v e sz n h hg => intro _; exact .ptrA b i off g v e sz n h hg
  | ptrB b off g h hg => intro _; exact .ptrB b off g h hg
  | fnr g x y A B As Bs hf hA hB ha hb hx hy ihx ihy =>
    intro hc
    simp only [PV.yf, Bool.and_eq_true] at hc
    exact .fnr g x y A B As Bs hf hA hB ha hb (fun j h => ihx j h (yfL_mem hc.1 _ (List.getElem_mem h))) (fun j h => ihy j h (yfL_mem hc.2 _ (List.getElem_mem h)))
  | it b g h hg => intro _; exact .it b g h hg
  | yd => intro h; simp [PV.yf] at h
  | agg l A As hA ha hl ih =>
    intro hc
    simp only [PV.yf] at hc
    exact .agg l A As hA ha (fun j h => ih j h (yfL_mem hc _ (List.getElem_mem h)))
  | tup l A As hA ha hl ih =>
    intro hc
    simp only [PV.yf] at hc
    exact .tup l A As hA ha (fun j h => ih j h (yfL_mem hc _ (List.getElem_mem h)))
  | bad V => intro _; exact .bad V

mutual
theorem PV.yf_rn (f : Nat → Nat) : ∀ v : PV, (v.rn f).yf = v.yf
  | .s _ => rfl
  | .nsl => rfl
  | .fl b => rfl
  | .vw b _ _ => rfl
  | .ptr b _ _ => rfl
  | .fnr _ x y => by simp only [PV.rn, PV.yf, yfL_rn f x, yfL_rn f y]
  | .it b => rfl
  | .yd => rfl
  | .agg l => by simp only [PV.rn, PV.yf, yfL_rn f l]
  | .tup l => by simp only [PV.rn, PV.yf, yfL_rn f l]
  | .bad => rfl
theorem yfL_rn (f : Nat → Nat) : ∀ l : List PV, yfL (rnL f l) = yfL l
  | [] => rfl
  | v :: r => by simp only [rnL, yfL, PV.yf_rn f v, yfL_rn f r]
end
theorem Blk.yf_rn (f : Nat → Nat) (x : Blk) : (x.rn f).yf = x.yf := by cases x <;> simp [Blk.rn, Blk.yf, yfL_rn]

theorem BR.reyv {sh : Nat → Option Shp} {b : Nat} {x : Blk} {y : Value} {hy : y.oneCell' = true} (h : BR Γ sh w b x) (hx : x.yf = true) : BR (Γ.reyv y hy) sh w b x := by
  cases x with
  | arr v e sz els => exact h
  | box cells =>
    simp only [Blk.yf] at hx
    obtain ⟨g, cur, e, h1, h2, h3, h4⟩ := h
    refine ⟨g, cur, e, h1, h2, h3, fun j h => ?_⟩
    obtain ⟨V, e1, e2⟩ := h4 j h
    exact ⟨V, e1, e2.reyv (yfL_mem hx _ (List.getElem_mem h))⟩
  | iter s p => exact h
  | dead => exact h

theorem HR.reyv {y : Value} {hy : y.oneCell' = true} (h : HR Γ H w) (hx : ∀ b (h : b < H.length), (H[b]).yf = true) : HR (Γ.reyv y hy) H w :=
  ⟨h.inj, h.lt, h.stlt, h.nms, fun b hb => (h.blk b hb).reyv (hx b hb)⟩

theorem loose_spec : ∀ (H : List Blk) (n : Nat), ∀ b (h : b < H.length), (n + b) ∈ loose C H n ∨ fixB C H[b] = true
  | [], n, b, h => by simp at h
  | x :: r, n, 0, _ => by
    cases hf : fixB C x with
    | true => exact .inr hf
    | false => exact .inl (by simp [loose, hf])
  | x :: r, n, b + 1, h => by
    have := loose_spec r (n + 1) b (by simpa using h)
    rw [show n + 1 + b = n + (b + 1) by omega] at this
    rcases this with q | q
    · refine .inl ?_
      simp only [loose]
      cases fixB C x with
      | true => exact q
      | false => exact List.mem_cons_of_mem _ q
    · exact .inr (by simpa using q)

theorem hide_Mono {ns : List Nat} (hsh : ∀ b, b ∉ ns → shpOf H' b = shpOf H b) : Mono Γ (shpOf H) w (Γ.hide ns) (shpOf H') w (· ∉ ns) :=
  ⟨fun _ _ => rfl, fun _ h => h, fun b hb => by simp only [Ctx.hide]; rw [if_neg hb], hsh, fun _ _ _ _ => rfl, rfl⟩

theorem dead_HR {ns : List Nat} (hH : HR Γ H w) (hnd : ns.Nodup) (hlt : ∀ b ∈ ns, b < H.length) : (deadAll ns H).length = H.length ∧ (∀ b, b ∉ ns → shpOf (deadAll ns H) b = shpOf H b) ∧ (∀ b, b ∈ ns → shpOf (deadAll ns H) b = some .dead) ∧ HR (Γ.hide ns) (deadAll ns H) w := by
  obtain ⟨kb1, kb2, kb3⟩ := killBs_spec (Γ := Γ) (sh := shpOf H) (w := w) ns H
  obtain ⟨sa1, sa2⟩ := setAll_spec ns (List.replicate ns.length .dead) (killBs ns H) hnd (by simp) (fun b hb => by rw [kb1]; exact hlt b hb)
  have hl : (deadAll ns H).length = H.length := by rw [deadAll, sa1, kb1]
  have hout : ∀ b, b ∉ ns → (deadAll ns H)[b]? = (killBs ns H)[b]? := fun b hb => by rw [deadAll, sa2, if_neg hb]
  have hin : ∀ b, b ∈ ns → (deadAll ns H)[b]? = some .dead := fun b hb => by
    rw [deadAll, sa2, if_pos hb, List.getElem?_replicate, if_pos (List.idxOf_lt_length_of_mem hb)]
  have hsh : ∀ b, b ∉ ns → shpOf (deadAll ns H) b = shpOf H b := fun b hb => by
    rw [← kb2 b]; simp only [shpOf, hout b hb]
  have M := hide_Mono (Γ := Γ) (H := H) (w := w) hsh
  have hnm : ∀ b g, (Γ.hide ns).nm b = some g → b ∉ ns ∧ Γ.nm b = some g := fun b g h => by
    simp only [Ctx.hide] at h
    split at h
    · cases h
    · exact ⟨‹_›, h⟩
  refine ⟨hl, hsh, fun b hb => by simp only [shpOf, hin b hb]; rfl, ⟨fun b b' g h1 h2 => hH.inj b b' g (hnm b g h1).2 (hnm b' g h2).2, fun b g h => ?_, hH.stlt, fun b hb c hc => ?_, fun b hb => ?_⟩⟩
  · obtain ⟨q1, q2, q3⟩ := hH.lt b g (hnm b g h).2
    exact ⟨by rw [hl]; exact q1, q2, q3⟩
  · rw [hl] at hb ⊢
    by_cases h : b ∈ ns
    · have := hin b h
      rw [List.getElem?_eq_getElem (by rw [hl]; exact hb)] at this
      simp only [Option.some.injEq] at this
      rw [this] at hc; simp [Blk.nms] at hc
    · have e := hout b h
      rw [List.getElem?_eq_getElem (by rw [hl]; exact hb), List.getElem?_eq_getElem (by rw [kb1]; exact hb)] at e
      simp only [Option.some.injEq] at e
      rw [e] at hc
      exact hH.nms b hb c ((kb3 b (by rw [kb1]; exact hb) hb).1 c hc).2
  · rw [hl] at hb
    by_cases h : b ∈ ns
    · have := hin b h
      rw [List.getElem?_eq_getElem (by rw [hl]; exact hb)] at this
      simp only [Option.some.injEq] at this
      rw [this]; trivial
    · have e := hout b h
      rw [List.getElem?_eq_getElem (by rw [hl]; exact hb), List.getElem?_eq_getElem (by rw [kb1]; exact hb)] at e
      simp only [Option.some.injEq] at e
      rw [e]
      obtain ⟨q1, q2⟩ := kb3 b (by rw [kb1]; exact hb) hb
      exact (q2 b (hH.blk b hb)).mono M (M.nm b h) (fun _ _ => rfl) (fun c hc => (q1 c hc).1)

theorem alloc_old {ob : Obj} {g : Nat} (h : g < w.heap.size) : (w.alloc ob).heap[g]? = w.heap[g]? := by
  show (w.heap.push ob)[g]? = w.heap[g]?
  rw [Array.getElem?_push]
  rw [if_neg (by omega)]

theorem rangeArgs_inv {v : PV} {V : Value} {sh : Nat → Option Shp} {f : Nat} {first caps : List PV} (h : rangeArgs v = some (f, first, caps)) (hv : VP Γ sh w v V) : ∃ A B, V = .func (.func f) A B ∧ CR Γ sh w first A ∧ CR Γ sh w caps B ∧ ∀ c ∈ nmsL (first ++ caps), c ∈ v.nms := by
  have hs : ∀ (l : List SV), nmsL (l.map PV.s) = [] := fun l => by
    rw [List.eq_nil_iff_forall_not_mem]
    intro c hc
    obtain ⟨j, hj, hc⟩ := mem_nmsL.1 hc
    simp [PV.nms] at hc
  unfold rangeArgs at h
  split at h
  · simp only [Option.some.injEq, Prod.mk.injEq] at h
    obtain ⟨rfl, rfl, rfl⟩ := h
    obtain ⟨A, B, rfl, hA, hB⟩ := hv.inv_fn'
    exact ⟨A, B, rfl, hA, hB, fun c hc => by rw [nmsL_append, hs, hs] at hc; simp at hc⟩
  · simp only [Option.some.injEq, Prod.mk.injEq] at h
    obtain ⟨rfl, rfl, rfl⟩ := h
    obtain ⟨A, B, rfl, hA, hB⟩ := hv.inv_fnr'
    exact ⟨A, B, rfl, hA, hB, fun c hc => by rw [nmsL_append] at hc; simpa [PV.nms] using hc⟩
  · cases h

theorem VP.ndead {sh : Nat → Option Shp} {v : PV} {V : Value} (h : VP Γ sh w v V) : ∀ c ∈ v.nms, sh c ≠ some .dead := by
  induction h with
  | s v V h => intro c hc; simp [PV.nms] at hc
  | nsl => intro c hc; simp [PV.nms] at hc
  | flv b e sz h => intro c hc; simp [PV.nms] at hc; subst hc; rw [h]; simp
  | fl b g v e sz n cap h hv hg hcap hm hs => intro c hc; simp [PV.nms] at hc; subst hc; rw [h]; simp
  | vwv b e sz i h => intro c hc; simp [PV.nms] at hc; subst hc; rw [h]; simp
  | vw b i n g a cap v e sz m h hv hg ha hi hcap hm => intro c hc; simp [PV.nms] at hc; subst hc; rw [h]; simp
  | ptrA b i off g v e sz n h hg => intro c hc; simp [PV.nms] at hc; subst hc; rw [h]; simp
  | ptrB b off g h hg => intro c hc; simp [PV.nms] at hc; subst hc; rw [h]; simp
  | fnr g x y A B As Bs hf hA hB ha hb hx hy ihx ihy =>
    intro c hc
    simp only [PV.nms, List.mem_append] at hc
    rcases hc with hc | hc
    · obtain ⟨j, hj, hc⟩ := mem_nmsL.1 hc; exact ihx j hj c hc
    · obtain ⟨j, hj, hc⟩ := mem_nmsL.1 hc; exact ihy j hj c hc
  | it b g h hg => intro c hc; simp [PV.nms] at hc; subst hc; rw [h]; simp
  | yd => intro c hc; simp [PV.nms] at hc
  | agg l A As hA ha hl ih => intro c hc; simp only [PV.nms] at hc; obtain ⟨j, hj, hc⟩ := mem_nmsL.1 hc; exact ih j hj c hc
  | tup l A As hA ha hl ih => intro c hc; simp only [PV.nms] at hc; obtain ⟨j, hj, hc⟩ := mem_nmsL.1 hc; exact ih j hj c hc
  | bad V => intro c hc; simp [PV.nms] at hc

theorem BR.ndead {sh : Nat → Option Shp} {b : Nat} {x : Blk} (h : BR Γ sh w b x) : ∀ c ∈ x.nms, sh c ≠ some .dead := by
  cases x with
  | box cells =>
    intro c hc
    simp only [Blk.nms] at hc
    obtain ⟨j, hj, hc⟩ := mem_nmsL.1 hc
    obtain ⟨g, cur, e, h1, h2, h3, h4⟩ := h
    obtain ⟨V, _, e2⟩ := h4 j hj
    exact e2.ndead c hc
  | arr v e sz els => intro c hc; simp [Blk.nms] at hc
  | iter s p => intro c hc; simp [Blk.nms] at hc
  | dead => intro c hc; simp [Blk.nms] at hc

theorem bareB_nms (x : Blk) : (bareB x).nms = [] := by
  cases x with
  | box cells =>
    simp only [bareB, Blk.nms]
    rw [List.eq_nil_iff_forall_not_mem]
    intro c hc
    obtain ⟨j, hj, hc⟩ := mem_nmsL.1 hc
    simp [PV.nms] at hc
  | _ => rfl

theorem bareB_shp (x : Blk) : (bareB x).shp = x.shp := by cases x <;> rfl

theorem bareB_BR {sh sh' : Nat → Option Shp} {b b' : Nat} {x : Blk} (h : BR Γ sh w b x) (hnm : Γ'.nm b' = Γ.nm b) (hst : ∀ g, Γ.St g → w'.heap[g]? = w.heap[g]?) (hsub : ∀ g, Γ.St g → Γ'.St g) (hheap : ∀ g, Γ.nm b = some g → w'.heap[g]? = w.heap[g]?) : BR Γ' sh' w' b' (bareB x) := by
  cases x with
  | arr v e sz els =>
    rcases h with h | ⟨hn, g, cur, h1, h2, h3, h4, h5⟩
    · exact .inl h
    · refine .inr ⟨hn, g, cur, by rw [hnm]; exact h1, by rw [hheap g h1]; exact h2, h3, h4, fun i h j h' => ?_⟩
      obtain ⟨V, e1, e2⟩ := h5 i h j h'
      exact ⟨V, e1, e2.mono hst hsub⟩
  | box cells =>
    obtain ⟨g, cur, e, h1, h2, h3, h4⟩ := h
    refine ⟨g, cur, e, by rw [hnm]; exact h1, by rw [hheap g h1]; exact h2, by simpa using h3, fun j h => ?_⟩
    obtain ⟨V, e1, _⟩ := h4 j (by simpa using h)
    exact ⟨V, e1, by rw [List.getElem_map]; exact .bad V⟩
  | iter s p =>
    obtain ⟨g, s', h1, h2, h3⟩ := h
    exact ⟨g, s', by rw [hnm]; exact h1, by rw [hheap g h1]; exact h2, h3⟩
  | dead => trivial

/-- THE STATEMENT. -/
theorem rangeK2_wp {n n0 : Nat} {g : Operand} {ps : Array Tmp} {as body : Code} {k : Out → St σ → Option R} {Q : Exit → Act → World → Prop} {cl2 : CallT} {f : Nat} {first caps : List PV} {ns : List Nat} (A : Ask C I cl yh yv) (hC2 : CalleeOK C cl2) (hyv : Γ.yv = yv) (has : WP C I cl yh yv as) (hbd : WP C I cl yh yv body)
    (hra : rangeArgs (opnd C st.sl g) = some (f, first, caps)) (hnd : ns.Nodup) (hsub : ∀ c ∈ nmsL (first ++ caps), c ∈ ns) (hlt : ∀ b ∈ ns, b < st.hp.length)
    (h : rangeK2 C cl2 f first caps ns st (fun sl0 => roundY ps sl0 (fun st k => evCode C cl yh as st k) (fun st k => evCode C cl yh body st k)) k = some r) (S : SI C I Γ Φ st a.tmps w) (hM : Mk n0 Γ Φ w a.defers) (hP : Post C I n0 Γ Φ st.hp w k r Q) :
    (Code.rangeFunc g ps as body).wpIn (wideAt none) n C.P Q a w := by
  have hv := (S.opnd g).1
  have hvn := (S.opnd g).2
  obtain ⟨FA, FB, hFV, hcA, hcB, hnf⟩ := rangeArgs_inv hra hv
  unfold rangeK2 at h
  split at h
  case isFalse => cases h
  rename_i hcond
  simp only [Bool.and_eq_true, List.all_eq_true] at hcond
  obtain ⟨⟨⟨hcl, hyf⟩, hyb⟩, hent⟩ := hcond
  split at h
  case h_2 => cases h
  rename_i ret Hc H1 pend s' hcall
  refine wpIn_rangeFunc (fun fn _ => ?_)
  -- the world with the loop's record
  obtain ⟨W1, hW1⟩ : ∃ W1, (w.alloc (.deferred (some []))).alloc (.loop (recL fn a.tmps ps as body w.heap.size .ready none)) = W1 := ⟨_, rfl⟩
  have hsz1 : W1.heap.size = w.heap.size + 2 := by rw [← hW1]; simp
  have hold : ∀ g, g < w.heap.size → W1.heap[g]? = w.heap[g]? := fun g hg => by
    rw [← hW1, alloc_old (by simp; omega), alloc_old hg]
  have hlr : W1.heap[w.heap.size + 1]? = some (.loop (recL fn a.tmps ps as body w.heap.size .ready none)) := by
    rw [← hW1]; have := World.alloc_heap_new (w.alloc (.deferred (some []))) (.loop (recL fn a.tmps ps as body w.heap.size .ready none)); rwa [World.size_alloc] at this
  have hdr : W1.heap[w.heap.size]? = some (.deferred (some [])) := by
    rw [← hW1, alloc_old (by simp)]; exact World.alloc_heap_new w _
  have ho : W1.os = w.os ∧ W1.tape = w.tape ∧ W1.output = w.output := by rw [← hW1]; exact ⟨rfl, rfl, rfl⟩
  obtain ⟨S1, hs1⟩ := S.wide A.hI (St' := Γ.St) hold (by omega) (fun _ h => h) (fun _ h => .inl h) (fun g hg => by have := S.hr.stlt g hg; omega) ho.1 ho.2.1 ho.2.2
  have S1 : SI C I Γ Φ st a.tmps W1 := S1
  have hf0 := A.hI.foot _ _ _ _ S.inv
  have offN : ∀ {g}, w.heap.size ≤ g → g < W1.heap.size → Off Γ Φ W1 g := fun {g} h1 h2 => ⟨h2, fun q => by have := S.hr.stlt g q; omega, fun b q => by have := (S.hr.lt b g q).2.1; omega, fun q => by have := (hf0 g q).1; omega⟩
  have olW : Off Γ Φ W1 (w.heap.size + 1) := offN (by omega) (by omega)
  have odW : Off Γ Φ W1 w.heap.size := offN (by omega) (by omega)
  -- the body's start
  obtain ⟨dl, dsh, dsd, dHR⟩ := dead_HR S1.hr hnd hlt
  have hkL := killAll_spec (Γ := Γ) (sh := shpOf st.hp) (w := W1) (ns ++ loose C st.hp 0) st.sl
  have hideM := hide_Mono (Γ := Γ) (H := st.hp) (H' := deadAll ns st.hp) (w := W1) dsh
  have hslN : ∀ c ∈ nmsL (killAll (ns ++ loose C st.hp 0) st.sl), c ∉ ns ∧ c < st.hp.length ∧ fixB C (st.hp.getD c .dead) = true := fun c hc => by
    obtain ⟨q1, q2⟩ := hkL.2.1 c hc
    have q3 := S.sr.nms c q2
    simp only [List.mem_append, not_or] at q1
    refine ⟨q1.1, q3, ?_⟩
    have e : st.hp.getD c .dead = st.hp[c] := by rw [List.getD_eq_getElem?_getD, List.getElem?_eq_getElem q3]; rfl
    rw [e]
    rcases loose_spec (C := C) st.hp 0 c q3 with q | q
    · rw [Nat.zero_add] at q; exact absurd q q1.2
    · exact q
  have hSR0 : SR (Γ.hide ns) (deadAll ns st.hp) W1 (killAll (ns ++ loose C st.hp 0) st.sl) a.tmps := by
    have h0 : SR Γ st.hp W1 (killAll (ns ++ loose C st.hp 0) st.sl) a.tmps := ⟨by rw [hkL.1]; exact S1.sr.size, fun c hc => (hslN c hc).2.1, fun i hi => by
      have hi' : i < st.sl.length := by rw [← hkL.1]; exact hi
      obtain ⟨V, e1, e2⟩ := S1.sr.slot i hi'
      exact ⟨V, e1, hkL.2.2 i hi hi' V e2⟩⟩
    exact h0.mono hideM (fun c hc => ⟨(hslN c hc).1, by rw [dl]; exact (hslN c hc).2.1⟩)
  have hideN : ∀ {b g}, (Γ.hide ns).nm b = some g → b ∉ ns ∧ Γ.nm b = some g := fun {b g} h => by
    simp only [Ctx.hide] at h
    split at h
    · cases h
    · exact ⟨‹_›, h⟩
  have SS : SI C I (Γ.hide ns) Φ { sl := killAll (ns ++ loose C st.hp 0) st.sl, hp := deadAll ns st.hp, s := st.s } a.tmps W1 := ⟨dHR, hSR0, S1.g, S1.inv, fun b g hb => S1.dis b g (hideN hb).2⟩
  have hfix : ∀ c ∈ nmsL (killAll (ns ++ loose C st.hp 0) st.sl), c < (deadAll ns st.hp).length ∧ fixS C (shpOf (deadAll ns st.hp) c) := fun c hc => by
    obtain ⟨q1, q2, q3⟩ := hslN c hc
    exact ⟨by rw [dl]; exact q2, by rw [dsh c q1]; exact (fixB_iff q2).1 q3⟩
  have offH : ∀ {g}, Off Γ Φ W1 g → Off (Γ.hide ns) Φ W1 g := fun {g} h => ⟨h.1, h.2.1, fun b q => h.2.2.1 b (hideN q).2, h.2.2.2⟩
  let Φc : Nat → Prop := fun g => Φ g ∨ (∃ b, (Γ.hide ns).nm b = some g) ∨ g = w.heap.size + 1 ∨ g = w.heap.size
  have RI0 : RI C I (Γ.hide ns) (deadAll ns st.hp) W1 Φ (killAll (ns ++ loose C st.hp 0) st.sl) a.tmps (w.heap.size + 1) w.heap.size (recL fn a.tmps ps as body w.heap.size) (deadAll ns st.hp, none, st.s) Γ.St Φc W1 := by
    refine ⟨Γ.hide ns, Φ, SS, Stp.pg (Stp.refl dHR), fun _ h => h, fun _ => Iff.rfl, fun g hg => ?_, offH olW, offH odW, hlr, hdr⟩
    rcases hg with q | ⟨b, q⟩ | rfl | rfl
    · have := A.hI.foot _ _ _ _ S1.inv g q; exact this
    · have := dHR.lt b g q; exact ⟨this.2.1, this.2.2⟩
    · exact ⟨olW.1, olW.2.1⟩
    · exact ⟨odW.1, odW.2.1⟩
  -- the callee's view
  have hHc := lent_HR S1.hr hnd hlt hcl
  have hci := fun b (h : b ∈ ns) => idxIn_spec h
  have hlH : (lentH st.hp ns).length = ns.length := by simp [lentH]
  let y : Value := .func (.yield (w.heap.size + 1)) #[] #[]
  have hy1 : y.oneCell' = true := rfl
  have hHc' : HR ((Γ.lent ns).reyv y hy1) (lentH st.hp ns) W1 := hHc.reyv (fun b hb => by
    have hb' : b < ns.length := by rw [← hlH]; exact hb
    simp only [lentH, List.getElem_map, Blk.yf_rn]
    exact hyb _ (List.getElem_mem hb'))
  have rnCR : ∀ {l : List PV} {V : Array Value}, CR Γ (shpOf st.hp) w l V → yfL l = true → (∀ c ∈ nmsL l, c ∈ ns) → CR ((Γ.lent ns).reyv y hy1) (shpOf (lentH st.hp ns)) W1 (rnL (idxIn ns) l) V := fun {l V} hc hy hn => by
    have hc1 : CR Γ (shpOf st.hp) W1 l V := hc.mono (Γ' := Γ) (H' := st.hp) (wide_Mono S.hr hold (fun _ h => h)) (fun _ _ => trivial)
    rw [rnL_eq]
    refine ⟨by rw [List.length_map]; exact hc1.1, fun j hj => ?_⟩
    have hj' : j < l.length := by simpa using hj
    obtain ⟨U, e, q⟩ := hc1.2 j hj'
    refine ⟨U, e, ?_⟩
    rw [List.getElem_map]
    refine VP.reyv (VP.rn (Γ := Γ) (Γ' := Γ.lent ns) rfl q (.inr fun _ h => h) (fun c hc => ?_)) (by rw [PV.yf_rn]; exact yfL_mem hy _ (List.getElem_mem hj'))
    have hcn := hn c (mem_nmsL.2 ⟨j, hj', hc⟩)
    obtain ⟨q1, q2⟩ := hci c hcn
    exact ⟨lent_nm hcn, by rw [lent_shp hlt q1, q2]⟩
  have yfA : ∀ (x z : List PV), yfL (x ++ z) = (yfL x && yfL z) := fun x z => by
    induction x with
    | nil => simp [yfL]
    | cons v x ih => simp [yfL, ih, Bool.and_assoc]
  rw [yfA, Bool.and_eq_true] at hyf
  have hargs : CR ((Γ.lent ns).reyv y hy1) (shpOf (lentH st.hp ns)) W1 (rnL (idxIn ns) first ++ .yd :: rnL (idxIn ns) caps) (FA ++ #[y] ++ FB) := by
    have h1 := rnCR hcA hyf.1 (fun c hc => hsub c (by rw [nmsL_append]; simp [hc]))
    have h2 := rnCR hcB hyf.2 (fun c hc => hsub c (by rw [nmsL_append]; simp [hc]))
    have h3 : CR ((Γ.lent ns).reyv y hy1) (shpOf (lentH st.hp ns)) W1 [.yd] #[y] := CR.one .yd
    have := (h1.append h3).append h2
    simpa using this
  have hargn : ∀ c ∈ nmsL (rnL (idxIn ns) first ++ .yd :: rnL (idxIn ns) caps), c < (lentH st.hp ns).length := fun c hc => by
    have : c ∈ (nmsL (first ++ caps)).map (idxIn ns) := by
      rw [nmsL_append] at hc
      simp only [nmsL, PV.nms, List.nil_append, nmsL_rn, List.mem_append] at hc
      rw [nmsL_append, List.map_append, List.mem_append]
      exact hc
    obtain ⟨d, hd, rfl⟩ := List.mem_map.1 this
    rw [hlH]
    exact (hci d (hsub d hd)).1
  have lentN : ∀ {i g}, (Γ.lent ns).nm i = some g → ∃ hi : i < ns.length, Γ.nm ns[i] = some g := fun {i g} h => by
    simp only [Ctx.lent] at h
    cases hi : ns[i]? with
    | none => rw [hi] at h; simp at h
    | some b =>
      obtain ⟨h1, h2⟩ := List.getElem?_eq_some_iff.1 hi
      rw [hi] at h
      exact ⟨h1, by rw [h2]; exact h⟩
  have hcall' := hC2 _ _ _ y (RI_HI A.hI) (RI_Yd (fn := fn) (ps := ps) (as := as) (body := body) (l := w.heap.size + 1) (D := w.heap.size) (tmps := a.tmps) (w0 := W1) (Φ0 := Φ) (Γ0 := Γ.hide ns) A.hI hyv has hbd hfix) f _ _ _ ret Hc _ hcall ((Γ.lent ns).reyv y hy1) Φc W1 (FA ++ #[y] ++ FB) rfl hHc' S1.g RI0 (fun i g hi => by
    obtain ⟨hi1, hi2⟩ := lentN hi
    rintro (q | ⟨b, q⟩ | rfl | rfl)
    · exact S1.dis _ g hi2 q
    · obtain ⟨q1, q2⟩ := hideN q
      have := S1.hr.inj _ _ g hi2 q2
      exact q1 (this ▸ List.getElem_mem hi1)
    · exact olW.2.2.1 _ hi2
    · exact odW.2.2.1 _ hi2) hargs hargn
  have hcalls := uponIn_calls (ro := none) (n := n) (callFunc_enterB hent) hcall'
  refine ⟨w.heap.size + 1, [mkD w.heap.size], W1, { target := .fn (.func f) FB, args := FA ++ #[y] }, W1, f, FA ++ #[y] ++ FB, W1, ?_, ?_, fun _ _ => trivial, ?_, fun h => by simp [wideAt, Fence.wide] at h, hcalls.mono ?_⟩
  · rw [← hW1]; exact run_enterLoop_outer _ _ _ _ _
  · simp [resolve, hFV, Deferred.ofValue]
    rfl
  · show (callFunc f (FA ++ #[y] ++ FB)).run C.P W1 = _
    exact callFunc_enterB hent
  rintro e W2 ⟨V, rfl, Γ1, Φ1, hs, hH1, hvv, hvn1, ⟨Γb, Φb, r1⟩, hd1⟩
  have hlr2 := r1.hl
  have hend := run_endLoop (P := C.P) hlr2 (by cases pend <;> simp [recL, stOf])
  obtain ⟨w4, hw4⟩ : ∃ w4, W2.putObj (w.heap.size + 1) (.loop { recL fn a.tmps ps as body w.heap.size (stOf pend) (pend.map jmp) with state := .exhausted }) = w4 := ⟨_, rfl⟩
  rw [hw4] at hend
  have O : OffW Γb Φb W2 w4 := by rw [← hw4]; exact OffW.put r1.ol
  have hsz4 : w4.heap.size = W2.heap.size := by rw [← hw4]; simp
  have h4 : ∀ g, g ≠ w.heap.size + 1 → w4.heap[g]? = W2.heap[g]? := fun g hg => by rw [← hw4]; exact World.putObj_heap_other hg
  have inΦ : ∀ {g}, Φb g ∨ (∃ b, Γb.nm b = some g) ∨ g = w.heap.size + 1 ∨ g = w.heap.size → Φ1 g := fun {g} h => (r1.ph g).2 h
  have S5 := (r1.si.offW A.hI O).wideSt A.hI (St' := Γ1.St) r1.st (fun g hg hp => (r1.ft g (inΦ (.inl hp))).2 hg) (fun b g hb hg => (r1.ft g (inΦ (.inr (.inl ⟨b, hb⟩)))).2 hg) (fun g hg => by rw [hsz4]; exact hH1.stlt g hg)
  have hl1 : st.hp.length ≤ H1.length := by have := r1.pg.len; rw [dl] at this; exact this
  have hH1c : ns.length ≤ Hc.length := by have := hs.len; rw [List.length_map] at this; exact this
  obtain ⟨sb1, sb2⟩ := setAll_spec ns (ns.map fun b => cond (fixB C (st.hp.getD b .dead)) (bareB (Hc.getD (idxIn ns b) .dead)) .dead) H1 hnd (by simp) (fun b hb => Nat.lt_of_lt_of_le (hlt b hb) hl1)
  generalize hH2 : backB C ns st.hp Hc H1 = H2 at h
  have hl2 : H2.length = H1.length := by rw [← hH2]; exact sb1
  have gin : ∀ b (hb : b ∈ ns), H2[b]? = some (cond (fixB C (st.hp.getD b .dead)) (bareB (Hc.getD (idxIn ns b) .dead)) .dead) := fun b hb => by
    rw [← hH2]
    simp only [backB]
    rw [sb2, if_pos hb, List.getElem?_map]
    have e : ns.idxOf b = idxIn ns b := rfl
    rw [e, List.getElem?_eq_getElem (hci b hb).1, (hci b hb).2]
    rfl
  have gout : ∀ b, b ∉ ns → H2[b]? = H1[b]? := fun b hb => by
    rw [← hH2]
    simp only [backB]
    rw [sb2, if_neg hb]
  let Γf : Ctx := { St := Γ1.St, nm := fun b => if b ∈ ns then (if fixB C (st.hp.getD b .dead) = true then Γ1.nm (idxIn ns b) else none) else Γb.nm b, yv := Γ.yv, yv1 := Γ.yv1 }
  have fin1 : ∀ {b}, b ∈ ns → fixB C (st.hp.getD b .dead) = true → Γf.nm b = Γ1.nm (idxIn ns b) := fun {b} h1 h2 => by simp only [Γf]; rw [if_pos h1, if_pos h2]
  have fin0 : ∀ {b}, b ∈ ns → ¬ fixB C (st.hp.getD b .dead) = true → Γf.nm b = none := fun {b} h1 h2 => by simp only [Γf]; rw [if_pos h1, if_neg h2]
  have fout : ∀ {b}, b ∉ ns → Γf.nm b = Γb.nm b := fun {b} h1 => by simp only [Γf]; rw [if_neg h1]
  have fcase : ∀ {b g}, Γf.nm b = some g → (b ∈ ns ∧ Γ1.nm (idxIn ns b) = some g) ∨ (b ∉ ns ∧ Γb.nm b = some g) := fun {b g} h => by
    by_cases hb : b ∈ ns
    · by_cases hf : fixB C (st.hp.getD b .dead) = true
      · rw [fin1 hb hf] at h; exact .inl ⟨hb, h⟩
      · rw [fin0 hb hf] at h; cases h
    · rw [fout hb] at h; exact .inr ⟨hb, h⟩
  have hshD : ∀ c, c ∈ ns → shpOf H1 c = some .dead := fun c hc => by
    obtain ⟨_, k2, _⟩ := r1.pg.keep c (by rw [dl]; exact hlt c hc) (by rw [dsd c hc]; trivial)
    rw [k2]; exact dsd c hc
  have hsh2 : ∀ b, b ∉ ns → shpOf H2 b = shpOf H1 b := fun b hb => by simp only [shpOf, gout b hb]
  have Mf : Mono { Γb with St := Γ1.St } (shpOf H1) w4 Γf (shpOf H2) w4 (· ∉ ns) := ⟨fun _ _ => rfl, fun _ h => h, fun b hb => fout hb, hsh2, fun _ _ _ _ => rfl, (r1.pg.yv : Γb.yv = Γ.yv).symm⟩
  have hHf : HR Γf H2 w4 := by
    refine ⟨fun b b' g h1 h2 => ?_, fun b g hb => ?_, fun g hg => by rw [hsz4]; exact hH1.stlt g hg, fun b hb c hc => ?_, fun b hb => ?_⟩
    · rcases fcase h1 with ⟨p1, q1⟩ | ⟨p1, q1⟩ <;> rcases fcase h2 with ⟨p2, q2⟩ | ⟨p2, q2⟩
      · have := hH1.inj _ _ g q1 q2
        have e1 := (hci b p1).2
        have e2 := (hci b' p2).2
        rw [← e1, ← e2]
        simp only [this]
      · exact absurd (inΦ (.inr (.inl ⟨b', q2⟩))) (hd1 _ g q1)
      · exact absurd (inΦ (.inr (.inl ⟨b, q1⟩))) (hd1 _ g q2)
      · exact r1.si.hr.inj b b' g q1 q2
    · rcases fcase hb with ⟨p1, q1⟩ | ⟨p1, q1⟩
      · have := hH1.lt _ g q1
        exact ⟨by rw [hl2]; exact Nat.lt_of_lt_of_le (hlt b p1) hl1, by rw [hsz4]; exact this.2.1, this.2.2⟩
      · have := S5.hr.lt b g q1
        exact ⟨by rw [hl2]; exact this.1, this.2⟩
    · by_cases hbn : b ∈ ns
      · have e := gin b hbn
        rw [List.getElem?_eq_getElem hb] at e
        simp only [Option.some.injEq] at e
        rw [e] at hc
        cases hf : fixB C (st.hp.getD b .dead) with
        | true => rw [hf, cond_true, bareB_nms] at hc; simp at hc
        | false => rw [hf] at hc; simp [Blk.nms] at hc
      · have e := gout b hbn
        have hb1 : b < H1.length := by rw [← hl2]; exact hb
        rw [List.getElem?_eq_getElem hb, List.getElem?_eq_getElem hb1] at e
        simp only [Option.some.injEq] at e
        rw [e] at hc
        rw [hl2]
        exact S5.hr.nms b hb1 c hc
    · by_cases hbn : b ∈ ns
      · have e := gin b hbn
        rw [List.getElem?_eq_getElem hb] at e
        simp only [Option.some.injEq] at e
        rw [e]
        cases hf : fixB C (st.hp.getD b .dead) with
        | true =>
          rw [cond_true]
          have hi : idxIn ns b < Hc.length := Nat.lt_of_lt_of_le (hci b hbn).1 hH1c
          rw [getD_lt hi]
          refine bareB_BR (hH1.blk _ hi) (fin1 hbn hf) (fun g hg => h4 g ?_) (fun _ h => h) (fun g hg => h4 g ?_)
          · rintro rfl; exact (r1.ft _ (inΦ (.inr (.inr (.inl rfl))))).2 hg
          · rintro rfl; exact hd1 _ _ hg (inΦ (.inr (.inr (.inl rfl))))
        | false => trivial
      · have e := gout b hbn
        have hb1 : b < H1.length := by rw [← hl2]; exact hb
        rw [List.getElem?_eq_getElem hb, List.getElem?_eq_getElem hb1] at e
        simp only [Option.some.injEq] at e
        rw [e]
        have hB := S5.hr.blk b hb1
        exact hB.mono Mf (fout hbn) (fun _ _ => rfl) (fun c hc hcn => hB.ndead c hc (hshD c hcn))
  have hSRf : SR Γf H2 w4 (killAll (ns ++ loose C st.hp 0) st.sl) a.tmps := S5.sr.mono Mf (fun c hc => ⟨(hslN c hc).1, by rw [hl2]; exact Nat.lt_of_lt_of_le (hslN c hc).2.1 hl1⟩)
  have SF : SI C I Γf Φb { sl := killAll (ns ++ loose C st.hp 0) st.sl, hp := H2, s := s' } a.tmps w4 := ⟨hHf, hSRf, S5.g, S5.inv, fun b g hb => by
    rcases fcase hb with ⟨_, q1⟩ | ⟨_, q1⟩
    · exact fun q => hd1 _ g q1 (inΦ (.inl q))
    · exact S5.dis b g q1⟩
  have hsz2 := hs.size
  have STF : Stp C Γ st.hp w Φ Γf H2 w4 Φb := by
    refine ⟨O.os.trans (hs.os.trans ho.1), O.tape.trans (hs.tape.trans ho.2.1), O.output.trans (hs.output.trans ho.2.2), by omega, fun g hg => hs.sub g hg, fun g hg => ?_, fun b g hb => ?_, fun g hg => ?_, fun g hg hn hp => ?_, rfl, by rw [hl2]; exact hl1, fun b hb hf => ?_⟩
    · rcases hs.stnew g hg with q | q
      · exact .inl q
      · exact .inr (by omega)
    · rcases fcase hb with ⟨p1, q1⟩ | ⟨p1, q1⟩
      · rcases hs.own _ g q1 with ⟨_, q⟩ | q
        · obtain ⟨i1, i2⟩ := lentN q
          rw [(hci b p1).2] at i2
          exact .inl ⟨hlt b p1, i2⟩
        · exact .inr (by omega)
      · rcases r1.pg.own b g q1 with ⟨q, q'⟩ | q
        · exact .inl ⟨by rw [← dl]; exact q, (hideN q').2⟩
        · exact .inr (by omega)
    · rcases r1.pg.foot g hg with q | q
      · exact .inl q
      · exact .inr (by omega)
    · have np : ¬ Φc g := by
        rintro (q | ⟨b, q⟩ | q | q)
        · exact hp q
        · exact hn b (hideN q).2
        · omega
        · omega
      rw [h4 g (by omega), hs.frame g (by omega) (fun b q => by obtain ⟨_, i2⟩ := lentN q; exact hn _ i2) np, hold g hg]
    · by_cases hbn : b ∈ ns
      · have hfb := (fixB_iff (C := C) (H := st.hp) hb).2 hf
        obtain ⟨q1, q2⟩ := hci b hbn
        have hi : idxIn ns b < (lentH st.hp ns).length := by rw [hlH]; exact q1
        have hsl : shpOf (lentH st.hp ns) (idxIn ns b) = shpOf st.hp b := by rw [lent_shp hlt q1, q2]
        obtain ⟨k1, k2, k3⟩ := hs.keep _ hi (by show fixS C (shpOf (lentH st.hp ns) _); rw [hsl]; exact hf)
        have k2 : shpOf Hc (idxIn ns b) = shpOf (lentH st.hp ns) (idxIn ns b) := k2
        have hnmb : ((Γ.lent ns).reyv y hy1).nm (idxIn ns b) = Γ.nm b := lent_nm hbn
        refine ⟨(fin1 hbn hfb).trans (k1.trans hnmb), ?_, fun g hg => ?_⟩
        · have hi' : idxIn ns b < Hc.length := Nat.lt_of_lt_of_le q1 hH1c
          simp only [shpOf, gin b hbn, hfb, cond_true, Option.map_some, bareB_shp, getD_lt hi']
          show some (Hc[idxIn ns b]).shp = shpOf st.hp b
          rw [← hsl, ← k2]
          simp only [shpOf, List.getElem?_eq_getElem hi', Option.map_some]
        · have e1 := k3 g (hnmb.trans hg)
          have hgl := S.hr.lt b g hg
          rw [shape_of_heap (h4 g (by omega)), e1, shape_of_heap (hold g hgl.2.1)]
      · obtain ⟨k1, k2, k3⟩ := r1.pg.keep b (by rw [dl]; exact hb) (by rw [dsh b hbn]; exact hf)
        have hh : (Γ.hide ns).nm b = Γ.nm b := by simp only [Ctx.hide]; rw [if_neg hbn]
        refine ⟨(fout hbn).trans (k1.trans hh), by rw [hsh2 b hbn, k2, dsh b hbn], fun g hg => ?_⟩
        have hgl := S.hr.lt b g hg
        rw [shape_of_heap (h4 g (by omega)), k3 g (hh.trans hg), shape_of_heap (hold g hgl.2.1)]
  have hMf : Mk n0 Γf Φb w4 (mkD w.heap.size :: a.defers) := by
    obtain ⟨m0, Ds, m1, m2, m3⟩ := hM
    refine ⟨by omega, w.heap.size :: Ds, by rw [m1]; rfl, List.nodup_cons.2 ⟨fun hmem => ?_, m2⟩, fun D hD => ?_⟩
    · have := (m3 _ hmem).2.1.1; omega
    · rcases List.mem_cons.1 hD with rfl | hD
      · refine ⟨m0, ⟨by omega, (r1.ft _ (inΦ (.inr (.inr (.inr rfl))))).2, fun b q => ?_, r1.od.2.2.2⟩, by rw [h4 _ (by omega)]; exact r1.hd⟩
        rcases fcase q with ⟨_, q1⟩ | ⟨_, q1⟩
        · exact hd1 _ _ q1 (inΦ (.inr (.inr (.inr rfl))))
        · exact r1.od.2.2.1 b q1
      · obtain ⟨k1, k2, k3⟩ := m3 D hD
        obtain ⟨q1, q2⟩ := k2.step STF
        exact ⟨k1, q1, q2.trans k3⟩
  have fin := hP (pend.getD .normal) { sl := killAll (ns ++ loose C st.hp 0) st.sl, hp := H2, s := s' } { a with defers := mkD w.heap.size :: a.defers } w4 Γf Φb h STF SF hMf
  refine ⟨pend.map jmp, w4, hend, ?_⟩
  cases pend with
  | none => exact fin
  | some o =>
    cases o with
    | normal => exact wpIn_skip fin
    | exit id => exact wpIn_exit fin
    | ret => exact wpIn_ret fin

/-- Rounds over known values, as a run of the handler. -/
theorem roundsK_run {ps : Array Tmp} {sl0 : List PV} {as body : Code} : ∀ (L : List (List PV)) (H : List Blk) (s : σ) {k : Option Out → List Blk → σ → Option R}, roundsK ps sl0 (fun st k => evCode C cl yh as st k) (fun st k => evCode C cl yh body st k) L H s k = some r →
    ∃ H' pend s', seqRun (roundY ps sl0 (fun st k => evCode C cl yh as st k) (fun st k => evCode C cl yh body st k)) L (H, none, s) = some (H', pend, s') ∧ k pend H' s' = some r
  | [], H, s, k, h => ⟨H, none, s, rfl, h⟩
  | x :: xs, H, s, k, h => by
    simp only [roundsK] at h
    split at h
    case isFalse => cases h
    rename_i hx
    obtain ⟨o, st1, e1, h1⟩ := evCode_out h
    cases o with
    | exit id => cases h1
    | ret => cases h1
    | normal =>
    obtain ⟨o2, st2, e2, h2⟩ := evCode_out h1
    have hr : roundY ps sl0 (fun st k => evCode C cl yh as st k) (fun st k => evCode C cl yh body st k) x (H, none, s) = some ((pendOf o2).isNone, ((trunc H.length st2).hp, pendOf o2, st2.s)) := by
      simp only [roundY]
      rw [if_pos hx, evCode_in e1]
      dsimp only
      rw [evCode_in e2]
    cases o2 with
    | normal =>
      obtain ⟨H', pend, s', h3, h4⟩ := roundsK_run xs _ _ h2
      refine ⟨H', pend, s', ?_, h4⟩
      simp only [seqRun, hr]
      exact h3
    | exit id => exact ⟨_, _, _, by simp only [seqRun, hr]; rfl, h2⟩
    | ret => exact ⟨_, _, _, by simp only [seqRun, hr]; rfl, h2⟩

mutual
theorem PV.rn_none (f : Nat → Nat) : ∀ v : PV, v.nms = [] → v.rn f = v
  | .s _, _ => rfl
  | .nsl, _ => rfl
  | .fl b, h => by simp [PV.nms] at h
  | .vw b _ _, h => by simp [PV.nms] at h
  | .ptr b _ _, h => by simp [PV.nms] at h
  | .fnr _ x y, h => by
    simp only [PV.nms, List.append_eq_nil_iff] at h
    simp only [PV.rn, rnL_none f x h.1, rnL_none f y h.2]
  | .it b, h => by simp [PV.nms] at h
  | .yd, _ => rfl
  | .agg l, h => by simp only [PV.nms] at h; simp only [PV.rn, rnL_none f l h]
  | .tup l, h => by simp only [PV.nms] at h; simp only [PV.rn, rnL_none f l h]
  | .bad, _ => rfl
theorem rnL_none (f : Nat → Nat) : ∀ l : List PV, nmsL l = [] → rnL f l = l
  | [], _ => rfl
  | v :: r, h => by
    simp only [nmsL, List.append_eq_nil_iff] at h
    simp only [rnL, PV.rn_none f v h.1, rnL_none f r h.2]
end

theorem rangeK_wp {n n0 : Nat} {g : Operand} {ps : Array Tmp} {as body : Code} {k : Out → St σ → Option R} {Q : Exit → Act → World → Prop} (A : Ask C I cl yh yv) (hyv : Γ.yv = yv) (has : WP C I cl yh yv as) (hbd : WP C I cl yh yv body)
    (h : rangeK C cl (opnd C st.sl g) st (fun sl0 => roundY ps sl0 (fun st k => evCode C cl yh as st k) (fun st k => evCode C cl yh body st k)) (fun sl0 => roundsK ps sl0 (fun st k => evCode C cl yh as st k) (fun st k => evCode C cl yh body st k)) k = some r) (S : SI C I Γ Φ st a.tmps w) (hM : Mk n0 Γ Φ w a.defers) (hP : Post C I n0 Γ Φ st.hp w k r Q) :
    (Code.rangeFunc g ps as body).wpIn (wideAt none) n C.P Q a w := by
  have hvn := (S.opnd g).2
  have hv := (S.opnd g).1
  unfold rangeK at h
  split at h
  case h_2 => cases h
  rename_i f first caps hra
  obtain ⟨FA, FB, hFV, hcA, hcB, hnf⟩ := rangeArgs_inv hra hv
  have hnd := reach_nodup st.hp (nmsL (first ++ caps))
  have hsub := reach_sub st.hp (nmsL (first ++ caps))
  have hlt : ∀ b ∈ reach st.hp (nmsL (first ++ caps)), b < st.hp.length := reach_all st.hp (nmsL (first ++ caps)) (· < st.hp.length) (fun b hb c hc => by
    have e : st.hp.getD b .dead = st.hp[b] := by rw [List.getD_eq_getElem?_getD, List.getElem?_eq_getElem hb]; rfl
    rw [e] at hc
    exact S.hr.nms b hb c hc) (fun c hc => hvn c (hnf c hc))
  generalize reach st.hp (nmsL (first ++ caps)) = ns at *
  split at h
  · rename_i pf hS
    unfold rangeS at h
    split at h
    case isFalse => cases h
    rename_i hcond
    rw [Bool.and_eq_true] at hcond
    split at h
    case h_2 => cases h
    rename_i cL L hL
    obtain ⟨rfl, h⟩ := need_some h
    obtain ⟨H', pend, s', h1, h2⟩ := roundsK_run L _ _ h
    refine rangeK2_wp A A.hX.s hyv has hbd hra hnd hsub hlt ?_ S hM hP
    unfold rangeK2
    rw [if_pos hcond.1]
    have hbx : (ns.map fun b => (st.hp.getD b .dead).rn (idxIn ns)).all isBox = true := by
      rw [List.all_map, List.all_eq_true]
      intro b hb
      have := List.all_eq_true.1 hcond.2 b hb
      simp only [Function.comp]
      generalize st.hp.getD b .dead = x at this
      cases x <;> simp_all [isBox, Blk.rn]
    have e : clS C (List Blk × Option Out × σ) (roundY ps (killAll (ns ++ loose C st.hp 0) st.sl) (fun st k => evCode C cl yh as st k) (fun st k => evCode C cl yh body st k)) f (rnL (idxIn ns) first ++ PV.yd :: rnL (idxIn ns) caps) (ns.map fun b => (st.hp.getD b .dead).rn (idxIn ns)) (deadAll ns st.hp, none, st.s) = some (.tup [], (ns.map fun b => (st.hp.getD b .dead).rn (idxIn ns)).map bareB, (H', pend, s')) := by
      simp only [clS, hS]
      rw [if_pos hbx, hL]
      simp only [h1]
    rw [e]
    exact h2
  · exact rangeK2_wp A A.hC hyv has hbd hra hnd hsub hlt h S hM hP

end
end Go.Proofs.Ytfioahjeanmfpaa.E
