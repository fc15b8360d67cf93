/-
  Operations that make new blocks.
-/
import Derived.Test.YtfioahjeanmfpaaE11
import Derived.Laws.MakeOwn
import Derived.Laws.RangeString
import Derived.Laws.IdiomStrings
namespace Go.Proofs.Ytfioahjeanmfpaa.E
open Go
set_option linter.unusedVariables false

section
variable {Γ : Ctx} {H : List Blk} {w : World} {R : Type} {r : R} {C : Cfg}

/-- Nobody's blocks. -/
abbrev noΦ : Nat → Prop := fun _ => False

/-- The computation yields a value for 'v' in a new state. -/
def WV (C : Cfg) (Γ : Ctx) (H : List Blk) (w : World) (sl : List PV) (tmps : Array Value) (m : Sem Value) (v : PV) (sl' : List PV) (H' : List Blk) : Prop :=
  ∃ V w' Γ', m.run C.P w = .ok V w' ∧ Stp C Γ H w noΦ Γ' H' w' noΦ ∧ HR Γ' H' w' ∧ (SR Γ H w sl tmps → SR Γ' H' w' sl' tmps) ∧ VP Γ' (shpOf H') w' v V ∧ ∀ c ∈ v.nms, c < H'.length

theorem QV.wv {m : Sem Value} {v : PV} {sl : List PV} {tmps : Array Value} (hH : HR Γ H w) (h : QV C.P Γ H w m v) : WV C Γ H w sl tmps m v sl H := by
  obtain ⟨hn, V, hV, hq⟩ := h
  exact ⟨V, w, Γ, hq w (Ext.refl w), Stp.refl hH, hH, id, hV, hn⟩

theorem SR.grow {Γ' : Ctx} {T : List Blk} {w' : World} {sl : List PV} {tmps : Array Value} (M : Mono Γ (shpOf H) w Γ' (shpOf (H ++ T)) w' (· < H.length)) (h : SR Γ H w sl tmps) : SR Γ' (H ++ T) w' sl tmps :=
  h.mono M fun c hc => ⟨h.nms c hc, by rw [List.length_append]; have := h.nms c hc; omega⟩

theorem CR.mono {Γ' : Ctx} {H' : List Blk} {w' : World} {ok : Nat → Prop} {l : List PV} {A : Array Value} (M : Mono Γ (shpOf H) w Γ' (shpOf H') w' ok) (h : CR Γ (shpOf H) w l A) (hn : ∀ c ∈ nmsL l, ok c) : CR Γ' (shpOf H') w' l A :=
  ⟨h.1, fun j hj => by
    obtain ⟨U, e, k⟩ := h.2 j hj
    exact ⟨U, e, k.mono M fun c hc => hn c (mem_nmsL.2 ⟨j, hj, hc⟩)⟩⟩

/-- The general new block. -/
theorem alloc_WV {m : Sem Value} {x : Blk} {o : Obj} {w' : World} {V : Value} {v : PV} {sl : List PV} {tmps : Array Value} (hH : HR Γ H w) (hm : m.run C.P w = .ok V w') (hw : w'.heap = w.heap.push o) (h1 : w'.os = w.os) (h2 : w'.tape = w.tape) (h3 : w'.output = w.output)
    (hx : BR (Γ.upd H.length w.heap.size) (shpOf (H ++ [x])) w' H.length x) (hn : ∀ c ∈ x.nms, c < H.length + 1) (hv : VP (Γ.upd H.length w.heap.size) (shpOf (H ++ [x])) w' v V) (hvn : ∀ c ∈ v.nms, c < H.length + 1) :
    WV C Γ H w sl tmps m v sl (H ++ [x]) :=
  ⟨V, w', _, hm, alloc_Stp hH hw h1 h2 h3, alloc_HR hH hw hx hn, SR.grow (alloc_mono hH hw), hv, by simpa using hvn⟩

/-- A nil slice gets a name. -/
theorem assignNil_WV {sl : List PV} {tmps : Array Value} (hH : HR Γ H w) : WV C Γ H w sl tmps (pure (.slice none 0 0)) (.fl H.length) sl (H ++ [.arr true 0 0 []]) :=
  ⟨_, w, Γ, rfl, nil_Stp hH, nil_HR hH rfl (.inl ⟨rfl, rfl⟩), SR.grow (nil_mono _ hH), .flv _ 0 0 (by rw [shpOf_append_eq]; rfl), by simp [PV.nms]⟩

theorem Mono.trans {Γ1 Γ2 Γ3 : Ctx} {s1 s2 s3 : Nat → Option Shp} {w1 w2 w3 : World} {ok ok' : Nat → Prop} (M : Mono Γ1 s1 w1 Γ2 s2 w2 ok) (N : Mono Γ2 s2 w2 Γ3 s3 w3 ok') (hok : ∀ b, ok b → ok' b) : Mono Γ1 s1 w1 Γ3 s3 w3 ok where
  st := fun g hg => (N.st g (M.sub g hg)).trans (M.st g hg)
  sub := fun g hg => N.sub g (M.sub g hg)
  nm := fun b hb => (N.nm b (hok b hb)).trans (M.nm b hb)
  shp := fun b hb => (N.shp b (hok b hb)).trans (M.shp b hb)
  hs := fun b g hb hg => (N.hs b g (hok b hb) ((M.nm b hb).trans hg)).trans (M.hs b g hb hg)
  yv := N.yv.trans M.yv

theorem Mono.refl {Γ : Ctx} {s : Nat → Option Shp} {w : World} {ok : Nat → Prop} : Mono Γ s w Γ s w ok :=
  ⟨fun _ _ => rfl, fun _ h => h, fun _ _ => rfl, fun _ _ => rfl, fun _ _ _ _ => rfl, rfl⟩

/-- Nil slices get names. -/
theorem nameNils_sound : ∀ (cells : List PV) (H : List Blk) (As : List Value), HR Γ H w → cells.length = As.length → (∀ j (h : j < cells.length), ∃ U, As[j]? = some U ∧ VP Γ (shpOf H) w (cells[j]) U) → (∀ c ∈ nmsL cells, c < H.length) →
    ∃ T, (nameNils cells H).2 = H ++ T ∧ HR Γ (H ++ T) w ∧ Stp C Γ H w noΦ Γ (H ++ T) w noΦ ∧ Mono Γ (shpOf H) w Γ (shpOf (H ++ T)) w (· < H.length) ∧ (nameNils cells H).1.length = As.length ∧
      (∀ j (h : j < (nameNils cells H).1.length), ∃ U, As[j]? = some U ∧ VP Γ (shpOf (H ++ T)) w ((nameNils cells H).1[j]) U) ∧ ∀ c ∈ nmsL (nameNils cells H).1, c < (H ++ T).length
  | [], H, As, hH, hl, _, _ => ⟨[], by simp [nameNils], by simpa using hH, by simpa using Stp.refl hH, by simpa using Mono.refl, by simpa [nameNils] using hl, by simp [nameNils], by simp [nameNils, nmsL]⟩
  | v :: cells, H, [], hH, hl, _, _ => by simp at hl
  | v :: cells, H, A :: As, hH, hl, hc, hn => by
    have hv : VP Γ (shpOf H) w v A := by
      obtain ⟨U, e, k⟩ := hc 0 (by simp)
      simp at e; subst e
      simpa using k
    have hl' : cells.length = As.length := by simpa using hl
    have hc' : ∀ j (h : j < cells.length), ∃ U, As[j]? = some U ∧ VP Γ (shpOf H) w (cells[j]) U := fun j hj => by
      obtain ⟨U, e, k⟩ := hc (j + 1) (by simpa using hj)
      exact ⟨U, by simpa using e, by simpa using k⟩
    have hnv : ∀ c ∈ v.nms, c < H.length := fun c h => hn c (by simp only [nmsL, List.mem_append]; exact .inl h)
    have hnc : ∀ c ∈ nmsL cells, c < H.length := fun c h => hn c (by simp only [nmsL, List.mem_append]; exact .inr h)
    by_cases hnil : v = .nsl
    · subst hnil
      have hH1 : HR Γ (H ++ [.arr true 0 0 []]) w := nil_HR hH rfl (.inl ⟨rfl, rfl⟩)
      have M1 := nil_mono (.arr true 0 0 []) hH
      obtain ⟨T, e1, e2, e3, e4, e5, e6, e7⟩ := nameNils_sound cells (H ++ [.arr true 0 0 []]) As hH1 hl' (fun j hj => by
        obtain ⟨U, e, k⟩ := hc' j hj
        exact ⟨U, e, k.mono M1 fun c hc => hnc c (mem_nmsL.2 ⟨j, hj, hc⟩)⟩) (fun c hc => by have := hnc c hc; simp; omega)
      have key : nameNils (.nsl :: cells) H = (.fl H.length :: (nameNils cells (H ++ [.arr true 0 0 []])).1, (nameNils cells (H ++ [.arr true 0 0 []])).2) := rfl
      rw [key]
      rw [List.append_assoc] at e1 e2 e3 e4 e7
      have M2 := e4
      refine ⟨[.arr true 0 0 []] ++ T, e1, e2, (nil_Stp hH).trans e3, M1.trans e4 (fun b hb => by simp; omega), by simpa using e5, fun j hj => ?_, fun c hc => ?_⟩
      · cases j with
        | zero =>
          refine ⟨A, rfl, ?_⟩
          rw [hv.inv_nsl]
          refine .flv _ 0 0 ?_
          rw [← List.append_assoc, shpOf_append_lt (by simp), shpOf_append_eq]
          rfl
        | succ j =>
          obtain ⟨U, e, k⟩ := e6 j (by simpa using hj)
          rw [List.append_assoc] at k
          exact ⟨U, by simpa using e, by simpa using k⟩
      · simp only [nmsL, List.mem_append, PV.nms, List.mem_singleton] at hc
        rcases hc with rfl | hc
        · simp
        · exact e7 c hc
    · have key : nameNils (v :: cells) H = (v :: (nameNils cells H).1, (nameNils cells H).2) := by
        cases v <;> first | rfl | exact absurd rfl hnil
      rw [key]
      obtain ⟨T, e1, e2, e3, e4, e5, e6, e7⟩ := nameNils_sound cells H As hH hl' hc' hnc
      refine ⟨T, e1, e2, e3, e4, by simpa using e5, fun j hj => ?_, fun c hc => ?_⟩
      · cases j with
        | zero => exact ⟨A, rfl, hv.mono e4 hnv⟩
        | succ j =>
          obtain ⟨U, e, k⟩ := e6 j (by simpa using hj)
          exact ⟨U, by simpa using e, by simpa using k⟩
      · simp only [nmsL, List.mem_append] at hc
        rcases hc with hc | hc
        · have := hnv c hc; simp; omega
        · exact e7 c hc

theorem chunk_length (sz : Nat) : ∀ (n : Nat) (l : List SV), (chunk sz n l).length = n
  | 0, _ => rfl
  | n + 1, l => by simp [chunk, chunk_length sz n]

theorem chunk_get (sz : Nat) : ∀ (n : Nat) (l : List SV), l.length = n * sz → ∀ i (h : i < (chunk sz n l).length), (chunk sz n l)[i].length = sz ∧ ∀ j (h' : j < (chunk sz n l)[i].length), ∃ h2 : i * sz + j < l.length, (chunk sz n l)[i][j] = l[i * sz + j]
  | 0, _, _, i, h => by simp [chunk] at h
  | n + 1, l, hl, i, h => by
    have hle : sz ≤ l.length := by rw [hl, Nat.add_mul]; omega
    cases i with
    | zero =>
      refine ⟨by simp [chunk]; omega, fun j hj => ?_⟩
      simp [chunk] at hj
      exact ⟨by omega, by simp [chunk]⟩
    | succ i =>
      have h' : i < (chunk sz n (l.drop sz)).length := by simpa [chunk] using h
      obtain ⟨e1, e2⟩ := chunk_get sz n (l.drop sz) (by rw [List.length_drop, hl, Nat.add_mul]; omega) i h'
      refine ⟨by simpa [chunk] using e1, fun j hj => ?_⟩
      obtain ⟨h2, e⟩ := e2 j (by simpa [chunk] using hj)
      rw [List.length_drop] at h2
      refine ⟨by rw [Nat.add_mul]; omega, ?_⟩
      have hk : (chunk sz (n + 1) l)[i + 1][j] = (chunk sz n (l.drop sz))[i][j]'(by simpa [chunk] using hj) := rfl
      rw [hk, e, List.getElem_drop]
      congr 1
      rw [Nat.add_mul]; omega

/-- Stable cells. -/
theorem svs_sound {sh : Nat → Option Shp} : ∀ {l : List PV} {vs : List SV} {As : List Value}, svs? l = some vs → l.length = As.length → (∀ j (h : j < l.length), ∃ U, As[j]? = some U ∧ VP Γ sh w (l[j]) U) →
    vs.length = As.length ∧ ∀ j (h : j < vs.length), ∃ U, As[j]? = some U ∧ VS Γ.St w (vs[j]) U
  | [], vs, As, h, hl, _ => by
    simp only [svs?, Option.some.injEq] at h
    subst h
    exact ⟨by simpa using hl, fun j hj => by simp at hj⟩
  | v :: l, vs, [], h, hl, _ => by simp at hl
  | v :: l, vs, A :: As, h, hl, hc => by
    simp only [svs?] at h
    split at h
    · rename_i x y hx hy
      simp only [Option.some.injEq] at h
      subst h
      obtain ⟨e1, e2⟩ := svs_sound (As := As) hy (by simpa using hl) (fun j hj => by
        obtain ⟨U, e, k⟩ := hc (j + 1) (by simpa using hj)
        exact ⟨U, by simpa using e, by simpa using k⟩)
      refine ⟨by simp [e1], fun j hj => ?_⟩
      cases j with
      | zero =>
        obtain ⟨U, e, k⟩ := hc 0 (by simp)
        refine ⟨U, e, ?_⟩
        simp only [List.getElem_cons_zero] at k ⊢
        unfold PV.sv? at hx
        split at hx
        · simp only [Option.some.injEq] at hx; subst hx; exact k.inv_s
        · simp only [Option.some.injEq] at hx; subst hx; rw [k.inv_nsl]; exact .nil _ _
        · cases hx
      | succ j =>
        obtain ⟨U, e, k⟩ := e2 j (by simpa using hj)
        exact ⟨U, by simpa using e, by simpa using k⟩
    · cases h

/-- A new row of stable cells, in whatever world. -/
theorem BR.row {sh : Nat → Option Shp} {w' : World} {b g e sz n : Nat} {z : Bool} {vs : List SV} {A : Array Value} {rest : Array Value} {Γ' : Ctx} (hg : Γ'.nm b = some g) (hh : w'.heap[g]? = some (.cells (A ++ rest) e (0, 0))) (hz : z = true → n ≠ 0)
    (hl : vs.length = n * sz) (hA : vs.length = A.size) (hc : ∀ j (h : j < vs.length), ∃ U, A[j]? = some U ∧ VS Γ'.St w' (vs[j]) U) : BR Γ' sh w' b (.arr z e sz (chunk sz n vs)) := by
  refine .inr ⟨fun h => ?_, g, _, hg, hh, ?_, fun i hi => (chunk_get sz n vs hl i hi).1, fun i hi j hj => ?_⟩
  · have := congrArg List.length h.2
    rw [chunk_length] at this
    exact hz h.1 this
  · rw [chunk_length, Array.size_append]; omega
  · obtain ⟨h2, e⟩ := (chunk_get sz n vs hl i hi).2 j hj
    obtain ⟨U, e1, k⟩ := hc _ h2
    refine ⟨U, ?_, by rw [e]; exact k⟩
    rw [Array.getElem?_append_left (by omega)]
    exact e1

/-- A NEW VARIABLE. -/
theorem boxK_sound {e : Nat} {V : Value} {cells : List PV} {k : PV → List Blk → Option R} {sl : List PV} {tmps : Array Value} {m : Sem Value} (hH : HR Γ H w) (h : boxK C e cells H k = some r) (hc : CR Γ (shpOf H) w cells V.cells) (hn : ∀ c ∈ nmsL cells, c < H.length)
    (hm : m.run C.P w = .ok (.pointer (some ⟨w.heap.size, 0, none⟩)) (w.alloc (.cells V.cells e))) :
    ∃ v H', k v H' = some r ∧ WV C Γ H w sl tmps m v sl H' := by
  unfold boxK at h
  split at h
  · rename_i hok
    split at h
    · rename_i n el hsh
      split at h
      · rename_i vs hvs
        split at h
        · rename_i hlen
          refine ⟨_, _, h, ?_⟩
          obtain ⟨e1, e2⟩ := svs_sound (As := V.cells.toList) hvs (by simpa using hc.1.symm) (fun j hj => by
            obtain ⟨U, e, k⟩ := hc.2 j hj
            exact ⟨U, by simpa using e, k⟩)
          have hwh : (w.alloc (.cells V.cells e)).heap = w.heap.push (.cells V.cells e) := rfl
          refine alloc_WV hH hm hwh rfl rfl rfl (BR.row (g := w.heap.size) (A := V.cells) (rest := #[]) (by simp [Ctx.upd]) (by rw [heap_push_eq hwh]; simp) (by simp) ?_ (by simpa using e1) (fun j hj => ?_)) (by simp [Blk.nms]) ?_ (by simp [PV.nms])
          · rw [e1, Array.length_toList, hc.1, hlen]
          · obtain ⟨U, e, k⟩ := e2 j hj
            exact ⟨U, by simpa using e, k.mono (fun g hg => heap_push_lt hwh (hH.stlt g hg)) (fun _ h => h)⟩
          · have := VP.ptrA (Γ := Γ.upd H.length w.heap.size) (w := w.alloc (.cells V.cells e)) (sh := shpOf (H ++ [Blk.arr false e (C.ti el).ks.length (chunk (C.ti el).ks.length n vs)])) H.length 0 0 w.heap.size _ _ _ _ shpOf_append_eq (by simp [Ctx.upd])
            simpa using this
        · cases h
      · cases h
    · refine ⟨_, _, h, ?_⟩
      obtain ⟨T, e1, e2, e3, e4, e5, e6, e7⟩ := nameNils_sound (C := C) cells H V.cells.toList hH (by simpa using hc.1.symm) (fun j hj => by
        obtain ⟨U, e, k⟩ := hc.2 j hj
        exact ⟨U, by simpa using e, k⟩) hn
      rw [e1]
      have hwh : (w.alloc (.cells V.cells e)).heap = w.heap.push (.cells V.cells e) := rfl
      have M := alloc_mono (x := .box (nameNils cells H).1) e2 hwh
      have key : WV C Γ (H ++ T) w sl tmps m (.ptr (H ++ T).length 0 0) sl ((H ++ T) ++ [.box (nameNils cells H).1]) := by
        refine alloc_WV e2 hm hwh rfl rfl rfl ⟨w.heap.size, V.cells, e, by simp [Ctx.upd], by rw [heap_push_eq hwh], by simpa using e5.symm, fun j hj => ?_⟩ (fun c hc => ?_) ?_ (by simp [PV.nms])
        · obtain ⟨U, f1, f2⟩ := e6 j hj
          exact ⟨U, by simpa using f1, f2.mono M fun c hc => e7 c (mem_nmsL.2 ⟨j, hj, hc⟩)⟩
        · have := e7 c hc; omega
        · exact .ptrB _ 0 w.heap.size shpOf_append_eq (by simp [Ctx.upd])
      obtain ⟨V', w', Γ', k1, k2, k3, k4, k5, k6⟩ := key
      exact ⟨V', w', Γ', k1, e3.trans k2, k3, fun hS => k4 (SR.grow e4 hS), k5, k6⟩
  · cases h

end
end Go.Proofs.Ytfioahjeanmfpaa.E
