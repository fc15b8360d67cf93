/-
  Stores.
-/
import Derived.Test.YtfioahjeanmfpaaE13
import Derived.Laws.CopyRow
namespace Go.Proofs.Ytfioahjeanmfpaa.E
open Go
set_option linter.unusedVariables false

section
variable {Γ : Ctx} {H : List Blk} {w : World} {R : Type} {r : R} {C : Cfg}

theorem putAt_eq {α : Type} (l vs : List α) (off : Nat) (h : off + vs.length ≤ l.length) : putAt l off vs = l.take off ++ vs ++ l.drop (off + vs.length) := by
  apply List.ext_getElem?
  intro j
  rw [putAt_get vs l off h j]
  have h1 : (l.take off).length = off := by rw [List.length_take]; omega
  by_cases h2 : j < off
  · rw [if_neg (by omega), List.getElem?_append_left (by rw [List.length_append]; omega), List.getElem?_append_left (by omega), List.getElem?_take, if_pos h2]
  · by_cases h3 : j < off + vs.length
    · rw [if_pos (by omega), List.getElem?_append_left (by rw [List.length_append]; omega), List.getElem?_append_right (by omega), h1]
    · rw [if_neg (by omega), List.getElem?_append_right (by rw [List.length_append]; omega), List.getElem?_drop, List.length_append, h1]
      congr 1
      omega

/-- A write of cells into a row. -/
theorem run_storeCells_put {P : Program} {g o e : Nat} {vs : List Value} {cur : Array Value} (hg : w.heap[g]? = some (.cells cur e (0, 0))) (hle : o + vs.length ≤ cur.size) (h1 : ∀ v ∈ vs, v.oneCell' = true) :
    ∃ w', (storeCells ⟨g, o, none⟩ vs).run P w = .ok () w' ∧ w'.heap[g]? = some (.cells (putAt cur.toList o vs).toArray e (0, 0)) ∧ (∀ k, k ≠ g → w'.heap[k]? = w.heap[k]?) ∧ w'.heap.size = w.heap.size ∧ w'.os = w.os ∧ w'.tape = w.tape ∧ w'.output = w.output ∧
      w'.shape? g = w.shape? g := by
  have := run_storeCells_at P g o e vs 0 cur w hg (by simpa using hle) h1
  simp only [Nat.add_zero] at this
  rw [← putAt_eq cur.toList vs o (by simpa using hle)] at this
  have hh := setRow_heap w g cur (putAt cur.toList o vs).toArray e (0, 0) hg
  refine ⟨_, this, hh, fun k hk => setRow_other w g k _ hk, by simp, rfl, rfl, rfl, ?_⟩
  simp only [World.shape?, hh, hg]
  simp [putAt_length]

theorem run_storeVar {P : Program} {t : Nat} {i : TypeInfo} {a : Addr} {V : Value} (hi : P.info? t = some i) (hs : V.cells.size = i.size) {w w' : World} (h : (storeCells a V.cells.toList).run P w = .ok () w') :
    (do Instr.storeAt t (.pointer (some a)) V; pure undef : Sem Value).run P w = .ok undef w' := by
  simp [Instr.storeAt, Instr.sureAddr, storeVar, sizeOf, typeInfo, hi, hs, h]

theorem all_one {l : List PV} {As : List Value} {sh : Nat → Option Shp} (hl : l.length = As.length) (h : l.all PV.one = true) (hc : ∀ j (h : j < l.length), ∃ U, As[j]? = some U ∧ VP Γ sh w (l[j]) U) : ∀ v ∈ As, v.oneCell' = true := by
  intro v hv
  obtain ⟨j, hj, e⟩ := List.getElem_of_mem hv
  obtain ⟨U, e1, k⟩ := hc j (by omega)
  rw [List.getElem?_eq_getElem hj] at e1
  simp only [Option.some.injEq] at e1
  rw [← e, e1]
  exact k.oneCell (List.all_eq_true.1 h _ (List.getElem_mem _))

theorem undef_VP {sh : Nat → Option Shp} : VP Γ sh w (.tup []) undef := VP.mk_tup (by rfl) fun j hj => by simp at hj

/-- Cells that are put into cells. -/
theorem put_rel {α : Type} {Rel : α → Value → Prop} {l vs : List α} {A B : List Value} {o : Nat} (hl : l.length = A.length) (hv : vs.length = B.length) (ho : o + vs.length ≤ l.length) (h1 : ∀ j (h : j < l.length), ∃ U, A[j]? = some U ∧ Rel (l[j]) U)
    (h2 : ∀ j (h : j < vs.length), ∃ U, B[j]? = some U ∧ Rel (vs[j]) U) : ∀ j (h : j < (putAt l o vs).length), ∃ U, (putAt A o B)[j]? = some U ∧ Rel ((putAt l o vs)[j]) U := by
  intro j hj
  have g := putAt_get vs l o ho j
  rw [List.getElem?_eq_getElem hj] at g
  rw [putAt_length] at hj
  rw [putAt_get B A o (by omega) j]
  by_cases hc : o ≤ j ∧ j < o + vs.length
  · rw [if_pos (by omega)]
    rw [if_pos hc, List.getElem?_eq_getElem (by omega)] at g
    simp only [Option.some.injEq] at g
    obtain ⟨U, e, k⟩ := h2 (j - o) (by omega)
    exact ⟨U, e, by rw [g]; exact k⟩
  · rw [if_neg (by omega)]
    rw [if_neg hc, List.getElem?_eq_getElem hj] at g
    simp only [Option.some.injEq] at g
    obtain ⟨U, e, k⟩ := h1 j hj
    exact ⟨U, e, by rw [g]; exact k⟩

theorem HR.box' (hH : HR Γ H w) {b : Nat} {cells : List PV} (hb : H[b]? = some (.box cells)) : ∃ g cur e, Γ.nm b = some g ∧ w.heap[g]? = some (.cells cur e (0, 0)) ∧ cur.size = cells.length ∧ (∀ j (h : j < cells.length), ∃ V, cur[j]? = some V ∧ VP Γ (shpOf H) w (cells[j]) V) ∧ ∀ c ∈ nmsL cells, c < H.length := by
  obtain ⟨hlt, hbe⟩ := List.getElem?_eq_some_iff.1 hb
  have := hH.blk b hlt
  rw [hbe] at this
  obtain ⟨g, cur, e, h1, h2, h3, h4⟩ := this
  exact ⟨g, cur, e, h1, h2, h3, h4, fun c hc => hH.nms b hlt c (by rw [hbe]; exact hc)⟩

theorem HR.arr' (hH : HR Γ H w) {b : Nat} {v : Bool} {e sz : Nat} {els : List (List SV)} (hb : H[b]? = some (.arr v e sz els)) (hne : ¬ (v = true ∧ els = [])) :
    ∃ g cur, Γ.nm b = some g ∧ w.heap[g]? = some (.cells cur e (0, 0)) ∧ els.length * sz ≤ cur.size ∧ (∀ i (h : i < els.length), (els[i]).length = sz) ∧ ∀ i (h : i < els.length) j (h' : j < (els[i]).length), ∃ V, cur[i * sz + j]? = some V ∧ VS Γ.St w (els[i][j]) V := by
  obtain ⟨hlt, hbe⟩ := List.getElem?_eq_some_iff.1 hb
  have := hH.blk b hlt
  rw [hbe] at this
  rcases this with h | ⟨_, g, cur, h1, h2, h3, h4, h5⟩
  · exact absurd h hne
  · exact ⟨g, cur, h1, h2, h3, h4, h5⟩

theorem el_apart {i i' j o n sz : Nat} (hne : i' ≠ i) (hj : j < sz) (ho : o + n ≤ sz) : ¬ (i * sz + o ≤ i' * sz + j ∧ i' * sz + j < i * sz + o + n) := by
  rcases Nat.lt_or_gt_of_ne hne with h | h
  · have : (i' + 1) * sz ≤ i * sz := Nat.mul_le_mul_right _ h
    rw [Nat.add_mul] at this; omega
  · have : (i + 1) * sz ≤ i' * sz := Nat.mul_le_mul_right _ h
    rw [Nat.add_mul] at this; omega

theorem Blk.box_shp (x y : List PV) : (Blk.box x).shp = (Blk.box y).shp := rfl

/-- STORES. -/
theorem storeK_sound {tid : Nat} {a v : PV} {A V : Value} {k : List Blk → Option R} {sl : List PV} {tmps : Array Value} (hH : HR Γ H w) (h : storeK (C.ti tid) a v H k = some r) (ha : VP Γ (shpOf H) w a A) (hv : VP Γ (shpOf H) w v V) (hn : ∀ c ∈ v.nms, c < H.length) :
    ∃ H', k H' = some r ∧ WV C Γ H w sl tmps (do Instr.storeAt tid A V; pure undef) (.tup []) sl H' := by
  unfold storeK at h
  split at h
  · rename_i hc
    obtain ⟨hok, hlen, hone⟩ := hc
    obtain ⟨i0, hi, hsz, hpos⟩ := ok_size hok
    have hne : v.cells ≠ [] := by intro e; rw [e] at hlen; simp at hlen; omega
    have hvc := hv.cells' hne
    have hcl : v.cells.length = V.cells.toList.length := by simpa using hvc.1.symm
    have hcr : ∀ j (h : j < v.cells.length), ∃ U, V.cells.toList[j]? = some U ∧ VP Γ (shpOf H) w (v.cells[j]) U := fun j hj => by
      obtain ⟨U, e, k⟩ := hvc.2 j hj
      exact ⟨U, by simpa using e, k⟩
    have h1c := all_one hcl hone hcr
    have hVs : V.cells.size = i0.size := by rw [hvc.1, hlen, hsz]
    split at h
    · rename_i b i off
      split at h
      · rename_i cells hb
        split at h
        · rename_i hi0
          subst hi0
          dsimp only at h
          obtain ⟨h2, h3⟩ := need_some h
          simp only [decide_eq_true_eq] at h2
          refine ⟨_, h3, ?_⟩
          obtain ⟨T, e1, e2, e3, e4, e5, e6, e7⟩ := nameNils_sound (C := C) v.cells H V.cells.toList hH hcl hcr (fun c hc => hn c (PV.cells_nms c hc))
          have hb' : (H ++ T)[b]? = some (.box cells) := by rw [List.getElem?_append_left (List.getElem?_eq_some_iff.1 hb).1]; exact hb
          obtain ⟨g, cur, e, hg, hh, hcur, hcells, hnms⟩ := e2.box' hb'
          have hA : A = .pointer (some ⟨g, off, none⟩) := by
            cases ha with
            | ptrA _ _ _ g' v e sz n h' hg' => simp [shpOf, hb, Blk.shp] at h'
            | ptrB _ _ g' h' hg' => rw [hg] at hg'; cases hg'; rfl
          subst hA
          obtain ⟨w', r1, r2, r3, r4, r5, r6, r7, r8⟩ := run_storeCells_put (P := C.P) (o := off) hh (vs := V.cells.toList) (by rw [← hcl, hlen, hcur]; exact h2) h1c
          have hst := run_storeVar hi hVs r1
          have M := write_mono (y := .box (putAt cells off (nameNils v.cells H).1)) e2 hb' hg rfl r3 r8
          rw [e1]
          have key : WV C Γ (H ++ T) w sl tmps (do Instr.storeAt tid (.pointer (some ⟨g, off, none⟩)) V; pure undef) (.tup []) sl ((H ++ T).set b (.box (putAt cells off (nameNils v.cells H).1))) := by
            refine write_WV e2 hst hb' hg rfl r3 r8 (by omega) r5 r6 r7 ⟨g, _, e, hg, r2, by simp [putAt_length, hcur], fun j hj => ?_⟩ (fun c hc => ?_) undef_VP (by simp [PV.nms, nmsL])
            · have := put_rel (Rel := fun p U => VP Γ (shpOf ((H ++ T).set b (.box (putAt cells off (nameNils v.cells H).1)))) w' p U) (l := cells) (vs := (nameNils v.cells H).1) (A := cur.toList) (B := V.cells.toList) (o := off)
                (by simpa using hcur.symm) e5 (by rw [e5, ← hcl, hlen]; exact h2)
                (fun j hj => by
                  obtain ⟨U, f1, f2⟩ := hcells j hj
                  exact ⟨U, by simpa using f1, f2.mono M (fun _ _ => trivial)⟩)
                (fun j hj => by
                  obtain ⟨U, f1, f2⟩ := e6 j hj
                  exact ⟨U, f1, f2.mono M (fun _ _ => trivial)⟩) j hj
              obtain ⟨U, f1, f2⟩ := this
              exact ⟨U, by simpa using f1, f2⟩
            · rcases nmsL_putAt _ _ _ c hc with h | h
              · exact hnms c h
              · exact e7 c h
          obtain ⟨V', w', Γ', k1, k2, k3, k4, k5, k6⟩ := key
          exact ⟨V', w', Γ', k1, e3.trans k2, k3, fun hS => k4 (SR.grow e4 hS), k5, k6⟩
        · cases h
      · rename_i z e sz els hb
        split at h
        · rename_i vs hvs
          obtain ⟨f1, f2⟩ := svs_sound hvs hcl hcr
          split at h
          · rename_i hfit
            obtain ⟨h2, h3⟩ := need_some h
            simp only [decide_eq_true_eq] at h2
            refine ⟨_, h3, ?_⟩
            obtain ⟨g, cur, hg, hh, hsize, hlens, hels⟩ := hH.arr' hb (by rintro ⟨_, rfl⟩; simp at h2)
            have hA : A = .pointer (some ⟨g, i * sz + off, none⟩) := by
              cases ha with
              | ptrA _ _ _ g' v e sz n h' hg' =>
                rw [hg] at hg'; cases hg'
                obtain ⟨_, _, rfl, _⟩ := shp_arr hb h'
                rfl
              | ptrB _ _ g' h' hg' => simp [shpOf, hb, Blk.shp] at h'
            subst hA
            have hin : i * sz + off + V.cells.toList.length ≤ cur.size := by
              have : (i + 1) * sz ≤ els.length * sz := Nat.mul_le_mul_right _ h2
              rw [Nat.add_mul] at this
              omega
            obtain ⟨w', r1, r2, r3, r4, r5, r6, r7, r8⟩ := run_storeCells_put (P := C.P) (o := i * sz + off) hh (vs := V.cells.toList) hin h1c
            have hst := run_storeVar hi hVs r1
            rw [getD_lt' h2]
            have hpl : off + vs.length ≤ (els[i]).length := by rw [hlens i h2, f1]; omega
            refine write_WV hH hst hb hg (by simp [Blk.shp]) r3 r8 (by omega) r5 r6 r7 (.inr ⟨fun hz => ?_, g, _, hg, r2, by simpa [putAt_length] using hsize, fun a ha => ?_, fun a ha j hj => ?_⟩) (by simp [Blk.nms]) undef_VP (by simp [PV.nms, nmsL])
            · have := congrArg List.length hz.2
              rw [List.length_set] at this
              simp only [List.length_nil] at this
              omega
            · rw [List.getElem_set]
              rw [List.length_set] at ha
              split
              · rw [putAt_length]; exact hlens i h2
              · exact hlens a ha
            · rw [List.length_set] at ha
              have hstw : ∀ k, Γ.St k → w'.heap[k]? = w.heap[k]? := fun k hk => r3 k (fun e => (hH.lt b g hg).2.2 (e ▸ hk))
              simp only [List.getElem?_toArray]
              rw [putAt_get _ _ _ (by simpa using hin)]
              by_cases hai : i = a
              · subst hai
                have hge : (els.set i (putAt els[i] off vs))[i]'(by simpa using ha) = putAt els[i] off vs := by simp
                have hj' : j < (putAt els[i] off vs).length := by rw [← hge]; exact hj
                have hget : (els.set i (putAt els[i] off vs))[i][j] = (putAt els[i] off vs)[j] := by simp
                rw [hget]
                have g1 := putAt_get vs els[i] off hpl j
                rw [List.getElem?_eq_getElem hj'] at g1
                rw [putAt_length] at hj'
                by_cases hc : off ≤ j ∧ j < off + vs.length
                · rw [if_pos (by omega)]
                  rw [if_pos hc, List.getElem?_eq_getElem (by omega)] at g1
                  simp only [Option.some.injEq] at g1
                  obtain ⟨U, q1, q2⟩ := f2 (j - off) (by omega)
                  refine ⟨U, ?_, by rw [g1]; exact q2.mono hstw (fun _ h => h)⟩
                  rw [← q1]; congr 1; omega
                · rw [if_neg (by omega)]
                  rw [if_neg hc, List.getElem?_eq_getElem hj'] at g1
                  simp only [Option.some.injEq] at g1
                  obtain ⟨U, q1, q2⟩ := hels i h2 j hj'
                  exact ⟨U, by simpa using q1, by rw [g1]; exact q2.mono hstw (fun _ h => h)⟩
              · have hge : (els.set i (putAt els[i] off vs))[a]'(by simpa using ha) = els[a] := by rw [List.getElem_set, if_neg hai]
                have hj' : j < (els[a]).length := by rw [← hge]; exact hj
                have hget : (els.set i (putAt els[i] off vs))[a][j] = els[a][j] := by congr 1
                rw [hget]
                obtain ⟨U, q1, q2⟩ := hels a ha j hj'
                have hjs : j < sz := by rw [← hlens a ha]; exact hj'
                rw [if_neg (el_apart (fun e => hai e.symm) hjs (by rw [← f1, ← hlens i h2]; exact hpl))]
                exact ⟨U, by simpa using q1, q2.mono hstw (fun _ h => h)⟩
          · split at h
            · rename_i hio
              obtain ⟨rfl, rfl⟩ := hio
              obtain ⟨h2, h3⟩ := need_some h
              simp only [decide_eq_true_eq] at h2
              refine ⟨_, h3, ?_⟩
              have hels0 : els ≠ [] := by rintro rfl; rw [List.length_nil, Nat.zero_mul] at h2; omega
              obtain ⟨g, cur, hg, hh, hsize, hlens, hels⟩ := hH.arr' hb (fun hz => hels0 hz.2)
              have hA : A = .pointer (some ⟨g, 0, none⟩) := by
                cases ha with
                | ptrA _ _ _ g' v e sz n h' hg' =>
                  rw [hg] at hg'; cases hg'
                  simp
                | ptrB _ _ g' h' hg' => simp [shpOf, hb, Blk.shp] at h'
              subst hA
              have hin : 0 + V.cells.toList.length ≤ cur.size := by omega
              obtain ⟨w', r1, r2, r3, r4, r5, r6, r7, r8⟩ := run_storeCells_put (P := C.P) (o := 0) hh (vs := V.cells.toList) hin h1c
              have hst := run_storeVar hi hVs r1
              have hstw : ∀ k, Γ.St k → w'.heap[k]? = w.heap[k]? := fun k hk => r3 k (fun e => (hH.lt b g hg).2.2 (e ▸ hk))
              have hrow : w'.heap[g]? = some (.cells (V.cells ++ (cur.toList.drop V.cells.size).toArray) e (0, 0)) := by
                rw [r2, putAt_eq _ _ _ (by simpa using hin)]
                congr 2
                apply Array.ext'
                simp
              refine write_WV hH hst hb hg (by simp [Blk.shp, chunk_length]) r3 r8 (by omega) r5 r6 r7 (BR.row hg hrow (fun _ => ?_) ?_ ?_ fun j hj => ?_) (by simp [Blk.nms]) undef_VP (by simp [PV.nms, nmsL])
              · intro e; exact hels0 (List.length_eq_zero_iff.1 e)
              · rw [f1, ← hcl, hlen, h2]
              · rw [f1]; simp
              · obtain ⟨U, q1, q2⟩ := f2 j hj
                exact ⟨U, by simpa using q1, q2.mono hstw (fun _ h => h)⟩
            · cases h
        · cases h
      · cases h
    · cases h
  · cases h

end
end Go.Proofs.Ytfioahjeanmfpaa.E
