/-
  Loads, addresses, slices, conversions: what the evaluator says of them is what the model does.
-/
import Derived.Test.YtfioahjeanmfpaaE5
namespace Go.Proofs.Ytfioahjeanmfpaa.E
open Go
set_option linter.unusedVariables false

theorem VS.as {St : Nat → Prop} {Γ : Ctx} {sh : Nat → Option Shp} {w : World} (hSt : Γ.St = St) {c : CK} {x : SV} {V : Value} (hx : VS St w x V) (h : x.has c = true) : VP Γ sh w (x.as c) V := by
  subst hSt
  cases c with
  | bool => cases x <;> simp [SV.has] at h; exact .s _ _ hx
  | int k => cases x <;> simp [SV.has] at h; subst h; exact .s _ _ hx
  | str => cases x <;> simp [SV.has] at h; exact .s _ _ hx
  | ptr => exact .s _ _ hx
  | map => exact .s _ _ hx
  | fn => exact .s _ _ hx
  | sl k =>
    cases x <;> simp [SV.has] at h
    rename_i z t k' els
    show VP Γ sh w (.s (.sl z t k els)) V
    rcases h with rfl | rfl
    · exact .s _ _ hx
    · cases hx
      exact .s _ _ (.nil t k)

theorem VP.as {Γ : Ctx} {sh : Nat → Option Shp} {w : World} {c : CK} {x : PV} {V : Value} (hx : VP Γ sh w x V) (h : x.has c = true) : VP Γ sh w (x.as c) V := by
  cases x with
  | s x =>
    have h' : x.has c = true := by cases c <;> simpa [PV.has] using h
    have := VS.as (Γ := Γ) (sh := sh) rfl hx.inv_s h'
    cases c <;> simpa [PV.as, SV.as, PV.toS] using this
  | _ => cases c <;> simp_all [PV.has, PV.as]

theorem PV.as_nms {c : CK} {x : PV} : ∀ b ∈ (x.as c).nms, b ∈ x.nms := by
  intro b
  cases x with
  | s x => cases c <;> simp [PV.as, SV.as, PV.nms]
  | _ => cases c <;> simp [PV.as, PV.nms]

theorem cell_heap {w w' : World} (h : w'.heap = w.heap) (a : Addr) : w'.cell? a = w.cell? a := by simp [World.cell?, h]

theorem getD_lt' {α : Type} {l : List α} {i : Nat} {d : α} (h : i < l.length) : l.getD i d = l[i] := by simp [List.getD, List.getElem?_eq_getElem h]

section
variable {Γ : Ctx} {H : List Blk} {w : World} {R : Type} {r : R}

/-- Cells in the world from an address on. -/
def CellsAt (Γ : Ctx) (sh : Nat → Option Shp) (w : World) (g o : Nat) (x : List PV) : Prop := ∀ j (h : j < x.length), ∃ U, w.cell? ⟨g, o + j, none⟩ = some U ∧ VP Γ sh w (x[j]) U

theorem addr_add (g o j : Nat) : (⟨g, o, none⟩ : Addr).add j = ⟨g, o + j, none⟩ := by unfold Addr.add; split <;> simp_all

theorem loadVar_sound {C : Cfg} {tid g o : Nat} {x : List PV} (hok : (C.ti tid).ok = true) (hl : x.length = (C.ti tid).ks.length) (hc : CellsAt Γ (shpOf H) w g o x)
    (hn : ∀ c ∈ nmsL x, c < H.length) : QV C.P Γ H w (loadVar tid ⟨g, o, none⟩) (if (C.ti tid).agg then .agg x else x.getD 0 .bad) := by
  obtain ⟨i, d, z, hi, hd, hz, hsz, hby, hpos, hks, hagg, hlen⟩ := ti_spec hok
  rw [← hlen] at hl
  let As : Nat → Value := fun j => (w.cell? ⟨g, o + j, none⟩).getD undef
  have hAs : ∀ j, j < x.length → w.cell? ⟨g, o + j, none⟩ = some (As j) := fun j hj => by obtain ⟨U, e, _⟩ := hc j hj; simp [As, e]
  have hVs : ∀ j (hj : j < x.length), VP Γ (shpOf H) w (x[j]) (As j) := fun j hj => by obtain ⟨U, e, k⟩ := hc j hj; simpa [As, e] using k
  by_cases ha : isAggD d = true
  · rw [hagg, if_pos ha]
    refine ⟨by simpa [PV.nms] using hn, .agg ((List.range i.size).map As).toArray, .agg x _ As (by simp [hl]) (fun j hj => by simp [List.getElem?_range (by omega : j < i.size)]) hVs, fun w' hw => ?_⟩
    have hl' := run_loadCells_list (P := C.P) w' ⟨g, o, none⟩ ((List.range i.size).map As) (fun j v hv => by
      rw [addr_add]
      refine cell_ext hw ?_
      simp only [List.getElem?_map, Option.map_eq_some_iff] at hv
      obtain ⟨a, e1, e2⟩ := hv
      have := List.getElem?_eq_some_iff.1 e1
      obtain ⟨h1, h2⟩ := this
      simp at h1 h2
      subst h2 e2
      exact hAs j (by omega))
    simp only [List.length_map, List.length_range] at hl'
    simp [loadVar, run_isAgg hd, ha, sizeOf, typeInfo, hi, hl']
  · simp only [Bool.not_eq_true] at ha
    rw [hagg, ha]
    have hx0 : 0 < x.length := by omega
    have e0 : x.getD 0 .bad = x[0] := by simp [List.getD, List.getElem?_eq_getElem hx0]
    simp only [Bool.false_eq_true, if_false]
    rw [e0]
    refine ⟨fun c hc => hn c (mem_nmsL.2 ⟨0, hx0, hc⟩), As 0, hVs 0 hx0, fun w' hw => ?_⟩
    have := hAs 0 hx0
    simp only [Nat.add_zero] at this
    simp [loadVar, run_isAgg hd, ha, cell_ext hw this]

def loadL (t : TI) (cells : List PV) (off : Nat) : List PV := t.ks.zipIdx.map fun (c, j) => (cells.getD (off + j) .bad).as c

theorem loadL_length (t : TI) (cells : List PV) (off : Nat) : (loadL t cells off).length = t.ks.length := by simp [loadL]

theorem okP_has {t : TI} {cells : List PV} {off : Nat} (h : okP t cells off = true) (j : Nat) (hj : j < t.ks.length) : (cells.getD (off + j) .bad).has (t.ks[j]) = true := by
  simp only [okP, Bool.and_eq_true, List.all_eq_true] at h
  exact h.2 (t.ks[j], j) (by rw [List.mem_zipIdx_iff_getElem?]; simp [hj])

theorem loadP_eq {t : TI} {cells : List PV} {off : Nat} : loadP t cells off = (if t.agg then .agg (loadL t cells off) else if t.ks.length = 1 then (loadL t cells off).getD 0 .bad else .bad) := by
  unfold loadP loadL
  split
  · rfl
  · split
    · rename_i c hks
      simp [hks]
    · rename_i hne
      split
      · rename_i hl
        match hq : t.ks, hl with
        | [c], _ => exact absurd hq (hne c)
      · rfl

theorem okP_lt {t : TI} {cells : List PV} {off : Nat} (h : okP t cells off = true) : ∀ j, j < t.ks.length → off + j < cells.length := by
  intro j hj
  simp only [okP, Bool.and_eq_true, List.all_eq_true] at h
  have := h.2 (t.ks[j], j) (by rw [List.mem_zipIdx_iff_getElem?]; simp [hj])
  apply Decidable.byContradiction
  intro hlt
  rw [List.getD_eq_getElem?_getD, List.getElem?_eq_none (by omega)] at this
  generalize t.ks[j] = c at this
  cases c <;> simp [PV.has] at this

/-- A load of cells that lie in a row. -/
theorem load_row {C : Cfg} {tid g o off : Nat} {cells : List PV} (h : okP (C.ti tid) cells off = true) (hc : CellsAt Γ (shpOf H) w g o cells) (hn : ∀ c ∈ nmsL cells, c < H.length) :
    QV C.P Γ H w (loadVar tid ⟨g, o + off, none⟩) (loadP (C.ti tid) cells off) := by
  have hok : (C.ti tid).ok = true := by simp only [okP, Bool.and_eq_true] at h; exact h.1
  have hlt := okP_lt h
  have hx : ∀ j (hj : j < (loadL (C.ti tid) cells off).length), ∃ (h' : off + j < cells.length) (hk : j < (C.ti tid).ks.length), (loadL (C.ti tid) cells off)[j] = (cells[off + j]).as ((C.ti tid).ks[j]) := by
    intro j hj
    have hj' : j < (C.ti tid).ks.length := by rw [loadL_length] at hj; exact hj
    exact ⟨hlt j hj', hj', by simp [loadL, List.getElem?_eq_getElem (hlt j hj')]⟩
  have key := loadVar_sound (Γ := Γ) (H := H) (w := w) (C := C) (tid := tid) (g := g) (o := o + off) (x := loadL (C.ti tid) cells off) hok (loadL_length _ _ _)
    (fun j hj => by
      obtain ⟨h', hk, e⟩ := hx j hj
      obtain ⟨U, e1, k1⟩ := hc (off + j) h'
      have := okP_has h j hk
      rw [getD_lt' h'] at this
      exact ⟨U, by rw [← e1]; congr 2; omega, by rw [e]; exact k1.as this⟩)
    (fun c hc' => by
      obtain ⟨j, hj, hm⟩ := mem_nmsL.1 hc'
      obtain ⟨h', hk, e⟩ := hx j hj
      rw [e] at hm
      exact hn c (mem_nmsL.2 ⟨off + j, h', PV.as_nms c hm⟩))
  rw [loadP_eq]
  by_cases ha : (C.ti tid).agg = true
  · simpa [ha] using key
  · simp only [ha] at key ⊢
    by_cases h1 : (C.ti tid).ks.length = 1
    · rw [if_pos h1]
      simpa using key
    · rw [if_neg h1]
      refine ⟨by simp [PV.nms], ?_⟩
      obtain ⟨_, V, _, hq⟩ := key
      exact ⟨V, .bad V, hq⟩

theorem HR.box {C : Cfg} (hH : HR Γ H w) {b : Nat} {cells : List PV} (hb : H[b]? = some (.box cells)) : ∃ g, Γ.nm b = some g ∧ CellsAt Γ (shpOf H) w g 0 cells ∧ ∀ c ∈ nmsL cells, c < H.length := by
  obtain ⟨hlt, hbe⟩ := List.getElem?_eq_some_iff.1 hb
  have := hH.blk b hlt
  rw [hbe] at this
  obtain ⟨g, cur, e, h1, h2, h3, h4⟩ := this
  refine ⟨g, h1, fun j hj => ?_, fun c hc => hH.nms b hlt c (by rw [hbe]; exact hc)⟩
  obtain ⟨V, e1, e2⟩ := h4 j hj
  exact ⟨V, by rw [cell_of_row w g _ cur e (0, 0) h2, Nat.zero_add]; exact e1, e2⟩

theorem nmsL_s (l : List SV) : nmsL (l.map PV.s) = [] := by induction l with
  | nil => rfl
  | cons a l ih => simp [nmsL, PV.nms, ih]

theorem HR.arr {C : Cfg} (hH : HR Γ H w) {b : Nat} {v : Bool} {e sz : Nat} {els : List (List SV)} (hb : H[b]? = some (.arr v e sz els)) (hne : ¬ (v = true ∧ els = [])) :
    ∃ g cur, Γ.nm b = some g ∧ w.heap[g]? = some (.cells cur e (0, 0)) ∧ els.length * sz ≤ cur.size ∧ (∀ i (h : i < els.length), (els[i]).length = sz) ∧ ∀ i (h : i < els.length), CellsAt Γ (shpOf H) w g (i * sz) ((els[i]).map .s) := by
  obtain ⟨hlt, hbe⟩ := List.getElem?_eq_some_iff.1 hb
  have := hH.blk b hlt
  rw [hbe] at this
  rcases this with h | ⟨_, g, cur, h1, h2, h3, h4, h5⟩
  · exact absurd h hne
  · refine ⟨g, cur, h1, h2, h3, h4, fun i hi j hj => ?_⟩
    simp at hj
    obtain ⟨V, e1, e2⟩ := h5 i hi j hj
    exact ⟨V, by rw [cell_of_row w g _ cur e (0, 0) h2]; exact e1, by simpa using .s _ _ e2⟩

theorem CellsAt.flatten {sh : Nat → Option Shp} {g sz : Nat} : ∀ (els : List (List SV)) (o : Nat), (∀ i (h : i < els.length), (els[i]).length = sz) → (∀ i (h : i < els.length), CellsAt Γ sh w g (o + i * sz) ((els[i]).map .s)) →
    CellsAt Γ sh w g o (els.flatten.map .s)
  | [], o, _, _ => fun j hj => by simp at hj
  | el :: els, o, hl, hc => by
    have ih := CellsAt.flatten (sh := sh) (g := g) (sz := sz) els (o + sz) (fun i h => hl (i + 1) (by simpa using h)) (fun i h => by
      have := hc (i + 1) (by simpa using h)
      simp only [List.getElem_cons_succ] at this
      rw [show o + (i + 1) * sz = o + sz + i * sz by rw [Nat.add_mul]; omega] at this
      exact this)
    have h0 := hc 0 (by simp)
    simp only [Nat.zero_mul, Nat.add_zero, List.getElem_cons_zero] at h0
    have hsz := hl 0 (by simp)
    simp only [List.getElem_cons_zero] at hsz
    intro j hj
    rw [List.length_map, List.flatten_cons, List.length_append] at hj
    by_cases hlt : j < el.length
    · obtain ⟨U, e, k⟩ := h0 j (by simpa using hlt)
      exact ⟨U, e, by simpa [List.getElem_append_left, hlt] using k⟩
    · obtain ⟨U, e, k⟩ := ih (j - sz) (by rw [List.length_map]; omega)
      refine ⟨U, by rw [← e]; congr 2; omega, ?_⟩
      simp only [List.flatten_cons, List.map_append]
      rw [List.getElem_append_right (by simp; omega)]
      simpa [hsz] using k

theorem VS.sp_cells {sh : Nat → Option Shp} {els : List (List SV)} {i o : Nat} {V : Value} (h : VS Γ.St w (.sp els i o) V) (hi : i < els.length) :
    ∃ g off, V = .pointer (some ⟨g, off + o, none⟩) ∧ CellsAt Γ sh w g off ((els[i]).map .s) := by
  cases h with
  | sp _ _ _ g off sz Vs hg hl hc hv =>
    exact ⟨g, off + i * sz, rfl, fun j hj => by
      simp at hj
      exact ⟨_, hc i hi j hj, by simpa using .s _ _ (hv i hi j hj)⟩⟩

theorem getD_lt {α : Type} {l : List α} {i : Nat} {d : α} (h : i < l.length) : l.getD i d = l[i] := by simp [List.getD, List.getElem?_eq_getElem h]

theorem okS_okP {t : TI} {cells : List SV} {off : Nat} (h : okS t cells off = true) : okP t (cells.map .s) off = true ∧ loadS t cells off = loadP t (cells.map .s) off := by
  simp only [okS, Bool.and_eq_true, decide_eq_true_eq, List.all_eq_true] at h
  obtain ⟨⟨h1, h2⟩, h3⟩ := h
  have hget : ∀ j, j < t.ks.length → (cells.map PV.s).getD (off + j) .bad = .s (cells.getD (off + j) .nilp) := fun j hj => by
    have hl : off + j < cells.length := by omega
    rw [getD_lt (by simpa using hl), List.getElem_map, getD_lt hl]
  have has : ∀ (c : CK) (x : SV), (PV.s x).as c = x.as c := fun c x => by cases c <;> rfl
  refine ⟨?_, ?_⟩
  · simp only [okP, h1, Bool.true_and, List.all_eq_true]
    rintro ⟨c, j⟩ hm
    have hj : j < t.ks.length := by
      rw [List.mem_zipIdx_iff_getElem?] at hm
      exact (List.getElem?_eq_some_iff.1 hm).1
    have := h3 _ hm
    dsimp only at this ⊢
    rw [hget j hj]
    cases c <;> exact this
  · unfold loadS loadP
    have e : (t.ks.zipIdx.map fun (c, j) => (cells.getD (off + j) .nilp).as c) = t.ks.zipIdx.map fun (c, j) => ((cells.map PV.s).getD (off + j) .bad).as c := by
      apply List.map_congr_left
      rintro ⟨c, j⟩ hm
      have hj : j < t.ks.length := by
        rw [List.mem_zipIdx_iff_getElem?] at hm
        exact (List.getElem?_eq_some_iff.1 hm).1
      dsimp only
      rw [hget j hj, has]
    rw [e]
    split
    · rfl
    · split
      · rename_i c hks
        have := hget 0 (by rw [hks]; simp)
        rw [Nat.add_zero] at this
        rw [this, has]
      · rfl

/-- LOADS. -/
theorem loadK_sound {C : Cfg} {tid : Nat} {a : PV} {A : Value} {k : PV → Option R} (hH : HR Γ H w) (h : loadK (C.ti tid) a H k = some r) (ha : VP Γ (shpOf H) w a A) :
    ∃ v, k v = some r ∧ QV C.P Γ H w (Instr.loadAt tid A) v := by
  unfold loadK at h
  split at h
  · rename_i b i off
    split at h
    · rename_i cells hb
      split at h
      · rename_i hi
        subst hi
        obtain ⟨h1, h2⟩ := need_some h
        obtain ⟨g, hg, hc, hn⟩ := hH.box (C := C) hb
        have hA : A = .pointer (some ⟨g, 0 + off, none⟩) := by
          cases ha with
          | ptrA _ _ _ g' v e sz n h' hg' => simp [shpOf, hb, Blk.shp] at h'
          | ptrB _ _ g' h' hg' => rw [hg] at hg'; cases hg'; simp
        subst hA
        refine ⟨_, h2, ?_⟩
        have := load_row (C := C) (tid := tid) h1 hc hn
        exact ⟨this.1, let ⟨V, x, y⟩ := this.2; ⟨V, x, fun w' hw => by simp only [Instr.loadAt, Instr.sureAddr, Sem.run_bind, Sem.run_pure, Result.andThen_ok]; exact y w' hw⟩⟩
      · cases h
    · rename_i v e sz els hb
      split at h
      · obtain ⟨h1, h2⟩ := need_some h
        simp only [Bool.and_eq_true, decide_eq_true_eq] at h1
        obtain ⟨hi, h1⟩ := h1
        obtain ⟨h1, he⟩ := okS_okP h1
        rw [he] at h2
        obtain ⟨g, cur, hg, _, _, _, hc⟩ := hH.arr (C := C) hb (by rintro ⟨_, rfl⟩; simp at hi)
        have hA : A = .pointer (some ⟨g, i * sz + off, none⟩) := by
          cases ha with
          | ptrA _ _ _ g' v' e' sz' n' h' hg' =>
            rw [hg] at hg'; cases hg'
            simp [shpOf, hb, Blk.shp] at h'
            simp [h']
          | ptrB _ _ g' h' hg' => simp [shpOf, hb, Blk.shp] at h'
        subst hA
        rw [getD_lt hi] at h1 h2
        refine ⟨_, h2, ?_⟩
        have := load_row (C := C) (tid := tid) h1 (hc i hi) (by rw [nmsL_s]; simp)
        exact ⟨this.1, let ⟨V, x, y⟩ := this.2; ⟨V, x, fun w' hw => by simp only [Instr.loadAt, Instr.sureAddr, Sem.run_bind, Sem.run_pure, Result.andThen_ok]; exact y w' hw⟩⟩
      · split at h
        · rename_i hio
          obtain ⟨rfl, rfl⟩ := hio
          obtain ⟨h1, h2⟩ := need_some h
          simp only [Bool.and_eq_true, decide_eq_true_eq] at h1
          obtain ⟨hl, h1⟩ := h1
          obtain ⟨h1, he⟩ := okS_okP h1
          rw [he] at h2
          have hne : ¬ (v = true ∧ els = []) := by
            rintro ⟨_, rfl⟩
            have hok : (C.ti tid).ok = true := by simp only [okP, Bool.and_eq_true] at h1; exact h1.1
            obtain ⟨i, d, z, hi, hd, hz, hsz, hby, hpos, hks, hagg, hlen⟩ := ti_spec hok
            rw [hlen, hl] at hpos
            simp at hpos
          obtain ⟨g, cur, hg, _, _, hsz, hc⟩ := hH.arr (C := C) hb hne
          have hA : A = .pointer (some ⟨g, 0 + 0, none⟩) := by
            cases ha with
            | ptrA _ _ _ g' v' e' sz' n' h' hg' =>
              rw [hg] at hg'; cases hg'
              simp
            | ptrB _ _ g' h' hg' => simp [shpOf, hb, Blk.shp] at h'
          subst hA
          refine ⟨_, h2, ?_⟩
          have := load_row (C := C) (tid := tid) h1 (CellsAt.flatten els 0 hsz (fun i h => by simpa using hc i h)) (by rw [nmsL_s]; simp)
          exact ⟨this.1, let ⟨V, x, y⟩ := this.2; ⟨V, x, fun w' hw => by simp only [Instr.loadAt, Instr.sureAddr, Sem.run_bind, Sem.run_pure, Result.andThen_ok]; exact y w' hw⟩⟩
        · cases h
    · cases h
  · rename_i els i off
    obtain ⟨h1, h2⟩ := need_some h
    simp only [Bool.and_eq_true, decide_eq_true_eq] at h1
    obtain ⟨hi, h1⟩ := h1
    obtain ⟨h1, he⟩ := okS_okP h1
    rw [he] at h2
    obtain ⟨g, o, rfl, hc⟩ := VS.sp_cells (sh := shpOf H) ha.inv_s hi
    rw [getD_lt hi] at h1 h2
    refine ⟨_, h2, ?_⟩
    have := load_row (C := C) (tid := tid) h1 hc (by rw [nmsL_s]; simp)
    exact ⟨this.1, let ⟨V, x, y⟩ := this.2; ⟨V, x, fun w' hw => by simp only [Instr.loadAt, Instr.sureAddr, Sem.run_bind, Sem.run_pure, Result.andThen_ok]; exact y w' hw⟩⟩
  · cases h

end
end Go.Proofs.Ytfioahjeanmfpaa.E
