/-
  Operations that make new rows; iterators.
-/
import Derived.Test.YtfioahjeanmfpaaE12
namespace Go.Proofs.Ytfioahjeanmfpaa.E
open Go
set_option linter.unusedVariables false

section
variable {Γ : Ctx} {H : List Blk} {w : World} {R : Type} {r : R} {C : Cfg}

theorem flat_get {α : Type} (l : List α) : ∀ (n j : Nat), j < n * l.length → ((List.replicate n l).flatten)[j]? = l[j % l.length]?
  | 0, j, h => by simp at h
  | n + 1, j, h => by
    rw [List.replicate_succ, List.flatten_cons]
    by_cases hj : j < l.length
    · rw [List.getElem?_append_left hj, Nat.mod_eq_of_lt hj]
    · rw [List.getElem?_append_right (by omega), flat_get l n (j - l.length) (by rw [Nat.add_mul] at h; omega), ← Nat.mod_eq_sub_mod (by omega)]

theorem flat_length {α : Type} (l : List α) (n : Nat) : ((List.replicate n l).flatten).length = n * l.length := by
  simp

theorem made_get {z : Array Value} {n j : Nat} {U : Value} (hj : j < n) (h0 : 0 < z.size) (h : z[j % z.size]? = some U) : (madeCells z n)[j]? = some U := by
  have hlt : j % z.size < z.size := Nat.mod_lt _ h0
  have : z[j % z.size]! = U := by
    rw [getElem!_pos z _ hlt]
    rw [Array.getElem?_eq_getElem hlt] at h
    simpa using h
  simp [madeCells, hj, this]

theorem made_CR {sh : Nat → Option Shp} {zs : List PV} {z : Array Value} (h : CR Γ sh w zs z) (h0 : 0 < zs.length) (n : Nat) : CR Γ sh w ((List.replicate n zs).flatten) (madeCells z (n * zs.length)) := by
  refine ⟨by rw [size_madeCells, flat_length], fun j hj => ?_⟩
  rw [flat_length] at hj
  have hm : j % zs.length < zs.length := Nat.mod_lt _ h0
  obtain ⟨U, e, k⟩ := h.2 _ hm
  refine ⟨U, made_get hj (by rw [h.1]; exact h0) (by rw [h.1]; exact e), ?_⟩
  have := flat_get zs n j hj
  rw [List.getElem?_eq_getElem (by rw [flat_length]; exact hj), List.getElem?_eq_getElem hm] at this
  simp only [Option.some.injEq] at this
  rw [this]
  exact k

theorem run_buildSlice_gen {P : Program} (w : World) {t e : Nat} (len : Nat) (parts : Array (Nat × Value)) (cells : Array Value) {ie : TypeInfo} {z : Value}
    (hu : P.underlying t = some (.slice e)) (hie : P.info? e = some ie) (hz : ie.zero = some z) (hsmall : len * ie.size ≤ 16777216)
    (h : Instr.fill (fun i => some (i * ie.size, ie.size)) (madeCells z.cells (len * ie.size)) parts.toList = some cells) :
    (Instr.buildSlice t len parts).run P w = .ok (.slice (some ⟨w.heap.size, 0, none⟩) len len) (w.alloc (.cells cells e)) := by
  have hs : ¬ len * ie.size > 2 ^ 24 := by omega
  by_cases hpos : len * ie.size = 0
  · rw [hpos] at h
    have h' : Instr.fill (fun i => some (i * ie.size, ie.size)) #[] parts.toList = some cells := by simpa [madeCells, Array.range_zero'] using h
    simp [Instr.buildSlice, run_underlying hu, sizeOf, typeInfo, hie, hpos, h', newRow, Array.range_zero']
  · have h' : Instr.fill (fun i => some (i * ie.size, ie.size)) ((Array.range (len * ie.size)).map (z.cells[· % z.cells.size]!)) parts.toList = some cells := h
    simp [Instr.buildSlice, run_underlying hu, sizeOf, typeInfo, zeroValue, hie, hz, hs, hpos, h', newRow]

/-- SLICE LITERALS. -/
theorem buildSliceK_sound {t len : Nat} {parts : List (Nat × PV)} {ps : Array (Nat × Value)} {k : PV → List Blk → Option R} {sl : List PV} {tmps : Array Value} (hH : HR Γ H w) (h : buildSliceK C t len parts H k = some r) (hp : PR Γ (shpOf H) w parts ps.toList) :
    ∃ v H', k v H' = some r ∧ WV C Γ H w sl tmps (Instr.buildSlice t len ps) v sl H' ∧ ∃ V o, (Instr.buildSlice t len ps).run C.P w = .ok V (w.alloc o) := by
  unfold buildSliceK at h
  split at h
  · rename_i e hsh
    dsimp only at h
    split at h
    · rename_i hok
      simp only [Bool.and_eq_true, decide_eq_true_eq] at hok
      obtain ⟨⟨hok, hsmall⟩, hlen⟩ := hok
      split at h
      · rename_i out hf
        split at h
        · rename_i vs hvs
          refine ⟨_, _, h, ?_⟩
          obtain ⟨i, z, hi, hz, hsz, hCR⟩ := zero_CR (Γ := Γ) (sh := shpOf H) (w := w) hok
          obtain ⟨_, _, _, hpos⟩ := ok_size hok
          have hks : 0 < (C.ti e).ks.length := by rename_i h1 h2; omega
          have hM := made_CR hCR (by simpa using hks) len
          rw [List.length_map] at hM
          obtain ⟨B, e1, e2, e3⟩ := fill_sound (place' := fun j => some (j * i.size, i.size)) (fun j off size hj h0 => by rw [hsz]; exact hj) hf hM hp
          obtain ⟨f1, f2⟩ := svs_sound (As := B.toList) hvs (by simpa using e2.1.symm) (fun j hj => by
            obtain ⟨U, e, k⟩ := e2.2 j hj
            exact ⟨U, by simpa using e, k⟩)
          have hr := run_buildSlice_gen (P := C.P) w len ps B (sh_slice hsh) hi hz (by rw [hsz]; exact hsmall) (by rw [hsz] at e1 ⊢; exact e1)
          refine ⟨?_, _, _, hr⟩
          have hwh : (w.alloc (.cells B e)).heap = w.heap.push (.cells B e) := rfl
          have hBs : B.size = len * (C.ti e).ks.length := by
            have hlenf : ∀ {place : Nat → Option (Nat × Nat)} {ps : List (Nat × PV)} {cells out : List PV}, fillP place cells ps = some out → out.length = cells.length := by
              intro place ps
              induction ps with
              | nil => intro cells out h; simp only [fillP, Option.some.injEq] at h; rw [h]
              | cons p ps ih =>
                intro cells out h
                obtain ⟨i, v⟩ := p
                simp only [fillP] at h
                split at h
                · split at h
                  · rw [ih h, putAt_length]
                  · cases h
                · cases h
            rw [e2.1, hlenf hf, flat_length, List.length_map]
          refine alloc_WV hH hr hwh rfl rfl rfl (BR.row (g := w.heap.size) (A := B) (rest := #[]) (by simp [Ctx.upd]) (by rw [heap_push_eq hwh]; simp) (by simp) ?_ (by simpa using f1) (fun j hj => ?_)) (by simp [Blk.nms]) ?_ (by simp [PV.nms])
          · rw [f1, Array.length_toList, hBs]
          · obtain ⟨U, e, k⟩ := f2 j hj
            exact ⟨U, by simpa using e, k.mono (fun g hg => heap_push_lt hwh (hH.stlt g hg)) (fun _ h => h)⟩
          · refine .fl H.length w.heap.size false e (C.ti e).ks.length len len ?_ (by simp) (by simp [Ctx.upd]) (Nat.le_refl _) (by simp only [maxLen]; omega) ?_
            · rw [shpOf_append_eq]; simp [Blk.shp, chunk_length]
            · simp only [World.shape?, heap_push_eq hwh, hBs]
        · cases h
      · cases h
    · cases h
  · cases h

/-- MAKE. -/
theorem makeSliceK_sound {t : Nat} {l c : PV} {L N : Value} {k : PV → List Blk → Option R} {sl : List PV} {tmps : Array Value} (hH : HR Γ H w) (h : makeSliceK C t l c H k = some r) (hl : VP Γ (shpOf H) w l L) (hc : VP Γ (shpOf H) w c N) :
    ∃ v H', k v H' = some r ∧ WV C Γ H w sl tmps (Instr.makeSlice t L N) v sl H' := by
  unfold makeSliceK at h
  split at h
  · rename_i e k1 n k2 m hsh
    obtain rfl := hl.inv_int
    obtain rfl := hc.inv_int
    split at h
    · rename_i hok
      split at h
      · rename_i z' hz'
        obtain ⟨h1, h2⟩ := need_some h
        simp only [Bool.and_eq_true, decide_eq_true_eq, roomy] at h1
        obtain ⟨⟨h3, h4⟩, h5⟩ := h1
        refine ⟨_, _, h2, ?_⟩
        obtain ⟨i, d, z, hi, hd, hz, hsz1, hby, hpos, hks, hagg, hlen⟩ := ti_spec hok
        obtain ⟨i', z2, hi', hz2, hsz, hCR⟩ := zero_CR (Γ := Γ) (sh := shpOf H) (w := w) hok
        rw [hi] at hi'
        simp only [Option.some.injEq] at hi'
        subst hi'
        rw [hz] at hz2
        simp only [Option.some.injEq] at hz2
        subst hz2
        have hb : (i.bytes : Int) * m ≤ 281474976710656 := by
          have h6 : m ≤ 68719476736 := by omega
          have h7 : (i.bytes : Int) ≤ 512 := by omega
          have h8 : (i.bytes : Int) * m ≤ 512 * 68719476736 := Int.mul_le_mul h7 h6 (by omega) (by omega)
          omega
        have hr := run_make (P := C.P) w t e i z (sh_slice hsh) hi hz k1 k2 n m h3 h4 hb (by omega)
        obtain ⟨f1, f2⟩ := svs_sound (As := z.cells.toList) hz' (by simpa using hCR.1.symm) (fun j hj => by
          obtain ⟨U, e, k⟩ := hCR.2 j hj
          exact ⟨U, by simpa using e, k⟩)
        have hzl : z'.length = i.size := by rw [f1, Array.length_toList, hsz1]
        have hwh : (w.alloc (.cells (madeCells z.cells (m.toNat * i.size)) e)).heap = w.heap.push (.cells (madeCells z.cells (m.toNat * i.size)) e) := rfl
        refine alloc_WV hH hr hwh rfl rfl rfl (.inr ⟨by simp, w.heap.size, _, by simp [Ctx.upd], heap_push_eq hwh, ?_, fun a ha => ?_, fun a ha b hb => ?_⟩) (by simp [Blk.nms]) ?_ (by simp [PV.nms])
        · rw [List.length_replicate, size_madeCells, ← hlen]
          exact Nat.mul_le_mul_right _ (by omega)
        · rw [List.getElem_replicate, hzl, hlen]
        · rw [List.length_replicate] at ha
          simp only [List.getElem_replicate] at hb ⊢
          obtain ⟨U, e, k⟩ := f2 b hb
          refine ⟨U, made_get ?_ (by omega) ?_, k.mono (fun g hg => heap_push_lt hwh (hH.stlt g hg)) (fun _ h => h)⟩
          · have : (a + 1) * i.size ≤ m.toNat * i.size := Nat.mul_le_mul_right _ (by omega)
            rw [Nat.add_mul] at this
            rw [← hlen]
            omega
          · rw [← hlen, ← hsz1, Nat.add_comm, Nat.add_mul_mod_self_right, Nat.mod_eq_of_lt (by omega)]
            simpa using e
        · refine .fl H.length w.heap.size false e (C.ti e).ks.length n.toNat m.toNat ?_ (by simp) (by simp [Ctx.upd]) (by omega) (by simp only [maxLen]; omega) ?_
          · rw [shpOf_append_eq]; simp [Blk.shp]
          · simp only [World.shape?, heap_push_eq hwh, size_madeCells]; rw [hlen]
      · cases h
    · cases h
  · cases h

/-- An iterator over a string. -/
theorem range_WV {t : Nat} {s : ByteArray} {sl : List PV} {tmps : Array Value} (hH : HR Γ H w) (hu : C.P.underlying t = some .string) :
    WV C Γ H w sl tmps (Instr.range t (.string s)) (.it H.length) sl (H ++ [.iter s.data.toList 0]) := by
  have hwh : (w.iter s 0).heap = w.heap.push (.stringIter s 0) := rfl
  refine alloc_WV hH (run_range_string w t s hu) hwh rfl rfl rfl ⟨w.heap.size, s, by simp [Ctx.upd], heap_push_eq hwh, rfl⟩ (by simp [Blk.nms]) ?_ (by simp [PV.nms])
  exact .it _ _ (by rw [shpOf_append_eq]; rfl) (by simp [Ctx.upd])

theorem run_next_at {P : Program} {g pos ty : Nat} {s : ByteArray} (hg : w.heap[g]? = some (.stringIter s pos)) :
    (Instr.next (.pointer (some ⟨g, 0, none⟩)) true ty).run P w = if pos < s.size then .ok (.tuple #[.bool true, .int .i64 pos, .int .i32 (Utf8.decode s pos).1]) { w with heap := w.heap.setIfInBounds g (.stringIter s (pos + (Utf8.decode s pos).2)) }
      else .ok (.tuple #[.bool false]) w := by
  by_cases h : pos < s.size
  · simp [Instr.next, getObj, setObj, Sem.run, hg, h, goInt, Result.andThen]
  · simp [Instr.next, getObj, Sem.run, hg, h, Result.andThen]

/-- A block of the call's own is written: the same shape, the same names. -/
theorem write_mono {b g : Nat} {x y : Blk} {w' : World} (hH : HR Γ H w) (hb : H[b]? = some x) (hg : Γ.nm b = some g) (hsh : y.shp = x.shp) (hoth : ∀ k, k ≠ g → w'.heap[k]? = w.heap[k]?) (hs : w'.shape? g = w.shape? g) :
    Mono Γ (shpOf H) w Γ (shpOf (H.set b y)) w' (fun _ => True) := by
  have hlt := (List.getElem?_eq_some_iff.1 hb).1
  refine ⟨fun k hk => hoth k (fun e => (hH.lt b g hg).2.2 (e ▸ hk)), fun _ h => h, fun _ _ => rfl, fun c _ => ?_, fun c k _ hk => ?_, rfl⟩
  · rw [shpOf_set hlt]
    split
    · rename_i e; subst e; simp [shpOf, hb, hsh]
    · rfl
  · by_cases e : k = g
    · subst e; exact hs
    · exact shape_of_heap (hoth k e)

theorem write_HR {b g : Nat} {x y : Blk} {w' : World} (hH : HR Γ H w) (hb : H[b]? = some x) (hg : Γ.nm b = some g) (hsh : y.shp = x.shp) (hoth : ∀ k, k ≠ g → w'.heap[k]? = w.heap[k]?) (hs : w'.shape? g = w.shape? g) (hsz : w.heap.size ≤ w'.heap.size)
    (hy : BR Γ (shpOf (H.set b y)) w' b y) (hn : ∀ c ∈ y.nms, c < H.length) : HR Γ (H.set b y) w' := by
  have M := write_mono hH hb hg hsh hoth hs
  have hlt := (List.getElem?_eq_some_iff.1 hb).1
  refine ⟨hH.inj, fun c k hk => ?_, fun k hk => Nat.lt_of_lt_of_le (hH.stlt k hk) hsz, fun c hc d hd => ?_, fun c hc => ?_⟩
  · have := hH.lt c k hk
    exact ⟨by simpa using this.1, by omega, this.2.2⟩
  · rw [List.length_set] at hc ⊢
    rw [List.getElem_set] at hd
    split at hd
    · exact hn d hd
    · exact hH.nms c hc d hd
  · rw [List.length_set] at hc
    rw [List.getElem_set]
    split
    · rename_i e; subst e; exact hy
    · rename_i e
      exact (hH.blk c hc).mono M rfl (fun k hk => hoth k (fun ek => e (hH.inj b c g hg (ek ▸ hk)))) (fun _ _ => trivial)

theorem write_Stp {b g : Nat} {x y : Blk} {w' : World} (hH : HR Γ H w) (hb : H[b]? = some x) (hg : Γ.nm b = some g) (hsh : y.shp = x.shp) (hoth : ∀ k, k ≠ g → w'.heap[k]? = w.heap[k]?) (hs : w'.shape? g = w.shape? g) (hsz : w.heap.size ≤ w'.heap.size)
    (h1 : w'.os = w.os) (h2 : w'.tape = w.tape) (h3 : w'.output = w.output) : Stp C Γ H w noΦ Γ (H.set b y) w' noΦ where
  os := h1
  tape := h2
  output := h3
  size := hsz
  sub := fun _ h => h
  stnew := fun _ h => .inl h
  own := fun c k hk => .inl ⟨(hH.lt c k hk).1, hk⟩
  foot := fun _ h => .inl h
  frame := fun k _ hk _ => hoth k (fun e => hk b (e ▸ hg))
  yv := rfl
  len := by simp
  keep := fun c hc _ => by
    have M := write_mono hH hb hg hsh hoth hs
    exact ⟨rfl, M.shp c trivial, fun k hk => M.hs c k trivial hk⟩

/-- A write to a block of the call's own. -/
theorem write_WV {m : Sem Value} {b g : Nat} {x y : Blk} {w' : World} {V : Value} {v : PV} {sl : List PV} {tmps : Array Value} (hH : HR Γ H w) (hm : m.run C.P w = .ok V w') (hb : H[b]? = some x) (hg : Γ.nm b = some g) (hsh : y.shp = x.shp)
    (hoth : ∀ k, k ≠ g → w'.heap[k]? = w.heap[k]?) (hs : w'.shape? g = w.shape? g) (hsz : w.heap.size ≤ w'.heap.size) (h1 : w'.os = w.os) (h2 : w'.tape = w.tape) (h3 : w'.output = w.output)
    (hy : BR Γ (shpOf (H.set b y)) w' b y) (hn : ∀ c ∈ y.nms, c < H.length) (hv : VP Γ (shpOf (H.set b y)) w' v V) (hvn : ∀ c ∈ v.nms, c < H.length) : WV C Γ H w sl tmps m v sl (H.set b y) :=
  ⟨V, w', Γ, hm, write_Stp hH hb hg hsh hoth hs hsz h1 h2 h3, write_HR hH hb hg hsh hoth hs hsz hy hn, fun hS => hS.mono (write_mono hH hb hg hsh hoth hs) (fun c hc => ⟨trivial, by simpa using hS.nms c hc⟩), hv, by simpa using hvn⟩

theorem it_inv {b : Nat} {X : Value} (hx : VP Γ (shpOf H) w (.it b) X) : ∃ g, Γ.nm b = some g ∧ X = .pointer (some ⟨g, 0, none⟩) := by
  cases hx with
  | it _ g h hg => exact ⟨g, hg, rfl⟩

theorem iter_run {b ty : Nat} {l : List UInt8} {pos : Nat} {X : Value} (hH : HR Γ H w) (hx : VP Γ (shpOf H) w (.it b) X) (hb : H[b]? = some (.iter l pos)) :
    ∃ g s, Γ.nm b = some g ∧ X = .pointer (some ⟨g, 0, none⟩) ∧ w.heap[g]? = some (.stringIter s pos) ∧ s.data.toList = l := by
  obtain ⟨g, hg, rfl⟩ := it_inv hx
  obtain ⟨hlt, hbe⟩ := List.getElem?_eq_some_iff.1 hb
  have := hH.blk b hlt
  rw [hbe] at this
  obtain ⟨g', s, h1, h2, h3⟩ := this
  rw [hg] at h1; cases h1
  exact ⟨g, s, hg, rfl, h2, h3⟩

theorem next_end_QV {b ty : Nat} {l : List UInt8} {pos : Nat} {X : Value} (hH : HR Γ H w) (hx : VP Γ (shpOf H) w (.it b) X) (hb : H[b]? = some (.iter l pos)) (hp : ¬ pos < l.length) : QV C.P Γ H w (Instr.next X true ty) (.tup [.s (.bool false)]) := by
  obtain ⟨g, s, hg, rfl, hh, rfl⟩ := iter_run (ty := ty) hH hx hb
  rw [str_len] at hp
  refine .mk1 (by simp [PV.nms, nmsL]) (V := .tuple #[.bool false]) (VP.mk_tup rfl fun j hj => ?_) fun w' hw => ?_
  · have : j = 0 := by simpa using hj
    subst this
    exact ⟨_, rfl, .bool _⟩
  · rw [run_next_at ((hw g (Array.getElem?_eq_some_iff.1 hh).1).trans hh), if_neg hp]

theorem next_WV {b ty : Nat} {l : List UInt8} {pos : Nat} {X : Value} {sl : List PV} {tmps : Array Value} (hH : HR Γ H w) (hx : VP Γ (shpOf H) w (.it b) X) (hb : H[b]? = some (.iter l pos)) (hp : pos < l.length) :
    WV C Γ H w sl tmps (Instr.next X true ty) (.tup [.s (.bool true), .s (.int .i64 pos), .s (.int .i32 (Utf8.decode ⟨l.toArray⟩ pos).1)]) sl (H.set b (.iter l (pos + (Utf8.decode ⟨l.toArray⟩ pos).2))) := by
  obtain ⟨g, s, hg, rfl, hh, rfl⟩ := iter_run (ty := ty) hH hx hb
  rw [str_len] at hp
  have hlt : g < w.heap.size := (hH.lt b g hg).2.1
  have hs : (⟨s.data.toList.toArray⟩ : ByteArray) = s := by cases s; simp
  rw [hs]
  have hr := run_next_at (P := C.P) (ty := ty) hh
  rw [if_pos hp] at hr
  refine write_WV hH hr hb hg rfl (fun k hk => ?_) ?_ (by simp) rfl rfl rfl ⟨g, s, hg, ?_, rfl⟩ (by simp [Blk.nms]) (VP.mk_tup rfl fun j hj => ?_) (by simp [PV.nms, nmsL])
  · simp only [Array.getElem?_setIfInBounds]; rw [if_neg (by omega)]
  · simp only [World.shape?, hh, Array.getElem?_setIfInBounds, if_true, hlt]
  · simp [hlt]
  · match j, hj with
    | 0, _ => exact ⟨_, rfl, .bool _⟩
    | 1, _ => exact ⟨_, rfl, .int _ _⟩
    | 2, _ => exact ⟨_, rfl, .int _ _⟩

/-- BYTES OF A STRING, in a stable block. -/
theorem bytesK_sound {src dst : Nat} {x : PV} {X : Value} {k : PV → Option R} {sl : List PV} {tmps : Array Value} (hH : HR Γ H w) (h : bytesK C src dst x k = some r) (hx : VP Γ (shpOf H) w x X) :
    ∃ v, k v = some r ∧ WV C Γ H w sl tmps (convert src dst X) v sl H := by
  unfold bytesK at h
  split at h
  · rename_i e l h1 h2
    split at h
    · rename_i h3
      obtain ⟨h4, h5⟩ := need_some h
      simp only [roomy, decide_eq_true_eq] at h4
      obtain ⟨s, rfl, rfl⟩ := hx.inv_str
      rw [str_len] at h4
      refine ⟨_, h5, ?_⟩
      have hr := run_bytes_of_string (P := C.P) w src dst e s (sh_str h1) (sh_slice h2) (sh_int h3)
      generalize hcap : grownCap w s.size 0 e = cap at hr
      have hge : s.size ≤ cap := by rw [← hcap]; exact grownCap_ge _ _ _ _
      have hle : cap ≤ maxLen := by rw [← hcap]; exact grownCap_le_maxLen _ _ _ _ (by simp only [maxLen]; omega)
      generalize hw' : w.drew.alloc (.cells (bytesRow s cap) e ((bytesRow s cap).size, (bytesRow s cap).size + 1)) = w' at hr
      have hwh : w'.heap = w.heap.push (.cells (bytesRow s cap) e ((bytesRow s cap).size, (bytesRow s cap).size + 1)) := by rw [← hw']; rfl
      have e1 : w'.os = w.os := by rw [← hw']; rfl
      have e2 : w'.tape = w.tape := by rw [← hw']; rfl
      have e3 : w'.output = w.output := by rw [← hw']; rfl
      let Γ' : Ctx := { Γ with St := fun g => Γ.St g ∨ g = w.heap.size }
      have hold : ∀ g, g < w.heap.size → w'.heap[g]? = w.heap[g]? := fun g hg => heap_push_lt hwh hg
      have M : Mono Γ (shpOf H) w Γ' (shpOf H) w' (fun _ => True) := ⟨fun g hg => hold g (hH.stlt g hg), fun _ h => .inl h, fun _ _ => rfl, fun _ _ => rfl, fun b g _ hg => shape_of_heap (hold g (hH.lt b g hg).2.1), rfl⟩
      have hsz : w'.heap.size = w.heap.size + 1 := by rw [hwh]; simp
      have hH' : HR Γ' H w' := by
        refine ⟨hH.inj, fun b g hg => ?_, fun g hg => ?_, hH.nms, fun b hb => (hH.blk b hb).mono M rfl (fun g hg => hold g (hH.lt b g hg).2.1) (fun _ _ => trivial)⟩
        · have := hH.lt b g hg
          refine ⟨this.1, by omega, ?_⟩
          rintro (h | rfl)
          · exact this.2.2 h
          · omega
        · rcases hg with h | rfl
          · have := hH.stlt g h; omega
          · omega
      refine ⟨_, w', Γ', hr, ⟨e1, e2, e3, by omega, fun _ h => .inl h, fun g hg => by rcases hg with h | rfl; exact .inl h; exact .inr (Nat.le_refl _), fun b g hg => .inl ⟨(hH.lt b g hg).1, hg⟩, fun _ h => .inl h, fun g hg _ _ => hold g hg, rfl, Nat.le_refl _,
        fun b hb hf => ⟨rfl, rfl, fun g hg => shape_of_heap (hold g (hH.lt b g hg).2.1)⟩⟩, hH', fun hS => hS.mono M (fun c hc => ⟨trivial, hS.nms c hc⟩), .s _ _ ?_, by simp [PV.nms]⟩
      have hlen : s.data.toList.length = s.size := str_len s
      have hu8 : ∀ (a : List UInt8) i (hi : i < (a.map u8el).length), ((a.map u8el)[i]).length = 1 := fun a i hi => by simp [u8el]
      refine .sl false (s.data.toList.map u8el) w.heap.size 0 s.size cap 1 (fun i _ => .int .u8 ((s.data.toList.getD i 0).toNat)) (by rw [List.length_map, hlen]) hge hle (by simp) (.inr rfl) (hu8 _) (fun i hi j hj => ?_) (fun i hi j hj => ?_)
      · have hj0 : j = 0 := by rw [hu8 _ i hi] at hj; omega
        subst hj0
        have hi' : i < s.data.size := by simpa using hi
        rw [cell_of_row w' w.heap.size _ _ _ _ (heap_push_eq hwh)]
        have hlt : i < s.data.toList.length := by simpa using hi'
        rw [getD_lt' hlt]
        simp only [bytesRow]
        rw [Array.getElem?_append_left (by simpa using hi')]
        rw [Array.getElem?_map, show 0 + i * 1 + 0 = i by omega, Array.getElem?_eq_getElem hi']
        rfl
      · have hj0 : j = 0 := by rw [hu8 _ i hi] at hj; omega
        subst hj0
        have hi' : i < s.data.toList.length := by simpa using hi
        rw [getD_lt' hi']
        simp only [List.getElem_map, u8el, List.getElem_cons_zero]
        exact .int _ _
    · cases h
  · cases h

end
end Go.Proofs.Ytfioahjeanmfpaa.E
