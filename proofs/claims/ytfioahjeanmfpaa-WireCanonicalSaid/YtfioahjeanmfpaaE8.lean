/-
  Indices, slices, fields, conversions, composite values: what the evaluator says of them is what the model does.
-/
import Derived.Test.YtfioahjeanmfpaaE7
namespace Go.Proofs.Ytfioahjeanmfpaa.E
open Go
set_option linter.unusedVariables false

section
variable {Γ : Ctx} {H : List Blk} {w : World} {R : Type} {r : R}

theorem ok_size {C : Cfg} {t : Nat} (h : (C.ti t).ok = true) : ∃ i, C.P.info? t = some i ∧ i.size = (C.ti t).ks.length ∧ 0 < i.size := by
  obtain ⟨i, d, z, hi, hd, hz, hsz, hby, hpos, hks, hagg, hlen⟩ := ti_spec h
  exact ⟨i, hi, hlen, hpos⟩

theorem run_indexAt_slice {P : Program} {t e : Nat} {i : TypeInfo} {kd : IntKind} {a : Addr} {len cap : Nat} {n : Int} (hu : P.underlying t = some (.slice e)) (hi : P.info? e = some i) (h0 : 0 ≤ n) (h1 : n < len) (w' : World) :
    (Instr.indexAt t (.slice (some a) len cap) (.int kd n)).run P w' = .ok (.pointer (some (a.add (n.toNat * i.size)))) w' := by
  simp [Instr.indexAt, asIntOf, run_underlying hu, h0, h1, sizeOf, typeInfo, hi]

theorem run_indexAt_array {P : Program} {t e m : Nat} {i : TypeInfo} {kd : IntKind} {a : Addr} {n : Int} (hu : P.underlying t = some (.array m e)) (hi : P.info? e = some i) (h0 : 0 ≤ n) (h1 : n < m) (w' : World) :
    (Instr.indexAt t (.pointer (some a)) (.int kd n)).run P w' = .ok (.pointer (some (a.add (n.toNat * i.size)))) w' := by
  simp [Instr.indexAt, asIntOf, run_underlying hu, h0, h1, sizeOf, typeInfo, hi, Instr.sureAddr]

theorem ptr_shape {b i off : Nat} {A : Value} (hx : VP Γ (shpOf H) w (.ptr b i off) A) :
    (∃ g v e sz els, H[b]? = some (.arr v e sz els) ∧ Γ.nm b = some g ∧ A = .pointer (some ⟨g, i * sz + off, none⟩)) ∨ (∃ g cells, i = 0 ∧ H[b]? = some (.box cells) ∧ Γ.nm b = some g ∧ A = .pointer (some ⟨g, off, none⟩)) := by
  have key : ∀ {s : Shp}, shpOf H b = some s → ∃ x, H[b]? = some x ∧ x.shp = s := fun h => by simpa [shpOf] using h
  cases hx with
  | ptrA _ _ _ g v e sz n h hg =>
    obtain ⟨x, hx, hs⟩ := key h
    cases x <;> simp [Blk.shp] at hs
    obtain ⟨rfl, rfl, rfl, rfl⟩ := hs
    exact .inl ⟨g, _, _, _, _, hx, hg, rfl⟩
  | ptrB _ _ g h hg =>
    obtain ⟨x, hx, hs⟩ := key h
    cases x <;> simp [Blk.shp] at hs
    exact .inr ⟨g, _, rfl, hx, hg, rfl⟩

theorem QV.mk1 {P : Program} {m : Sem Value} {v : PV} {V : Value} (hn : ∀ c ∈ v.nms, c < H.length) (h : VP Γ (shpOf H) w v V) (hm : ∀ w' : World, Ext w w' → m.run P w' = .ok V w') : QV P Γ H w m v := ⟨hn, V, h, hm⟩

theorem indexAddrK_sound {C : Cfg} {t : Nat} {x i : PV} {X I : Value} {k : PV → Option R} (hH : HR Γ H w) (h : indexAddrK C t x i H k = some r) (hx : VP Γ (shpOf H) w x X) (hi : VP Γ (shpOf H) w i I)
    (hxn : ∀ c ∈ x.nms, c < H.length) : ∃ v, k v = some r ∧ QV C.P Γ H w (Instr.indexAt t X I) v := by
  unfold indexAddrK at h
  split at h
  · rename_i kd n
    obtain rfl := hi.inv_int
    split at h
    · rename_i b
      split at h
      · rename_i v e' sz els e hb hsh
        split at h
        · rename_i hc
          obtain ⟨h1, h2⟩ := need_some h
          simp only [Bool.and_eq_true, decide_eq_true_eq] at h1
          obtain ⟨i, hi, hsz, hpos⟩ := ok_size hc.1
          refine ⟨_, h2, ?_⟩
          cases hx with
          | flv _ e2 sz2 h' => obtain ⟨_, _, _, h4⟩ := shp_arr hb h'; omega
          | fl _ g v' e2 sz2 n' cap h' hv hg hcap hm hs =>
            obtain ⟨rfl, rfl, rfl, rfl⟩ := shp_arr hb h'
            refine .mk1 hxn (V := .pointer (some ⟨g, n.toNat * sz + 0, none⟩)) (.ptrA b _ 0 g _ _ sz _ h' hg) fun w' hw => ?_
            rw [run_indexAt_slice (sh_slice hsh) hi h1.1 h1.2, addr_add, hsz, hc.2]
            simp
        · cases h
      · cases h
    · rename_i b o m
      split at h
      · rename_i v e' sz els e hb hsh
        split at h
        · rename_i hc
          obtain ⟨h1, h2⟩ := need_some h
          simp only [Bool.and_eq_true, decide_eq_true_eq] at h1
          obtain ⟨i, hi, hsz, hpos⟩ := ok_size hc.1
          refine ⟨_, h2, ?_⟩
          cases hx with
          | vwv _ e2 sz2 _ h' => omega
          | vw _ _ _ g a cap v' e2 sz2 m' h' hv hg ha hi' hcap hm =>
            obtain ⟨rfl, rfl, rfl, rfl⟩ := shp_arr hb h'
            refine .mk1 hxn (V := .pointer (some ⟨g, (o + n.toNat) * sz + 0, none⟩)) (.ptrA b _ 0 g _ _ sz _ h' hg) fun w' hw => ?_
            rw [run_indexAt_slice (sh_slice hsh) hi h1.1 h1.2, ha (by omega), addr_add, hsz, hc.2, Nat.add_mul]
            rfl
        · cases h
      · cases h
    · rename_i z tt kk els
      split at h
      · rename_i e hsh
        split at h
        · rename_i hc
          obtain ⟨h1, h2⟩ := need_some h
          simp only [Bool.and_eq_true, decide_eq_true_eq] at h1
          obtain ⟨i, hi, hsz, hpos⟩ := ok_size hc.1
          refine ⟨_, h2, ?_⟩
          have hs := hx.inv_s
          cases hs with
          | nil => simp at h1; omega
          | emp => simp at h1; omega
          | sl t' els g off n' cap sz Vs hn hcap hm ht hg hl hcc hv =>
            refine .mk1 (by simp [PV.nms]) (V := .pointer (some ⟨g, off + n.toNat * kk + 0, none⟩)) (.s _ _ (.sp els n.toNat 0 g off kk Vs hg hl hcc hv)) fun w' hw => ?_
            rw [run_indexAt_slice (sh_slice hsh) hi h1.1 (by omega), addr_add, hsz, hc.2]
            rfl
        · cases h
      · cases h
    · rename_i b j off
      split at h
      · rename_i m e hsh
        rcases ptr_shape hx with ⟨g, v, e', sz, els, hb, hg, rfl⟩ | ⟨g, cells, rfl, hb, hg, rfl⟩
        · rw [hb] at h
          dsimp only at h
          split at h
          · rename_i hc
            obtain ⟨rfl, rfl, hok, rfl⟩ := hc
            obtain ⟨h1, h2⟩ := need_some h
            simp only [Bool.and_eq_true, decide_eq_true_eq] at h1
            obtain ⟨i, hi, hsz, hpos⟩ := ok_size hok
            refine ⟨_, h2, .mk1 hxn (V := .pointer (some ⟨g, n.toNat * (C.ti e).ks.length + 0, none⟩)) (.ptrA b _ 0 g v e' _ els.length (by simp [shpOf, hb, Blk.shp]) hg) fun w' hw => ?_⟩
            rw [run_indexAt_array (sh_array hsh) hi h1.1 h1.2, addr_add, hsz]
            simp
          · cases h
        · rw [hb] at h
          dsimp only at h
          split at h
          · rename_i hok
            obtain ⟨h1, h2⟩ := need_some h
            simp only [Bool.and_eq_true, decide_eq_true_eq] at h1
            obtain ⟨i, hi, hsz, hpos⟩ := ok_size hok
            refine ⟨_, h2, .mk1 hxn (V := .pointer (some ⟨g, off + n.toNat * (C.ti e).ks.length, none⟩)) (.ptrB b _ g (by simp [shpOf, hb, Blk.shp]) hg) fun w' hw => ?_⟩
            rw [run_indexAt_array (sh_array hsh) hi h1.1 h1.2, addr_add, hsz]
          · cases h
      · cases h
    · rename_i els j off
      split at h
      · rename_i m e hsh
        split at h
        · rename_i hok
          obtain ⟨h1, h2⟩ := need_some h
          simp only [Bool.and_eq_true, decide_eq_true_eq] at h1
          obtain ⟨i, hi, hsz, hpos⟩ := ok_size hok
          refine ⟨_, h2, ?_⟩
          have hs := hx.inv_s
          cases hs with
          | sp _ _ _ g o sz Vs hg hl hcc hv =>
            refine .mk1 (by simp [PV.nms]) (V := .pointer (some ⟨g, o + j * sz + (off + n.toNat * (C.ti e).ks.length), none⟩)) (.s _ _ (.sp els j _ g o sz Vs hg hl hcc hv)) fun w' hw => ?_
            rw [run_indexAt_array (sh_array hsh) hi h1.1 h1.2, addr_add, hsz]
            simp [Nat.add_assoc]
        · cases h
      · cases h
    · cases h
  · cases h

theorem QV.part {C : Cfg} {u o : Nat} {cells : List PV} {A : Array Value} (h : okP (C.ti u) cells o = true) (hA : A.size = cells.length) (hc : ∀ j (h : j < cells.length), ∃ U, A[j]? = some U ∧ VP Γ (shpOf H) w (cells[j]) U)
    (hn : ∀ c ∈ nmsL cells, c < H.length) : QV C.P Γ H w (part u A o) (loadP (C.ti u) cells o) := by
  have hok : (C.ti u).ok = true := by simp only [okP, Bool.and_eq_true] at h; exact h.1
  obtain ⟨i, d, z, hi, hd, hz, hsz, hby, hpos, hks, hagg, hlen⟩ := ti_spec hok
  have hlt := okP_lt h
  have hx : ∀ j (hj : j < (loadL (C.ti u) cells o).length), ∃ (h' : o + j < cells.length) (hk : j < (C.ti u).ks.length), (loadL (C.ti u) cells o)[j] = (cells[o + j]).as ((C.ti u).ks[j]) := by
    intro j hj
    have hj' : j < (C.ti u).ks.length := by rw [loadL_length] at hj; exact hj
    exact ⟨hlt j hj', hj', by simp [loadL, List.getElem?_eq_getElem (hlt j hj')]⟩
  have hvp : ∀ j (hj : j < (loadL (C.ti u) cells o).length), ∃ U, A[o + j]? = some U ∧ VP Γ (shpOf H) w ((loadL (C.ti u) cells o)[j]) U := fun j hj => by
    obtain ⟨h', hk, e⟩ := hx j hj
    obtain ⟨U, e1, k1⟩ := hc (o + j) h'
    have := okP_has h j hk
    rw [getD_lt' h'] at this
    exact ⟨U, e1, by rw [e]; exact k1.as this⟩
  have hnm : ∀ c ∈ nmsL (loadL (C.ti u) cells o), c < H.length := fun c hc' => by
    obtain ⟨j, hj, hm⟩ := mem_nmsL.1 hc'
    obtain ⟨h', hk, e⟩ := hx j hj
    rw [e] at hm
    exact hn c (mem_nmsL.2 ⟨o + j, h', PV.as_nms c hm⟩)
  rw [loadP_eq]
  have hpos' : 0 < (loadL (C.ti u) cells o).length := by rw [loadL_length, ← hlen]; exact hpos
  by_cases ha : isAggD d = true
  · rw [hagg, if_pos ha]
    refine .mk1 (by simpa [PV.nms] using hnm) (VP.mk_agg (A := A.extract o (o + i.size)) ?_ fun j hj => ?_) fun w' hw => run_part_agg hd ha hi A o w'
    · have := hlt ((C.ti u).ks.length - 1) (by omega)
      rw [Array.size_extract, loadL_length, hlen]; omega
    · obtain ⟨U, e, k⟩ := hvp j hj
      refine ⟨U, ?_, k⟩
      rw [Array.getElem?_extract, if_pos]
      · exact e
      · have := (Array.getElem?_eq_some_iff.1 e).1
        rw [loadL_length, ← hlen] at hj
        omega
  · simp only [Bool.not_eq_true] at ha
    rw [hagg, ha]
    simp only [Bool.false_eq_true, if_false]
    obtain ⟨U, e, k⟩ := hvp 0 hpos'
    simp only [Nat.add_zero] at e
    split
    · rw [getD_lt' hpos']
      exact .mk1 (fun c hc' => hnm c (mem_nmsL.2 ⟨0, hpos', hc'⟩)) k fun w' hw => run_part_one hd ha e w'
    · exact .mk1 (by simp [PV.nms]) (.bad U) fun w' hw => run_part_one hd ha e w'

theorem fieldK_sound {C : Cfg} {t f : Nat} {x : PV} {X : Value} {k : PV → Option R} (h : fieldK C t x f k = some r) (hx : VP Γ (shpOf H) w x X) (hxn : ∀ c ∈ x.nms, c < H.length) :
    ∃ v, k v = some r ∧ QV C.P Γ H w (Instr.field t X f) v := by
  unfold fieldK at h
  split at h
  · rename_i fs cells hsh
    split at h
    · rename_i o u hf
      obtain ⟨h1, h2⟩ := need_some h
      obtain ⟨A, rfl, hA1, hA2⟩ := hx.inv_agg
      obtain ⟨F, hu, rfl⟩ := sh_struct hsh
      simp only [List.getElem?_map, Option.map_eq_some_iff] at hf
      obtain ⟨fl, hf, he⟩ := hf
      cases he
      have := QV.part (C := C) h1 hA1 hA2 (by simpa [PV.nms] using hxn)
      refine ⟨_, h2, this.1, let ⟨V, a, b⟩ := this.2; ⟨V, a, fun w' hw => ?_⟩⟩
      have hf' : F[f]? = some fl := by simpa using hf
      simp only [Instr.field, Sem.run_bind, run_underlying hu, Result.andThen_ok, hf', asAgg, Sem.run_pure]
      exact b w' hw
    · cases h
  · cases h

theorem run_fieldAt {P : Program} {t f : Nat} {F : Array Field} {fl : Field} {i : TypeInfo} {a : Addr} (hu : P.underlying t = some (.struct F)) (hf : F[f]? = some fl) (hi : P.info? fl.type = some i) (hpos : 0 < i.size) (w' : World) :
    (Instr.fieldAt t (.pointer (some a)) f).run P w' = .ok (.pointer (some (a.add fl.offset))) w' := by
  have : ¬ i.size = 0 := by omega
  simp [Instr.fieldAt, run_underlying hu, hf, Instr.sureAddr, fieldPlace, sizeOf, typeInfo, hi, this]

theorem fieldAddrK_sound {C : Cfg} {t f : Nat} {x : PV} {X : Value} {k : PV → Option R} (h : fieldAddrK C t x f k = some r) (hx : VP Γ (shpOf H) w x X) (hxn : ∀ c ∈ x.nms, c < H.length) :
    ∃ v, k v = some r ∧ QV C.P Γ H w (Instr.fieldAt t X f) v := by
  unfold fieldAddrK at h
  split at h
  · rename_i fs hsh
    obtain ⟨F, hu, rfl⟩ := sh_struct hsh
    split at h
    · rename_i o u b i off hf
      split at h
      · rename_i hok
        simp only [List.getElem?_map, Option.map_eq_some_iff] at hf
        obtain ⟨fl, hf, he⟩ := hf
        cases he
        have hf' : F[f]? = some fl := by simpa using hf
        obtain ⟨ii, hi, hsz, hpos⟩ := ok_size hok
        refine ⟨_, h, ?_⟩
        rcases ptr_shape hx with ⟨g, v, e', sz, els, hb, hg, rfl⟩ | ⟨g, cells, rfl, hb, hg, rfl⟩
        · refine .mk1 hxn (V := .pointer (some ⟨g, i * sz + (off + fl.offset), none⟩)) (.ptrA b _ _ g v e' _ els.length (by simp [shpOf, hb, Blk.shp]) hg) fun w' hw => ?_
          rw [run_fieldAt hu hf' hi hpos, addr_add, Nat.add_assoc]
        · refine .mk1 hxn (V := .pointer (some ⟨g, off + fl.offset, none⟩)) (.ptrB b _ g (by simp [shpOf, hb, Blk.shp]) hg) fun w' hw => ?_
          rw [run_fieldAt hu hf' hi hpos, addr_add]
      · cases h
    · rename_i o u els i off hf
      split at h
      · rename_i hok
        simp only [List.getElem?_map, Option.map_eq_some_iff] at hf
        obtain ⟨fl, hf, he⟩ := hf
        cases he
        have hf' : F[f]? = some fl := by simpa using hf
        obtain ⟨ii, hi, hsz, hpos⟩ := ok_size hok
        refine ⟨_, h, ?_⟩
        have hs := hx.inv_s
        cases hs with
        | sp _ _ _ g o sz Vs hg hl hcc hv =>
          refine .mk1 (by simp [PV.nms]) (V := .pointer (some ⟨g, o + i * sz + (off + fl.offset), none⟩)) (.s _ _ (.sp els i _ g o sz Vs hg hl hcc hv)) fun w' hw => ?_
          rw [run_fieldAt hu hf' hi hpos, addr_add]
          simp [Nat.add_assoc]
      · cases h
    · cases h
  · cases h

theorem indexK_sound {C : Cfg} {t : Nat} {x i : PV} {X I : Value} {k : PV → Option R} (h : indexK C t x i k = some r) (hx : VP Γ (shpOf H) w x X) (hi : VP Γ (shpOf H) w i I) (hxn : ∀ c ∈ x.nms, c < H.length) :
    ∃ v, k v = some r ∧ QV C.P Γ H w (Instr.index t X I) v := by
  unfold indexK at h
  split at h
  · rename_i kd n
    obtain rfl := hi.inv_int
    split at h
    · rename_i l
      split at h
      · rename_i hsh
        obtain ⟨s, rfl, rfl⟩ := hx.inv_str
        obtain ⟨h1, h2⟩ := need_some h
        simp only [Bool.and_eq_true, decide_eq_true_eq] at h1
        refine ⟨_, h2, .val rfl (.int _ _) fun w' hw => ?_⟩
        have hsz : s.size = s.data.toList.length := by rw [Array.length_toList]; rfl
        rw [run_index_string w' t s kd n (sh_str hsh), dif_pos ⟨h1.1, by rw [hsz]; exact h1.2⟩]
        congr 2
        have hlt : n.toNat < s.data.toList.length := by omega
        rw [getD_lt' hlt]
        rfl
      · cases h
    · rename_i cells
      split at h
      · rename_i m e hsh
        obtain ⟨h1, h2⟩ := need_some h
        simp only [Bool.and_eq_true, decide_eq_true_eq] at h1
        obtain ⟨A, rfl, hA1, hA2⟩ := hx.inv_agg
        have hok : (C.ti e).ok = true := by have := h1.2; simp only [okP, Bool.and_eq_true] at this; exact this.1
        obtain ⟨ii, hii, hsz, hpos⟩ := ok_size hok
        have := QV.part (C := C) h1.2 hA1 hA2 (by simpa [PV.nms] using hxn)
        refine ⟨_, h2, this.1, let ⟨V, a, b⟩ := this.2; ⟨V, a, fun w' hw => ?_⟩⟩
        have := b w' hw
        simp only [Instr.index, asIntOf, Sem.run_bind, Sem.run_pure, run_underlying (sh_array hsh), Result.andThen_ok]
        rw [if_pos h1.1]
        simp only [sizeOf, typeInfo, Sem.run_bind, run_program, hii, Result.andThen_ok, Sem.run_pure, hsz]
        exact this
      · cases h
    · cases h
  · cases h

end
end Go.Proofs.Ytfioahjeanmfpaa.E
