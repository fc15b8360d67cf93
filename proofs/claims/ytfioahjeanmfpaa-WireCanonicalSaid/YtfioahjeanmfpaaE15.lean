/-
  Copies and appends.
-/
import Derived.Test.YtfioahjeanmfpaaE14
import Derived.Laws.AppendOwn
namespace Go.Proofs.Ytfioahjeanmfpaa.E
open Go
set_option linter.unusedVariables false

section
variable {Γ : Ctx} {H : List Blk} {w : World} {R : Type} {r : R} {C : Cfg}

/-- What is copied or appended. -/
structure SrcV (P : Program) (Γ : Ctx) (w : World) (n : Nat) (X : Value) (news : List (List SV)) (Vs : List Value) : Prop where
  len : ∀ w', (Builtin.lenOf X).run P w' = .ok news.length w'
  first : ∀ k, k ≤ news.length → ∀ w' : World, w'.heap = w.heap → (Builtin.firstCells n k X).run P w' = .ok (Vs.take (k * n)).toArray w'
  size : Vs.length = news.length * n
  one : ∀ u ∈ Vs, u.oneCell' = true
  els : ∀ i (h : i < news.length), (news[i]).length = n ∧ ∀ j (h' : j < (news[i]).length), ∃ U, Vs[i * n + j]? = some U ∧ VS Γ.St w (news[i][j]) U

theorem SrcV.nil {P : Program} {n : Nat} {X : Value} (a : Option Addr) (cap : Nat) (hX : X = .slice a 0 cap) : SrcV P Γ w n X [] [] := by
  subst hX
  refine ⟨fun w' => rfl, fun k hk w' hw => ?_, by simp, by simp, fun i hi => by simp at hi⟩
  have : k = 0 := by simpa using hk
  subst this
  cases a with
  | none => simp [Builtin.firstCells]
  | some a =>
    have := run_loadCells_list (P := P) w' a [] (by simp)
    simpa [Builtin.firstCells] using this

theorem idx_split {q m n : Nat} (h : q < m * n) : q / n < m ∧ q % n < n ∧ q / n * n + q % n = q := by
  have hn : 0 < n := by
    rcases Nat.eq_zero_or_pos n with h0 | h0
    · rw [h0, Nat.mul_zero] at h; omega
    · exact h0
  exact ⟨Nat.div_lt_of_lt_mul (by rw [Nat.mul_comm]; exact h), Nat.mod_lt _ hn, by rw [Nat.mul_comm]; exact Nat.div_add_mod q n⟩

theorem SrcV.slice {P : Program} {n : Nat} {X : Value} {els : List (List SV)} (h : SlV Γ w X els) (hn : ∀ i (h : i < els.length), (els[i]).length = n) : ∃ Vs, SrcV P Γ w n X els Vs := by
  obtain ⟨a, cap, rfl, hcap, hm, hnil, hcells⟩ := h.ex
  by_cases he : els = []
  · subst he
    exact ⟨[], SrcV.nil a cap rfl⟩
  · obtain ⟨g, o, sz, rfl, hsz, hc⟩ := hcells he
    have hcell : ∀ q, q < els.length * n → ∃ U, w.cell? ⟨g, o + q, none⟩ = some U ∧ U.oneCell' = true := fun q hq => by
      obtain ⟨h1, h2, h3⟩ := idx_split hq
      have hs : sz = n := by rw [← hsz _ h1]; exact hn _ h1
      subst hs
      obtain ⟨U, e, k⟩ := hc _ h1 (q % sz) (by rw [hsz _ h1]; exact h2)
      exact ⟨U, by rw [← e]; congr 2; omega, k.oneCell⟩
    let Vs := (List.range (els.length * n)).map fun q => (w.cell? ⟨g, o + q, none⟩).getD undef
    have hVs : ∀ q, q < els.length * n → ∀ U, w.cell? ⟨g, o + q, none⟩ = some U → Vs[q]? = some U := fun q hq U e => by simp [Vs, hq, e]
    refine ⟨Vs, fun w' => rfl, fun k hk w' hw => ?_, by simp [Vs], fun u hu => ?_, fun i hi => ⟨hn i hi, fun j hj => ?_⟩⟩
    · have hkn : k * n ≤ els.length * n := Nat.mul_le_mul_right _ hk
      have hVl : Vs.length = els.length * n := by simp [Vs]
      have hl : (Vs.take (k * n)).length = k * n := by rw [List.length_take, hVl]; omega
      refine run_firstCells_some (P := P) w' n k ⟨g, o, none⟩ els.length cap (Vs.take (k * n)) hl (fun j v hj => ?_)
      rw [List.getElem?_take] at hj
      split at hj
      · rename_i hjk
        obtain ⟨U, e, _⟩ := hcell j (by omega)
        rw [hVs j (by omega) U e] at hj
        simp only [Option.some.injEq] at hj
        subst hj
        rw [addr_add, cell_heap hw, e]
      · cases hj
    · simp only [Vs, List.mem_map, List.mem_range] at hu
      obtain ⟨q, hq, rfl⟩ := hu
      obtain ⟨U, e, k⟩ := hcell q hq
      rw [e]; exact k
    · have hs : sz = n := by rw [← hsz _ hi]; exact hn _ hi
      subst hs
      obtain ⟨U, e, k⟩ := hc i hi j hj
      have hj' : j < sz := by rw [← hsz i hi]; exact hj
      have hlt : i * sz + j < els.length * sz := by
        have : (i + 1) * sz ≤ els.length * sz := Nat.mul_le_mul_right _ hi
        rw [Nat.add_mul] at this; omega
      exact ⟨U, hVs _ hlt U (by rw [← e]; congr 2; omega), k⟩

theorem src_sound {n : Nat} {x : PV} {X : Value} {news : List (List SV)} (hH : HR Γ H w) (hx : VP Γ (shpOf H) w x X) (hs : srcOk n H x = true) (h : newsOf H x = some news) : ∃ Vs, SrcV C.P Γ w n X news Vs := by
  by_cases hstr : ∃ l, x = .s (.str l)
  · obtain ⟨l, rfl⟩ := hstr
    simp only [newsOf, Option.some.injEq] at h
    subst h
    simp only [srcOk, decide_eq_true_eq] at hs
    subst hs
    obtain ⟨s, rfl, rfl⟩ := hx.inv_str
    refine ⟨s.data.toList.map fun b => .int .u8 b.toNat, fun w' => by simp [Builtin.lenOf], fun k hk w' hw => ?_, by simp, fun u hu => ?_, fun i hi => ⟨by simp [u8el], fun j hj => ?_⟩⟩
    · simp only [Builtin.firstCells, Sem.run_pure]
      congr 1
      apply Array.ext'
      rw [Array.toList_map, extract_list]
      simp
    · simp only [List.mem_map] at hu
      obtain ⟨b, _, rfl⟩ := hu
      rfl
    · have hj0 : j = 0 := by simpa [u8el] using hj
      subst hj0
      have hi' : i < s.data.toList.length := by simpa using hi
      refine ⟨.int .u8 (s.data.toList[i]).toNat, by rw [show i * 1 + 0 = i by omega, List.getElem?_map, List.getElem?_eq_getElem hi']; rfl, ?_⟩
      simp only [List.getElem_map, u8el, List.getElem_cons_zero]
      exact .int _ _
  · have hels : elsOf H x = some news := by
      unfold newsOf at h
      split at h
      · exact absurd ⟨_, rfl⟩ hstr
      · exact h
    have hSl := slV_els (C := C) hH hx hels
    refine SrcV.slice hSl fun i hi => ?_
    unfold srcOk at hs
    unfold elsOf at hels
    split at hels
    · simp only [Option.some.injEq] at hels; subst hels; simp at hi
    · simp only [Option.some.injEq] at hels; subst hels
      simp only [Bool.or_eq_true, decide_eq_true_eq] at hs
      have h' := hx.inv_s
      cases h' with
      | nil => simp at hi
      | emp => simp at hi
      | sl t els g off n' cap sz Vs hn hcap hm ht hg hl hc hv =>
        rcases hs with rfl | hz
        · exact hl i hi
        · cases hz
    · split at hels
      · rename_i b _ v e sz els hb
        simp only [Option.some.injEq] at hels; subst hels
        dsimp only at hs
        rw [hb] at hs
        simp only [Bool.or_eq_true, decide_eq_true_eq, Bool.and_eq_true, List.isEmpty_iff] at hs
        obtain ⟨g, cur, _, _, _, hlens, _⟩ := hH.arr' hb (by rintro ⟨_, rfl⟩; simp at hi)
        rcases hs with rfl | ⟨_, rfl⟩
        · exact hlens i hi
        · simp at hi
      · cases hels
    · split at hels
      · rename_i b i' n' _ v e sz els hb
        simp only [Option.some.injEq] at hels; subst hels
        dsimp only at hs
        rw [hb] at hs
        simp only [Bool.or_eq_true, decide_eq_true_eq, Bool.and_eq_true, List.isEmpty_iff] at hs
        have hi2 : i' + i < els.length := by simp at hi; omega
        obtain ⟨g, cur, _, _, _, hlens, _⟩ := hH.arr' hb (by rintro ⟨_, rfl⟩; simp at hi2)
        rcases hs with rfl | ⟨_, rfl⟩
        · simp only [List.getElem_take, List.getElem_drop]; exact hlens _ hi2
        · simp at hi
      · cases hels
    · cases hels

theorem min_run {P : Program} {a b : Nat} : Nat.min a b = min a b := rfl

/-- The general copy. -/
theorem run_copy_gen {P : Program} {t u ty e : Nat} {ie : TypeInfo} {D X : Value} {a : Option Addr} {dLen dCap : Nat} {news : List (List SV)} {Vs : List Value} {w' : World} (hu : P.underlying t = some (.slice e)) (hi : P.info? e = some ie) (hD : D = .slice a dLen dCap)
    (hS : SrcV P Γ w ie.size X news Vs) (hst : match a with | some a => (storeCells a (Vs.take (min news.length dLen * ie.size))).run P w = .ok () w' | none => w' = w) :
    (Builtin.copy_ #[t, u] ty #[D, X]).run P w = .ok (.int .i64 (min news.length dLen : Nat)) w' := by
  subst hD
  have hf := hS.first (min news.length dLen) (Nat.min_le_left _ _) w rfl
  cases a with
  | none =>
    simp only at hst
    subst hst
    simp [Builtin.copy_, run_underlying hu, hS.len, sizeOf, typeInfo, hi, min_run, hf, goInt]
  | some a =>
    simp only at hst
    simp [Builtin.copy_, run_underlying hu, hS.len, sizeOf, typeInfo, hi, min_run, hf, hst, goInt]

theorem splice_get (els news : List (List SV)) (i n : Nat) (hin : i + n ≤ els.length) (q : Nat) :
    (els.take i ++ (news.take n ++ els.drop (i + min news.length n)))[q]? = if i ≤ q ∧ q < i + min news.length n then news[q - i]? else els[q]? := by
  have h1 : (els.take i).length = i := by rw [List.length_take]; omega
  have h2 : (news.take n).length = min news.length n := by rw [List.length_take]; omega
  by_cases hq : q < i
  · rw [if_neg (by omega), List.getElem?_append_left (by omega), List.getElem?_take, if_pos hq]
  · rw [List.getElem?_append_right (by omega), h1]
    by_cases hq2 : q < i + min news.length n
    · rw [if_pos (by omega), List.getElem?_append_left (by omega), List.getElem?_take, if_pos (by omega)]
    · rw [if_neg (by omega), List.getElem?_append_right (by omega), h2, List.getElem?_drop]
      congr 1; omega

theorem splice_length (els news : List (List SV)) (i n : Nat) (hin : i + n ≤ els.length) : (els.take i ++ (news.take n ++ els.drop (i + min news.length n))).length = els.length := by
  simp only [List.length_append, List.length_take, List.length_drop]; omega

/-- Elements are written over a part of a row. -/
theorem copy_WV {t u ty e b g i n dCap sz e' : Nat} {v : Bool} {ie : TypeInfo} {els news : List (List SV)} {D X : Value} {Vs : List Value} {sl : List PV} {tmps : Array Value} {cur : Array Value} (hH : HR Γ H w) (hu : C.P.underlying t = some (.slice e)) (hie : C.P.info? e = some ie)
    (hsz : ie.size = sz) (hb : H[b]? = some (.arr v e' sz els)) (hin : i + n ≤ els.length) (hg : Γ.nm b = some g) (hh : w.heap[g]? = some (.cells cur e' (0, 0))) (hsize : els.length * sz ≤ cur.size) (hlens : ∀ i (h : i < els.length), (els[i]).length = sz)
    (hels : ∀ i (h : i < els.length) j (h' : j < (els[i]).length), ∃ V, cur[i * sz + j]? = some V ∧ VS Γ.St w (els[i][j]) V) (hne : ¬ (v = true ∧ els = [])) (hS : SrcV C.P Γ w ie.size X news Vs) (a : Addr) (ha : n ≠ 0 → a = ⟨g, i * sz, none⟩) (hD : D = .slice (some a) n dCap) :
    WV C Γ H w sl tmps (Builtin.copy_ #[t, u] ty #[D, X]) (.s (.int .i64 (min news.length n : Nat))) sl (H.set b (.arr v e' sz (els.take i ++ (news.take n ++ els.drop (i + min news.length n))))) := by
  subst hsz
  generalize hm : min news.length n = m
  have hml : m ≤ news.length := by omega
  have hmn : m ≤ n := by omega
  have hVl : (Vs.take (m * ie.size)).length = m * ie.size := by
    have : m * ie.size ≤ news.length * ie.size := Nat.mul_le_mul_right _ hml
    rw [List.length_take, hS.size]; omega
  have hin2 : i * ie.size + (Vs.take (m * ie.size)).length ≤ cur.size := by
    have : (i + m) * ie.size ≤ els.length * ie.size := Nat.mul_le_mul_right _ (by omega)
    rw [Nat.add_mul] at this
    omega
  have hlen' := splice_length els news i n hin
  rw [hm] at hlen'
  have key : ∃ w', (storeCells a (Vs.take (m * ie.size))).run C.P w = .ok () w' ∧ w'.heap[g]? = some (.cells (putAt cur.toList (i * ie.size) (Vs.take (m * ie.size))).toArray e' (0, 0)) ∧ (∀ k, k ≠ g → w'.heap[k]? = w.heap[k]?) ∧ w'.heap.size = w.heap.size ∧ w'.os = w.os ∧ w'.tape = w.tape ∧ w'.output = w.output ∧
      w'.shape? g = w.shape? g := by
    by_cases hn0 : n = 0
    · have hm0 : m = 0 := by omega
      subst hm0
      refine ⟨w, by simp [storeCells], by simpa [putAt] using hh, fun _ _ => rfl, rfl, rfl, rfl, rfl, rfl⟩
    · rw [ha hn0]
      exact run_storeCells_put hh hin2 (fun v hv => hS.one v (List.mem_of_mem_take hv))
  obtain ⟨w', r1, r2, r3, r4, r5, r6, r7, r8⟩ := key
  have hstw : ∀ k, Γ.St k → w'.heap[k]? = w.heap[k]? := fun k hk => r3 k (fun e => (hH.lt b g hg).2.2 (e ▸ hk))
  have hr := run_copy_gen (P := C.P) (w := w) (u := u) (ty := ty) hu hie hD hS (w' := w') (by rw [hm]; exact r1)
  rw [hm] at hr
  have hget : ∀ q (hq : q < (els.take i ++ (news.take n ++ els.drop (i + m))).length), (i ≤ q ∧ q < i + m ∧ ∃ h : q - i < news.length, (els.take i ++ (news.take n ++ els.drop (i + m)))[q] = news[q - i]) ∨
      (¬ (i ≤ q ∧ q < i + m) ∧ ∃ h : q < els.length, (els.take i ++ (news.take n ++ els.drop (i + m)))[q] = els[q]) := fun q hq => by
    have := splice_get els news i n hin q
    rw [hm, List.getElem?_eq_getElem hq] at this
    rw [hlen'] at hq
    by_cases hc : i ≤ q ∧ q < i + m
    · rw [if_pos hc, List.getElem?_eq_getElem (by omega)] at this
      exact .inl ⟨hc.1, hc.2, by omega, by simpa using this⟩
    · rw [if_neg hc, List.getElem?_eq_getElem hq] at this
      exact .inr ⟨hc, hq, by simpa using this⟩
  refine write_WV hH hr hb hg (by simp only [Blk.shp, hlen']) r3 r8 (by omega) r5 r6 r7 (.inr ⟨fun hz => hne ⟨hz.1, ?_⟩, g, _, hg, r2, by rw [hlen']; simpa [putAt_length] using hsize, fun q hq => ?_, fun q hq j hj => ?_⟩) (by simp [Blk.nms]) (.int _ _) (by simp [PV.nms])
  · have := congrArg List.length hz.2
    rw [hlen'] at this
    exact List.length_eq_zero_iff.1 (by simpa using this)
  · rcases hget q hq with ⟨h1, h2, h3, e⟩ | ⟨h1, h3, e⟩
    · rw [e]; exact (hS.els _ h3).1
    · rw [e]; exact hlens _ h3
  · simp only [List.getElem?_toArray]
    rw [putAt_get _ _ _ (by simpa using hin2), hVl]
    rcases hget q hq with ⟨h1, h2, h3, e⟩ | ⟨h1, h3, e⟩
    · have hj' : j < (news[q - i]).length := by rw [← e]; exact hj
      obtain ⟨U, q1, q2⟩ := (hS.els _ h3).2 j hj'
      have hjs : j < ie.size := by rw [← (hS.els _ h3).1]; exact hj'
      have a1 : i * ie.size ≤ q * ie.size := Nat.mul_le_mul_right _ h1
      have a2 : (q + 1) * ie.size ≤ (i + m) * ie.size := Nat.mul_le_mul_right _ h2
      rw [Nat.add_mul, Nat.add_mul] at a2
      have a3 : q * ie.size + j - i * ie.size = (q - i) * ie.size + j := by rw [Nat.sub_mul]; omega
      rw [if_pos (by omega), a3]
      refine ⟨U, ?_, by simp only [e]; exact q2.mono hstw (fun _ h => h)⟩
      rw [List.getElem?_take, if_pos]
      · exact q1
      · rw [← a3]; omega
    · have hj' : j < (els[q]).length := by rw [← e]; exact hj
      obtain ⟨U, q1, q2⟩ := hels q h3 j hj'
      have hjs : j < ie.size := by rw [← hlens q h3]; exact hj'
      rw [if_neg]
      · exact ⟨U, by simpa using q1, by simp only [e]; exact q2.mono hstw (fun _ h => h)⟩
      · rintro ⟨b1, b2⟩
        apply h1
        constructor
        · apply Decidable.byContradiction
          intro hlt
          have : (q + 1) * ie.size ≤ i * ie.size := Nat.mul_le_mul_right _ (by omega)
          rw [Nat.add_mul] at this; omega
        · apply Decidable.byContradiction
          intro hlt
          have : (i + m) * ie.size ≤ q * ie.size := Nat.mul_le_mul_right _ (by omega)
          rw [Nat.add_mul] at this; omega

theorem srcOk_sz {b n e sz : Nat} {v : Bool} {els : List (List SV)} (hb : H[b]? = some (.arr v e sz els)) (h : (decide (sz = n) || (v && els.isEmpty)) = true) (hne : ¬ (v = true ∧ els = [])) : sz = n := by
  simp only [Bool.or_eq_true, decide_eq_true_eq, Bool.and_eq_true, List.isEmpty_iff] at h
  rcases h with h | h
  · exact h
  · exact absurd h hne

/-- COPIES. -/
theorem copyK_sound {t u ty : Nat} {d x : PV} {D X : Value} {k : PV → List Blk → Option R} {sl : List PV} {tmps : Array Value} (hH : HR Γ H w) (h : copyK C t d x H k = some r) (hd : VP Γ (shpOf H) w d D) (hx : VP Γ (shpOf H) w x X) :
    ∃ v H', k v H' = some r ∧ WV C Γ H w sl tmps (Builtin.copy_ #[t, u] ty #[D, X]) v sl H' := by
  unfold copyK at h
  split at h
  · rename_i e hsh
    split at h
    · rename_i hok
      simp only [Bool.and_eq_true] at hok
      obtain ⟨⟨hok, hsrc⟩, hdst⟩ := hok
      obtain ⟨ie, hie, hsz, hpos⟩ := ok_size hok
      split at h
      · rename_i news hnews
        obtain ⟨Vs, hS⟩ := src_sound (C := C) hH hx hsrc hnews
        have hu := sh_slice hsh
        have hnone : ∀ {H' : List Blk}, (hn : D = .slice none 0 0) → k (.s (.int .i64 0)) H = some r → ∃ v H', k v H' = some r ∧ WV C Γ H w sl tmps (Builtin.copy_ #[t, u] ty #[D, X]) v sl H' := fun hn hk => by
          have hr := run_copy_gen (P := C.P) (w := w) (u := u) (ty := ty) hu hie hn (by rw [hsz]; exact hS) (w' := w) rfl
          simp only [Nat.min_zero] at hr
          exact ⟨_, _, hk, _, w, Γ, hr, Stp.refl hH, hH, id, .int _ _, by simp [PV.nms]⟩
        split at h
        · rename_i b
          split at h
          · rename_i v e' sz els hb
            cases hd with
            | flv _ e2 sz2 h' =>
              obtain ⟨rfl, _, _, h4⟩ := shp_arr hb h'
              obtain rfl := List.length_eq_zero_iff.1 h4
              simp only [List.length_nil, Nat.min_zero, List.take_zero, List.drop_nil, List.append_nil] at h
              have hset : H.set b (.arr true e' sz []) = H := by
                apply List.ext_getElem?
                intro j
                rw [List.getElem?_set]
                split
                · rename_i e; subst e; rw [if_pos (List.getElem?_eq_some_iff.1 hb).1, hb]
                · rfl
              rw [hset] at h
              exact hnone (H' := H) rfl h
            | fl _ g v' e2 sz2 n' cap h' hv hg hcap hm hs =>
              obtain ⟨rfl, rfl, rfl, rfl⟩ := shp_arr hb h'
              have hne : ¬ (v = true ∧ els = []) := by rintro ⟨q1, q2⟩; exact hv q1 (by rw [q2]; rfl)
              simp only [srcOk, hb] at hdst
              have hsz' := srcOk_sz hb hdst hne
              obtain ⟨g', cur, hg', hh, hsize, hlens, hels⟩ := hH.arr' hb hne
              rw [hg] at hg'; cases hg'
              have := copy_WV (C := C) (u := u) (ty := ty) (i := 0) (n := els.length) (dCap := cap) (sl := sl) (tmps := tmps) hH hu hie (by rw [hsz, hsz']) hb (by omega) hg hh hsize hlens hels hne (by rw [hsz]; exact hS) ⟨g, 0, none⟩ (fun _ => by simp) rfl
              simp only [List.take_zero, List.nil_append, Nat.zero_add] at this
              exact ⟨_, _, h, this⟩
          · cases h
        · rename_i b i n
          split at h
          · rename_i v e' sz els hb
            obtain ⟨h1, h2⟩ := need_some h
            simp only [decide_eq_true_eq] at h1
            cases hd with
            | vwv _ e2 sz2 _ h' =>
              obtain ⟨rfl, _, _, h4⟩ := shp_arr hb h'
              obtain rfl := List.length_eq_zero_iff.1 h4
              simp only [Nat.min_zero, List.take_zero, List.drop_nil, List.append_nil, List.take_nil] at h2
              have hset : H.set b (.arr true e' sz []) = H := by
                apply List.ext_getElem?
                intro j
                rw [List.getElem?_set]
                split
                · rename_i e; subst e; rw [if_pos (List.getElem?_eq_some_iff.1 hb).1, hb]
                · rfl
              rw [hset] at h2
              exact hnone (H' := H) rfl h2
            | vw _ _ _ g a cap v' e2 sz2 m h' hv hg ha hi' hcap hm =>
              obtain ⟨rfl, rfl, rfl, rfl⟩ := shp_arr hb h'
              have hne : ¬ (v = true ∧ els = []) := by rintro ⟨q1, q2⟩; exact hv q1 (by rw [q2]; rfl)
              simp only [srcOk, hb] at hdst
              have hsz' := srcOk_sz hb hdst hne
              obtain ⟨g', cur, hg', hh, hsize, hlens, hels⟩ := hH.arr' hb hne
              rw [hg] at hg'; cases hg'
              have := copy_WV (C := C) (u := u) (ty := ty) (i := i) (n := n) (dCap := cap) (sl := sl) (tmps := tmps) hH hu hie (by rw [hsz, hsz']) hb h1 hg hh hsize hlens hels hne (by rw [hsz]; exact hS) a ha rfl
              exact ⟨_, _, h2, this⟩
          · cases h
        · exact hnone (H' := H) hd.inv_nsl h
        · cases h
      · cases h
    · cases h
  · cases h

end
end Go.Proofs.Ytfioahjeanmfpaa.E
