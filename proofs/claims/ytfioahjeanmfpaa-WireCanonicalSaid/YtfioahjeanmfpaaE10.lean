/-
  Conversions, composite values: what the evaluator says of them is what the model does.
-/
import Derived.Test.YtfioahjeanmfpaaE9
import Derived.Laws.BytesString
import Derived.Laws.Runes
import Derived.Laws.Tables
namespace Go.Proofs.Ytfioahjeanmfpaa.E
open Go
set_option linter.unusedVariables false

/-- Cells of a value. -/
def CR (Γ : Ctx) (sh : Nat → Option Shp) (w : World) (l : List PV) (A : Array Value) : Prop := A.size = l.length ∧ ∀ j (h : j < l.length), ∃ U, A[j]? = some U ∧ VP Γ sh w (l[j]) U

section
variable {Γ : Ctx} {sh : Nat → Option Shp} {H : List Blk} {w : World} {R : Type} {r : R}

theorem CR.one {v : PV} {V : Value} (h : VP Γ sh w v V) : CR Γ sh w [v] #[V] := by
  refine ⟨rfl, fun j hj => ?_⟩
  have : j = 0 := by simpa using hj
  subst this
  exact ⟨V, rfl, h⟩

theorem cells_one {V : Value} (h : V.oneCell' = true) : V.cells = #[V] := by
  cases V <;> first | rfl | simp [Value.oneCell'] at h

theorem VS.oneCell {St : Nat → Prop} {v : SV} {V : Value} (h : VS St w v V) : V.oneCell' = true := by
  cases h <;> rfl

theorem VP.oneCell {v : PV} {V : Value} (h : VP Γ sh w v V) (h1 : v.one = true) : V.oneCell' = true := by
  cases h with
  | s v V h => exact h.oneCell
  | yd => exact Γ.yv1
  | agg => simp [PV.one] at h1
  | tup => simp [PV.one] at h1
  | bad => simp [PV.one] at h1
  | _ => rfl

theorem VP.cells {v : PV} {V : Value} (h : VP Γ sh w v V) (hb : v.cells ≠ []) (ht : ∀ l, v ≠ .tup l) : CR Γ sh w v.cells V.cells := by
  by_cases ha : ∃ l, v = .agg l
  · obtain ⟨l, rfl⟩ := ha
    obtain ⟨A, rfl, hA, hc⟩ := h.inv_agg
    exact ⟨hA, hc⟩
  · have h1 : v.one = true := by
      cases v <;> simp_all [PV.cells, PV.one]
    have hv : v.cells = [v] := by cases v <;> simp_all [PV.cells, PV.one]
    rw [hv, cells_one (h.oneCell h1)]
    exact CR.one h

theorem VP.cells' {v : PV} {V : Value} (h : VP Γ sh w v V) (hb : v.cells ≠ []) : CR Γ sh w v.cells V.cells := by
  by_cases ht : ∃ l, v = .tup l
  · obtain ⟨l, rfl⟩ := ht
    obtain ⟨A, rfl, hA, hc⟩ := h.inv_tup
    exact CR.one h
  · exact h.cells hb (fun l e => ht ⟨l, e⟩)

theorem PV.cells_nms {v : PV} : ∀ c ∈ nmsL v.cells, c ∈ v.nms := by
  intro c
  cases v <;> simp [PV.cells, nmsL, PV.nms]

/-! ### Zero values -/
theorem zeroIs_sound {c : CK} {V : Value} (h : zeroIs c V = true) : VP Γ sh w (zeroCK c) V := by
  unfold zeroIs at h
  split at h
  · rename_i b; cases b <;> simp at h; exact .bool _
  · simp only [Bool.and_eq_true, decide_eq_true_eq] at h
    obtain ⟨rfl, rfl⟩ := h; exact .int _ _
  · exact .str _ (by simpa using h)
  · exact .nsl
  · exact .s _ _ .nilp
  · exact .s _ _ .nilm
  · exact .s _ _ .nilf
  · cases h

theorem zeroAll_sound : ∀ {ks : List CK} {l : List Value}, zeroAll ks l = true → ∀ j (h : j < ks.length), ∃ U, l[j]? = some U ∧ VP Γ sh w (zeroCK ks[j]) U
  | [], [], _ => fun j h => by simp at h
  | c :: r, v :: q, h => by
    simp only [zeroAll, Bool.and_eq_true] at h
    intro j hj
    cases j with
    | zero => exact ⟨v, rfl, by simpa using zeroIs_sound h.1⟩
    | succ j =>
      obtain ⟨U, e, k⟩ := zeroAll_sound h.2 j (by simpa using hj)
      exact ⟨U, by simpa using e, by simpa using k⟩
  | [], _ :: _, h => by simp [zeroAll] at h
  | _ :: _, [], h => by simp [zeroAll] at h

theorem zero_CR {C : Cfg} {t : Nat} (h : (C.ti t).ok = true) : ∃ i z, C.P.info? t = some i ∧ i.zero = some z ∧ i.size = (C.ti t).ks.length ∧ CR Γ sh w ((C.ti t).ks.map zeroCK) z.cells := by
  obtain ⟨i, d, z, hi, hd, hz, hsz, hby, hpos, hks, hagg, hlen⟩ := ti_spec h
  refine ⟨i, z, hi, hz, hlen, by rw [List.length_map, ← hlen, hsz], fun j hj => ?_⟩
  obtain ⟨U, e, k⟩ := zeroAll_sound hks j (by simpa using hj)
  exact ⟨U, by simpa using e, by simpa using k⟩

/-! ### Filling -/
theorem putAt_length {α : Type} : ∀ (vs : List α) (l : List α) (off : Nat), (putAt l off vs).length = l.length
  | [], l, off => by simp [putAt]
  | v :: vs, l, off => by simp [putAt, putAt_length vs]

theorem putAt_get {α : Type} : ∀ (vs : List α) (l : List α) (off : Nat), off + vs.length ≤ l.length → ∀ j, (putAt l off vs)[j]? = if off ≤ j ∧ j < off + vs.length then vs[j - off]? else l[j]?
  | [], l, off, _, j => by simp [putAt]; intro h1 h2; omega
  | v :: vs, l, off, h, j => by
    simp only [List.length_cons] at h
    rw [putAt, putAt_get vs _ _ (by simp; omega)]
    simp only [List.length_cons, List.getElem?_set]
    by_cases h1 : off + 1 ≤ j ∧ j < off + 1 + vs.length
    · rw [if_pos h1, if_pos (by omega)]
      rw [show j - off = (j - (off + 1)) + 1 by omega]
      simp
    · rw [if_neg h1]
      by_cases h2 : off = j
      · subst h2
        rw [if_pos rfl, if_pos (by omega), if_pos (by omega)]
        simp
      · rw [if_neg h2, if_neg (by omega)]

theorem foldl_set : ∀ (vs : List Value) (k : Nat) (off : Nat) (A : Array Value), (((vs.zipIdx k).foldl (fun cs (c, j) => cs.setIfInBounds (off + j) c) A).toList = putAt A.toList (off + k) vs)
  | [], k, off, A => by simp [putAt]
  | v :: vs, k, off, A => by
    rw [List.zipIdx_cons, List.foldl_cons, foldl_set vs (k + 1) off, putAt]
    simp [Nat.add_assoc]

theorem CR.put {l x : List PV} {A X : Array Value} {off : Nat} (h : CR Γ sh w l A) (hx : CR Γ sh w x X) (hl : off + x.length ≤ l.length) :
    CR Γ sh w (putAt l off x) (X.zipIdx.foldl (fun cs (c, j) => cs.setIfInBounds (off + j) c) A) := by
  have e : (X.zipIdx.foldl (fun cs (c, j) => cs.setIfInBounds (off + j) c) A).toList = putAt A.toList off X.toList := by
    have := foldl_set X.toList 0 off A
    rw [Nat.add_zero] at this
    rw [← this, ← Array.foldl_toList, Array.toList_zipIdx]
  have hAl : A.toList.length = l.length := by simpa using h.1
  have hXl : X.toList.length = x.length := by simpa using hx.1
  refine ⟨?_, fun j hj => ?_⟩
  · rw [← Array.length_toList, e, putAt_length, putAt_length, hAl]
  · rw [putAt_length] at hj
    have g1 : (X.zipIdx.foldl (fun cs (c, j) => cs.setIfInBounds (off + j) c) A)[j]? = (putAt A.toList off X.toList)[j]? := by rw [← e, Array.getElem?_toList]
    rw [g1, putAt_get _ _ _ (by omega)]
    have g2 := putAt_get x l off hl j
    have hj' : j < (putAt l off x).length := by rw [putAt_length]; exact hj
    rw [List.getElem?_eq_getElem hj'] at g2
    by_cases hc : off ≤ j ∧ j < off + x.length
    · rw [if_pos (by omega)]
      rw [if_pos hc] at g2
      obtain ⟨U, e1, k1⟩ := hx.2 (j - off) (by omega)
      refine ⟨U, by simpa using e1, ?_⟩
      rw [List.getElem?_eq_getElem (by omega)] at g2
      simp only [Option.some.injEq] at g2
      rw [g2]; exact k1
    · rw [if_neg (by omega)]
      rw [if_neg hc] at g2
      obtain ⟨U, e1, k1⟩ := h.2 j hj
      refine ⟨U, by simpa using e1, ?_⟩
      rw [List.getElem?_eq_getElem hj] at g2
      simp only [Option.some.injEq] at g2
      rw [g2]; exact k1

/-- Parts of a composite value. -/
def PR (Γ : Ctx) (sh : Nat → Option Shp) (w : World) : List (Nat × PV) → List (Nat × Value) → Prop
  | [], [] => True
  | (i, v) :: r, (i', V) :: q => i = i' ∧ VP Γ sh w v V ∧ PR Γ sh w r q
  | _, _ => False

theorem nmsL_putAt : ∀ (vs l : List PV) (off : Nat), ∀ c ∈ nmsL (putAt l off vs), c ∈ nmsL l ∨ c ∈ nmsL vs
  | [], l, off, c, h => .inl (by simpa [putAt] using h)
  | v :: vs, l, off, c, h => by
    rw [putAt] at h
    rcases nmsL_putAt vs _ _ c h with h | h
    · obtain ⟨j, hj, hc⟩ := mem_nmsL.1 h
      rw [List.getElem_set] at hc
      split at hc
      · exact .inr (by simp only [nmsL, List.mem_append]; exact .inl hc)
      · exact .inl (mem_nmsL.2 ⟨j, by simpa using hj, hc⟩)
    · exact .inr (by simp only [nmsL, List.mem_append]; exact .inr h)

theorem fill_sound {place : Nat → Option (Nat × Nat)} {place' : Nat → Option (Nat × Nat)} (hp : ∀ i off size, place i = some (off, size) → 0 < size → place' i = some (off, size)) :
    ∀ {parts : List (Nat × PV)} {ps : List (Nat × Value)} {cells out : List PV} {A : Array Value}, fillP place cells parts = some out → CR Γ sh w cells A → PR Γ sh w parts ps →
      ∃ B, Instr.fill place' A ps = some B ∧ CR Γ sh w out B ∧ ∀ c ∈ nmsL out, c ∈ nmsL cells ∨ ∃ p ∈ parts, c ∈ p.2.nms
  | [], [], cells, out, A, h, hc, _ => by
    simp only [fillP, Option.some.injEq] at h
    subst h
    exact ⟨A, rfl, hc, fun c hc => .inl hc⟩
  | (i, v) :: r, (i', V) :: q, cells, out, A, h, hc, hr => by
    obtain ⟨rfl, hv, hr⟩ := hr
    simp only [fillP] at h
    split at h
    · rename_i off size hpl
      split at h
      · rename_i hcond
        simp only [Bool.and_eq_true, decide_eq_true_eq] at hcond
        obtain ⟨⟨h1, h2⟩, h3⟩ := hcond
        have hne : v.cells ≠ [] := by intro e; rw [e] at h1; simp at h1; omega
        have hvc := hv.cells' hne
        obtain ⟨B, e, hB, hn⟩ := fill_sound hp h (hc.put hvc h3) hr
        refine ⟨B, ?_, hB, fun c hc' => ?_⟩
        · simp only [Instr.fill, hp i off size hpl h2]
          rw [if_neg, e]
          simp only [Bool.or_eq_true, decide_eq_true_eq, not_or]
          rw [hvc.1, hc.1]
          omega
        · rcases hn c hc' with h | ⟨p, hp, hc⟩
          · rcases nmsL_putAt _ _ _ c h with h | h
            · exact .inl h
            · exact .inr ⟨(i, v), by simp, PV.cells_nms c h⟩
          · exact .inr ⟨p, by simp [hp], hc⟩
      · cases h
    · cases h
  | [], _ :: _, _, _, _, _, _, hr => hr.elim
  | _ :: _, [], _, _, _, _, _, hr => by simp [PR] at hr

theorem zero_nms (ks : List CK) : nmsL (ks.map zeroCK) = [] := by
  induction ks with
  | nil => rfl
  | cons c r ih => cases c <;> simp [nmsL, zeroCK, PV.nms, ih]

theorem underlying_info {P : Program} {t : Nat} {d : TypeDesc} (h : P.underlying t = some d) : ∃ i, P.info? t = some i := by
  unfold Program.underlying at h
  cases hi : P.info? t with
  | none => simp [hi] at h
  | some i => exact ⟨i, rfl⟩

theorem ksOf_info {P : Program} {d t : Nat} {ks : List CK} (h : ksOf P d t = some ks) : ∃ i, P.info? t = some i := by
  cases d with
  | zero => simp [ksOf] at h
  | succ d =>
    unfold ksOf at h
    cases hu : P.underlying t with
    | none => simp [hu] at h
    | some x => exact underlying_info hu

theorem ksF_info {P : Program} {d : Nat} : ∀ {fs : List Field} {off : Nat} {ks : List CK}, ksF (ksOf P d) fs off = some ks → ∀ f ∈ fs, ∃ i, P.info? f.type = some i
  | [], _, _, _, f, hf => by simp at hf
  | x :: r, off, ks, h, f, hf => by
    simp only [ksF] at h
    split at h
    · split at h
      · rename_i a ha
        split at h
        · rename_i b hb
          rcases List.mem_cons.1 hf with rfl | hf
          · exact ksOf_info ha
          · exact ksF_info hb f hf
        · cases h
      · cases h
    · cases h

theorem mapM_some {α β : Type} {f : α → Option β} {g : α → β} : ∀ (l : List α), (∀ x ∈ l, f x = some (g x)) → l.mapM f = some (l.map g)
  | [], _ => rfl
  | x :: r, h => by
    rw [List.mapM_cons, h x (by simp), mapM_some r (fun y hy => h y (by simp [hy]))]
    rfl

theorem szOf_pos {C : Cfg} {t : Nat} (h : 0 < szOf C t) : ∃ i, C.P.info? t = some i ∧ i.size = szOf C t := by
  unfold szOf at h ⊢
  split at h
  · rename_i hok
    obtain ⟨i, h1, h2, _⟩ := ok_size hok
    exact ⟨i, h1, by rw [if_pos hok, h2]⟩
  · omega

theorem ti_ks {C : Cfg} {t : Nat} (h : (C.ti t).ok = true) : ksOf C.P 20 t = some (C.ti t).ks := by
  simp only [Cfg.ti, tiOf] at h ⊢
  split at h
  · rename_i i d ks hi hd hks
    split at h
    · exact hks
    · cases h
  · cases h

/-- COMPOSITE VALUES. -/
theorem buildK_sound {C : Cfg} {t : Nat} {parts : List (Nat × PV)} {ps : Array (Nat × Value)} {k : PV → Option R} (h : buildK C t parts k = some r) (hp : PR Γ (shpOf H) w parts ps.toList) (hn : ∀ p ∈ parts, ∀ c ∈ p.2.nms, c < H.length) :
    ∃ v, k v = some r ∧ QV C.P Γ H w (Instr.build t ps) v := by
  unfold buildK at h
  split at h
  · rename_i hok
    obtain ⟨i, z, hi, hz, hsz, hCR⟩ := zero_CR (Γ := Γ) (sh := shpOf H) (w := w) hok
    split at h
    · rename_i fs hsh
      obtain ⟨F, hu, rfl⟩ := sh_struct hsh
      dsimp only at h
      split at h
      · rename_i out hf
        have hinfo : ∀ f ∈ F.toList, ∃ i, C.P.info? f.type = some i := by
          have := ti_ks hok
          unfold ksOf at this
          rw [hu] at this
          exact ksF_info this
        let g : Field → Nat × Nat := fun f => (f.offset, ((C.P.info? f.type).map (·.size)).getD 0)
        have hm : F.toList.mapM (fun f => (C.P.info? f.type).map fun i => (f.offset, i.size)) = some (F.toList.map g) := mapM_some _ fun f hf => by
          obtain ⟨i, hi⟩ := hinfo f hf
          simp [g, hi]
        obtain ⟨B, e1, e2, e3⟩ := fill_sound (place' := fun j => ((F.toList.map g).toArray)[j]?) (fun j off size hj h0 => by
          simp only [List.getElem?_map, Option.map_map, Option.map_eq_some_iff] at hj
          obtain ⟨f, hf, he⟩ := hj
          simp only [Function.comp, Prod.mk.injEq] at he
          obtain ⟨rfl, rfl⟩ := he
          obtain ⟨i, hi, hs⟩ := szOf_pos h0
          simp only [List.getElem?_toArray, List.getElem?_map, hf, Option.map_some, g, hi, Option.getD_some, hs]) hf hCR hp
        refine ⟨_, h, .mk1 (fun c hc => ?_) (VP.mk_agg e2.1 e2.2) fun w' hw => run_build w' t ps B ?_⟩
        · rcases e3 c (by simpa [PV.nms] using hc) with h | ⟨p, hp, hc⟩
          · rw [zero_nms] at h; simp at h
          · exact hn p hp c hc
        · simp only [Program.built, hi, hu, hz, hm]
          exact e1
      · cases h
    · rename_i n e hsh
      dsimp only at h
      split at h
      · rename_i out hf
        have hu := sh_array hsh
        have hie : ∃ ie, C.P.info? e = some ie := by
          have := ti_ks hok
          unfold ksOf at this
          rw [hu] at this
          dsimp only at this
          split at this
          · rename_i ha; exact ksOf_info ha
          · cases this
        obtain ⟨ie, hie⟩ := hie
        obtain ⟨B, e1, e2, e3⟩ := fill_sound (place' := fun j => some (j * ie.size, ie.size)) (fun j off size hj h0 => by
          simp only [Option.some.injEq, Prod.mk.injEq] at hj
          obtain ⟨rfl, rfl⟩ := hj
          obtain ⟨i, hi, hs⟩ := szOf_pos h0
          rw [hie] at hi
          simp only [Option.some.injEq] at hi
          subst hi
          rw [hs]) hf hCR hp
        refine ⟨_, h, .mk1 (fun c hc => ?_) (VP.mk_agg e2.1 e2.2) fun w' hw => run_build w' t ps B ?_⟩
        · rcases e3 c (by simpa [PV.nms] using hc) with h | ⟨p, hp, hc⟩
          · rw [zero_nms] at h; simp at h
          · exact hn p hp c hc
        · simp only [Program.built, hi, hu, hz, hie]
          exact e1
      · cases h
    · cases h
  · cases h

/-- CONVERSIONS. -/
theorem convK_sound {C : Cfg} {src dst : Nat} {x : PV} {X : Value} {k : PV → Option R} (hH : HR Γ H w) (h : convK C src dst x H k = some r) (hx : VP Γ (shpOf H) w x X) :
    ∃ v, k v = some r ∧ QV C.P Γ H w (convert src dst X) v := by
  unfold convK at h
  split at h
  · rename_i k1 kd k2 n h1 h2
    obtain rfl := hx.inv_int
    refine ⟨_, h, .val rfl (.int _ _) fun w' hw => ?_⟩
    have hd := sh_int h2
    have hk : C.P.intKind dst = kd := by simp [Program.intKind, hd]
    have := run_convert_int (P := C.P) (w := w') src dst k2 n (by rw [sh_int h1]; rfl) (by rw [hk]; exact hd)
    rw [hk] at this
    exact this
  · rename_i l h1 h2
    obtain ⟨s, rfl, rfl⟩ := hx.inv_str
    refine ⟨_, h, .val rfl (.str s rfl) fun w' hw => ?_⟩
    simp [convert, run_underlying (sh_str h1), run_underlying (sh_str h2)]
  · rename_i k1 k2 n h1 h2
    obtain rfl := hx.inv_int
    refine ⟨_, h, .val rfl (.str (Utf8.encode n) rfl) fun w' hw => ?_⟩
    exact run_convert_int_string w' src dst k2 n (by rw [sh_int h1]; rfl) (sh_str h2)
  · rename_i v e h1 h2
    split at h
    · rename_i els hshe hels
      obtain ⟨h3, h4⟩ := need_some h
      obtain ⟨a, cap, rfl, hcap, hm, hnil, hcells⟩ := (slV_els (C := C) hH hx hels).ex
      have hrun : ∀ w' : World, (convert src dst (.slice a els.length cap)).run C.P w' = (Conv.bytesToString (.slice a els.length cap)).run C.P w' :=
        fun w' => run_convert_bytes_string w' src dst e a _ cap (sh_slice h1) (sh_int hshe) (sh_str h2)
      have hu8 : ∀ i (hi : i < els.length), ∃ n : Int, els[i] = [.int .u8 n] := fun i hi => by
        have := List.all_eq_true.1 h3 (els[i]) (List.getElem_mem hi)
        unfold isU8 at this
        split at this
        · rename_i n he; exact ⟨n, he⟩
        · cases this
      let ns : List Int := els.map fun el => (el.getD 0 .nilp).gI
      have hstr : (ns.foldl (fun r n => r.push (UInt8.ofNat n.toNat)) ByteArray.empty).data.toList = els.map elU8 := by
        have key : ∀ (l : List Int) (b : ByteArray), (l.foldl (fun r n => r.push (UInt8.ofNat n.toNat)) b).data.toList = b.data.toList ++ l.map fun n => UInt8.ofNat n.toNat := by
          intro l
          induction l with
          | nil => intro b; simp
          | cons n l ih => intro b; rw [List.foldl_cons, ih]; simp [ByteArray.push]
        rw [key]
        simp only [ns, List.map_map]
        rfl
      refine ⟨_, h4, .val rfl (.str (ns.foldl (fun r n => r.push (UInt8.ofNat n.toNat)) ByteArray.empty) hstr) fun w' hw => ?_⟩
      rw [hrun w']
      cases a with
      | none =>
        have hc0 := hnil rfl
        have : els = [] := List.length_eq_zero_iff.1 (by omega)
        subst this
        rfl
      | some a =>
        have hlen : ns.length = els.length := by simp [ns]
        rw [← hlen]
        refine run_bytesToString w' a ns.length cap ns ?_
        have := run_loadCells_list (P := C.P) w' a (ns.map (Value.int .u8)) (fun j v hj => ?_)
        · simpa using this
        · have hj' : j < els.length := by
            have := (List.getElem?_eq_some_iff.1 hj).1
            simpa [ns] using this
          have hne : els ≠ [] := by rintro rfl; simp at hj'
          obtain ⟨g, o, sz, ha, hsz, hc⟩ := hcells hne
          simp only [Option.some.injEq] at ha
          subst ha
          obtain ⟨n, hn⟩ := hu8 j hj'
          have hs1 : sz = 1 := by rw [← hsz j hj', hn]; rfl
          subst hs1
          obtain ⟨U, e1, e2⟩ := hc j hj' 0 (by rw [hn]; simp)
          simp only [hn, List.getElem_cons_zero] at e2
          have := e2.inv_int
          subst this
          rw [Nat.mul_one, Nat.add_zero] at e1
          rw [addr_add]
          refine (cell_ext hw e1).trans ?_
          have : v = .int .u8 n := by
            simp only [ns, List.map_map, List.getElem?_map, List.getElem?_eq_getElem hj', Option.map_some, Function.comp, hn, Option.some.injEq] at hj
            exact hj.symm
          rw [this]
    · cases h
  · cases h

end
end Go.Proofs.Ytfioahjeanmfpaa.E
