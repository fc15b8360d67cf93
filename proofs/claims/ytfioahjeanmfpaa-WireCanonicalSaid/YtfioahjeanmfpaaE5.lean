/-
  Equality of structs and arrays of plain cells; the binary operations.
-/
import Derived.Test.YtfioahjeanmfpaaE4
namespace Go.Proofs.Ytfioahjeanmfpaa.E
open Go
set_option linter.unusedVariables false

theorem eqCells_length : ∀ {x y : List PV} {b : Bool}, eqCells x y = some b → x.length = y.length
  | [], [], _, _ => rfl
  | a :: x, c :: y, b, h => by
    simp only [eqCells] at h
    split at h
    · rename_i p q h1 h2
      simp [eqCells_length h2]
    · cases h
  | [], _ :: _, _, h => by simp [eqCells] at h
  | _ :: _, [], _, h => by simp [eqCells] at h

theorem eqCells_append : ∀ {x x' y y' : List PV} {b : Bool}, x.length = y.length → eqCells (x ++ x') (y ++ y') = some b → ∃ p q, eqCells x y = some p ∧ eqCells x' y' = some q ∧ b = (p && q)
  | [], x', [], y', b, _, h => ⟨true, b, rfl, h, by simp⟩
  | a :: x, x', c :: y, y', b, hl, h => by
    simp only [List.cons_append, eqCells] at h
    split at h
    · rename_i p q h1 h2
      obtain ⟨p', q', e1, e2, rfl⟩ := eqCells_append (by simpa using hl) h2
      refine ⟨p && p', q', by simp [eqCells, h1, e1], e2, ?_⟩
      simp only [Option.some.injEq] at h
      rw [← h, Bool.and_assoc]
    · cases h
  | [], _, _ :: _, _, _, hl, _ => by simp at hl
  | _ :: _, _, [], _, _, hl, _ => by simp at hl

/-- Cells of kinds. -/
def KS (ks : List CK) (x : List PV) : Prop := x.length = ks.length ∧ ∀ j (h : j < ks.length) (h' : j < x.length), (x[j]).has (ks[j]) = true

theorem KS.append_inv {a b : List CK} {x : List PV} (h : KS (a ++ b) x) : ∃ y z, x = y ++ z ∧ KS a y ∧ KS b z := by
  obtain ⟨hl, hk⟩ := h
  refine ⟨x.take a.length, x.drop a.length, (List.take_append_drop _ _).symm, ⟨by simp at hl ⊢; omega, fun j h h' => ?_⟩, ⟨by simp at hl ⊢; omega, fun j h h' => ?_⟩⟩
  · have := hk j (by simp; omega) (by simp at h'; omega)
    simpa [List.getElem_append_left h] using this
  · have := hk (a.length + j) (by simp; omega) (by simp at h'; omega)
    simpa [List.getElem_append_right] using this

/-- The cells of a row from 'off' on. -/
def At (Γ : Ctx) (sh : Nat → Option Shp) (w : World) (A : Array Value) (off : Nat) (x : List PV) : Prop := ∀ j (h : j < x.length), ∃ U, A[off + j]? = some U ∧ VP Γ sh w (x[j]) U

theorem At.append_inv {Γ : Ctx} {sh : Nat → Option Shp} {w : World} {A : Array Value} {off : Nat} {x y : List PV} (h : At Γ sh w A off (x ++ y)) : At Γ sh w A off x ∧ At Γ sh w A (off + x.length) y := by
  refine ⟨fun j hj => ?_, fun j hj => ?_⟩
  · obtain ⟨U, e, k⟩ := h j (by simp; omega)
    exact ⟨U, e, by simpa [List.getElem_append_left hj] using k⟩
  · obtain ⟨U, e, k⟩ := h (x.length + j) (by simp; omega)
    exact ⟨U, by rw [← e]; congr 1; omega, by simpa [List.getElem_append_right] using k⟩

def isAggD : TypeDesc → Bool
  | .struct _ => true
  | .array _ _ => true
  | _ => false

theorem run_isAgg {P : Program} {t : TypeId} {d : TypeDesc} (h : P.underlying t = some d) (w : World) : (isAgg t).run P w = .ok (isAggD d) w := by
  unfold isAgg
  rw [Sem.run_bind, run_underlying h w]
  cases d <;> simp [isAggD]

theorem run_part_agg {P : Program} {t : TypeId} {d : TypeDesc} {i : TypeInfo} (h : P.underlying t = some d) (hd : isAggD d = true) (hi : P.info? t = some i) (A : Array Value) (off : Nat) (w : World) :
    (part t A off).run P w = .ok (.agg (A.extract off (off + i.size))) w := by
  simp [part, run_isAgg h, hd, sizeOf, typeInfo, hi]

theorem run_part_one {P : Program} {t : TypeId} {d : TypeDesc} (h : P.underlying t = some d) (hd : isAggD d = false) {A : Array Value} {off : Nat} {U : Value} (hU : A[off]? = some U) (w : World) :
    (part t A off).run P w = .ok U w := by
  simp [part, run_isAgg h, hd, hU]

theorem At.extract {Γ : Ctx} {sh : Nat → Option Shp} {w : World} {A : Array Value} {off n : Nat} {x : List PV} (h : At Γ sh w A off x) (hn : x.length ≤ n) : At Γ sh w (A.extract off (off + n)) 0 x := by
  intro j hj
  obtain ⟨U, e, k⟩ := h j hj
  refine ⟨U, ?_, k⟩
  rw [Nat.zero_add, Array.getElem?_extract]
  have : off + j < A.size := (Array.getElem?_eq_some_iff.1 e).1
  rw [if_pos (by omega)]
  exact e

/-- What 'part' hands out of a row, and that '==' on two such is the comparison of the cells. -/
def EqAt (P : Program) (d : Nat) (t : TypeId) (ks : List CK) : Prop :=
  ∀ (Γ : Ctx) (sh : Nat → Option Shp) (w : World) (A B : Array Value) (off off' : Nat) (x y : List PV) (b : Bool), KS ks x → KS ks y → At Γ sh w A off x → At Γ sh w B off' y → eqCells x y = some b →
    ∀ (D : Nat), d ≤ D → ∀ w', ∃ a c, (part t A off).run P w' = .ok a w' ∧ (part t B off').run P w' = .ok c w' ∧ (Op.equalIn D t a c).run P w' = .ok b w'

theorem eq_one {P : Program} {t : TypeId} {dd : TypeDesc} {ck : CK} (hu : P.underlying t = some dd) (hd : isAggD dd = false)
    (hq : ∀ (p q : PV) (b : Bool), p.has ck = true → q.has ck = true → eqCell p q = some b → ∀ (Γ : Ctx) (sh : Nat → Option Shp) (w : World) U V, VP Γ sh w p U → VP Γ sh w q V → ∀ D w', (Op.equalIn (D + 1) t U V).run P w' = .ok b w') :
    EqAt P 1 t [ck] := by
  intro Γ sh w A B off off' x y b hkx hky hA hB he D hD w'
  obtain ⟨hlx, hx⟩ := hkx
  obtain ⟨hly, hy⟩ := hky
  match x, y, hlx, hly with
  | [p], [q], _, _ =>
    obtain ⟨U, e1, k1⟩ := hA 0 (by simp)
    obtain ⟨V, e2, k2⟩ := hB 0 (by simp)
    simp only [Nat.add_zero] at e1 e2
    obtain ⟨D, rfl⟩ : ∃ D', D = D' + 1 := ⟨D - 1, by omega⟩
    simp only [eqCells] at he
    split at he
    · rename_i p' q' h1 h2
      simp only [Option.some.injEq] at h2 he
      subst h2 he
      refine ⟨U, V, run_part_one hu hd e1 w', run_part_one hu hd e2 w', ?_⟩
      rw [Bool.and_true]
      exact hq p q p' (by simpa using hx 0 (by simp) (by simp)) (by simpa using hy 0 (by simp) (by simp)) h1 Γ sh w U V k1 k2 D w'
    · cases he

theorem has_s {c : CK} {p : PV} (h : p.has c = true) (hc : c = .bool ∨ (∃ k, c = .int k) ∨ c = .str) : ∃ x, p = .s x ∧ x.has c = true := by
  rcases hc with rfl | ⟨k, rfl⟩ | rfl <;> cases p <;> simp_all [PV.has]

theorem eqFields_run {P : Program} {d : Nat} {f : Nat → Option (List CK)} (hf : ∀ t ks, f t = some ks → EqAt P d t ks) {Γ : Ctx} {sh : Nat → Option Shp} {w : World} {A B : Array Value} {D : Nat} (hD : d ≤ D) (w' : World) :
    ∀ (fs : List Field) (off : Nat) (ks : List CK) (x y : List PV) (b : Bool), leafsF f fs off = some ks → KS ks x → KS ks y → At Γ sh w A off x → At Γ sh w B off y → eqCells x y = some b →
      (Op.eqFields D A B fs).run P w' = .ok b w'
  | [], off, ks, x, y, b, h, hx, hy, _, _, he => by
    simp only [leafsF, Option.some.injEq] at h
    subst h
    obtain rfl := List.eq_nil_of_length_eq_zero hx.1
    obtain rfl := List.eq_nil_of_length_eq_zero hy.1
    simp only [eqCells, Option.some.injEq] at he
    subst he
    simp [Op.eqFields]
  | g :: fs, off, ks, x, y, b, h, hx, hy, hA, hB, he => by
    simp only [leafsF] at h
    split at h
    · rename_i hc
      simp only [Bool.and_eq_true, beq_iff_eq, bne_iff_ne, ne_eq] at hc
      split at h
      · rename_i a ha
        split at h
        · rename_i c hc2
          simp only [Option.some.injEq] at h
          subst h
          obtain ⟨x1, x2, rfl, hx1, hx2⟩ := hx.append_inv
          obtain ⟨y1, y2, rfl, hy1, hy2⟩ := hy.append_inv
          obtain ⟨p, q, e1, e2, rfl⟩ := eqCells_append (by rw [hx1.1, hy1.1]) he
          have hA' := hA.append_inv
          have hB' := hB.append_inv
          obtain ⟨u, v, r1, r2, r3⟩ := hf g.type a ha Γ sh w A B off off x1 y1 p hx1 hy1 hA'.1 hB'.1 e1 D hD w'
          have ih := eqFields_run hf hD w' fs (off + a.length) c x2 y2 q hc2 hx2 hy2 (by rw [← hx1.1]; exact hA'.2) (by rw [← hy1.1]; exact hB'.2) e2
          simp only [Op.eqFields]
          rw [if_pos hc.2, hc.1]
          simp only [Sem.run_bind, r1, r2, r3, Result.andThen_ok, Sem.run_ite, Sem.run_pure, ih]
          cases p <;> simp
        · cases h
      · cases h
    · cases h

/-- The run of '==' on two arrays, element by element. -/
theorem run_eq_array {P : Program} {D : Nat} {t e : TypeId} {n : Nat} {i : TypeInfo} (hu : P.underlying t = some (.array n e)) (hi : P.info? e = some i) {A B : Array Value} (w' : World) (q : Nat → Bool)
    (h : ∀ j, j < n → ∃ a c, (part e A (j * i.size)).run P w' = .ok a w' ∧ (part e B (j * i.size)).run P w' = .ok c w' ∧ (Op.equalIn D e a c).run P w' = .ok (q j) w') :
    (Op.equalIn (D + 1) t (.agg A) (.agg B)).run P w' = .ok ((List.range n).all q) w' := by
  simp only [Op.equalIn, Sem.run_bind, run_underlying hu, Result.andThen_ok, sizeOf, typeInfo, run_program, hi, Sem.run_pure]
  rw [Std.Legacy.Range.forIn_eq_forIn_range']
  simp only [Std.Legacy.Range.size, Nat.sub_zero, Nat.add_sub_cancel, Nat.div_one]
  have key : ∀ (m s : Nat), s + m = n →
      (Sem.run P (forIn (m := Sem) (List.range' s m 1) ((none, ()) : Option Bool × Unit) fun i_1 __s => do
            let __do_lift ← part e A (i_1 * i.size)
            let __do_lift_1 ← part e B (i_1 * i.size)
            let __do_lift ← Op.equalIn D e __do_lift __do_lift_1
            if (!__do_lift) = true then pure (ForInStep.done (some false, ())) else pure (ForInStep.yield (none, ()))) w') =
        .ok (if ((List.range' s m).all q) then (none, ()) else (some false, ())) w' := by
    intro m
    induction m with
    | zero => intro s hs; simp
    | succ m ih =>
      intro s hs
      obtain ⟨a, c, r1, r2, r3⟩ := h s (by omega)
      simp only [List.range'_succ, List.forIn_cons, Sem.run_bind, r1, r2, r3, Result.andThen_ok, Sem.run_ite, Sem.run_pure]
      cases hq : q s
      · simp [hq]
      · simp only [Bool.not_true, Bool.false_eq_true, if_false, Result.andThen_ok]
        rw [ih (s + 1) (by omega)]
        simp only [List.all_cons, hq, Bool.true_and]
  have := key n 0 (by omega)
  rw [List.range_eq_range']
  rw [this]
  cases (List.range' 0 n).all q <;> simp

theorem flatten_replicate_succ {α : Type} (n : Nat) (a : List α) : (List.replicate (n + 1) a).flatten = a ++ (List.replicate n a).flatten := by
  rw [List.replicate_succ, List.flatten_cons]

/-- The cells of an array compared, element by element. -/
theorem eqCells_chunks : ∀ (n : Nat) (a : List CK) (x y : List PV) (b : Bool), KS (List.replicate n a).flatten x → KS (List.replicate n a).flatten y → eqCells x y = some b →
    ∃ q : Nat → Bool, b = (List.range n).all q ∧ ∀ j, j < n → ∃ u v, KS a u ∧ KS a v ∧ eqCells u v = some (q j) ∧
      (∃ p r, x = p ++ (u ++ r) ∧ p.length = j * a.length) ∧ (∃ p r, y = p ++ (v ++ r) ∧ p.length = j * a.length)
  | 0, a, x, y, b, hx, hy, he => by
    simp only [List.replicate_zero, List.flatten_nil] at hx hy
    obtain rfl := List.eq_nil_of_length_eq_zero hx.1
    obtain rfl := List.eq_nil_of_length_eq_zero hy.1
    simp only [eqCells, Option.some.injEq] at he
    exact ⟨fun _ => true, by simp [he], fun j hj => by omega⟩
  | n + 1, a, x, y, b, hx, hy, he => by
    rw [flatten_replicate_succ] at hx hy
    obtain ⟨x1, x2, rfl, hx1, hx2⟩ := hx.append_inv
    obtain ⟨y1, y2, rfl, hy1, hy2⟩ := hy.append_inv
    obtain ⟨p, q, e1, e2, rfl⟩ := eqCells_append (by rw [hx1.1, hy1.1]) he
    obtain ⟨qq, rfl, hq⟩ := eqCells_chunks n a x2 y2 q hx2 hy2 e2
    refine ⟨fun j => match j with | 0 => p | j + 1 => qq j, ?_, fun j hj => ?_⟩
    · rw [List.range_succ_eq_map, List.all_cons, List.all_map]
      rfl
    · cases j with
      | zero => exact ⟨x1, y1, hx1, hy1, e1, ⟨[], x2, rfl, by simp⟩, ⟨[], y2, rfl, by simp⟩⟩
      | succ j =>
        obtain ⟨u, v, k1, k2, k3, ⟨p1, r1, h1, h2⟩, ⟨p2, r2, h3, h4⟩⟩ := hq j (by omega)
        exact ⟨u, v, k1, k2, k3, ⟨x1 ++ p1, r1, by rw [h1, List.append_assoc], by rw [List.length_append, h2, hx1.1, Nat.add_mul]; omega⟩, ⟨y1 ++ p2, r2, by rw [h3, List.append_assoc], by rw [List.length_append, h4, hy1.1, Nat.add_mul]; omega⟩⟩

theorem At.mid {Γ : Ctx} {sh : Nat → Option Shp} {w : World} {A : Array Value} {off : Nat} {p u r : List PV} (h : At Γ sh w A off (p ++ (u ++ r))) : At Γ sh w A (off + p.length) u :=
  (h.append_inv.2).append_inv.1

theorem eqAt_leafs {P : Program} : ∀ (d t : Nat) (ks : List CK), leafs P d t = some ks → EqAt P d t ks
  | 0, t, ks, h => by simp [leafs] at h
  | d + 1, t, ks, h => by
    have ih := eqAt_leafs (P := P) d
    simp only [leafs] at h
    split at h
    · rename_i hu
      simp only [Option.some.injEq] at h
      subst h
      have := eq_one (P := P) (ck := .bool) hu rfl (fun p q b hp hq he Γ sh w U V hU hV D w' => by
        obtain ⟨x, rfl, hx⟩ := has_s hp (.inl rfl)
        obtain ⟨y, rfl, hy⟩ := has_s hq (.inl rfl)
        cases x <;> simp [SV.has] at hx
        cases y <;> simp [SV.has] at hy
        obtain rfl := hU.inv_bool
        obtain rfl := hV.inv_bool
        simp only [eqCell, Option.some.injEq] at he
        subst he
        exact run_equalIn_bool' w' D t _ _ hu)
      exact fun Γ sh w A B off off' x y b h1 h2 h3 h4 h5 D hD => this Γ sh w A B off off' x y b h1 h2 h3 h4 h5 D (by omega)
    · rename_i k hu
      simp only [Option.some.injEq] at h
      subst h
      have := eq_one (P := P) (ck := .int k) hu rfl (fun p q b hp hq he Γ sh w U V hU hV D w' => by
        obtain ⟨x, rfl, hx⟩ := has_s hp (.inr (.inl ⟨k, rfl⟩))
        obtain ⟨y, rfl, hy⟩ := has_s hq (.inr (.inl ⟨k, rfl⟩))
        cases x <;> simp [SV.has] at hx
        cases y <;> simp [SV.has] at hy
        subst hx hy
        obtain rfl := hU.inv_int
        obtain rfl := hV.inv_int
        simp only [eqCell, if_true, Option.some.injEq] at he
        subst he
        exact run_equalIn_int w' D t _ _ _ _ hu)
      exact fun Γ sh w A B off off' x y b h1 h2 h3 h4 h5 D hD => this Γ sh w A B off off' x y b h1 h2 h3 h4 h5 D (by omega)
    · rename_i hu
      simp only [Option.some.injEq] at h
      subst h
      have := eq_one (P := P) (ck := .str) hu rfl (fun p q b hp hq he Γ sh w U V hU hV D w' => by
        obtain ⟨x, rfl, hx⟩ := has_s hp (.inr (.inr rfl))
        obtain ⟨y, rfl, hy⟩ := has_s hq (.inr (.inr rfl))
        cases x <;> simp [SV.has] at hx
        cases y <;> simp [SV.has] at hy
        obtain ⟨s1, rfl, rfl⟩ := hU.inv_str
        obtain ⟨s2, rfl, rfl⟩ := hV.inv_str
        simp only [eqCell, Option.some.injEq] at he
        subst he
        rw [← ByteArray.toList_eq, ← ByteArray.toList_eq]
        exact run_equalIn_string w' D t _ _ hu)
      exact fun Γ sh w A B off off' x y b h1 h2 h3 h4 h5 D hD => this Γ sh w A B off off' x y b h1 h2 h3 h4 h5 D (by omega)
    · rename_i fs hu
      split at h
      · cases h
      · rename_i hst
        split at h
        · rename_i ks' hl
          split at h
          · rename_i hsz
            simp only [Option.some.injEq] at h
            subst h
            simp only [beq_iff_eq, Option.map_eq_some_iff] at hsz
            obtain ⟨i, hi, hsz⟩ := hsz
            intro Γ sh w A B off off' x y b hkx hky hA hB he D hD w'
            obtain ⟨D, rfl⟩ : ∃ D', D = D' + 1 := ⟨D - 1, by omega⟩
            refine ⟨_, _, run_part_agg hu rfl hi A off w', run_part_agg hu rfl hi B off' w', ?_⟩
            have hf : P.fieldsOf t = fs := by simp [Program.fieldsOf, hu]
            rw [run_equalIn_struct w' D t _ _ (by rw [hf]; exact hu) (by simpa using hst), hf]
            exact eqFields_run ih (Γ := Γ) (sh := sh) (w := w) (by omega) w' fs.toList 0 _ x y b hl hkx hky (hA.extract (by rw [hkx.1, hsz]; exact Nat.le_refl _)) (hB.extract (by rw [hky.1, hsz]; exact Nat.le_refl _)) he
          · cases h
        · cases h
    · rename_i n e hu
      split at h
      · rename_i a ha
        split at h
        · rename_i hsz
          simp only [Option.some.injEq] at h
          subst h
          simp only [Bool.and_eq_true, beq_iff_eq, Option.map_eq_some_iff] at hsz
          obtain ⟨⟨ie, hie, hse⟩, it, hit, hst⟩ := hsz
          intro Γ sh w A B off off' x y b hkx hky hA hB he D hD w'
          obtain ⟨D, rfl⟩ : ∃ D', D = D' + 1 := ⟨D - 1, by omega⟩
          refine ⟨_, _, run_part_agg hu rfl hit A off w', run_part_agg hu rfl hit B off' w', ?_⟩
          obtain ⟨q, rfl, hq⟩ := eqCells_chunks n a x y b hkx hky he
          have hA' : At Γ sh w (A.extract off (off + it.size)) 0 x := hA.extract (by rw [hkx.1, hst]; exact Nat.le_refl _)
          have hB' : At Γ sh w (B.extract off' (off' + it.size)) 0 y := hB.extract (by rw [hky.1, hst]; exact Nat.le_refl _)
          refine run_eq_array hu hie w' q fun j hj => ?_
          obtain ⟨u, v, k1, k2, k3, ⟨p1, r1, h1, h2⟩, ⟨p2, r2, h3, h4⟩⟩ := hq j hj
          have m1 : At Γ sh w (A.extract off (off + it.size)) (j * ie.size) u := by
            have := (by rw [h1] at hA'; exact hA'.mid : At Γ sh w (A.extract off (off + it.size)) (0 + p1.length) u)
            rw [h2, Nat.zero_add, ← hse] at this
            exact this
          have m2 : At Γ sh w (B.extract off' (off' + it.size)) (j * ie.size) v := by
            have := (by rw [h3] at hB'; exact hB'.mid : At Γ sh w (B.extract off' (off' + it.size)) (0 + p2.length) v)
            rw [h4, Nat.zero_add, ← hse] at this
            exact this
          exact ih e a ha Γ sh w _ _ _ _ u v (q j) k1 k2 m1 m2 k3 D (by omega) w'
        · cases h
      · cases h
    · cases h

theorem okP_KS {t : TI} {x : List PV} (h : okP t x 0 = true) (hl : x.length = t.ks.length) : KS t.ks x := by
  refine ⟨hl, fun j hj hj' => ?_⟩
  simp only [okP, Bool.and_eq_true, List.all_eq_true] at h
  have := h.2 (t.ks[j], j) (by rw [List.mem_zipIdx_iff_getElem?]; simp [hj])
  simpa [List.getD, List.getElem?_eq_getElem hj'] using this

section
variable {Γ : Ctx} {H : List Blk} {w : World} {R : Type} {r : R}

theorem zeroAll_length : ∀ {ks : List CK} {l : List Value}, zeroAll ks l = true → ks.length = l.length
  | [], [], _ => rfl
  | c :: r, v :: q, h => by
    simp only [zeroAll, Bool.and_eq_true] at h
    simp [zeroAll_length h.2]
  | [], _ :: _, h => by simp [zeroAll] at h
  | _ :: _, [], h => by simp [zeroAll] at h

theorem ti_spec {C : Cfg} {t : Nat} (h : (C.ti t).ok = true) : ∃ i d z, C.P.info? t = some i ∧ C.P.underlying t = some d ∧ i.zero = some z ∧ i.size = z.cells.size ∧ i.bytes ≤ 512 ∧ 0 < i.size ∧
    zeroAll (C.ti t).ks z.cells.toList = true ∧ (C.ti t).agg = isAggD d ∧ i.size = (C.ti t).ks.length := by
  simp only [Cfg.ti, tiOf] at h ⊢
  split at h
  · rename_i i d ks hi hd hks
    split at h
    · rename_i z hz
      simp only [Bool.and_eq_true, beq_iff_eq, decide_eq_true_eq] at h
      refine ⟨i, d, z, hi, hd, hz, h.1.1.1, h.1.1.2, h.1.2, h.2, ?_, ?_⟩
      · cases d <;> rfl
      · rw [h.1.1.1, zeroAll_length h.2]; simp
    · cases h
  · cases h

theorem eqAgg_sound {C : Cfg} {t : Nat} {x y : List PV} {X Y : Value} {b : Bool} (hc : (eqOk C.P t && (C.ti t).agg && okP (C.ti t) x 0 && okP (C.ti t) y 0 && decide (x.length = (C.ti t).ks.length)) = true) (he : eqCells x y = some b)
    (hx : VP Γ (shpOf H) w (.agg x) X) (hy : VP Γ (shpOf H) w (.agg y) Y) (w' : World) :
    (∀ ox oy, (do eqGuard .eql t ox oy X Y; binOp .eql t X Y).run C.P w' = .ok (.bool b) w') ∧ (∀ ox oy, (do eqGuard .neq t ox oy X Y; binOp .neq t X Y).run C.P w' = .ok (.bool (!b)) w') := by
  simp only [Bool.and_eq_true, decide_eq_true_eq, eqOk, beq_iff_eq, Bool.not_eq_true'] at hc
  obtain ⟨⟨⟨⟨⟨h1, h2⟩, h6⟩, h3⟩, h4⟩, h5⟩ := hc
  have h5' : y.length = (C.ti t).ks.length := by rw [← eqCells_length he]; exact h5
  obtain ⟨A, rfl, hA1, hA2⟩ := hx.inv_agg
  obtain ⟨B, rfl, hB1, hB2⟩ := hy.inv_agg
  have hat := eqAt_leafs (P := C.P) 20 t _ h1 Γ (shpOf H) w A B 0 0 x y b (okP_KS h3 h5) (okP_KS h4 h5') (fun j h => by simpa using hA2 j h) (fun j h => by simpa using hB2 j h) he 10000 (by omega) w'
  obtain ⟨a, c, r1, r2, r3⟩ := hat
  have hagg : ∃ i dd, C.P.info? t = some i ∧ C.P.underlying t = some dd ∧ isAggD dd = true ∧ i.size = x.length := by
    have hok : (C.ti t).ok = true := by simp only [okP, Bool.and_eq_true] at h3; exact h3.1
    obtain ⟨i, d, z, e1, e2, e3, e4, e5, e6, e7, e8, e9⟩ := ti_spec hok
    exact ⟨i, d, e1, e2, by rw [← e8]; exact h6, by rw [e9, h5]⟩
  obtain ⟨i, dd, hi, hu, hd, hs⟩ := hagg
  rw [run_part_agg hu hd hi] at r1 r2
  simp only [Result.ok.injEq, and_true] at r1 r2
  have e1 : A.extract 0 (0 + i.size) = A := by rw [hs, Nat.zero_add, ← hA1]; simp
  have e2 : B.extract 0 (0 + i.size) = B := by rw [hs, Nat.zero_add, eqCells_length he, ← hB1]; simp
  rw [e1] at r1; rw [e2] at r2
  subst r1 r2

  have r4 : (Op.equal t (.agg A) (.agg B)).run C.P w' = .ok b w' := r3
  exact eq_runs r4 (fun op ox oy => run_eqGuard_agg w' op t ox oy A B h2) (by simp [binOp]) (by simp [binOp])

/-- THE BINARY OPERATIONS. -/
theorem binK_sound {C : Cfg} {op : BinOp} {t : Nat} {ox oy : Operand} {x y : PV} {X Y : Value} {k : PV → Option R} (h : binK C op t x y H k = some r) (hx : VP Γ (shpOf H) w x X) (hy : VP Γ (shpOf H) w y Y) :
    ∃ v, k v = some r ∧ QV C.P Γ H w (do eqGuard op t ox oy X Y; binOp op t X Y) v := by
  unfold binK at h
  split at h
  · obtain rfl := hx.inv_int; obtain rfl := hy.inv_int
    obtain ⟨h1, h2⟩ := need_some h
    simp only [decide_eq_true_eq] at h1
    refine ⟨_, h2, .val rfl (.int _ _) fun w' _ => ?_⟩
    simp [eqGuard, binOp, Op.shift, Int.not_lt.2 h1]
  · obtain rfl := hx.inv_int; obtain rfl := hy.inv_int
    obtain ⟨h1, h2⟩ := need_some h
    simp only [decide_eq_true_eq] at h1
    refine ⟨_, h2, .val rfl (.int _ _) fun w' _ => ?_⟩
    simp [eqGuard, binOp, Op.shift, Int.not_lt.2 h1]
  · obtain rfl := hx.inv_int; obtain rfl := hy.inv_int
    obtain ⟨h1, h2⟩ := need_some h
    simp only [Bool.and_eq_true, decide_eq_true_eq, bne_iff_ne, ne_eq] at h1
    obtain ⟨rfl, h1⟩ := h1
    refine ⟨_, h2, .val rfl (.int _ _) fun w' _ => ?_⟩
    simp [eqGuard, binOp, Op.intDiv, h1]
  · obtain rfl := hx.inv_int; obtain rfl := hy.inv_int
    obtain ⟨h1, h2⟩ := need_some h
    simp only [Bool.and_eq_true, decide_eq_true_eq, bne_iff_ne, ne_eq] at h1
    obtain ⟨rfl, h1⟩ := h1
    refine ⟨_, h2, .val rfl (.int _ _) fun w' _ => ?_⟩
    simp [eqGuard, binOp, Op.intDiv, h1]
  · obtain rfl := hx.inv_int; obtain rfl := hy.inv_int
    split at h
    · rename_i hk
      subst hk
      split at h
      · rename_i v hv
        exact ⟨v, h, binI_sound hv⟩
      · cases h
    · cases h
  · obtain ⟨a, rfl, rfl⟩ := hx.inv_str; obtain ⟨b, rfl, rfl⟩ := hy.inv_str
    obtain ⟨h1, h2⟩ := need_some h
    simp only [decide_eq_true_eq] at h1
    refine ⟨_, h2, .val rfl (.str (a ++ b) (by simp)) fun w' _ => ?_⟩
    have e1 : a.size = a.data.toList.length := by rw [Array.length_toList]; rfl
    have e2 : b.size = b.data.toList.length := by rw [Array.length_toList]; rfl
    have : ¬ (((a.size + b.size : Nat) : Int) > IntKind.i64.max) := by rw [e1, e2]; simp [IntKind.max, IntKind.signed, IntKind.bits]; omega
    simp only [eqGuard, binOp, Op.stringOp, Sem.run_bind]
    rw [if_neg this]
    simp
  · rename_i hne
    obtain ⟨a, rfl, rfl⟩ := hx.inv_str; obtain ⟨b, rfl, rfl⟩ := hy.inv_str
    split at h
    · rename_i v hv
      exact ⟨v, h, binS_sound hv (by rintro rfl; exact hne rfl)⟩
    · cases h
  · split at h
    · rename_i hc
      split at h
      · rename_i b hb
        exact ⟨_, h, .val rfl (.bool _) fun w' _ => (eqAgg_sound hc hb hx hy w').1 ox oy⟩
      · cases h
    · cases h
  · split at h
    · rename_i hc
      split at h
      · rename_i b hb
        exact ⟨_, h, .val rfl (.bool _) fun w' _ => (eqAgg_sound hc hb hx hy w').2 ox oy⟩
      · cases h
    · cases h
  · split at h
    · rename_i b hb
      exact ⟨_, h, .val rfl (.bool _) fun w' _ => (eqPV_sound hb hx hy w').1 ox oy⟩
    · cases h
  · split at h
    · rename_i b hb
      exact ⟨_, h, .val rfl (.bool _) fun w' _ => (eqPV_sound hb hx hy w').2 ox oy⟩
    · cases h
  · cases h
end
end Go.Proofs.Ytfioahjeanmfpaa.E
