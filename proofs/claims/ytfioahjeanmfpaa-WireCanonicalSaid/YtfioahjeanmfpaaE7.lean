/-
  Operands; lengths, conversions, indices, slices, fields, composite values: what the evaluator says of them is what the model does.
-/
import Derived.Test.YtfioahjeanmfpaaE6
namespace Go.Proofs.Ytfioahjeanmfpaa.E
open Go
set_option linter.unusedVariables false

section
variable {Γ : Ctx} {H : List Blk} {w : World} {R : Type} {r : R}

theorem ofConst1_sound {sh : Nat → Option Shp} (v : Value) : VP Γ sh w (ofConst1 v) v ∧ (ofConst1 v).nms = [] := by
  unfold ofConst1
  split <;> first
    | exact ⟨.bool _, rfl⟩
    | exact ⟨.int _ _, rfl⟩
    | exact ⟨.str _ rfl, rfl⟩
    | exact ⟨.s _ _ .nilp, rfl⟩
    | exact ⟨.nsl, rfl⟩
    | exact ⟨.s _ _ .nilm, rfl⟩
    | exact ⟨.s _ _ .nilf, rfl⟩
    | exact ⟨.bad _, rfl⟩

theorem nmsL_nil {l : List PV} (h : ∀ v ∈ l, v.nms = []) : nmsL l = [] := by
  induction l with
  | nil => rfl
  | cons a l ih => simp [nmsL, h a (by simp), ih (fun v hv => h v (by simp [hv]))]

theorem ofConst_sound {sh : Nat → Option Shp} (v : Value) : VP Γ sh w (ofConst v) v ∧ (ofConst v).nms = [] := by
  unfold ofConst
  split
  · rename_i cs
    refine ⟨VP.mk_agg (by simp) fun j hj => ?_, ?_⟩
    · simp at hj
      exact ⟨cs[j], by simp [hj], by simpa using (ofConst1_sound cs[j]).1⟩
    · simp only [PV.nms]
      refine nmsL_nil fun v hv => ?_
      simp only [List.mem_map] at hv
      obtain ⟨u, _, rfl⟩ := hv
      exact (ofConst1_sound (Γ := Γ) (w := w) (sh := sh) u).2
  · rename_i a
    split
    · rename_i h
      obtain rfl : a = #[] := Array.eq_empty_of_size_eq_zero h
      exact ⟨VP.mk_tup (by simp) fun j hj => by simp at hj, rfl⟩
    · exact ⟨.bad _, rfl⟩
  · exact ofConst1_sound v

/-- The package-level variables that the evaluator knows. -/
def GOK (C : Cfg) (St : Nat → Prop) (w : World) : Prop :=
  (∀ g k zs, C.G.tab g = some (k, zs) → St g ∧ ∃ e x, w.heap[g]? = some (.cells (zs.map fun z => Value.int k z).toArray e x)) ∧ ∀ g, C.G.gi g = true → St g ∧ ∃ m, w.cell? ⟨g, 0, none⟩ = some (.int .i64 m)

theorem GOK.none {C : Cfg} {St : Nat → Prop} {w : World} (h : C.G = ⟨fun _ => none, fun _ => false⟩) : GOK C St w := by
  unfold GOK
  rw [h]
  refine ⟨fun g k zs h => ?_, fun g h => ?_⟩
  · simp at h
  · simp at h

theorem GOK.congr {C C' : Cfg} {St : Nat → Prop} {w : World} (h : C'.G = C.G) (hg : GOK C St w) : GOK C' St w := by
  unfold GOK at hg ⊢
  rw [h]
  exact hg

theorem tab_VS {St : Nat → Prop} {w : World} {g : Nat} {k : IntKind} {zs : List Int} (hs : St g) {e : Nat} {x : Nat × Nat} (h : w.heap[g]? = some (.cells (zs.map fun z => Value.int k z).toArray e x)) : VS St w (.sp [zs.map (SV.int k)] 0 0) (.pointer (some ⟨g, 0, none⟩)) := by
  have e : (0 : Nat) = 0 + 0 * zs.length + 0 := by omega
  rw [show (some (⟨g, 0, none⟩ : Addr)) = some ⟨g, 0 + 0 * zs.length + 0, none⟩ by rw [← e]]
  refine VS.sp [zs.map (SV.int k)] 0 0 g 0 zs.length (fun _ j => .int k (zs.getD j 0)) hs (fun i hi => ?_) (fun i hi j hj => ?_) (fun i hi j hj => ?_)
  · simp at hi; subst hi; simp
  · simp at hi; subst hi
    simp at hj
    simp [World.cell?, h, List.getD_eq_getElem?_getD, List.getElem?_eq_getElem hj]
  · simp at hi; subst hi
    simp at hj
    simp only [List.getElem_cons_zero, List.getElem_map, List.getD_eq_getElem?_getD, List.getElem?_eq_getElem hj, Option.getD_some]
    exact .int _ _

theorem opnd_sound {C : Cfg} {sl : List PV} {tmps : Array Value} {ds : List Deferred} (hG : GOK C Γ.St w) (hS : SR Γ H w sl tmps) (x : Operand) :
    VP Γ (shpOf H) w (opnd C sl x) (({ tmps := tmps, defers := ds } : Act).eval x) ∧ ∀ c ∈ (opnd C sl x).nms, c < H.length := by
  cases x with
  | tmp t =>
    simp only [opnd, Act.eval]
    by_cases ht : t < sl.length
    · obtain ⟨V, e, k⟩ := hS.slot t ht
      rw [getD_lt ht]
      refine ⟨by simpa [e] using k, fun c hc => hS.nms c (mem_nmsL.2 ⟨t, ht, hc⟩)⟩
    · have h1 : sl.getD t (.tup []) = .tup [] := by simp [List.getD, List.getElem?_eq_none (Nat.le_of_not_lt ht)]
      have h2 : tmps.getD t undef = undef := by
        have hle : tmps.size ≤ t := by rw [hS.size]; exact Nat.le_of_not_lt ht
        rw [Array.getD_eq_getD_getElem?, Array.getElem?_eq_none hle]; rfl
      rw [h1, h2]
      exact ⟨VP.mk_tup (by simp) fun j hj => by simp at hj, by simp [PV.nms, nmsL]⟩
  | const v =>
    have := ofConst_sound (Γ := Γ) (w := w) (sh := shpOf H) v
    exact ⟨this.1, by simp only [opnd]; rw [this.2]; simp⟩
  | global g =>
    simp only [opnd, Act.eval]
    cases hg : C.G.tab g with
    | none => exact ⟨.bad _, by simp [PV.nms]⟩
    | some kz =>
      obtain ⟨h1, e, x, h2⟩ := hG.1 g kz.1 kz.2 hg
      exact ⟨.s _ _ (tab_VS h1 h2), by simp [PV.nms]⟩
  | func f => exact ⟨.s _ _ (.fn (.func f) [] [] #[] #[] (fun _ => undef) (fun _ => undef) (by simp) rfl rfl (by simp) (by simp) (fun j h => by simp at h) (fun j h => by simp at h)), by simp [opnd, PV.nms]⟩

theorem sh_int {C : Cfg} {t : Nat} {k : IntKind} (h : C.sh t = .int k) : C.P.underlying t = some (.int k) := by
  simp only [Cfg.sh, shOf] at h; split at h <;> simp_all
theorem sh_str {C : Cfg} {t : Nat} (h : C.sh t = .str) : C.P.underlying t = some .string := by
  simp only [Cfg.sh, shOf] at h; split at h <;> simp_all

/-- A slice value, and where its elements lie. -/
structure SlV (Γ : Ctx) (w : World) (X : Value) (els : List (List SV)) : Prop where
  ex : ∃ a cap, X = .slice a els.length cap ∧ els.length ≤ cap ∧ cap ≤ maxLen ∧ (a = none → cap = 0) ∧
    (els ≠ [] → ∃ g o sz, a = some ⟨g, o, none⟩ ∧ (∀ i (h : i < els.length), (els[i]).length = sz) ∧ ∀ i (h : i < els.length) j (h' : j < (els[i]).length), ∃ U, w.cell? ⟨g, o + i * sz + j, none⟩ = some U ∧ VS Γ.St w (els[i][j]) U)

theorem shp_arr {b : Nat} {v : Bool} {e sz : Nat} {els : List (List SV)} (hb : H[b]? = some (.arr v e sz els)) {v' : Bool} {e' sz' n' : Nat} (h : shpOf H b = some (.arr v' e' sz' n')) :
    v = v' ∧ e = e' ∧ sz = sz' ∧ els.length = n' := by
  simp [shpOf, hb, Blk.shp] at h
  exact h

theorem slV_els {C : Cfg} {x : PV} {X : Value} {els : List (List SV)} (hH : HR Γ H w) (hx : VP Γ (shpOf H) w x X) (h : elsOf H x = some els) : SlV Γ w X els := by
  unfold elsOf at h
  split at h
  · cases hx
    simp only [Option.some.injEq] at h; subst h
    exact ⟨none, 0, rfl, Nat.le_refl _, Nat.zero_le _, fun _ => rfl, fun h => absurd rfl h⟩
  · simp only [Option.some.injEq] at h; subst h
    have hs := hx.inv_s
    cases hs with
    | nil t k => exact ⟨none, 0, rfl, Nat.le_refl _, Nat.zero_le _, fun _ => rfl, fun h => absurd rfl h⟩
    | emp t k a cap ht hm => exact ⟨some a, cap, rfl, Nat.zero_le _, hm, by simp, fun h => absurd rfl h⟩
    | sl t els g off n cap sz Vs hn hcap hm ht hg hl hc hv =>
      subst hn
      exact ⟨_, cap, rfl, hcap, hm, by simp, fun _ => ⟨g, off, _, rfl, hl, fun i h j h' => ⟨_, hc i h j h', hv i h j h'⟩⟩⟩
  · rename_i b
    split at h
    · rename_i v e sz els' hb
      simp only [Option.some.injEq] at h; subst h
      cases hx with
      | flv _ e' sz' h' =>
        obtain ⟨_, _, _, h4⟩ := shp_arr hb h'
        obtain rfl := List.length_eq_zero_iff.1 h4
        exact ⟨none, 0, rfl, Nat.le_refl _, Nat.zero_le _, fun _ => rfl, fun h => absurd rfl h⟩
      | fl _ g v' e' sz' n cap h' hv hg hcap hm hs =>
        obtain ⟨rfl, rfl, rfl, rfl⟩ := shp_arr hb h'
        refine ⟨_, cap, rfl, hcap, hm, by simp, fun hne => ?_⟩
        obtain ⟨hlt, hbe⟩ := List.getElem?_eq_some_iff.1 hb
        have := hH.blk b hlt
        rw [hbe] at this
        rcases this with h | ⟨_, g', cur, h1, h2, h3, h4, h5⟩
        · exact absurd h.2 hne
        · rw [hg] at h1; cases h1
          refine ⟨g, 0, _, rfl, h4, fun i hi j hj => ?_⟩
          obtain ⟨V, e1, e2⟩ := h5 i hi j hj
          exact ⟨V, by rw [cell_of_row w g _ cur _ (0, 0) h2, Nat.zero_add]; exact e1, e2⟩
    · cases h
  · rename_i b i n
    split at h
    · rename_i v e sz els' hb
      simp only [Option.some.injEq] at h; subst h
      cases hx with
      | vwv _ e' sz' _ h' => exact ⟨none, 0, by simp, by simp, Nat.zero_le _, fun _ => rfl, fun h => absurd (by simp) h⟩
      | vw _ _ _ g a cap v' e' sz' m h' hv hg ha hi hcap hm =>
        obtain ⟨rfl, rfl, rfl, rfl⟩ := shp_arr hb h'
        have hlen : ((els'.drop i).take n).length = n := by simp; omega
        refine ⟨some a, cap, by rw [hlen], by rw [hlen]; exact hcap, hm, by simp, fun hne => ?_⟩
        have hn0 : n ≠ 0 := by rintro rfl; simp at hne
        obtain ⟨hlt, hbe⟩ := List.getElem?_eq_some_iff.1 hb
        have := hH.blk b hlt
        rw [hbe] at this
        rcases this with h | ⟨_, g', cur, h1, h2, h3, h4, h5⟩
        · exact absurd (by simp [h.2]) hne
        · rw [hg] at h1; cases h1
          have hget : ∀ k (hk : k < ((els'.drop i).take n).length), ∃ h' : i + k < els'.length, ((els'.drop i).take n)[k] = els'[i + k] := fun k hk => by
            rw [hlen] at hk
            exact ⟨by omega, by simp⟩
          refine ⟨g, i * sz, sz, by rw [ha hn0], fun k hk => ?_, fun k hk j hj => ?_⟩
          · obtain ⟨h', e⟩ := hget k hk
            rw [e]; exact h4 _ h'
          · obtain ⟨h', e⟩ := hget k hk
            have hj' : j < (els'[i + k]).length := by rw [← e]; exact hj
            obtain ⟨V, e1, e2⟩ := h5 (i + k) h' j hj'
            refine ⟨V, ?_, by simp only [e]; exact e2⟩
            rw [cell_of_row w g _ cur _ (0, 0) h2, ← e1]
            congr 1
            rw [Nat.add_mul]
    · cases h
  · cases h

theorem lenOfP_els {x : PV} {n : Nat} (h : lenOfP H x = some n) (hs : ∀ l, x ≠ .s (.str l)) (hvw : ∀ b i m, x = .vw b i m → ∃ v e sz els, H[b]? = some (.arr v e sz els) ∧ i + m ≤ els.length) : ∃ els, elsOf H x = some els ∧ els.length = n := by
  unfold lenOfP at h
  split at h
  · simp only [Option.some.injEq] at h; subst h; exact ⟨[], rfl, rfl⟩
  · simp only [Option.some.injEq] at h; subst h; exact ⟨_, rfl, rfl⟩
  · exact absurd rfl (hs _)
  · split at h
    · rename_i hb
      simp only [Option.some.injEq] at h; subst h
      exact ⟨_, by simp [elsOf, hb], rfl⟩
    · cases h
  · rename_i b i m
    simp only [Option.some.injEq] at h; subst h
    obtain ⟨v, e, sz, els, hb, hle⟩ := hvw b i m rfl
    exact ⟨(els.drop i).take m, by simp only [elsOf, hb], by simp; omega⟩
  · cases h

theorem vw_bound {b i n : Nat} {X : Value} (hx : VP Γ (shpOf H) w (.vw b i n) X) : (∃ v e sz els, H[b]? = some (.arr v e sz els) ∧ i + n ≤ els.length) ∨ (n = 0 ∧ X = .slice none 0 0 ∧ ∃ v e sz els, H[b]? = some (.arr v e sz els)) := by
  have key : ∀ {s : Shp}, shpOf H b = some s → ∃ x, H[b]? = some x ∧ x.shp = s := fun h => by simpa [shpOf] using h
  cases hx with
  | vwv _ e' sz' _ h' =>
    obtain ⟨x, hx, hs⟩ := key h'
    cases x <;> simp [Blk.shp] at hs
    exact .inr ⟨rfl, rfl, _, _, _, _, hx⟩
  | vw _ _ _ g a cap v' e' sz' m h' hv hg ha hi hcap hm =>
    obtain ⟨x, hx, hs⟩ := key h'
    cases x <;> simp [Blk.shp] at hs
    obtain ⟨rfl, rfl, rfl, rfl⟩ := hs
    exact .inl ⟨_, _, _, _, hx, hi⟩

/-- The length of a slice value. -/
theorem lenOfP_slice {C : Cfg} {x : PV} {X : Value} {n : Nat} (hH : HR Γ H w) (hx : VP Γ (shpOf H) w x X) (h : lenOfP H x = some n) (hs : ∀ l, x ≠ .s (.str l)) : ∃ a cap, X = .slice a n cap ∧ n ≤ cap := by
  by_cases hv : ∃ b i m, x = .vw b i m
  · obtain ⟨b, i, m, rfl⟩ := hv
    simp only [lenOfP, Option.some.injEq] at h
    subst h
    cases hx with
    | vwv => exact ⟨none, 0, rfl, Nat.le_refl _⟩
    | vw _ _ _ g a cap v' e' sz' m h' hv hg ha hi hcap hm => exact ⟨some a, cap, rfl, hcap⟩
  · obtain ⟨els, e1, e2⟩ := lenOfP_els h hs (fun b i m e => absurd ⟨b, i, m, e⟩ hv)
    obtain ⟨a, cap, e3, e4, _⟩ := (slV_els (C := C) hH hx e1).ex
    subst e2
    exact ⟨a, cap, e3, e4⟩

theorem lenK_sound {C : Cfg} {x : PV} {X : Value} {t ty : Nat} {ts : List Nat} {k : PV → Option R} (hH : HR Γ H w) (h : lenK C x t H k = some r) (hx : VP Γ (shpOf H) w x X) :
    ∃ v, k v = some r ∧ QV C.P Γ H w (Builtin.len_ (t :: ts).toArray ty #[X]) v := by
  unfold lenK at h
  split at h
  · rename_i n e hsh
    exact ⟨_, h, .val rfl (.int _ _) fun w' _ => by simp [Builtin.len_, run_underlying (sh_array hsh), goInt]⟩
  · rename_i l hsh
    obtain ⟨s, rfl, rfl⟩ := hx.inv_str
    exact ⟨_, h, .val rfl (.int _ _) fun w' _ => by simp [Builtin.len_, run_underlying (sh_str hsh), goInt]⟩
  · cases h
  · rename_i e hsh hns
    split at h
    · rename_i n hn
      obtain ⟨a, cap, rfl, _⟩ := lenOfP_slice (C := C) hH hx hn (fun l e => hns l e)
      exact ⟨_, h, .val rfl (.int _ _) fun w' _ => by simp [Builtin.len_, run_underlying (sh_slice hsh), goInt]⟩
    · cases h
  · cases h

theorem minmaxK_sound {P : Program} {mx : Bool} {xs : List PV} {k : PV → Option R} (ts : Array TypeId) (ty : TypeId) (h : minmaxK mx xs k = some r) :
    ∃ v a b kd, k v = some r ∧ xs = [.s (.int kd a), .s (.int kd b)] ∧ QV P Γ H w (if mx then Builtin.max_ ts ty #[.int kd a, .int kd b] else Builtin.min_ ts ty #[.int kd a, .int kd b]) v := by
  unfold minmaxK at h
  split at h
  · rename_i kd a kd' b
    split at h
    · rename_i hk
      subst hk
      refine ⟨_, a, b, kd, h, rfl, .val rfl (.int _ _) fun w' _ => ?_⟩
      cases mx
      · simp [run_min_int2]
      · simp [run_max_int2]
    · cases h
  · cases h

end
end Go.Proofs.Ytfioahjeanmfpaa.E
