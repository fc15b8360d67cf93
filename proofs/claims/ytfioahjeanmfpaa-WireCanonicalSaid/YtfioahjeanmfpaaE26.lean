/-
  The code.
-/
import Derived.Test.YtfioahjeanmfpaaE34
namespace Go.Proofs.Ytfioahjeanmfpaa.E
open Go
set_option linter.unusedVariables false


section
variable {σ R : Type} {r : R} {C : Cfg} {I : σ → (Nat → Prop) → (Nat → Prop) → World → Prop} {Γ : Ctx} {Φ : Nat → Prop} {st : St σ} {a : Act} {w : World} {cl : CallT} {yh : Yh σ} {yv : Value} {o : Oper} {H : List Blk}

theorem cut_mono (hH : HR Γ H w) {L : Nat} (hL : L ≤ H.length) : Mono Γ (shpOf H) w (Γ.cut L) (shpOf (H.take L)) w (· < L) :=
  ⟨fun _ _ => rfl, fun _ h => .inl h, fun b hb => by simp only [Ctx.cut]; rw [if_pos hb], fun b hb => by simp only [shpOf, List.getElem?_take]; rw [if_pos hb], fun _ _ _ _ => rfl, rfl⟩

theorem cut_HR (hH : HR Γ H w) {L : Nat} (hL : L ≤ H.length) (hlow : lowH L (H.take L) = true) : HR (Γ.cut L) (H.take L) w := by
  have hlow' := lowH_spec hlow
  have hlen : (H.take L).length = L := by rw [List.length_take]; omega
  have key : ∀ b g, (Γ.cut L).nm b = some g → b < L ∧ Γ.nm b = some g := fun b g h => by
    simp only [Ctx.cut] at h
    split at h
    · exact ⟨‹_›, h⟩
    · cases h
  refine ⟨fun b b' g h1 h2 => hH.inj b b' g (key b g h1).2 (key b' g h2).2, fun b g h => ?_, fun g hg => ?_, fun b hb c hc => ?_, fun b hb => ?_⟩
  · obtain ⟨h1, h2⟩ := key b g h
    have := hH.lt b g h2
    refine ⟨by omega, this.2.1, ?_⟩
    rintro (h3 | ⟨b', h3, h4⟩)
    · exact this.2.2 h3
    · have := hH.inj b b' g h2 h4; omega
  · rcases hg with hg | ⟨b, _, hg⟩
    · exact hH.stlt g hg
    · exact (hH.lt b g hg).2.1
  · rw [hlen]
    exact hlow' _ (List.getElem_mem hb) c hc
  · have hbL : b < L := by omega
    have e : (H.take L)[b] = H[b]'(by omega) := List.getElem_take
    rw [e]
    have M := cut_mono hH hL
    exact (hH.blk b (by omega)).mono M (M.nm b hbL) (fun _ _ => rfl) (fun c hc => hlow' _ (List.getElem_mem hb) c (by rw [e]; exact hc))

theorem row_cut (hH : HR Γ H w) {L b : Nat} (hb : ¬ b < L) {v : PV} {V : Value} (hv : v = .fl b ∨ ∃ i n, v = .vw b i n) (h : VP Γ (shpOf H) w v V) : VP (Γ.cut L) (shpOf (H.take L)) w (v.snap H) V ∧ (v.snap H).nms = [] := by
  rcases hv with rfl | ⟨i, n, rfl⟩
  · cases h with
    | flv _ e sz h =>
      obtain ⟨x, hx, hs⟩ : ∃ x, H[b]? = some x ∧ x.shp = .arr true e sz 0 := by simpa [shpOf] using h
      cases x <;> simp [Blk.shp] at hs
      rename_i v' e' sz' els
      obtain ⟨rfl, rfl, rfl, h4⟩ := hs
      subst h4
      simp only [PV.snap, hx]
      exact ⟨.s _ _ (.nil _ _), rfl⟩
    | fl _ g v e sz n cap h hv hg hcap hm hs =>
      obtain ⟨x, hx, hs'⟩ : ∃ x, H[b]? = some x ∧ x.shp = .arr v e sz n := by simpa [shpOf] using h
      cases x <;> simp [Blk.shp] at hs'
      rename_i v' e' sz' els
      obtain ⟨rfl, rfl, rfl, rfl⟩ := hs'
      have hne : ¬ (v' = true ∧ els = []) := by rintro ⟨q1, q2⟩; exact hv q1 (by rw [q2]; rfl)
      have hz : (v' && els.isEmpty) = false := by cases v' <;> simp_all
      simp only [PV.snap, hx, hz]
      have := row_VS (i := 0) (n := els.length) (a := ⟨g, 0, none⟩) (cap := cap) hH hx hne hg (by omega) (fun _ => by simp) hcap hm (St' := (Γ.cut L).St) (fun _ h => Or.inl h) (.inr ⟨b, by omega, hg⟩)
      simp only [List.drop_zero, List.take_length] at this
      exact ⟨.s _ _ this, rfl⟩
  · cases h with
    | vwv _ e sz _ h =>
      obtain ⟨x, hx, hs⟩ : ∃ x, H[b]? = some x ∧ x.shp = .arr true e sz 0 := by simpa [shpOf] using h
      cases x <;> simp [Blk.shp] at hs
      rename_i v' e' sz' els
      obtain ⟨rfl, rfl, rfl, h4⟩ := hs
      subst h4
      simp only [PV.snap, hx, List.drop_nil, List.take_nil]
      exact ⟨.s _ _ (.nil _ _), rfl⟩
    | vw _ _ _ g a cap v e sz m h hv hg ha hi hcap hm =>
      obtain ⟨x, hx, hs'⟩ : ∃ x, H[b]? = some x ∧ x.shp = .arr v e sz m := by simpa [shpOf] using h
      cases x <;> simp [Blk.shp] at hs'
      rename_i v' e' sz' els
      obtain ⟨rfl, rfl, rfl, rfl⟩ := hs'
      have hne : ¬ (v' = true ∧ els = []) := by rintro ⟨q1, q2⟩; exact hv q1 (by rw [q2]; rfl)
      have hz : (v' && els.isEmpty) = false := by cases v' <;> simp_all
      simp only [PV.snap, hx, hz]
      exact ⟨.s _ _ (row_VS hH hx hne hg hi ha hcap hm (fun _ h => Or.inl h) (.inr ⟨b, by omega, hg⟩)), rfl⟩

theorem low_VP (hH : HR Γ H w) {L : Nat} (hL : L ≤ H.length) {v : PV} {V : Value} (h : VP Γ (shpOf H) w v V) : VP (Γ.cut L) (shpOf (H.take L)) w (v.low H L) V ∧ ∀ c ∈ (v.low H L).nms, c < L := by
  have M := cut_mono hH hL
  have keep : (∀ c ∈ v.nms, c < L) → VP (Γ.cut L) (shpOf (H.take L)) w v V := fun hn => h.mono M hn
  unfold PV.low
  split
  · rename_i b
    split
    · rename_i hb; exact ⟨keep (by simpa [PV.nms] using hb), by simpa [PV.nms] using hb⟩
    · rename_i hb
      obtain ⟨q1, q2⟩ := row_cut hH hb (.inl rfl) h
      exact ⟨q1, by rw [q2]; simp⟩
  · rename_i b i n
    split
    · rename_i hb; exact ⟨keep (by simpa [PV.nms] using hb), by simpa [PV.nms] using hb⟩
    · rename_i hb
      obtain ⟨q1, q2⟩ := row_cut hH hb (.inr ⟨i, n, rfl⟩) h
      exact ⟨q1, by rw [q2]; simp⟩
  · exact ⟨keep (by simp [PV.nms]), by simp [PV.nms]⟩
  · exact ⟨keep (by simp [PV.nms]), by simp [PV.nms]⟩
  · exact ⟨keep (by simp [PV.nms]), by simp [PV.nms]⟩
  · split
    · rename_i hb; exact ⟨keep (by simpa [PV.nms] using hb), by simpa [PV.nms] using hb⟩
    · exact ⟨.bad _, by simp [PV.nms]⟩
  · split
    · rename_i hb; exact ⟨keep (by simpa [PV.nms] using hb), by simpa [PV.nms] using hb⟩
    · exact ⟨.bad _, by simp [PV.nms]⟩
  · split
    · rename_i hb
      simp only [List.all_eq_true, decide_eq_true_eq] at hb
      exact ⟨keep hb, hb⟩
    · exact ⟨.bad _, by simp [PV.nms]⟩

/-- The second context has nothing that the first has not. -/
def Sub (Γ Γ' : Ctx) : Prop := (∀ g, Γ'.St g → Γ.St g ∨ ∃ b, Γ.nm b = some g) ∧ ∀ b g, Γ'.nm b = some g → Γ.nm b = some g

theorem Mk.sub {n0 : Nat} {Γ' : Ctx} {ds : List Deferred} (h : Mk n0 Γ Φ w ds) (s : Sub Γ Γ') : Mk n0 Γ' Φ w ds := by
  obtain ⟨h0, Ds, h1, h2, h3⟩ := h
  refine ⟨h0, Ds, h1, h2, fun D hD => ?_⟩
  obtain ⟨k1, k2, k3⟩ := h3 D hD
  refine ⟨k1, ⟨k2.1, fun q => ?_, fun b q => k2.2.2.1 b (s.2 b D q), k2.2.2.2⟩, k3⟩
  rcases s.1 D q with q | ⟨b, q⟩
  · exact k2.2.1 q
  · exact k2.2.2.1 b q

/-- Names from 'L' on are given up. -/
theorem trunc_sound' {H0 : List Blk} {Γ0 : Ctx} {w0 : World} {Φ0 : Nat → Prop} {L : Nat} (hI : HI I) (S : SI C I Γ Φ st a.tmps w) (h : Stp C Γ0 H0 w0 Φ0 Γ st.hp w Φ) (hL0 : H0.length ≤ L) (hL : L ≤ st.hp.length) : ∃ Γ', SI C I Γ' Φ (trunc L st) a.tmps w ∧ Stp C Γ0 H0 w0 Φ0 Γ' (trunc L st).hp w Φ ∧ Sub Γ Γ' := by
  unfold trunc
  split
  · rename_i hlow
    have hlen : (st.hp.take L).length = L := by rw [List.length_take]; omega
    have hr := cut_HR S.hr hL hlow
    have hnm : ∀ b g, (Γ.cut L).nm b = some g → Γ.nm b = some g := fun b g h => by
      simp only [Ctx.cut] at h
      split at h
      · exact h
      · cases h
    have hnewSt : ∀ g, (Γ.cut L).St g → Γ.St g ∨ (w0.heap.size ≤ g ∧ ¬ Φ g) := fun g hg => by
      rcases hg with hg | ⟨b, hb, hg⟩
      · exact .inl hg
      · refine .inr ⟨?_, S.dis b g hg⟩
        rcases h.own b g hg with ⟨q, _⟩ | q
        · omega
        · exact q
    have hfoot := hI.foot _ _ _ _ S.inv
    refine ⟨Γ.cut L, ⟨hr, ⟨by simpa using S.sr.size, fun c hc => ?_, fun i hi => ?_⟩, S.g.mono (fun _ _ => rfl) (fun _ h => Or.inl h), ?_, fun b g hg => S.dis b g (hnm b g hg)⟩,
      ⟨h.os, h.tape, h.output, h.size, fun g hg => Or.inl (h.sub g hg), fun g hg => ?_, fun b g hg => h.own b g (hnm b g hg), h.foot, h.frame, h.yv, by rw [hlen]; exact hL0, fun b hb hf => ?_⟩, fun g hg => hg.elim .inl (fun ⟨b, _, q⟩ => .inr ⟨b, q⟩), hnm⟩
    · obtain ⟨j, hj, hc⟩ := mem_nmsL.1 hc
      have hj' : j < st.sl.length := by simpa using hj
      obtain ⟨U, e, k⟩ := S.sr.slot j hj'
      rw [List.getElem_map] at hc
      have := (low_VP S.hr hL k).2 c hc
      show c < (st.hp.take L).length
      omega
    · have hi' : i < st.sl.length := by simpa using hi
      obtain ⟨U, e, k⟩ := S.sr.slot i hi'
      exact ⟨U, e, by rw [List.getElem_map]; exact (low_VP S.hr hL k).1⟩
    · refine hI.mono _ _ _ _ _ _ S.inv (fun _ h => Or.inl h) (fun g hg hp => ?_) (fun g hg => hr.stlt g hg) (fun _ _ => rfl) (Nat.le_refl _) rfl rfl rfl
      rcases hnewSt g hg with q | q
      · exact (hfoot g hp).2 q
      · exact q.2 hp
    · rcases hnewSt g hg with q | q
      · exact h.stnew g q
      · exact .inr q.1
    · obtain ⟨k1, k2, k3⟩ := h.keep b hb hf
      have hbL : b < L := by omega
      refine ⟨by simp only [Ctx.cut]; rw [if_pos hbL]; exact k1, ?_, k3⟩
      rw [← k2]
      simp only [shpOf, List.getElem?_take]
      rw [if_pos hbL]
  · exact ⟨Γ, S, h, fun _ h => .inl h, fun _ _ h => h⟩

/-- At the end of a round. -/
theorem trunc_sound {H0 : List Blk} {Γ0 : Ctx} {w0 : World} {Φ0 : Nat → Prop} (hI : HI I) (S : SI C I Γ Φ st a.tmps w) (h : Stp C Γ0 H0 w0 Φ0 Γ st.hp w Φ) : ∃ Γ', SI C I Γ' Φ (trunc H0.length st) a.tmps w ∧ Stp C Γ0 H0 w0 Φ0 Γ' (trunc H0.length st).hp w Φ ∧ Sub Γ Γ' :=
  trunc_sound' hI S h (Nat.le_refl _) h.len

theorem mask_get : ∀ (g : List Nat) (l : List PV), (mask g l).length = l.length ∧ ∀ i (h : i < (mask g l).length) (h' : i < l.length), (mask g l)[i] = l[i] ∨ (mask g l)[i] = .bad
  | g, [] => by
    have e : mask g [] = [] := by unfold mask; rfl
    exact ⟨by rw [e], fun i h => by rw [e] at h; simp at h⟩
  | [], v :: l => by
    obtain ⟨h1, h2⟩ := mask_get [] l
    refine ⟨by simp [mask, h1], fun i h h' => ?_⟩
    cases i with
    | zero => exact .inr rfl
    | succ i =>
      have := h2 i (by simpa [mask] using h) (by simpa using h')
      simpa [mask] using this
  | 0 :: g, v :: l => by
    obtain ⟨h1, h2⟩ := mask_get g l
    refine ⟨by simp [mask, h1], fun i h h' => ?_⟩
    cases i with
    | zero => exact .inl rfl
    | succ i =>
      have := h2 i (by simpa [mask] using h) (by simpa using h')
      simpa [mask] using this
  | (n + 1) :: g, v :: l => by
    obtain ⟨h1, h2⟩ := mask_get (n :: g) l
    refine ⟨by simp [mask, h1], fun i h h' => ?_⟩
    cases i with
    | zero => exact .inr rfl
    | succ i =>
      have := h2 i (by simpa [mask] using h) (by simpa using h')
      simpa [mask] using this

theorem mask_SR {sl : List PV} {tmps : Array Value} (g : List Nat) (h : SR Γ H w sl tmps) : SR Γ H w (mask g sl) tmps := by
  obtain ⟨h1, h2⟩ := mask_get g sl
  refine ⟨by rw [h1]; exact h.size, fun c hc => ?_, fun i hi => ?_⟩
  · obtain ⟨j, hj, hc⟩ := mem_nmsL.1 hc
    have hj' : j < sl.length := by rw [← h1]; exact hj
    rcases h2 j hj hj' with e | e
    · rw [e] at hc; exact h.nms c (mem_nmsL.2 ⟨j, hj', hc⟩)
    · rw [e] at hc; simp [PV.nms] at hc
  · have hi' : i < sl.length := by rw [← h1]; exact hi
    obtain ⟨V, e1, e2⟩ := h.slot i hi'
    refine ⟨V, e1, ?_⟩
    rcases h2 i hi hi' with e | e
    · rw [e]; exact e2
    · rw [e]; exact .bad V

theorem forget_hp (ds : Option (List Nat)) (st : St σ) : (forget ds st).hp = st.hp := by cases ds <;> rfl

theorem forget_SI (S : SI C I Γ Φ st a.tmps w) (ds : Option (List Nat)) : SI C I Γ Φ (forget ds st) a.tmps w := by
  cases ds with
  | none => exact S
  | some g => exact ⟨S.hr, mask_SR g S.sr, S.g, S.inv, S.dis⟩

theorem topN_ge : ∀ (l : List Nat) (m : Nat), m ≤ topN l m
  | [], m => Nat.le_refl _
  | b :: r, m => by
    simp only [topN]
    cases h : Nat.ble m b with
    | true => exact Nat.le_trans (Nat.le_succ_of_le (Nat.le_of_ble_eq_true h)) (topN_ge r (b + 1))
    | false => exact topN_ge r m
theorem topB_ge : ∀ (l : List Blk) (m : Nat), m ≤ topB l m
  | [], m => Nat.le_refl _
  | b :: r, m => Nat.le_trans (topN_ge _ _) (topB_ge r _)

theorem forgetR_sound {H0 : List Blk} {Γ0 : Ctx} {w0 : World} {Φ0 : Nat → Prop} (hI : HI I) (S : SI C I Γ Φ st a.tmps w) (h : Stp C Γ0 H0 w0 Φ0 Γ st.hp w Φ) (ds : Option (List Nat)) {L : Nat} (hL : H0.length ≤ L) : ∃ Γ', SI C I Γ' Φ (forgetR ds L st) a.tmps w ∧ Stp C Γ0 H0 w0 Φ0 Γ' (forgetR ds L st).hp w Φ := by
  cases ds with
  | none => exact ⟨Γ, S, h⟩
  | some g =>
    have S1 : SI C I Γ Φ ({ sl := mask g st.sl, hp := st.hp, s := st.s } : St σ) a.tmps w := ⟨S.hr, mask_SR g S.sr, S.g, S.inv, S.dis⟩
    simp only [forgetR, tidy, tidyAt]
    cases hb : Nat.ble (topB st.hp (topN (nmsL (mask g st.sl)) L) + 1) st.hp.length with
    | false => exact ⟨Γ, S1, h⟩
    | true =>
      have := Nat.le_of_ble_eq_true hb
      obtain ⟨Γ', k1, k2, _⟩ := trunc_sound' (L := topB st.hp (topN (nmsL (mask g st.sl)) L)) hI S1 h (Nat.le_trans hL (Nat.le_trans (topN_ge _ _) (topB_ge _ _))) (by show topB st.hp _ ≤ st.hp.length; omega)
      exact ⟨Γ', k1, k2⟩

/-- Names from 'L' on are given up: what becomes of the state. -/
theorem trunc_SI {tmps : Array Value} (hI : HI I) (S : SI C I Γ Φ st tmps w) {L : Nat} (hL : L ≤ st.hp.length) : ∃ Γ', SI C I Γ' Φ (trunc L st) tmps w ∧ (∀ g, Γ.St g → Γ'.St g) ∧ (∀ g, Γ'.St g → Γ.St g ∨ ∃ b, L ≤ b ∧ Γ.nm b = some g) ∧
    (∀ b g, Γ'.nm b = some g → Γ.nm b = some g) ∧ Γ'.yv = Γ.yv ∧ (∀ b, b < L → Γ'.nm b = Γ.nm b ∧ shpOf (trunc L st).hp b = shpOf st.hp b) ∧ L ≤ (trunc L st).hp.length := by
  unfold trunc
  split
  · rename_i hlow
    have hlen : (st.hp.take L).length = L := by rw [List.length_take]; omega
    have hr := cut_HR S.hr hL hlow
    have hnm : ∀ b g, (Γ.cut L).nm b = some g → Γ.nm b = some g := fun b g h => by
      simp only [Ctx.cut] at h
      split at h
      · exact h
      · cases h
    have hfoot := hI.foot _ _ _ _ S.inv
    refine ⟨Γ.cut L, ⟨hr, ⟨by simpa using S.sr.size, fun c hc => ?_, fun i hi => ?_⟩, S.g.mono (fun _ _ => rfl) (fun _ h => Or.inl h), ?_, fun b g hg => S.dis b g (hnm b g hg)⟩,
      fun _ h => Or.inl h, fun _ h => h, hnm, rfl, fun b hb => ⟨by simp only [Ctx.cut]; rw [if_pos hb], ?_⟩, by rw [hlen]; exact Nat.le_refl _⟩
    · obtain ⟨j, hj, hc⟩ := mem_nmsL.1 hc
      have hj' : j < st.sl.length := by simpa using hj
      obtain ⟨U, e, k⟩ := S.sr.slot j hj'
      rw [List.getElem_map] at hc
      have := (low_VP S.hr hL k).2 c hc
      show c < (st.hp.take L).length
      omega
    · have hi' : i < st.sl.length := by simpa using hi
      obtain ⟨U, e, k⟩ := S.sr.slot i hi'
      exact ⟨U, e, by rw [List.getElem_map]; exact (low_VP S.hr hL k).1⟩
    · refine hI.mono _ _ _ _ _ _ S.inv (fun _ h => Or.inl h) (fun g hg hp => ?_) (fun g hg => hr.stlt g hg) (fun _ _ => rfl) (Nat.le_refl _) rfl rfl rfl
      rcases hg with q | ⟨b, _, q⟩
      · exact (hfoot g hp).2 q
      · exact S.dis b g q hp
    · simp only [shpOf, List.getElem?_take]
      rw [if_pos hb]
  · exact ⟨Γ, S, fun _ h => h, fun _ h => .inl h, fun _ _ h => h, rfl, fun _ _ => ⟨rfl, rfl⟩, hL⟩

end
end Go.Proofs.Ytfioahjeanmfpaa.E
