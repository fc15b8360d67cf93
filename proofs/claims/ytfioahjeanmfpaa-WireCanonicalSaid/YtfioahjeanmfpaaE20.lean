/-
  Names and their change.
-/
import Derived.Test.YtfioahjeanmfpaaE19
namespace Go.Proofs.Ytfioahjeanmfpaa.E
open Go
set_option linter.unusedVariables false

theorem rnL_eq (f : Nat → Nat) (l : List PV) : rnL f l = l.map (PV.rn f) := by
  induction l with
  | nil => rfl
  | cons v r ih => simp [rnL, ih]

theorem snapL_eq (H : List Blk) (l : List PV) : snapL H l = l.map (PV.snap H) := by
  induction l with
  | nil => rfl
  | cons v r ih => simp [snapL, ih]

theorem cleanL_mem {l : List PV} (h : cleanL l = true) : ∀ v ∈ l, v.clean = true := by
  induction l with
  | nil => simp
  | cons a l ih =>
    simp only [cleanL, Bool.and_eq_true] at h
    intro v hv
    rcases List.mem_cons.1 hv with rfl | hv
    · exact h.1
    · exact ih h.2 v hv

mutual
theorem PV.rn_nms (f : Nat → Nat) : ∀ v : PV, (v.rn f).nms = v.nms.map f
  | .s _ => rfl
  | .nsl => rfl
  | .fl b => rfl
  | .vw b _ _ => rfl
  | .ptr b _ _ => rfl
  | .fnr _ x y => by simp only [PV.rn, PV.nms, List.map_append, nmsL_rn f x, nmsL_rn f y]
  | .it b => rfl
  | .yd => rfl
  | .agg l => by simp only [PV.rn, PV.nms, nmsL_rn f l]
  | .tup l => by simp only [PV.rn, PV.nms, nmsL_rn f l]
  | .bad => rfl
theorem nmsL_rn (f : Nat → Nat) : ∀ l : List PV, nmsL (rnL f l) = (nmsL l).map f
  | [] => rfl
  | v :: r => by simp only [rnL, nmsL, List.map_append, PV.rn_nms f v, nmsL_rn f r]
end

theorem Blk.rn_nms (f : Nat → Nat) (x : Blk) : (x.rn f).nms = x.nms.map f := by
  cases x <;> simp [Blk.rn, Blk.nms, nmsL_rn]

theorem Blk.rn_shp (f : Nat → Nat) (x : Blk) : (x.rn f).shp = x.shp := by cases x <;> rfl

theorem VS.clean {St St' : Nat → Prop} {w w' : World} {v : SV} {V : Value} (h : VS St w v V) (hc : v.plain = true) : VS St' w' v V := by
  cases h with
  | bool => exact .bool _
  | int => exact .int _ _
  | str => exact .str _
  | nilp => exact .nilp
  | nilm => exact .nilm
  | nilf => exact .nilf
  | nil => simp [SV.plain] at hc
  | emp => simp [SV.plain] at hc
  | sl => simp [SV.plain] at hc
  | sp => simp [SV.plain] at hc
  | fn => simp [SV.plain] at hc

theorem VP.rn {f : Nat → Nat} {Γ Γ' : Ctx} {sh sh' : Nat → Option Shp} {w : World} (hyv : Γ'.yv = Γ.yv) {v : PV} {V : Value} (h : VP Γ sh w v V) :
    (v.clean = true ∨ ∀ g, Γ.St g → Γ'.St g) → (∀ b ∈ v.nms, Γ'.nm (f b) = Γ.nm b ∧ sh' (f b) = sh b) → VP Γ' sh' w (v.rn f) V := by
  induction h with
  | s v V h =>
    intro hc _
    rcases hc with hc | hc
    · refine .s _ _ (h.clean ?_)
      cases v <;> simp_all [PV.clean, SV.plain]
    · exact .s _ _ (h.mono (fun _ _ => rfl) hc)
  | nsl => intro _ _; exact .nsl
  | flv b e sz h => intro _ hn; exact .flv _ e sz (by rw [(hn b (by simp [PV.nms])).2]; exact h)
  | fl b g v e sz n cap h hv hg hcap hm hs =>
    intro _ hn
    have o := hn b (by simp [PV.nms])
    exact .fl _ g v e sz n cap (by rw [o.2]; exact h) hv (by rw [o.1]; exact hg) hcap hm hs
  | vwv b e sz i h => intro _ hn; exact .vwv _ e sz i (by rw [(hn b (by simp [PV.nms])).2]; exact h)
  | vw b i n g a cap v e sz m h hv hg ha hi hcap hm =>
    intro _ hn
    have o := hn b (by simp [PV.nms])
    exact .vw _ i n g a cap v e sz m (by rw [o.2]; exact h) hv (by rw [o.1]; exact hg) ha hi hcap hm
  | ptrA b i off g v e sz n h hg =>
    intro _ hn
    have o := hn b (by simp [PV.nms])
    exact .ptrA _ i off g v e sz n (by rw [o.2]; exact h) (by rw [o.1]; exact hg)
  | ptrB b off g h hg =>
    intro _ hn
    have o := hn b (by simp [PV.nms])
    exact .ptrB _ off g (by rw [o.2]; exact h) (by rw [o.1]; exact hg)
  | fnr g x y A B As Bs hf hA hB ha hb hx hy ihx ihy =>
    intro hc hn
    simp only [PV.rn, rnL_eq]
    refine .fnr g _ _ A B As Bs hf (by simpa using hA) (by simpa using hB) (fun j h => ha j (by simpa using h)) (fun j h => hb j (by simpa using h)) (fun j h => ?_) (fun j h => ?_)
    · have hj : j < x.length := by simpa using h
      rw [List.getElem_map]
      refine ihx j hj (hc.imp (fun e => ?_) id) (fun b hb => hn b (by simp only [PV.nms, List.mem_append]; exact .inl (mem_nmsL.2 ⟨j, hj, hb⟩)))
      simp only [PV.clean, Bool.and_eq_true] at e
      exact cleanL_mem e.1 _ (List.getElem_mem hj)
    · have hj : j < y.length := by simpa using h
      rw [List.getElem_map]
      refine ihy j hj (hc.imp (fun e => ?_) id) (fun b hb => hn b (by simp only [PV.nms, List.mem_append]; exact .inr (mem_nmsL.2 ⟨j, hj, hb⟩)))
      simp only [PV.clean, Bool.and_eq_true] at e
      exact cleanL_mem e.2 _ (List.getElem_mem hj)
  | it b g h hg =>
    intro _ hn
    have o := hn b (by simp [PV.nms])
    exact .it _ g (by rw [o.2]; exact h) (by rw [o.1]; exact hg)
  | yd => intro _ _; rw [← hyv]; exact .yd
  | agg l A As hA ha hl ih =>
    intro hc hn
    simp only [PV.rn, rnL_eq]
    refine .agg _ A As (by simpa using hA) (fun j h => ha j (by simpa using h)) (fun j h => ?_)
    have hj : j < l.length := by simpa using h
    rw [List.getElem_map]
    refine ih j hj (hc.imp (fun e => ?_) id) (fun b hb => hn b (by simp only [PV.nms]; exact mem_nmsL.2 ⟨j, hj, hb⟩))
    simp only [PV.clean] at e
    exact cleanL_mem e _ (List.getElem_mem hj)
  | tup l A As hA ha hl ih =>
    intro hc hn
    simp only [PV.rn, rnL_eq]
    refine .tup _ A As (by simpa using hA) (fun j h => ha j (by simpa using h)) (fun j h => ?_)
    have hj : j < l.length := by simpa using h
    rw [List.getElem_map]
    refine ih j hj (hc.imp (fun e => ?_) id) (fun b hb => hn b (by simp only [PV.nms]; exact mem_nmsL.2 ⟨j, hj, hb⟩))
    simp only [PV.clean] at e
    exact cleanL_mem e _ (List.getElem_mem hj)
  | bad V => intro _ _; exact .bad V

theorem BR.rn {f : Nat → Nat} {Γ Γ' : Ctx} {sh sh' : Nat → Option Shp} {w : World} (hyv : Γ'.yv = Γ.yv) {b b' : Nat} {x : Blk} (h : BR Γ sh w b x) (hc : x.clean = true ∨ ∀ g, Γ.St g → Γ'.St g) (hb : Γ'.nm b' = Γ.nm b)
    (hn : ∀ c ∈ x.nms, Γ'.nm (f c) = Γ.nm c ∧ sh' (f c) = sh c) : BR Γ' sh' w b' (x.rn f) := by
  cases x with
  | arr v e sz els =>
    rcases h with h | ⟨hn, g, cur, h1, h2, h3, h4, h5⟩
    · exact .inl h
    · refine .inr ⟨hn, g, cur, by rw [hb]; exact h1, h2, h3, h4, fun i hi j hj => ?_⟩
      obtain ⟨V, e1, e2⟩ := h5 i hi j hj
      refine ⟨V, e1, ?_⟩
      rcases hc with hc | hc
      · simp only [Blk.clean, List.all_eq_true] at hc
        exact e2.clean (hc _ (List.getElem_mem hi) _ (List.getElem_mem hj))
      · exact e2.mono (fun _ _ => rfl) hc
  | box cells =>
    obtain ⟨g, cur, e, h1, h2, h3, h4⟩ := h
    simp only [Blk.rn, rnL_eq]
    refine ⟨g, cur, e, by rw [hb]; exact h1, h2, by simpa using h3, fun j hj => ?_⟩
    have hj' : j < cells.length := by simpa using hj
    obtain ⟨V, e1, e2⟩ := h4 j hj'
    rw [List.getElem_map]
    refine ⟨V, e1, e2.rn hyv (hc.imp (fun e => ?_) id) (fun c hc => hn c (by simp only [Blk.nms]; exact mem_nmsL.2 ⟨j, hj', hc⟩))⟩
    simp only [Blk.clean] at e
    exact cleanL_mem e _ (List.getElem_mem hj')
  | iter s p =>
    obtain ⟨g, s', h1, h2, h3⟩ := h
    exact ⟨g, s', by rw [hb]; exact h1, h2, h3⟩
  | dead => trivial

/-! ### What can be reached -/
theorem mem_addNew {l : List Nat} {b c : Nat} : c ∈ addNew l b ↔ c ∈ l ∨ c = b := by
  unfold addNew
  split
  · rename_i h
    have hb : b ∈ l := by simpa using h
    exact ⟨.inl, fun h => h.elim id (fun e => e ▸ hb)⟩
  · simp

theorem mem_addAll : ∀ (xs acc : List Nat) (c : Nat), c ∈ xs.foldl addNew acc ↔ c ∈ acc ∨ c ∈ xs
  | [], acc, c => by simp
  | x :: xs, acc, c => by rw [List.foldl_cons, mem_addAll xs, mem_addNew, List.mem_cons, or_assoc]

theorem addNew_nodup {l : List Nat} {b : Nat} (h : l.Nodup) : (addNew l b).Nodup := by
  unfold addNew
  split
  · exact h
  · rename_i hb
    rw [List.nodup_append]
    refine ⟨h, by simp, fun x hx y hy e => ?_⟩
    simp at hy
    subst hy
    subst e
    simp at hb
    exact hb hx

theorem addAll_nodup : ∀ (xs acc : List Nat), acc.Nodup → (xs.foldl addNew acc).Nodup
  | [], acc, h => h
  | x :: xs, acc, h => by rw [List.foldl_cons]; exact addAll_nodup xs _ (addNew_nodup h)

theorem step_nodup (H : List Blk) : ∀ (l acc : List Nat), acc.Nodup → (l.foldl (fun acc b => ((H.getD b .dead).nms).foldl addNew acc) acc).Nodup
  | [], acc, h => h
  | x :: l, acc, h => by rw [List.foldl_cons]; exact step_nodup H l _ (addAll_nodup _ _ h)

theorem step_sub (H : List Blk) : ∀ (l acc : List Nat) c, c ∈ acc → c ∈ l.foldl (fun acc b => ((H.getD b .dead).nms).foldl addNew acc) acc
  | [], acc, c, h => h
  | x :: l, acc, c, h => by rw [List.foldl_cons]; exact step_sub H l _ c ((mem_addAll _ _ _).2 (.inl h))

theorem step_all (H : List Blk) (p : Nat → Prop) (hp : ∀ b, p b → ∀ c ∈ (H.getD b .dead).nms, p c) : ∀ (l acc : List Nat), (∀ c ∈ acc, p c) → (∀ c ∈ l, p c) → ∀ c ∈ l.foldl (fun acc b => ((H.getD b .dead).nms).foldl addNew acc) acc, p c
  | [], acc, h, _ => h
  | x :: l, acc, h, hl => by
    rw [List.foldl_cons]
    refine step_all H p hp l _ (fun c hc => ?_) (fun c hc => hl c (by simp [hc]))
    rcases (mem_addAll _ _ _).1 hc with hc | hc
    · exact h c hc
    · exact hp x (hl x (by simp)) c hc

theorem reach_nodup (H : List Blk) (l : List Nat) : (reach H l).Nodup :=
  step_nodup H _ _ (step_nodup H _ _ (step_nodup H _ _ (addAll_nodup _ _ List.nodup_nil)))

theorem reach_sub (H : List Blk) (l : List Nat) : ∀ c ∈ l, c ∈ reach H l := fun c hc =>
  step_sub H _ _ c (step_sub H _ _ c (step_sub H _ _ c ((mem_addAll _ _ _).2 (.inr hc))))

theorem reach_all (H : List Blk) (l : List Nat) (p : Nat → Prop) (hp : ∀ b, p b → ∀ c ∈ (H.getD b .dead).nms, p c) (hl : ∀ c ∈ l, p c) : ∀ c ∈ reach H l, p c := by
  have h0 : ∀ c ∈ l.foldl addNew [], p c := fun c hc => by
    rcases (mem_addAll _ _ _).1 hc with h | h
    · simp at h
    · exact hl c h
  have step : ∀ m, (∀ c ∈ m, p c) → ∀ c ∈ reach1 H m, p c := fun m hm => step_all H p hp m m hm hm
  exact step _ (step _ (step _ h0))

theorem closedIn_spec {H : List Blk} {ns : List Nat} (h : closedIn H ns = true) : ∀ b ∈ ns, ∀ c ∈ (H.getD b .dead).nms, c ∈ ns := by
  intro b hb c hc
  simp only [closedIn, List.all_eq_true] at h
  simpa using h b hb c hc

theorem idxIn_spec {ns : List Nat} {b : Nat} (h : b ∈ ns) : ∃ hlt : idxIn ns b < ns.length, ns[idxIn ns b] = b := by
  have hlt : ns.idxOf b < ns.length := List.idxOf_lt_length_of_mem h
  exact ⟨hlt, List.getElem_idxOf hlt⟩

theorem killAll_spec {Γ : Ctx} {sh : Nat → Option Shp} {w : World} : ∀ (ks : List Nat) (sl : List PV), (killAll ks sl).length = sl.length ∧ (∀ c ∈ nmsL (killAll ks sl), c ∉ ks ∧ c ∈ nmsL sl) ∧
    ∀ i (h : i < (killAll ks sl).length) (h' : i < sl.length) V, VP Γ sh w (sl[i]) V → VP Γ sh w ((killAll ks sl)[i]) V
  | [], sl => ⟨rfl, fun c hc => ⟨by simp, hc⟩, fun i h h' V hv => hv⟩
  | b :: ks, sl => by
    obtain ⟨h1, h2, h3⟩ := killAll_spec (Γ := Γ) (sh := sh) (w := w) ks (killL b sl)
    have hl : (killL b sl).length = sl.length := by rw [killL_eq]; simp
    have e : killAll (b :: ks) sl = killAll ks (killL b sl) := rfl
    refine ⟨by rw [e, h1, hl], fun c hc => ?_, fun i h h' V hv => ?_⟩
    · rw [e] at hc
      obtain ⟨q1, q2⟩ := h2 c hc
      refine ⟨?_, killL_nms b sl c q2⟩
      rintro hcc
      rcases List.mem_cons.1 hcc with rfl | hcc
      · exact not_mem_killL c sl q2
      · exact q1 hcc
    · simp only [e]
      refine h3 i (by rw [e] at h; exact h) (by rw [hl]; exact h') V ?_
      have e3 : (killL b sl)[i]'(by rw [hl]; exact h') = (sl[i]).kill b := by simp [killL_eq]
      rw [e3]
      exact hv.kill b

theorem killBs_spec {Γ : Ctx} {sh : Nat → Option Shp} {w : World} : ∀ (ks : List Nat) (H : List Blk), (killBs ks H).length = H.length ∧ (∀ b, shpOf (killBs ks H) b = shpOf H b) ∧
    ∀ i (h : i < (killBs ks H).length) (h' : i < H.length), (∀ c ∈ ((killBs ks H)[i]).nms, c ∉ ks ∧ c ∈ (H[i]).nms) ∧ ∀ b, BR Γ sh w b (H[i]) → BR Γ sh w b ((killBs ks H)[i])
  | [], H => ⟨rfl, fun _ => rfl, fun i h h' => ⟨fun c hc => ⟨by simp, hc⟩, fun b hb => hb⟩⟩
  | k :: ks, H => by
    obtain ⟨h1, h2, h3⟩ := killBs_spec (Γ := Γ) (sh := sh) (w := w) ks (H.map (Blk.kill k))
    have hl : (H.map (Blk.kill k)).length = H.length := by simp
    have e : killBs (k :: ks) H = killBs ks (H.map (Blk.kill k)) := rfl
    refine ⟨by rw [e, h1, hl], fun b => by rw [e, h2, shpOf_kill], fun i h h' => ?_⟩
    have h'' : i < (H.map (Blk.kill k)).length := by rw [hl]; exact h'
    obtain ⟨q1, q2⟩ := h3 i (by rw [e] at h; exact h) h''
    have e3 : (H.map (Blk.kill k))[i] = (H[i]).kill k := by simp
    refine ⟨fun c hc => ?_, fun b hb => ?_⟩
    · simp only [e] at hc
      obtain ⟨r1, r2⟩ := q1 c hc
      rw [e3] at r2
      obtain ⟨r3, r4⟩ := Blk.kill_nms' c r2
      refine ⟨?_, r4⟩
      rintro hcc
      rcases List.mem_cons.1 hcc with rfl | hcc
      · exact r3 rfl
      · exact r1 hcc
    · simp only [e]
      exact q2 b (by rw [e3]; exact hb.kill)

theorem setAll_spec : ∀ (ns : List Nat) (xs H : List Blk), ns.Nodup → xs.length = ns.length → (∀ b ∈ ns, b < H.length) → (setAll H ns xs).length = H.length ∧
    ∀ b, (setAll H ns xs)[b]? = if b ∈ ns then xs[ns.idxOf b]? else H[b]?
  | [], xs, H, _, hl, _ => by cases xs <;> simp [setAll]
  | n :: ns, [], H, _, hl, _ => by simp at hl
  | n :: ns, x :: xs, H, hd, hl, hlt => by
    obtain ⟨h1, h2⟩ := setAll_spec ns xs (H.set n x) (List.nodup_cons.1 hd).2 (by simpa using hl) (fun b hb => by simpa using hlt b (by simp [hb]))
    have e : setAll H (n :: ns) (x :: xs) = setAll (H.set n x) ns xs := rfl
    refine ⟨by rw [e, h1]; simp, fun b => ?_⟩
    rw [e, h2]
    have hn : n ∉ ns := (List.nodup_cons.1 hd).1
    by_cases hb : b ∈ ns
    · have hbn : n ≠ b := by rintro rfl; exact hn hb
      rw [if_pos hb, if_pos (by simp [hb]), List.idxOf_cons]
      have : (n == b) = false := by simpa using hbn
      simp [this]
    · rw [if_neg hb, List.getElem?_set]
      by_cases e : n = b
      · subst e
        rw [if_pos rfl, if_pos (hlt n (by simp)), if_pos (by simp)]
        simp
      · rw [if_neg e, if_neg (by simp only [List.mem_cons, not_or]; exact ⟨fun h => e h.symm, hb⟩)]

end Go.Proofs.Ytfioahjeanmfpaa.E
