/-
  Calls: blocks that are lent and taken back.
-/
import Derived.Test.YtfioahjeanmfpaaE22
namespace Go.Proofs.Ytfioahjeanmfpaa.E
open Go
set_option linter.unusedVariables false


/-- The callee's names. -/
def Ctx.lent (Γ : Ctx) (ns : List Nat) : Ctx := { Γ with nm := fun i => (ns[i]?).bind Γ.nm }

/-- The caller's names after the call. -/
def Ctx.back (Γ Γ1 : Ctx) (ns : List Nat) (L : Nat) (d : Bool) : Ctx :=
  { St := Γ1.St, nm := fun b => if b ∈ ns then Γ1.nm (idxIn ns b) else if b < L then Γ.nm b else if d = true then none else Γ1.nm (ns.length + (b - L)), yv := Γ.yv, yv1 := Γ.yv1 }

section
variable {σ R : Type} {r : R} {C : Cfg} {I : σ → (Nat → Prop) → (Nat → Prop) → World → Prop} {Γ : Ctx} {H : List Blk} {Φ : Nat → Prop} {st : St σ} {tmps : Array Value} {w : World} {cl : CallT} {yh : Yh σ} {yv : Value}

def lentH (H : List Blk) (ns : List Nat) : List Blk := ns.map fun b => (H.getD b .dead).rn (idxIn ns)

theorem lent_nm {ns : List Nat} {b : Nat} (h : b ∈ ns) : (Γ.lent ns).nm (idxIn ns b) = Γ.nm b := by
  obtain ⟨h1, h2⟩ := idxIn_spec h
  simp only [Ctx.lent, List.getElem?_eq_getElem h1, h2, Option.bind_some]

theorem lent_shp {ns : List Nat} (hlt : ∀ b ∈ ns, b < H.length) {i : Nat} (hi : i < ns.length) : shpOf (lentH H ns) i = shpOf H ns[i] := by
  have := hlt _ (List.getElem_mem hi)
  simp only [shpOf, lentH, List.getElem?_map, List.getElem?_eq_getElem hi, Option.map_some, Blk.rn_shp, List.getElem?_eq_getElem this]
  rw [List.getD_eq_getElem?_getD, List.getElem?_eq_getElem this]
  rfl

theorem lent_HR {ns : List Nat} (hH : HR Γ H w) (hnd : ns.Nodup) (hlt : ∀ b ∈ ns, b < H.length) (hcl : closedIn H ns = true) : HR (Γ.lent ns) (lentH H ns) w := by
  have hcs := closedIn_spec hcl
  have key : ∀ i g, (Γ.lent ns).nm i = some g → ∃ h : i < ns.length, Γ.nm ns[i] = some g := fun i g h => by
    simp only [Ctx.lent] at h
    cases hi : ns[i]? with
    | none => rw [hi] at h; simp at h
    | some b =>
      obtain ⟨h1, h2⟩ := List.getElem?_eq_some_iff.1 hi
      rw [hi] at h
      exact ⟨h1, by rw [h2]; exact h⟩
  have hget : ∀ b (h : b ∈ ns), H.getD b .dead = H[b]'(hlt b h) := fun b h => by rw [List.getD_eq_getElem?_getD, List.getElem?_eq_getElem (hlt b h)]; rfl
  refine ⟨fun i j g h1 h2 => ?_, fun i g h => ?_, hH.stlt, fun i hi c hc => ?_, fun i hi => ?_⟩
  · obtain ⟨hi, e1⟩ := key i g h1
    obtain ⟨hj, e2⟩ := key j g h2
    have := hH.inj _ _ g e1 e2
    exact (List.getElem_inj hnd).1 this
  · obtain ⟨hi, e1⟩ := key i g h
    have := hH.lt _ g e1
    exact ⟨by simpa [lentH] using hi, this.2⟩
  · simp only [lentH, List.length_map] at hi ⊢
    simp only [lentH, List.getElem_map, Blk.rn_nms] at hc
    obtain ⟨d, hd, rfl⟩ := List.mem_map.1 hc
    exact (idxIn_spec (hcs _ (List.getElem_mem hi) d hd)).1
  · simp only [lentH, List.length_map] at hi
    have hm := List.getElem_mem hi
    have e : (lentH H ns)[i]'(by simpa [lentH] using hi) = (H[ns[i]]'(hlt _ hm)).rn (idxIn ns) := by
      simp only [lentH, List.getElem_map, hget _ hm]
    rw [e]
    refine BR.rn (Γ := Γ) (Γ' := Γ.lent ns) (b' := i) rfl (hH.blk _ (hlt _ hm)) (.inr fun _ h => h) ?_ (fun c hc => ?_)
    · simp only [Ctx.lent, List.getElem?_eq_getElem hi, Option.bind_some]
    · have hcn : c ∈ ns := hcs _ hm c (by rw [hget _ hm]; exact hc)
      obtain ⟨q1, q2⟩ := idxIn_spec hcn
      exact ⟨lent_nm hcn, by rw [lent_shp hlt q1, q2]⟩

theorem lowH_spec {L : Nat} {H : List Blk} (h : lowH L H = true) : ∀ x ∈ H, ∀ c ∈ x.nms, c < L := by
  intro x hx c hc
  simp only [lowH, List.all_eq_true, decide_eq_true_eq] at h
  exact h x hx c hc

theorem fixB_iff {b : Nat} (hb : b < H.length) : fixB C (H.getD b .dead) = true ↔ fixS C (shpOf H b) := by
  have e : H.getD b .dead = H[b] := by rw [List.getD_eq_getElem?_getD, List.getElem?_eq_getElem hb]; rfl
  rw [e]
  simp only [shpOf, List.getElem?_eq_getElem hb, Option.map_some]
  cases H[b] <;> simp [fixB, fixS, Blk.shp]

theorem callL_sound {g : Nat} {a1 : List PV} {Vs : Array Value} {ret : PV} {Hc : List Blk} {s' : σ} {k : PV → St σ → Option R} (hI : HI I) (hC : CalleeOK C cl) (hy : YdOK C.P I yh yv) (hyv : Γ.yv = yv) (S : SI C I Γ Φ st tmps w) (hc : CR Γ (shpOf st.hp) w a1 Vs) (hn : ∀ c ∈ nmsL a1, c < st.hp.length)
    (hcl : closedIn st.hp (reach st.hp (nmsL a1)) = true) (hcall : cl σ yh g (rnL (idxIn (reach st.hp (nmsL a1))) a1) (lentH st.hp (reach st.hp (nmsL a1))) st.s = some (ret, Hc, s'))
    (hk : k (takeBack (killBs ((reach st.hp (nmsL a1)).filter fun b => !fixB C (st.hp.getD b .dead)) st.hp) (reach st.hp (nmsL a1)) ret Hc).1
      { sl := killAll ((reach st.hp (nmsL a1)).filter fun b => !fixB C (st.hp.getD b .dead)) st.sl, hp := (takeBack (killBs ((reach st.hp (nmsL a1)).filter fun b => !fixB C (st.hp.getD b .dead)) st.hp) (reach st.hp (nmsL a1)) ret Hc).2, s := s' } = some r) :
    UponOK C.P ((callFunc g Vs).run C.P w) (KRes C I Γ Φ st tmps w k r) := by
  have hnd := reach_nodup st.hp (nmsL a1)
  have hsub := reach_sub st.hp (nmsL a1)
  have hlt : ∀ b ∈ reach st.hp (nmsL a1), b < st.hp.length := reach_all st.hp (nmsL a1) (· < st.hp.length) (fun b hb c hc => by
    have e : st.hp.getD b .dead = st.hp[b] := by rw [List.getD_eq_getElem?_getD, List.getElem?_eq_getElem hb]; rfl
    rw [e] at hc
    exact S.hr.nms b hb c hc) hn
  generalize reach st.hp (nmsL a1) = ns at *
  have hHc := lent_HR S.hr hnd hlt hcl
  have hci := fun b (h : b ∈ ns) => idxIn_spec h
  have hargs : CR (Γ.lent ns) (shpOf (lentH st.hp ns)) w (rnL (idxIn ns) a1) Vs := by
    rw [rnL_eq]
    refine ⟨by rw [List.length_map]; exact hc.1, fun j hj => ?_⟩
    have hj' : j < a1.length := by simpa using hj
    obtain ⟨U, e, q⟩ := hc.2 j hj'
    refine ⟨U, e, ?_⟩
    rw [List.getElem_map]
    refine VP.rn (Γ := Γ) (Γ' := Γ.lent ns) rfl q (.inr fun _ h => h) (fun c hc => ?_)
    have hcn := hsub c (mem_nmsL.2 ⟨j, hj', hc⟩)
    obtain ⟨q1, q2⟩ := hci c hcn
    exact ⟨lent_nm hcn, by rw [lent_shp hlt q1, q2]⟩
  have hargn : ∀ c ∈ nmsL (rnL (idxIn ns) a1), c < (lentH st.hp ns).length := fun c hc => by
    rw [nmsL_rn] at hc
    obtain ⟨d, hd, rfl⟩ := List.mem_map.1 hc
    simpa [lentH] using (hci d (hsub d hd)).1
  refine (hC σ I yh yv hI hy g _ _ _ ret Hc s' hcall (Γ.lent ns) Φ w Vs hyv hHc S.g S.inv (fun i g h => ?_) hargs hargn).mono ?_
  · simp only [Ctx.lent] at h
    cases hi : ns[i]? with
    | none => rw [hi] at h; simp at h
    | some b => rw [hi] at h; exact S.dis b g h
  rintro V w' ⟨Γ1, Φ1, hs, hH1, hv, hvn, hi1, hd1⟩
  -- the pieces
  generalize hL : st.hp.length = L at *
  generalize hks : (ns.filter fun b => !fixB C (st.hp.getD b .dead)) = ks at *
  obtain ⟨kb1, kb2, kb3⟩ := killBs_spec (Γ := Γ) (sh := shpOf st.hp) (w := w) ks st.hp
  have hlH : (lentH st.hp ns).length = ns.length := by simp [lentH]
  have hnc : ns.length ≤ Hc.length := by have := hs.len; omega
  simp only [takeBack, kb1, hL] at hk
  generalize hf : backTo ns L = f at *
  have f1 : ∀ i (h : i < ns.length), f i = ns[i] := fun i h => by rw [← hf]; simp only [backTo, if_pos h]; exact getD_lt' h
  have f2 : ∀ i, ¬ i < ns.length → f i = L + (i - ns.length) := fun i h => by rw [← hf]; simp only [backTo, if_neg h]
  generalize hd : ((ret.rn f).nms.all (· < L) && lowH L ((Hc.take ns.length).map (Blk.rn f))) = d at hk
  let E : List Blk := cond d [] ((Hc.drop ns.length).map (Blk.rn f))
  have hlen1 : ((Hc.take ns.length).map (Blk.rn f)).length = ns.length := by simp; omega
  obtain ⟨sa1, sa2⟩ := setAll_spec ns ((Hc.take ns.length).map (Blk.rn f)) (killBs ks st.hp) hnd hlen1 (fun b hb => by rw [kb1]; have := hlt b hb; omega)
  have hE : (cond d (setAll (killBs ks st.hp) ns ((Hc.take ns.length).map (Blk.rn f))) (setAll (killBs ks st.hp) ns ((Hc.take ns.length).map (Blk.rn f)) ++ (Hc.drop ns.length).map (Blk.rn f))) = setAll (killBs ks st.hp) ns ((Hc.take ns.length).map (Blk.rn f)) ++ E := by
    cases d <;> simp [E]
  rw [hE] at hk
  generalize hH2 : setAll (killBs ks st.hp) ns ((Hc.take ns.length).map (Blk.rn f)) ++ E = H2 at hk
  have hl2 : H2.length = L + E.length := by rw [← hH2, List.length_append, sa1, kb1, hL]
  have hEl : E.length = if d = true then 0 else Hc.length - ns.length := by cases d <;> simp [E]
  -- what stands where
  have g1 : ∀ b (hb : b ∈ ns), H2[b]? = some ((Hc[idxIn ns b]'(by have := (hci b hb).1; omega)).rn f) := fun b hb => by
    have hbl := hlt b hb
    rw [← hH2, List.getElem?_append_left (by rw [sa1, kb1, hL]; exact hbl), sa2, if_pos hb]
    have hi := (hci b hb).1
    have e : ns.idxOf b = idxIn ns b := rfl
    rw [e, List.getElem?_map, List.getElem?_take, if_pos hi, List.getElem?_eq_getElem (by omega)]
    rfl
  have g2 : ∀ b, b < L → b ∉ ns → H2[b]? = (killBs ks st.hp)[b]? := fun b hb hbn => by
    rw [← hH2, List.getElem?_append_left (by rw [sa1, kb1, hL]; exact hb), sa2, if_neg hbn]
  have g3 : ∀ b, L ≤ b → (hb : b < H2.length) → d = false ∧ ∃ h : ns.length + (b - L) < Hc.length, H2[b]? = some ((Hc[ns.length + (b - L)]).rn f) := fun b hbL hb => by
    have hd' : d = false := by
      rcases Bool.eq_false_or_eq_true d with h | h
      · rw [hl2, hEl, h] at hb; simp at hb; omega
      · exact h
    have h' : ns.length + (b - L) < Hc.length := by rw [hl2, hEl, hd'] at hb; simp at hb; omega
    refine ⟨hd', h', ?_⟩
    rw [← hH2, List.getElem?_append_right (by rw [sa1, kb1, hL]; exact hbL), sa1, kb1, hL]
    simp only [E, hd', cond_false, List.getElem?_map, List.getElem?_drop, List.getElem?_eq_getElem h', Option.map_some]
  let Γ2 := Γ.back Γ1 ns L d
  -- renaming goes well
  have G : ∀ i, i < Hc.length → (i < ns.length ∨ d = false) → Γ2.nm (f i) = Γ1.nm i ∧ shpOf H2 (f i) = shpOf Hc i ∧ f i < H2.length := fun i hi hg => by
    by_cases h : i < ns.length
    · rw [f1 i h]
      have hm := List.getElem_mem h
      have hidx : idxIn ns ns[i] = i := by
        obtain ⟨q1, q2⟩ := hci _ hm
        exact (List.getElem_inj hnd).1 q2
      refine ⟨by simp only [Γ2, Ctx.back, if_pos hm, hidx], ?_, by have := hlt _ hm; omega⟩
      simp only [shpOf, g1 _ hm, Option.map_some, Blk.rn_shp, hidx, List.getElem?_eq_getElem hi]
    · have hd' : d = false := by rcases hg with hg | hg; exact absurd hg h; exact hg
      have hbL : L + (i - ns.length) < H2.length := by rw [hl2, hEl, hd']; simp; omega
      have hnn : L + (i - ns.length) ∉ ns := fun hm => by have := hlt _ hm; omega
      rw [f2 i h]
      refine ⟨?_, ?_, hbL⟩
      · simp only [Γ2, Ctx.back, if_neg hnn, hd']
        rw [if_neg (by omega), if_neg (by simp)]
        congr 1; omega
      · obtain ⟨_, h', e⟩ := g3 _ (by omega) hbL
        have e2 : ns.length + (L + (i - ns.length) - L) = i := by omega
        simp only [shpOf, e, Option.map_some, Blk.rn_shp, List.getElem?_eq_getElem hi]
        congr 2
        simp only [e2]
  have gret : ∀ c ∈ ret.nms, c < ns.length ∨ d = false := fun c hc => by
    cases hdd : d with
    | false => exact .inr rfl
    | true =>
      rw [hdd] at hd
      simp only [Bool.and_eq_true, List.all_eq_true, decide_eq_true_eq] at hd
      refine .inl (Decidable.byContradiction fun h => ?_)
      have := hd.1 (f c) (by rw [PV.rn_nms]; exact List.mem_map_of_mem hc)
      rw [f2 c h] at this
      omega
  have glent : ∀ i (hi : i < ns.length), ∀ c ∈ (Hc[i]'(by omega)).nms, c < ns.length ∨ d = false := fun i hi c hc => by
    cases hdd : d with
    | false => exact .inr rfl
    | true =>
      rw [hdd] at hd
      simp only [Bool.and_eq_true] at hd
      refine .inl (Decidable.byContradiction fun h => ?_)
      have hmem : (Hc[i]'(by omega)).rn f ∈ (Hc.take ns.length).map (Blk.rn f) := List.mem_map_of_mem (by rw [List.mem_take_iff_getElem]; exact ⟨i, by omega, rfl⟩)
      have := lowH_spec hd.2 _ hmem (f c) (by rw [Blk.rn_nms]; exact List.mem_map_of_mem hc)
      rw [f2 c h] at this
      omega
  -- the world
  have hΓc : ∀ i g, (Γ.lent ns).nm i = some g → ∃ h : i < ns.length, Γ.nm ns[i] = some g := fun i g h => by
    simp only [Ctx.lent] at h
    cases hi : ns[i]? with
    | none => rw [hi] at h; simp at h
    | some b =>
      obtain ⟨q1, q2⟩ := List.getElem?_eq_some_iff.1 hi
      rw [hi] at h
      exact ⟨q1, by rw [q2]; exact h⟩
  have hfoot := hI.foot _ _ _ _ S.inv
  have hold : ∀ b g, b ∉ ns → Γ.nm b = some g → w'.heap[g]? = w.heap[g]? := fun b g hb hg => hs.frame g (S.hr.lt b g hg).2.1 (fun i hi => by
    obtain ⟨h1, h2⟩ := hΓc i g hi
    have := S.hr.inj _ _ g h2 hg
    exact hb (this ▸ List.getElem_mem h1)) (S.dis b g hg)
  have hst : ∀ g, Γ.St g → w'.heap[g]? = w.heap[g]? := fun g hg => hs.frame g (S.hr.stlt g hg) (fun i hi => by
    obtain ⟨h1, h2⟩ := hΓc i g hi
    exact (S.hr.lt _ g h2).2.2 hg) (fun hp => (hfoot g hp).2 hg)
  have hown : ∀ i g, Γ1.nm i = some g → (∃ h : i < ns.length, Γ.nm ns[i] = some g) ∨ w.heap.size ≤ g := fun i g h => by
    rcases hs.own i g h with ⟨_, h⟩ | h
    · exact .inl (hΓc i g h)
    · exact .inr h
  have hks' : ∀ b, b ∈ ns → b ∉ ks → fixS C (shpOf st.hp b) := fun b hb hbk => by
    rw [← hks] at hbk
    have hbl := hlt b hb
    rw [← fixB_iff (by omega)]
    simp only [List.mem_filter, not_and, Bool.not_eq_true'] at hbk
    simpa using hbk hb
  have hkeep : ∀ b, b ∈ ns → fixS C (shpOf st.hp b) → Γ2.nm b = Γ.nm b ∧ shpOf H2 b = shpOf st.hp b ∧ ∀ g, Γ.nm b = some g → w'.shape? g = w.shape? g := fun b hb hfx => by
    obtain ⟨q1, q2⟩ := hci b hb
    have e := lent_shp (H := st.hp) (fun b hb => by have := hlt b hb; omega) q1
    rw [q2] at e
    obtain ⟨k1, k2, k3⟩ := hs.keep (idxIn ns b) (by omega) (by rw [e]; exact hfx)
    rw [lent_nm hb] at k1 k3
    refine ⟨by simp only [Γ2, Ctx.back, if_pos hb]; exact k1, ?_, k3⟩
    have e5 : shpOf Hc (idxIn ns b) = some (Hc[idxIn ns b]'(by omega)).shp := by
      simp only [shpOf]
      rw [List.getElem?_eq_getElem (by omega)]
      rfl
    rw [← e, ← k2, e5]
    simp only [shpOf, g1 b hb, Option.map_some, Blk.rn_shp]
  have M : Mono Γ (shpOf st.hp) w Γ2 (shpOf H2) w' (fun c => c < L ∧ c ∉ ks) := by
    have key : ∀ c, c < L → c ∉ ks → Γ2.nm c = Γ.nm c ∧ shpOf H2 c = shpOf st.hp c ∧ ∀ g, Γ.nm c = some g → w'.shape? g = w.shape? g := fun c hc hck => by
      by_cases hcn : c ∈ ns
      · exact hkeep c hcn (hks' c hcn hck)
      · refine ⟨by simp only [Γ2, Ctx.back, if_neg hcn, if_pos hc], ?_, fun g hg => shape_of_heap (hold c g hcn hg)⟩
        rw [← kb2 c]
        simp only [shpOf, g2 c hc hcn]
    exact ⟨hst, hs.sub, fun c hc => (key c hc.1 hc.2).1, fun c hc => (key c hc.1 hc.2).2.1, fun c g hc hg => (key c hc.1 hc.2).2.2 g hg, rfl⟩
  have hyv2 : Γ2.yv = Γ1.yv := by have := hs.yv; exact this.symm
  have hr2 : HR Γ2 H2 w' := by
    refine ⟨fun b b' g h1 h2 => ?_, fun b g h => ?_, hH1.stlt, fun b hb c hcc => ?_, fun b hb => ?_⟩
    · simp only [Γ2, Ctx.back] at h1 h2
      have case1 : ∀ x y, x ∈ ns → Γ1.nm (idxIn ns x) = some g → y ∉ ns → Γ.nm y = some g → False := fun x y hx e1 hy' e2 => by
        rcases hown _ g e1 with ⟨q1, q2⟩ | q
        · have := S.hr.inj _ _ g q2 e2
          exact hy' (this ▸ List.getElem_mem q1)
        · have := (S.hr.lt y g e2).2.1; omega
      have case2 : ∀ x i, Γ.nm x = some g → ¬ i < ns.length → Γ1.nm i = some g → False := fun x i e1 hi e2 => by
        rcases hown _ g e2 with ⟨q1, _⟩ | q
        · exact hi q1
        · have := (S.hr.lt x g e1).2.1; omega
      split at h1
      · rename_i hb
        split at h2
        · rename_i hb'
          have := hH1.inj _ _ g h1 h2
          rw [← (hci b hb).2, ← (hci b' hb').2]
          simp only [this]
        · rename_i hb'
          split at h2
          · exact (case1 b b' hb h1 hb' h2).elim
          · split at h2
            · cases h2
            · have := hH1.inj _ _ g h1 h2
              have := (hci b hb).1; omega
      · rename_i hb
        split at h1
        · rename_i hbL
          split at h2
          · rename_i hb'; exact (case1 b' b hb' h2 hb h1).elim
          · split at h2
            · exact S.hr.inj b b' g h1 h2
            · split at h2
              · cases h2
              · exact (case2 b _ h1 (by omega) h2).elim
        · rename_i hbL
          split at h1
          · cases h1
          · split at h2
            · rename_i hb'
              have := hH1.inj _ _ g h1 h2
              have := (hci b' hb').1; omega
            · split at h2
              · exact (case2 b' _ h2 (by omega) h1).elim
              · have := hH1.inj _ _ g h1 h2; omega
    · simp only [Γ2, Ctx.back] at h ⊢
      split at h
      · rename_i hb
        have := hH1.lt _ g h
        have := hlt b hb
        exact ⟨by omega, (hH1.lt _ g h).2.1, (hH1.lt _ g h).2.2⟩
      · split at h
        · rename_i hbL
          have h1 := S.hr.lt b g h
          refine ⟨by omega, by have := hs.size; omega, fun hs1 => ?_⟩
          rcases hs.stnew g hs1 with q | q
          · exact h1.2.2 q
          · omega
        · rename_i hbL
          split at h
          · cases h
          · rename_i hd'
            have h1 := hH1.lt _ g h
            refine ⟨?_, h1.2.1, h1.2.2⟩
            rw [hl2, hEl, if_neg hd']
            omega
    · by_cases hbn : b ∈ ns
      · have e := g1 b hbn
        rw [List.getElem?_eq_getElem hb] at e
        simp only [Option.some.injEq] at e
        rw [e, Blk.rn_nms] at hcc
        obtain ⟨c', hc', rfl⟩ := List.mem_map.1 hcc
        have hi := (hci b hbn).1
        exact (G c' (hH1.nms _ (by omega) c' hc') (glent _ hi c' hc')).2.2
      · by_cases hbL : b < L
        · have e := g2 b hbL hbn
          rw [List.getElem?_eq_getElem hb, List.getElem?_eq_getElem (by rw [kb1, hL]; exact hbL)] at e
          simp only [Option.some.injEq] at e
          rw [e] at hcc
          have := ((kb3 b (by rw [kb1, hL]; exact hbL) (by omega)).1 c hcc).2
          have := S.hr.nms b (by omega) c this
          omega
        · obtain ⟨hd', h', e⟩ := g3 b (by omega) hb
          rw [List.getElem?_eq_getElem hb] at e
          simp only [Option.some.injEq] at e
          rw [e, Blk.rn_nms] at hcc
          obtain ⟨c', hc', rfl⟩ := List.mem_map.1 hcc
          exact (G c' (hH1.nms _ h' c' hc') (.inr hd')).2.2
    · by_cases hbn : b ∈ ns
      · have e := g1 b hbn
        rw [List.getElem?_eq_getElem hb] at e
        simp only [Option.some.injEq] at e
        rw [e]
        have hi := (hci b hbn).1
        refine (hH1.blk _ (by omega)).rn hyv2 (.inr fun _ h => h) (by simp only [Γ2, Ctx.back, if_pos hbn]) (fun c' hc' => ?_)
        have := G c' (hH1.nms _ (by omega) c' hc') (glent _ hi c' hc')
        exact ⟨this.1, this.2.1⟩
      · by_cases hbL : b < L
        · have e := g2 b hbL hbn
          rw [List.getElem?_eq_getElem hb, List.getElem?_eq_getElem (by rw [kb1, hL]; exact hbL)] at e
          simp only [Option.some.injEq] at e
          rw [e]
          have q := kb3 b (by rw [kb1, hL]; exact hbL) (by omega)
          refine (q.2 b (S.hr.blk b (by omega))).mono M (by simp only [Γ2, Ctx.back, if_neg hbn, if_pos hbL]) (fun g hg => hold b g hbn hg) (fun c hc => ?_)
          have := q.1 c hc
          exact ⟨by have := S.hr.nms b (by omega) c this.2; omega, this.1⟩
        · obtain ⟨hd', h', e⟩ := g3 b (by omega) hb
          rw [List.getElem?_eq_getElem hb] at e
          simp only [Option.some.injEq] at e
          rw [e]
          refine (hH1.blk _ h').rn hyv2 (.inr fun _ h => h) ?_ (fun c' hc' => ?_)
          · simp only [Γ2, Ctx.back, if_neg hbn, if_neg hbL, hd']
            simp
          · have := G c' (hH1.nms _ h' c' hc') (.inr hd')
            exact ⟨this.1, this.2.1⟩
  have hstp : Stp C Γ st.hp w Φ Γ2 H2 w' Φ1 := by
    refine ⟨hs.os, hs.tape, hs.output, hs.size, hs.sub, hs.stnew, fun b g h => ?_, hs.foot, fun g hg hng hp => hs.frame g hg (fun i hi => ?_) hp, rfl, by omega, fun b hb hfx => ?_⟩
    · simp only [Γ2, Ctx.back] at h
      split at h
      · rename_i hb
        rcases hown _ g h with ⟨q1, q2⟩ | q
        · have hh : ns[idxIn ns b] = b := (hci b hb).2
          rw [hh] at q2
          exact .inl ⟨by have := hlt b hb; omega, q2⟩
        · exact .inr q
      · split at h
        · exact .inl ⟨by omega, h⟩
        · split at h
          · cases h
          · rcases hown _ g h with ⟨q1, _⟩ | q
            · omega
            · exact .inr q
    · obtain ⟨_, q2⟩ := hΓc i g hi
      exact hng _ q2
    · by_cases hbn : b ∈ ns
      · exact hkeep b hbn hfx
      · have hbk : b ∉ ks := fun h => hbn (by rw [← hks] at h; exact (List.mem_filter.1 h).1)
        exact ⟨M.nm b ⟨by omega, hbk⟩, M.shp b ⟨by omega, hbk⟩, fun g hg => M.hs b g ⟨by omega, hbk⟩ hg⟩
  have hsr : SR Γ2 H2 w' (killAll ks st.sl) tmps := by
    obtain ⟨a1', a2, a3⟩ := killAll_spec (Γ := Γ) (sh := shpOf st.hp) (w := w) ks st.sl
    refine ⟨by rw [a1']; exact S.sr.size, fun c hc => by have := S.sr.nms c (a2 c hc).2; omega, fun i hi => ?_⟩
    have hi' : i < st.sl.length := by rw [a1'] at hi; exact hi
    obtain ⟨U, e, q⟩ := S.sr.slot i hi'
    refine ⟨U, e, (a3 i hi hi' U q).mono M fun c hc => ?_⟩
    have hm := a2 c (mem_nmsL.2 ⟨i, hi, hc⟩)
    exact ⟨by have := S.sr.nms c hm.2; omega, hm.1⟩
  refine ⟨_, _, Γ2, Φ1, hk, hstp, ⟨hr2, hsr, S.g.mono hst hs.sub, hi1, fun b g h => ?_⟩, ?_, fun c hc => ?_⟩
  · intro hp
    simp only [Γ2, Ctx.back] at h
    split at h
    · exact hd1 _ g h hp
    · split at h
      · rcases hs.foot g hp with q | q
        · exact S.dis b g h q
        · have := (S.hr.lt b g h).2.1; omega
      · split at h
        · cases h
        · exact hd1 _ g h hp
  · exact hv.rn hyv2 (.inr fun _ h => h) (fun c hc => by
      have := G c (hvn c hc) (gret c hc)
      exact ⟨this.1, this.2.1⟩)
  · rw [PV.rn_nms] at hc
    obtain ⟨c', hc', rfl⟩ := List.mem_map.1 hc
    exact (G c' (hvn c' hc') (gret c' hc')).2.2

end
end Go.Proofs.Ytfioahjeanmfpaa.E
