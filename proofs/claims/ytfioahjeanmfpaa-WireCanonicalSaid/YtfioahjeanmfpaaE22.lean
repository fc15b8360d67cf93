/-
  Calls: the law (known results; rows handed on as they stand).
-/
import Derived.Test.YtfioahjeanmfpaaE21
namespace Go.Proofs.Ytfioahjeanmfpaa.E
open Go
set_option linter.unusedVariables false

mutual
theorem PV.rn_id : ∀ v : PV, v.rn (fun b => b) = v
  | .s _ => rfl
  | .nsl => rfl
  | .fl b => rfl
  | .vw b _ _ => rfl
  | .ptr b _ _ => rfl
  | .fnr _ x y => by simp only [PV.rn, rnL_id x, rnL_id y]
  | .it b => rfl
  | .yd => rfl
  | .agg l => by simp only [PV.rn, rnL_id l]
  | .tup l => by simp only [PV.rn, rnL_id l]
  | .bad => rfl
theorem rnL_id : ∀ l : List PV, rnL (fun b => b) l = l
  | [] => rfl
  | v :: r => by simp only [rnL, PV.rn_id v, rnL_id r]
end

section
variable {σ R : Type} {r : R} {C : Cfg} {I : σ → (Nat → Prop) → (Nat → Prop) → World → Prop} {Γ : Ctx} {Φ : Nat → Prop} {st : St σ} {tmps : Array Value} {w : World} {cl : CallT} {yh : Yh σ} {yv : Value}

/-- The world but for its draws and for new memory. -/
def Like (w w' : World) : Prop := (Ext w w' ∧ w.heap.size ≤ w'.heap.size) ∧ w'.os = w.os ∧ w'.tape = w.tape ∧ w'.output = w.output

/-- What a call leaves, as the caller sees it. -/
def KRes (C : Cfg) (I : σ → (Nat → Prop) → (Nat → Prop) → World → Prop) (Γ : Ctx) (Φ : Nat → Prop) (st : St σ) (tmps : Array Value) (w : World) (k : PV → St σ → Option R) (r : R) (V : Value) (w' : World) : Prop :=
  ∃ v st' Γ' Φ', k v st' = some r ∧ Stp C Γ st.hp w Φ Γ' st'.hp w' Φ' ∧ SI C I Γ' Φ' st' tmps w' ∧ VP Γ' (shpOf st'.hp) w' v V ∧ ∀ c ∈ v.nms, c < st'.hp.length

theorem VP.clean' {Γ Γ' : Ctx} {sh sh' : Nat → Option Shp} {v : PV} {V : Value} (h : VP Γ sh w v V) (hyv : Γ'.yv = Γ.yv) (hc : v.clean = true) (hn : v.nms = []) : VP Γ' sh' w v V := by
  have := h.rn (f := fun b => b) (Γ' := Γ') (sh' := sh') hyv (.inl hc) (by rw [hn]; simp)
  rwa [PV.rn_id] at this

theorem bare_HR {Γc : Ctx} (hn : ∀ b, Γc.nm b = none) (hlt : ∀ g, Γc.St g → g < w.heap.size) : HR Γc [] w :=
  ⟨fun b b' g h => (by rw [hn] at h; cases h), fun b g h => (by rw [hn] at h; cases h), hlt, fun b h => by simp at h, fun b h => by simp at h⟩

theorem SI.wide (hI : HI I) (S : SI C I Γ Φ st tmps w) {St' : Nat → Prop} {w' : World} (hold : ∀ g, g < w.heap.size → w'.heap[g]? = w.heap[g]?) (hsz : w.heap.size ≤ w'.heap.size) (hs : ∀ g, Γ.St g → St' g) (hn : ∀ g, St' g → Γ.St g ∨ w.heap.size ≤ g) (hlt : ∀ g, St' g → g < w'.heap.size)
    (h1 : w'.os = w.os) (h2 : w'.tape = w.tape) (h3 : w'.output = w.output) : SI C I { Γ with St := St' } Φ st tmps w' ∧ Stp C Γ st.hp w Φ { Γ with St := St' } st.hp w' Φ := by
  have hstp := wide_Stp (C := C) (Φ := Φ) S.hr hold hsz hs hn h1 h2 h3
  refine ⟨?_, hstp⟩
  have := S.step hI hstp (fun g hg => hold g (hI.foot _ _ _ _ S.inv g hg).1) (wide_HR S.hr hold hsz hs hn hlt) (S.sr.mono (wide_Mono S.hr hold hs) (fun c hc => ⟨trivial, S.sr.nms c hc⟩))
  exact this

theorem all_lt (S : SI C I Γ Φ st tmps w) : ∀ g, Γ.all.St g → g < w.heap.size := by
  rintro g (h | ⟨b, h⟩)
  · exact S.hr.stlt g h
  · exact (S.hr.lt b g h).2.1

theorem I0_HI : HI I0 := ⟨fun _ _ Φ _ h g hg => absurd hg (h g), fun _ _ Φ _ _ _ h _ _ _ _ _ _ _ _ => h⟩
theorem I0_Yd {P : Program} {yv : Value} : YdOK P I0 (fun _ _ => none) yv := fun _ _ _ _ h => by cases h

/-- New blocks of a callee's are taken over. 'St': what was stable for the callee; 'St2': what is stable for the caller from now on. -/
theorem take_over {ret : PV} {Hc : List Blk} {k : PV → St σ → Option R} {St0 : Nat → Prop} {Res : Result Next} (hI : HI I) (S : SI C I Γ Φ st tmps w) (hSt : ∀ g, Γ.St g → St0 g) (hcln : (∀ g, St0 g → Γ.St g) ∨ (ret.clean = true ∧ Hc.all Blk.clean = true))
    (hres : UponOK C.P Res (CRes C I0 { Γ with St := St0, nm := fun _ => none } [] w noΦ ret Hc ()))
    (hk : k (ret.rn (st.hp.length + ·)) { sl := st.sl, hp := st.hp ++ Hc.map (Blk.rn (st.hp.length + ·)), s := st.s } = some r) : UponOK C.P Res (fun V w' => KRes C I Γ Φ st tmps w k r V w' ∧ Like w w') := by
  let Γc : Ctx := { Γ with St := St0, nm := fun _ => none }
  refine hres.mono ?_
  rintro V w' ⟨Γ1, Φ1, hs, hH1, hv, hvn, hi1, hd1⟩
  have hold : ∀ k, k < w.heap.size → w'.heap[k]? = w.heap[k]? := fun k hk => hs.frame k hk (fun b => by simp) (fun x => x)
  generalize hL : st.hp.length = L at *
  have hnew : ∀ i g, Γ1.nm i = some g → i < Hc.length ∧ w.heap.size ≤ g ∧ g < w'.heap.size := fun i g h => by
    refine ⟨(hH1.lt i g h).1, ?_, (hH1.lt i g h).2.1⟩
    rcases hs.own i g h with ⟨h', _⟩ | h'
    · simp at h'
    · exact h'
  obtain ⟨St2, hst2, hst2n, hst2l, hclr⟩ : ∃ St2 : Nat → Prop, (∀ g, Γ.St g → St2 g) ∧ (∀ g, St2 g → Γ.St g ∨ (w.heap.size ≤ g ∧ Γ1.St g)) ∧ (∀ g, St2 g → g < w'.heap.size) ∧ ((∀ g, Γ1.St g → St2 g) ∨ (ret.clean = true ∧ Hc.all Blk.clean = true)) := by
    rcases hcln with h | h
    · refine ⟨Γ1.St, fun g hg => hs.sub g (hSt g hg), fun g hg => ?_, fun g hg => hH1.stlt g hg, .inl fun _ h => h⟩
      rcases hs.stnew g hg with q | q
      · exact .inl (h g q)
      · exact .inr ⟨q, hg⟩
    · exact ⟨Γ.St, fun _ h => h, fun _ h => .inl h, fun g hg => Nat.lt_of_lt_of_le (S.hr.stlt g hg) hs.size, .inr h⟩
  let Γ2 : Ctx := { Γ with St := St2, nm := fun b => if b < L then Γ.nm b else Γ1.nm (b - L) }
  let H2 : List Blk := st.hp ++ Hc.map (Blk.rn (L + ·))
  have hsh : ∀ i, i < Hc.length → shpOf H2 (L + i) = shpOf Hc i := fun i hi => by
    simp only [H2, shpOf]
    rw [List.getElem?_append_right (by omega), hL, Nat.add_sub_cancel_left, List.getElem?_map, Option.map_map]
    congr 1
    funext x
    exact Blk.rn_shp _ x
  have M : Mono Γ (shpOf st.hp) w Γ2 (shpOf H2) w' (· < L) := ⟨fun g hg => hold g (S.hr.stlt g hg), hst2, fun b hb => by simp only [Γ2]; rw [if_pos hb], fun b hb => shpOf_append_lt (by omega), fun b g hb hg => shape_of_heap (hold g (S.hr.lt b g hg).2.1), rfl⟩
  have hnm2 : ∀ i, i < Hc.length → Γ2.nm (L + i) = Γ1.nm i := fun i hi => by simp only [Γ2]; rw [if_neg (by omega), Nat.add_sub_cancel_left]
  have hyv : Γ2.yv = Γ1.yv := by have := hs.yv; exact this.symm
  have hlen2 : H2.length = L + Hc.length := by simp [H2, hL]
  have hr2 : HR Γ2 H2 w' := by
    refine ⟨fun b b' g h1 h2 => ?_, fun b g h => ?_, hst2l, fun b hb c hcc => ?_, fun b hb => ?_⟩
    · simp only [Γ2] at h1 h2
      split at h1 <;> split at h2
      · exact S.hr.inj b b' g h1 h2
      · have := (S.hr.lt b g h1).2.1; have := (hnew _ g h2).2.1; omega
      · have := (S.hr.lt b' g h2).2.1; have := (hnew _ g h1).2.1; omega
      · have := hH1.inj _ _ g h1 h2; omega
    · rw [hlen2]
      simp only [Γ2] at h
      split at h
      · have := S.hr.lt b g h
        refine ⟨by omega, by have := hs.size; omega, fun hst => ?_⟩
        rcases hst2n g hst with q | q
        · exact this.2.2 q
        · omega
      · have := hnew _ g h
        refine ⟨by omega, this.2.2, fun hst => ?_⟩
        rcases hst2n g hst with q | q
        · have := S.hr.stlt g q; omega
        · exact (hH1.lt _ g h).2.2 q.2
    · rw [hlen2] at hb ⊢
      by_cases hbL : b < L
      · have : H2[b]'(by omega) = st.hp[b]'(by omega) := List.getElem_append_left (by omega)
        rw [this] at hcc
        have := S.hr.nms b (by omega) c hcc; omega
      · have : H2[b]'(by omega) = (Hc[b - L]'(by omega)).rn (L + ·) := by
          simp only [H2]
          rw [List.getElem_append_right (by omega), List.getElem_map]
          simp [hL]
        rw [this, Blk.rn_nms] at hcc
        obtain ⟨d, hd, rfl⟩ := List.mem_map.1 hcc
        have := hH1.nms _ (by omega) d hd
        omega
    · rw [hlen2] at hb
      by_cases hbL : b < L
      · have : H2[b]'(by omega) = st.hp[b]'(by omega) := List.getElem_append_left (by omega)
        rw [this]
        exact (S.hr.blk b (by omega)).mono M (M.nm b hbL) (fun g hg => hold g (S.hr.lt b g hg).2.1) (fun c hc => by have := S.hr.nms b (by omega) c hc; omega)
      · have : H2[b]'(by omega) = (Hc[b - L]'(by omega)).rn (L + ·) := by
          simp only [H2]
          rw [List.getElem_append_right (by omega), List.getElem_map]
          simp [hL]
        rw [this]
        refine (hH1.blk _ (by omega)).rn hyv (by
          rcases hclr with h | h
          · exact .inr h
          · exact .inl (List.all_eq_true.1 h.2 _ (List.getElem_mem _))) ?_ (fun c hc => ?_)
        · have := hnm2 (b - L) (by omega)
          rw [show L + (b - L) = b by omega] at this
          exact this
        · have hlt := hH1.nms _ (by omega) c hc
          exact ⟨hnm2 c hlt, hsh c hlt⟩
  have hstp : Stp C Γ st.hp w Φ Γ2 H2 w' Φ := by
    refine ⟨hs.os, hs.tape, hs.output, hs.size, hst2, fun g hg => (hst2n g hg).imp (fun h => h) (fun h => h.1), fun b g h => ?_, fun _ h => .inl h, fun g hg _ _ => hold g hg, rfl, by omega, fun b hb hf => ⟨M.nm b (by omega), M.shp b (by omega), fun g hg => M.hs b g (by omega) hg⟩⟩
    simp only [Γ2] at h
    split at h
    · exact .inl ⟨by omega, h⟩
    · exact .inr (hnew _ g h).2.1
  have S' := S.step hI hstp (fun g hg => hold g (hI.foot _ _ _ _ S.inv g hg).1) hr2 (S.sr.mono M (fun c hc => by have := S.sr.nms c hc; omega))
  refine ⟨⟨_, _, Γ2, Φ, hk, hstp, S', ?_, fun c hc => ?_⟩, ⟨hold, hs.size⟩, hs.os, hs.tape, hs.output⟩
  · exact hv.rn hyv (by rcases hclr with h | h; exact .inr h; exact .inl h.1) (fun c hc => ⟨hnm2 c (hvn c hc), hsh c (hvn c hc)⟩)
  · rw [PV.rn_nms] at hc
    obtain ⟨d, hd, rfl⟩ := List.mem_map.1 hc
    have := hvn d hd
    show L + d < H2.length
    omega

theorem callS_sound {g : Nat} {args : List PV} {Vs : Array Value} {ret : PV} {Hc : List Blk} {k : PV → St σ → Option R} (hI : HI I) (hC : CalleeOK C cl) (S : SI C I Γ Φ st tmps w) (hc : CR Γ (shpOf st.hp) w args Vs) (hna : nmsL (snapL st.hp args) = []) (hcl : cl Unit (fun _ _ => none) g (snapL st.hp args) [] () = some (ret, Hc, ()))
    (hret : ret.clean = true) (hH : Hc.all Blk.clean = true) (hk : k (ret.rn (st.hp.length + ·)) { sl := st.sl, hp := st.hp ++ Hc.map (Blk.rn (st.hp.length + ·)), s := st.s } = some r) : UponOK C.P ((callFunc g Vs).run C.P w) (KRes C I Γ Φ st tmps w k r) := by
  have hc1 := hc.snap S.hr
  let Γc : Ctx := { Γ.all with nm := fun _ => none }
  have hc2 : CR Γc (shpOf []) w (snapL st.hp args) Vs := hc1.bare hna (fun _ h => h) rfl
  exact (take_over hI S (St0 := Γ.all.St) (fun _ h => Or.inl h) (.inr ⟨hret, hH⟩)
    (hC Unit I0 _ Γ.yv I0_HI I0_Yd g _ [] () ret Hc () hcl Γc noΦ w Vs rfl (bare_HR (fun _ => rfl) (all_lt S)) (S.g.mono (fun _ _ => rfl) (fun _ h => Or.inl h)) (fun _ h => h) (fun b g h => by cases h) hc2 (by rw [hna]; simp)) hk).mono fun _ _ h => h.1

/-- A call whose result is known. -/
theorem callX_like {g : Nat} {args : List PV} {Vs : Array Value} {pf : List PV → Tr} {ret : PV} {Hc : List Blk} {k : PV → St σ → Option R} (hI : HI I) (hX : XOK C) (S : SI C I Γ Φ st tmps w) (hc : CR Γ (shpOf st.hp) w args Vs) (hg : C.X g = some pf) (hpf : trRes (pf (snapL st.hp args)) = some (ret, Hc))
    (hna : nmsL (snapL st.hp args) = []) (hcl : rowsL args = false ∨ (ret.clean = true ∧ Hc.all Blk.clean = true)) (hk : k (ret.rn (st.hp.length + ·)) { sl := st.sl, hp := st.hp ++ Hc.map (Blk.rn (st.hp.length + ·)), s := st.s } = some r) : UponOK C.P ((callFunc g Vs).run C.P w) (fun V w' => KRes C I Γ Φ st tmps w k r V w' ∧ Like w w') := by
  by_cases hr : rowsL args = false
  · have hc1 := (hc.snap_plain hr).1
    let Γc : Ctx := { Γ with nm := fun _ => none }
    have hc2 : CR Γc (shpOf []) w (snapL st.hp args) Vs := hc1.bare hna (fun _ h => h) rfl
    exact take_over hI S (St0 := Γ.St) (fun _ h => h) (.inl fun _ h => h) (hX.x g pf _ ret Hc hg hpf Γc w Vs (fun _ => rfl) (bare_HR (fun _ => rfl) S.hr.stlt) S.g hc2) hk
  · have hcl' : ret.clean = true ∧ Hc.all Blk.clean = true := by rcases hcl with h | h; exact absurd h hr; exact h
    have hc1 := hc.snap S.hr
    let Γc : Ctx := { Γ.all with nm := fun _ => none }
    have hc2 : CR Γc (shpOf []) w (snapL st.hp args) Vs := hc1.bare hna (fun _ h => h) rfl
    exact take_over hI S (St0 := Γ.all.St) (fun _ h => Or.inl h) (.inr hcl') (hX.x g pf _ ret Hc hg hpf Γc w Vs (fun _ => rfl) (bare_HR (fun _ => rfl) (all_lt S)) (S.g.mono (fun _ _ => rfl) (fun _ h => Or.inl h)) hc2) hk

theorem callX_sound {g : Nat} {args : List PV} {Vs : Array Value} {pf : List PV → Tr} {ret : PV} {Hc : List Blk} {k : PV → St σ → Option R} (hI : HI I) (hX : XOK C) (S : SI C I Γ Φ st tmps w) (hc : CR Γ (shpOf st.hp) w args Vs) (hg : C.X g = some pf) (hpf : trRes (pf (snapL st.hp args)) = some (ret, Hc))
    (hna : nmsL (snapL st.hp args) = []) (hcl : rowsL args = false ∨ (ret.clean = true ∧ Hc.all Blk.clean = true)) (hk : k (ret.rn (st.hp.length + ·)) { sl := st.sl, hp := st.hp ++ Hc.map (Blk.rn (st.hp.length + ·)), s := st.s } = some r) : UponOK C.P ((callFunc g Vs).run C.P w) (KRes C I Γ Φ st tmps w k r) :=
  (callX_like hI hX S hc hg hpf hna hcl hk).mono fun _ _ h => h.1

end
end Go.Proofs.Ytfioahjeanmfpaa.E
