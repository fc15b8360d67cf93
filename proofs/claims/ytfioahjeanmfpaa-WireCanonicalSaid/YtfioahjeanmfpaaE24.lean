/-
  Operations into the walk; regions in the order of the text.
-/
import Derived.Test.YtfioahjeanmfpaaE23
namespace Go.Proofs.Ytfioahjeanmfpaa.E
open Go
set_option linter.unusedVariables false

section
variable {σ R : Type} {r : R} {C : Cfg} {I : σ → (Nat → Prop) → (Nat → Prop) → World → Prop} {Γ : Ctx} {Φ : Nat → Prop} {st : St σ} {a : Act} {w : World} {cl : CallT} {yh : Yh σ} {yv : Value} {o : Oper}

/-- What the theorems ask of the callees and of the handler. -/
structure Ask (C : Cfg) (I : σ → (Nat → Prop) → (Nat → Prop) → World → Prop) (cl : CallT) (yh : Yh σ) (yv : Value) : Prop where
  hI : HI I
  hC : CalleeOK C cl
  hX : XOK C
  hy : YdOK C.P I yh yv

theorem callF_sound {g : Nat} {args : List PV} {Vs tmps : Array Value} {k : PV → St σ → Option R} (A : Ask C I cl yh yv) (hyv : Γ.yv = yv) (h : callF C cl yh g args st k = some r) (S : SI C I Γ Φ st tmps w) (hc : CR Γ (shpOf st.hp) w args Vs) (hn : ∀ c ∈ nmsL args, c < st.hp.length) :
    UponOK C.P ((callFunc g Vs).run C.P w) (KRes C I Γ Φ st tmps w k r) := by
  unfold callF at h
  split at h
  · rename_i pf hX
    split at h
    · rename_i hna
      obtain ⟨ret, Hc, hpf, h⟩ := runTr_some h
      have hpf : trRes (pf (snapL st.hp args)) = some (ret, Hc) := by
        cases hx : C.xp g with
        | true => rw [hx] at hpf; exact (plainTr_res hpf).1
        | false => rw [hx] at hpf; exact hpf
      obtain ⟨h1, h2⟩ := need_some h
      exact callX_sound A.hI A.hX S hc hX hpf (List.isEmpty_iff.1 hna) (by simpa only [Bool.or_eq_true, Bool.not_eq_true', Bool.and_eq_true] using h1) h2
    · cases h
  · dsimp only at h
    split at h
    · rename_i hl
      split at h
      · rename_i hcl
        have key : CR Γ (shpOf st.hp) w (cond (C.lend g) args (snapL st.hp args)) Vs ∧ ∀ c ∈ nmsL (cond (C.lend g) args (snapL st.hp args)), c < st.hp.length := by
          cases hlg : C.lend g with
          | true => exact ⟨hc, hn⟩
          | false =>
            rw [hlg] at hl
            have hr : rowsL args = false := by simpa using hl
            obtain ⟨q1, q2⟩ := hc.snap_plain hr
            exact ⟨q1, fun c hc => hn c (q2 c hc)⟩
        split at h
        · rename_i pf hY
          obtain ⟨ret, Hc, hpf, h⟩ := runTr_some h
          refine callL_sound (s' := st.s) A.hI A.hX.y A.hy hyv S key.1 key.2 hcl ?_ h
          simp only [clY, hY]
          rw [show trRes (pf _ (lentH st.hp _)) = some (ret, Hc) from hpf]
        · split at h
          · rename_i ret Hc s' hcall
            exact callL_sound A.hI A.hC A.hy hyv S key.1 key.2 hcl hcall h
          · cases h
      · cases h
    · split at h
      · rename_i hna
        split at h
        · rename_i ret Hc u hcall
          split at h
          · rename_i hret
            obtain ⟨h1, h2⟩ := need_some h
            exact callS_sound A.hI A.hC S hc (List.isEmpty_iff.1 hna) hcall hret h1 h2
          · cases h
        · cases h
      · cases h

theorem CR.append {sh : Nat → Option Shp} {x y : List PV} {X Y : Array Value} (hx : CR Γ sh w x X) (hy : CR Γ sh w y Y) : CR Γ sh w (x ++ y) (X ++ Y) := by
  refine ⟨by rw [Array.size_append, List.length_append, hx.1, hy.1], fun j hj => ?_⟩
  rw [List.length_append] at hj
  by_cases h : j < x.length
  · obtain ⟨U, e, k⟩ := hx.2 j h
    refine ⟨U, by rw [Array.getElem?_append_left (by rw [hx.1]; exact h)]; exact e, ?_⟩
    rw [List.getElem_append_left h]; exact k
  · obtain ⟨U, e, k⟩ := hy.2 (j - x.length) (by omega)
    refine ⟨U, by rw [Array.getElem?_append_right (by rw [hx.1]; omega), hx.1]; exact e, ?_⟩
    rw [List.getElem_append_right (by omega)]; exact k

theorem nmsL_append (x y : List PV) : nmsL (x ++ y) = nmsL x ++ nmsL y := by
  induction x with
  | nil => rfl
  | cons a x ih => simp [nmsL, ih]

theorem VP.inv_fn' {sh : Nat → Option Shp} {V : Value} {f : Fn} {x y : List SV} (h : VP Γ sh w (.s (.fn f x y)) V) : ∃ A B, V = .func f A B ∧ CR Γ sh w (x.map .s) A ∧ CR Γ sh w (y.map .s) B := by
  have hs := h.inv_s
  cases hs with
  | fn _ _ _ A B As Bs hf hA hB ha hb hx hy =>
    refine ⟨A, B, rfl, ⟨by simpa using hA, fun j hj => ?_⟩, ⟨by simpa using hB, fun j hj => ?_⟩⟩
    · have hj' : j < x.length := by simpa using hj
      exact ⟨As j, ha j hj', by rw [List.getElem_map]; exact .s _ _ (hx j hj')⟩
    · have hj' : j < y.length := by simpa using hj
      exact ⟨Bs j, hb j hj', by rw [List.getElem_map]; exact .s _ _ (hy j hj')⟩

theorem VP.inv_fnr' {sh : Nat → Option Shp} {V : Value} {f : Fn} {x y : List PV} (h : VP Γ sh w (.fnr f x y) V) : ∃ A B, V = .func f A B ∧ CR Γ sh w x A ∧ CR Γ sh w y B := by
  cases h with
  | fnr _ _ _ A B As Bs hf hA hB ha hb hx hy => exact ⟨A, B, rfl, ⟨hA, fun j hj => ⟨As j, ha j hj, hx j hj⟩⟩, ⟨hB, fun j hj => ⟨Bs j, hb j hj, hy j hj⟩⟩⟩

theorem svArgs_CR {sh : Nat → Option Shp} : ∀ {args : List PV} {Vs : List Value}, svArgs args = true → args.length = Vs.length → (∀ j (h : j < args.length), ∃ U, Vs[j]? = some U ∧ VP Γ sh w (args[j]) U) → ∀ j (h : j < args.length), ∃ U, Vs[j]? = some U ∧ VP Γ (fun _ => none) w (args[j]) U
  | [], Vs, _, _, _ => fun j h => by simp at h
  | v :: r, [], _, hl, _ => by simp at hl
  | v :: r, U :: Us, hs, hl, hc => by
    have h0 : VP Γ sh w v U := by
      obtain ⟨U', e, k⟩ := hc 0 (by simp)
      simp at e; subst e; simpa using k
    have hr : ∀ j (h : j < r.length), ∃ U, Us[j]? = some U ∧ VP Γ sh w (r[j]) U := fun j hj => by
      obtain ⟨U', e, k⟩ := hc (j + 1) (by simpa using hj)
      exact ⟨U', by simpa using e, by simpa using k⟩
    have key : svArgs r = true ∧ VP Γ (fun _ => none) w v U := by
      unfold svArgs at hs
      split at hs
      · rename_i he; cases he
      · rename_i he; cases he
        exact ⟨hs, .s _ _ h0.inv_s⟩
      · rename_i l r' he
        cases he
        simp only [Bool.and_eq_true, Option.isSome_iff_exists] at hs
        obtain ⟨⟨vs, hvs⟩, hs⟩ := hs
        refine ⟨hs, ?_⟩
        obtain ⟨A, rfl, hA, hcA⟩ := h0.inv_agg
        refine VP.mk_agg hA fun j hj => ?_
        obtain ⟨U, e, k⟩ := hcA j hj
        refine ⟨U, e, ?_⟩
        have : (l[j]).nms = [] := by
          have : ∀ (l : List PV) vs, svs? l = some vs → ∀ v ∈ l, v.nms = [] := by
            intro l
            induction l with
            | nil => intro _ _ v hv; simp at hv
            | cons x l ih =>
              intro vs h v hv
              simp only [svs?] at h
              split at h
              · rename_i a b ha hb
                rcases List.mem_cons.1 hv with rfl | hv
                · unfold PV.sv? at ha
                  split at ha
                  · rfl
                  · rfl
                  · cases ha
                · exact ih b hb v hv
              · cases h
          exact this l vs hvs _ (List.getElem_mem hj)
        exact k.mono (Γ' := Γ) (ok := fun _ => False) ⟨fun _ _ => rfl, fun _ h => h, fun _ h => h.elim, fun _ h => h.elim, fun _ _ h => h.elim, rfl⟩ (by rw [this]; simp)
      · cases hs
    intro j hj
    cases j with
    | zero => exact ⟨U, rfl, by simpa using key.2⟩
    | succ j =>
      obtain ⟨U', e, k⟩ := svArgs_CR key.1 (by simpa using hl) hr j (by simpa using hj)
      exact ⟨U', by simpa using e, by simpa using k⟩

theorem callV_sound {f : PV} {FV : Value} {args : List PV} {Vs tmps : Array Value} {k : PV → St σ → Option R} (A : Ask C I cl yh yv) (hyv : Γ.yv = yv) (h : callV C cl yh f args st k = some r) (S : SI C I Γ Φ st tmps w) (hf : VP Γ (shpOf st.hp) w f FV) (hfn : ∀ c ∈ f.nms, c < st.hp.length)
    (hc : CR Γ (shpOf st.hp) w args Vs) (hn : ∀ c ∈ nmsL args, c < st.hp.length) :
    UponOK C.P ((do let d ← Deferred.ofValue FV Vs; invoke d.target d.args).run C.P w) (KRes C I Γ Φ st tmps w k r) := by
  unfold callV at h
  split at h
  · rename_i g first caps
    obtain ⟨F, B, rfl, h1, h2⟩ := hf.inv_fn'
    have := callF_sound A hyv h S ((h1.append hc).append h2) (fun c hc => by
      rw [nmsL_append, nmsL_append, nmsL_s, nmsL_s] at hc
      simp only [List.nil_append, List.append_nil] at hc
      exact hn c hc)
    simpa [Deferred.ofValue, invoke] using this
  · rename_i g first caps
    obtain ⟨F, B, rfl, h1, h2⟩ := hf.inv_fnr'
    have := callF_sound A hyv h S ((h1.append hc).append h2) (fun c hc => by
      rw [nmsL_append, nmsL_append] at hc
      simp only [List.mem_append] at hc
      simp only [PV.nms, List.mem_append] at hfn
      rcases hc with (hc | hc) | hc
      · exact hfn c (.inl hc)
      · exact hn c hc
      · exact hfn c (.inr hc))
    simpa [Deferred.ofValue, invoke] using this
  · split at h
    · rename_i hsv
      unfold ydK at h
      split at h
      · rename_i b s' hyb
        have hFV : FV = yv := by
          cases hf
          exact hyv
        subst hFV
        refine (A.hy args st.s b s' hyb hsv Γ Φ w Vs S.inv S.hr.stlt ⟨hc.1, ?_⟩).mono ?_
        · intro j hj
          obtain ⟨U, e, q⟩ := svArgs_CR (Vs := Vs.toList) hsv (by simpa using hc.1.symm) (fun j hj => by obtain ⟨U, e, k⟩ := hc.2 j hj; exact ⟨U, by simpa using e, k⟩) j hj
          exact ⟨U, by simpa using e, q⟩
        · rintro V w' ⟨rfl, St', Φ', hi, q1, q2, q3, q4, q5, q6, q7, q8, q9⟩
          have hfoot := A.hI.foot _ _ _ _ S.inv
          have hold : ∀ b g, Γ.nm b = some g → w'.heap[g]? = w.heap[g]? := fun b g hg => q4 g (S.hr.lt b g hg).2.1 (S.dis b g hg)
          have hst : ∀ g, Γ.St g → w'.heap[g]? = w.heap[g]? := fun g hg => q4 g (S.hr.stlt g hg) (fun hp => (hfoot g hp).2 hg)
          let Γ2 : Ctx := { Γ with St := St' }
          have M : Mono Γ (shpOf st.hp) w Γ2 (shpOf st.hp) w' (fun _ => True) := ⟨hst, q1, fun _ _ => rfl, fun _ _ => rfl, fun b g _ hg => shape_of_heap (hold b g hg), rfl⟩
          have hr2 : HR Γ2 st.hp w' := by
            refine ⟨S.hr.inj, fun b g hg => ?_, q9, S.hr.nms, fun b hb => (S.hr.blk b hb).mono M rfl (fun g hg => hold b g hg) (fun _ _ => trivial)⟩
            have := S.hr.lt b g hg
            refine ⟨this.1, by omega, fun h => ?_⟩
            rcases q2 g h with h | h
            · exact this.2.2 h
            · omega
          refine ⟨_, _, Γ2, Φ', h, ⟨q6, q7, q8, q5, q1, q2, fun b g hg => .inl ⟨(S.hr.lt b g hg).1, hg⟩, q3, fun g hg _ hp => q4 g hg hp, rfl, Nat.le_refl _, fun b hb _ => ⟨rfl, rfl, fun g hg => shape_of_heap (hold b g hg)⟩⟩,
            ⟨hr2, S.sr.mono M (fun c hc => ⟨trivial, S.sr.nms c hc⟩), S.g.mono hst q1, hi, fun b g hg hp => ?_⟩, .bool _, by simp [PV.nms]⟩
          rcases q3 g hp with h | h
          · exact S.dis b g hg h
          · have := (S.hr.lt b g hg).2.1; omega
      · cases h
    · cases h
  · cases h

/-- What must hold behind an operation. -/
def Nxt (C : Cfg) (I : σ → (Nat → Prop) → (Nat → Prop) → World → Prop) (Γ : Ctx) (Φ : Nat → Prop) (H : List Blk) (w : World) (ds : List Deferred) (k : St σ → Option R) (r : R) (next : Act → World → Prop) : Prop :=
  ∀ st' a' w' Γ' Φ', k st' = some r → Stp C Γ H w Φ Γ' st'.hp w' Φ' → SI C I Γ' Φ' st' a'.tmps w' → a'.defers = ds → next a' w'

theorem put_defers (a : Act) (d : Option Tmp) (v : Value) : (a.put d v).defers = a.defers := by cases d <;> rfl

theorem opK_wp {ro : Option Nat} {n : Nat} {k : St σ → Option R} {next : Act → World → Prop} {Q : Exit → Act → World → Prop} (A : Ask C I cl yh yv) (hyv : Γ.yv = yv) (h : opK C cl yh o st k = some r) (S : SI C I Γ Φ st a.tmps w) (hN : Nxt C I Γ Φ st.hp w a.defers k r next) :
    o.wpIn (wideAt ro) n C.P a w next Q := by
  refine ⟨fun _ _ => trivial, ?_⟩
  have hnd : ∀ c, o.op ≠ .defer c := fun c e => by simp [opK, e] at h
  rw [Oper.semAt_eq _ _ _ hnd]
  by_cases hq : callOp o.op = true
  · obtain ⟨c, hop⟩ : ∃ c, o.op = .call c := by
      unfold callOp at hq
      split at hq
      · exact ⟨_, ‹_›⟩
      · cases hq
    have h' := h
    simp only [opK, hop] at h'
    split at h'
    · rename_i b hb; rw [hop] at hq; simp [callOp, hb] at hq
    · rename_i f hf
      obtain ⟨hc, hn⟩ := S.list c.args
      have := callV_sound A hyv h' S (S.opnd f).1 (S.opnd f).2 hc hn
      have he : execOp a.eval o = (do let d ← Deferred.ofValue (a.eval f) (c.args.map a.eval); invoke d.target d.args) := by simp only [execOp, hop, resolve, hf]
      rw [he]
      refine this ro n o a next Q ?_
      rintro V w' ⟨v, st', Γ', Φ', k1, k2, k3, k4, k5⟩
      exact hN _ (a.put o.dst V) w' Γ' Φ' k1 k2 ⟨k3.hr, k3.sr.put (ds := a.defers) o k4 k5, k3.g, k3.inv, k3.dis⟩ (put_defers _ _ _)
    · cases h'
  · obtain ⟨V, w', Γ', st', h1, h2, h3, h4⟩ := opK_loud A.hI (by simpa using hq) h S
    have hn := hN st' (a.put o.dst V) w' Γ' Φ h1 h4 h3 (put_defers _ _ _)
    rcases h2 with h2 | ⟨rfl, h2⟩
    · rw [h2]; exact hn
    · rw [h2]; exact hn

theorem SR.set {Γ : Ctx} {H : List Blk} {sl : List PV} {tmps : Array Value} (h : SR Γ H w sl tmps) (g : Nat) {v : PV} (hv : ∀ V, tmps[g]? = some V → VP Γ (shpOf H) w v V) (hn : ∀ c ∈ v.nms, c < H.length) : SR Γ H w (sl.set g v) tmps := by
  refine ⟨by simpa using h.size, fun c hc => ?_, fun i hi => ?_⟩
  · obtain ⟨j, hj, hc⟩ := mem_nmsL.1 hc
    rw [List.getElem_set] at hc
    split at hc
    · exact hn c hc
    · exact h.nms c (mem_nmsL.2 ⟨j, by simpa using hj, hc⟩)
  · have hi' : i < sl.length := by simpa using hi
    obtain ⟨U, e1, e2⟩ := h.slot i hi'
    refine ⟨U, e1, ?_⟩
    rw [List.getElem_set]
    split
    · rename_i e; subst e; exact hv U e1
    · exact e2

/-- REGIONS IN THE ORDER OF THE TEXT. -/
theorem opsK_wp {ro : Option Nat} {n : Nat} {Q : Exit → Act → World → Prop} {all : Array Oper} (A : Ask C I cl yh yv) : ∀ (rest : List Oper) {Γ : Ctx} {Φ : Nat → Prop} {st : St σ} {a : Act} {w : World} {k : St σ → Option R}, Γ.yv = yv → opsK C cl yh all rest st k = some r → SI C I Γ Φ st a.tmps w →
    Nxt C I Γ Φ st.hp w a.defers k r (fun a' w' => Q .normal a' w') → wpListIn (wideAt ro) n C.P all Q rest a w
  | [], Γ, Φ, st, a, w, k, hyv, h, S, hN => hN st a w Γ Φ h (Stp.refl S.hr) S rfl
  | o :: rest, Γ, Φ, st, a, w, k, hyv, h, S, hN => by
    have run : ∀ {st : St σ}, SI C I Γ Φ st a.tmps w → Nxt C I Γ Φ st.hp w a.defers k r (fun a' w' => Q .normal a' w') → opK C cl yh o st (fun st' => opsK C cl yh all rest st' k) = some r → o.wpIn (wideAt ro) n C.P a w (wpListIn (wideAt ro) n C.P all Q rest) Q := fun S hN h =>
      opK_wp A hyv h S fun st' a' w' Γ' Φ' h1 h2 h3 h4 => opsK_wp A rest (h2.yv.trans hyv) h1 h3 fun st2 a2 w2 Γ2 Φ2 k1 k2 k3 k4 => hN st2 a2 w2 Γ2 Φ2 k1 (h2.trans k2) k3 (k4.trans h4)
    have skip : ∀ {st : St σ}, SI C I Γ Φ st a.tmps w → Nxt C I Γ Φ st.hp w a.defers k r (fun a' w' => Q .normal a' w') → opsK C cl yh all rest { st with sl := putS o.dst (.tup []) st.sl } k = some r → wpListIn (wideAt ro) n C.P all Q rest (a.put o.dst undef) w := fun {st} S hN h =>
      opsK_wp A rest (st := { st with sl := putS o.dst (.tup []) st.sl }) hyv h (S.put (o := o) undef_VP (by simp [PV.nms, nmsL])) (by rw [put_defers]; exact hN)
    simp only [wpListIn]
    simp only [opsK] at h
    split at h
    · rename_i hg
      have hw : Region.wanted o (yielded all a.tmps) = true := by simp [Region.wanted, hg]
      rw [if_pos hw]
      exact run S hN h
    · rename_i j want hg
      split at h
      · rename_i g hjg
        have hyd1 : ∀ b, a.tmps[g]? = some (.bool b) → yielded all a.tmps j = some b := fun b e => by simp [yielded, hjg, e]
        have hyd0 : (∀ b, a.tmps[g]? ≠ some (.bool b)) → yielded all a.tmps j = none := fun hne => by
          simp only [yielded, hjg, Option.bind_some]
        have hslot : ∀ v, st.sl.getD g (.tup []) = v → ∀ V, a.tmps[g]? = some V → VP Γ (shpOf st.hp) w v V := fun v hv V hV => by
          have hlt : g < st.sl.length := by rw [← S.sr.size]; exact (Array.getElem?_eq_some_iff.1 hV).1
          obtain ⟨U, e1, e2⟩ := S.sr.slot g hlt
          rw [e1] at hV
          simp only [Option.some.injEq] at hV
          subst hV
          rw [getD_lt hlt] at hv
          rw [← hv]; exact e2
        split at h
        · rename_i b hb
          have hlt : g < st.sl.length := Decidable.byContradiction fun hge => by
            rw [List.getD_eq_getElem?_getD, List.getElem?_eq_none (Nat.le_of_not_lt hge)] at hb
            cases hb
          obtain ⟨U, e1, e2⟩ := S.sr.slot g hlt
          have hU := (hslot _ hb U e1).inv_bool
          subst hU
          have hyd' : yielded all a.tmps j = some b := hyd1 b e1
          have S' : SI C I Γ Φ { st with sl := st.sl.set g (.s (.bool b)) } a.tmps w := ⟨S.hr, S.sr.set g (hslot _ hb) (by simp [PV.nms]), S.g, S.inv, S.dis⟩
          have hsp : (if (b == want) = true then opK C cl yh o { st with sl := st.sl.set g (.s (.bool b)) } (fun st' => opsK C cl yh all rest st' k) else opsK C cl yh all rest { st with sl := putS o.dst (.tup []) (st.sl.set g (.s (.bool b))) } k) = some r := by
            cases b <;> exact h
          by_cases hbw : b = want
          · rw [if_pos (by simpa using hbw)] at hsp
            rw [if_pos (by simp [Region.wanted, hg, hyd', hbw])]
            exact run S' hN hsp
          · rw [if_neg (by simpa using hbw)] at hsp
            rw [if_neg (by simp [Region.wanted, hg, hyd', hbw])]
            exact ⟨fun _ _ => trivial, skip S' hN hsp⟩
        · rename_i hb
          have hyd' : yielded all a.tmps j = none := hyd0 fun b hbb => by
            obtain ⟨B, e, _⟩ := (hslot _ hb _ hbb).inv_tup
            cases e
          rw [if_neg (by simp [Region.wanted, hg, hyd'])]
          exact ⟨fun _ _ => trivial, skip S hN h⟩
        · cases h
      · cases h

end
end Go.Proofs.Ytfioahjeanmfpaa.E
