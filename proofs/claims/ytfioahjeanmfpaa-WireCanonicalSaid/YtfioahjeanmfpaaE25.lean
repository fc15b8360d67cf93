/-
  Regions that draw their order; loops; the code.
-/
import Derived.Test.YtfioahjeanmfpaaE24
import Derived.Sort.QuietThIn
namespace Go.Proofs.Ytfioahjeanmfpaa.E
open Go
set_option linter.unusedVariables false

section quiet
variable {F : Fence} {n : Nat} {P : Program} {ops : Array Oper} {md : Region.Mode} {K : World → Prop}

theorem wpIn_of_quiet' {o : Oper} {a : Act} {N : Act → Prop} {N' : Act → World → Prop} {Q' : Exit → Act → World → Prop} {w : World} (hnd : ∀ c, o.op ≠ .defer c) (hw : K w) (h : ∀ a w', K w' → N a → N' a w')
    (ha : o.askedIn F P a K) (hh : o.quietIn F n P a K N) : o.wpIn F n P a w N' Q' := by
  obtain ⟨v, h1, h2⟩ := hh
  have h3 := h1 w hw
  unfold Oper.quietAtIn at h3
  unfold Oper.wpIn
  refine ⟨ha w hw, ?_⟩
  rw [Oper.semAt_eq _ _ _ hnd]
  generalize (execOp a.eval o).run P w = r at *
  cases r with
  | ok x w' =>
    cases x <;> simp only [Oper.quietUponIn] at h3 <;> simp only [Oper.uponIn]
    case value u =>
      obtain ⟨e1, e2⟩ := h3
      rw [e1, e2]
      exact h _ _ hw h2
    case skip =>
      obtain ⟨e1, e2⟩ := h3
      rw [e1, ← e2]
      exact h _ _ hw h2
    case enter f args =>
      obtain ⟨e1, hd, hc⟩ := h3
      rw [e1]
      exact ⟨hd, hc.mono fun e w'' ⟨he, hw''⟩ => by subst he; exact h _ _ hw'' h2⟩
  | halt x w' => simp only [Oper.quietUponIn] at h3

theorem wpOpIn_of_q' {i : Nat} {a : Act} {N : Act → Prop} {N' : Act → World → Prop} {Q' : Exit → Act → World → Prop} {w : World} (hnd : ∀ o ∈ ops, ∀ c, o.op ≠ .defer c) (hC : K w) (h : ∀ a w', K w' → N a → N' a w')
    (hh : qOpIn F n P ops K i N a) : wpOpIn F n P ops Q' i N' a w := by
  unfold qOpIn at hh
  unfold wpOpIn
  split
  · rename_i ho; simp only [ho] at hh; exact h _ _ hC hh
  · rename_i o ho
    simp only [ho] at hh
    obtain ⟨ha, hh⟩ := hh
    split
    · rename_i hw; simp only [hw, if_true] at hh; exact wpIn_of_quiet' (hnd o (Array.mem_of_getElem? ho)) hC h ha hh
    · rename_i hw; simp only [hw] at hh; exact ⟨ha w hC, h _ _ hC hh⟩

theorem wpAnyIn_of_q' {Q : Act → Prop} {Q' : Exit → Act → World → Prop} (hnd : ∀ o ∈ ops, ∀ c, o.op ≠ .defer c) (hQ : ∀ a w, K w → Q a → Q' .normal a w) : ∀ (fuel : Nat) (listed : Array Bool) (a : Act) (w : World), K w →
    wpAnyQIn F n P md ops K Q fuel listed a → wpAnyIn F n P md ops Q' fuel listed a w
  | 0, _, _, _, hw, h => ⟨h.1, hQ _ _ hw h.2⟩
  | fuel + 1, _, _, _, hw, h => ⟨fun h0 => hQ _ _ hw (h.1 h0), fun i hi => wpOpIn_of_q' hnd hw (fun a' w' hw' => wpAnyIn_of_q' hnd hQ fuel _ a' w' hw') (h.2 i hi)⟩

theorem wpIn_region_q' {id : Nat} {Q : Exit → Act → World → Prop} {a : Act} {w : World} (hnd : ∀ o ∈ ops, ∀ c, o.op ≠ .defer c) (hm : P.follows .mixedOrders = true) (hB : Region.lexB .any ops = true) (hC : K { w with drawn := w.drawn + 1 })
    (h : wpQuietIn F n P ops K (fun a' => ∀ w', K w' → Q .normal a' w') ops.toList a) : (Code.region id ops true).wpIn F n P Q a w := by
  simp only [Region.lexB, Bool.and_eq_true] at hB
  refine wpIn_region_any hm (wpAnyIn_of_q' (Q := fun a' => ∀ w', K w' → Q .normal a' w') hnd (fun _ w' hw' h => h w' hw') _ _ _ _ hC ?_)
  have := wpAnyQIn_lex (F := F) (n := n) (C := K) (md := .any) hB.1 ops.toList 0 (Array.replicate ops.size false) a (by simp) (by simpa using hB.2) h
  simpa using this

theorem wpIn_loopN {c : Code} {Q : Exit → Act → World → Prop} {a : Act} {w : World} (J : Nat → Act → World → Prop) (N : Nat) (h₀ : J N a w)
    (round : ∀ m a w, J m a w → c.wpIn F n P (Exit.then (fun a' w' => ∃ m', m' < m ∧ J m' a' w') Q) a w) : (Code.loop c).wpIn F n P Q a w := by
  intro b k cs hro hb hr
  have key : ∀ j a w, J j a w → ∃ e a' w', Q e a' w' ∧ ArrivesIn (Machine.fenced P F) P (lone (b.atR a (.code c :: .inLoop c :: k)) cs w) b k cs e a' w' := by
    intro j
    induction j using Nat.strongRecOn with
    | _ j ih =>
      intro a w hI
      obtain ⟨e, a₁, w₁, hq, harr⟩ := round j a w hI b (.inLoop c :: k) cs hro hb hr
      cases e with
      | normal =>
        obtain ⟨m, hlt, hI₁⟩ := hq
        obtain ⟨e₂, a₂, w₂, hq₂, harr₂⟩ := ih m hlt a₁ w₁ hI₁
        exact ⟨e₂, a₂, w₂, hq₂, .of_steps (StepsIn.trans harr (.one (fenced_calm hb hr rfl) stepR_inLoop)) harr₂⟩
      | exit id => exact ⟨_, a₁, w₁, hq, .pass (x := .inLoop c) rfl (fun _ _ => .inl (by simp)) harr⟩
      | goto l => exact ⟨_, a₁, w₁, hq, .pass (x := .inLoop c) rfl (fun _ _ => .inl (by simp)) harr⟩
      | ret => exact ⟨_, a₁, w₁, hq, .pass (x := .inLoop c) rfl (fun _ _ => .inl (by simp)) harr⟩
      | panic ch => exact ⟨_, a₁, w₁, hq, .pass (x := .inLoop c) rfl (fun _ _ => .inl (by simp)) harr⟩
      | outgrown => exact ⟨_, a₁, w₁, hq, .pass (x := .inLoop c) rfl (fun _ _ => .inl (by simp)) harr⟩
  obtain ⟨e, a', w', hq, harr⟩ := key N a w h₀
  exact ⟨e, a', w', hq, .of_steps (.one (fenced_calm hb hr rfl) stepR_loop) harr⟩
theorem stepR_scope {b : Frame} {a : Act} {k : List Item} {cs : List Frame} {w : World} {c : Code} : step P (lone (b.atR a (.code (.scope c) :: k)) cs w) = .next (lone (b.atR a (.code c :: .inScope c :: k)) cs w) :=
  step_lone_go (by simp [stepG, stepG.exec, Frame.atR])
theorem stepR_inScope {b : Frame} {a : Act} {k : List Item} {cs : List Frame} {w : World} {c : Code} : step P (lone (b.atR a (.inScope c :: k)) cs w) = .next (lone (b.atR a k) cs w) :=
  step_lone_go (by simp [stepG, stepG.exec, Frame.atR])

theorem wpIn_scopeN {c : Code} {Q : Exit → Act → World → Prop} {a : Act} {w : World} (h : c.wpIn F n P (fun e a w => (∀ l, e ≠ .goto l) ∧ Q e a w) a w) : (Code.scope c).wpIn F n P Q a w := by
  intro b k cs hro hb hr
  have h0 : (lone (b.atR a (.code (.scope c) :: k)) cs w).fenced P F := fenced_calm hb hr rfl
  obtain ⟨e, a₁, w₁, ⟨hg, hq⟩, harr⟩ := h b (.inScope c :: k) cs hro hb hr
  cases e with
  | normal => exact ⟨.normal, a₁, w₁, hq, .head h0 stepR_scope (StepsIn.trans harr (.one (fenced_calm hb hr rfl) stepR_inScope))⟩
  | exit id =>
    have hx : exitTo id (.inScope c :: k) = exitTo id k := by simp [exitTo]
    exact ⟨.exit id, a₁, w₁, hq, fun k' hk => .head h0 stepR_scope (harr.1 k' (by rw [hx]; exact hk)),
      fun hr' hk => let ⟨k₁, h1, h2⟩ := harr.2 hr' (by rw [hx]; exact hk); ⟨k₁, h1, .head h0 stepR_scope h2⟩⟩
  | goto l => exact absurd rfl (hg l)
  | ret => exact ⟨_, a₁, w₁, hq, .of_steps (.one h0 stepR_scope) harr⟩
  | panic ch => exact ⟨_, a₁, w₁, hq, .of_steps (.one h0 stepR_scope) harr⟩
  | outgrown => exact ⟨_, a₁, w₁, hq, .of_steps (.one h0 stepR_scope) harr⟩
end quiet

section
variable {σ R : Type} {r : R} {C : Cfg} {I : σ → (Nat → Prop) → (Nat → Prop) → World → Prop} {Γ : Ctx} {Φ : Nat → Prop} {st : St σ} {a : Act} {w : World} {cl : CallT} {yh : Yh σ} {yv : Value} {o : Oper}

theorem SI.like (hI : HI I) (S : SI C I Γ Φ st a.tmps w) {w' : World} (h : Like w w') : SI C I Γ Φ st a.tmps w' ∧ Stp C Γ st.hp w Φ Γ st.hp w' Φ :=
  S.wide hI (St' := Γ.St) h.1.1 h.1.2 (fun _ h => h) (fun _ h => .inl h) (fun g hg => Nat.lt_of_lt_of_le (S.hr.stlt g hg) h.1.2) h.2.1 h.2.2.1 h.2.2.2

/-! ### Calls in regions that draw: known results, plain values -/
def detV1 : PV → Value
  | .s (.bool b) => .bool b
  | .s (.int k n) => .int k n
  | .s (.str l) => .string ⟨l.toArray⟩
  | _ => undef
def detV : PV → Value
  | .tup l => .tuple (l.map detV1).toArray
  | v => detV1 v

theorem det1_inv {Γ : Ctx} {sh : Nat → Option Shp} {w : World} {v : PV} {V : Value} (h : VP Γ sh w v V) (hd : v.det1 = true) : V = detV1 v := by
  cases h with
  | s x V hx =>
    cases hx <;> simp [PV.det1, SV.det] at hd <;> simp [detV1]
  | _ => simp [PV.det1] at hd

theorem det_inv {Γ : Ctx} {sh : Nat → Option Shp} {w : World} {v : PV} {V : Value} (h : VP Γ sh w v V) (hd : v.det = true) : V = detV v := by
  cases h with
  | s x V hx => exact det1_inv (sh := sh) (.s x V hx) hd
  | tup l A As hA ha hl =>
    simp only [PV.det, List.all_eq_true] at hd
    simp only [detV]
    congr 1
    apply Array.ext
    · simp [hA]
    · intro j h1 h2
      have hj : j < l.length := by rw [← hA]; exact h1
      have e := ha j hj
      rw [Array.getElem?_eq_getElem h1] at e
      simp only [Option.some.injEq] at e
      simp only [List.getElem_toArray, List.getElem_map]
      rw [e]
      exact det1_inv (hl j hj) (hd _ (List.getElem_mem hj))
  | _ => simp [PV.det] at hd

theorem det1_VP {Γ : Ctx} {sh : Nat → Option Shp} {w : World} {v : PV} (hd : v.det1 = true) : VP Γ sh w v (detV1 v) ∧ v.nms = [] := by
  cases v with
  | s x =>
    cases x <;> simp [PV.det1, SV.det] at hd
    · exact ⟨.s _ _ (.bool _), rfl⟩
    · exact ⟨.s _ _ (.int _ _), rfl⟩
    · rename_i l
      have := VS.str (St := Γ.St) (w := w) (⟨l.toArray⟩ : ByteArray)
      simp only at this
      exact ⟨.s _ _ this, rfl⟩
  | _ => simp [PV.det1] at hd

theorem det_VP {Γ : Ctx} {sh : Nat → Option Shp} {w : World} {v : PV} (hd : v.det = true) : VP Γ sh w v (detV v) ∧ v.nms = [] := by
  cases v with
  | s x => exact det1_VP (v := .s x) hd
  | tup l =>
    simp only [PV.det, List.all_eq_true] at hd
    refine ⟨VP.mk_tup (by simp) fun j hj => ⟨detV1 (l[j]), by simp [hj], (det1_VP (hd _ (List.getElem_mem hj))).1⟩, ?_⟩
    simp only [PV.nms]
    rw [List.eq_nil_iff_forall_not_mem]
    intro c hc
    obtain ⟨j, hj, hc⟩ := mem_nmsL.1 hc
    rw [(det1_VP (Γ := Γ) (sh := sh) (w := w) (hd _ (List.getElem_mem hj))).2] at hc
    simp at hc
  | _ => simp [PV.det] at hd

theorem det_rn {v : PV} (hd : v.det = true) (f : Nat → Nat) : v.rn f = v := by
  cases v with
  | s x => rfl
  | tup l =>
    simp only [PV.det, List.all_eq_true] at hd
    simp only [PV.rn]
    congr 1
    induction l with
    | nil => rfl
    | cons a r ih =>
      simp only [rnL]
      have ha := hd a (by simp)
      have : a.rn f = a := by cases a <;> simp [PV.det1] at ha <;> rfl
      rw [this, ih (fun x hx => hd x (by simp [hx]))]
  | _ => simp [PV.det] at hd

theorem callFunc_enterB {P : Program} {g : Nat} {Vs : Array Value} {w : World} (h : enterB P g = true) : (callFunc g Vs).run P w = .ok (.enter g Vs) w := by
  unfold enterB at h
  split at h
  · rename_i fn hf
    simp only [Bool.and_eq_true, Bool.not_eq_true', Option.isSome_iff_exists] at h
    obtain ⟨⟨c, hb⟩, hn⟩ := h
    have hn' : ¬ fn.name = "runtime.NumGoroutine" := by simpa using hn
    simp [callFunc, hf, hb, hn', Result.andThen]
  · cases h

theorem uponIn_calls {P : Program} {ro : Option Nat} {n f : Nat} {Vs : Array Value} {w : World} {R : Value → World → Prop} (hrun : (callFunc f Vs).run P w = .ok (.enter f Vs) w) (h : UponOK P ((callFunc f Vs).run P w) R) : CallsIn (wideAt ro) (n - 1) P f Vs w fun e w' => ∃ V, e = .returned V ∧ R V w' := by
  rw [hrun] at h
  have := h ro n { op := .move (.const undef), dst := some 0, guard := none, type := 0, after := #[], pos := default } { tmps := #[undef], defers := [] } (fun a' w' => ∃ V, a'.tmps[0]? = some V ∧ R V w') (fun _ _ _ => False) (fun V w' hR => ⟨V, by simp [Act.put], hR⟩)
  rw [Oper.uponIn_enter] at this
  refine this.2.mono fun e w' he => ?_
  cases e with
  | returned v =>
    obtain ⟨V, e1, e2⟩ := he
    simp [Act.put] at e1
    subst e1
    exact ⟨_, rfl, e2⟩
  | panicked c => exact he.elim
  | outgrown => obtain ⟨_, _, h⟩ := he; exact h.elim

theorem opX_quiet {ro : Option Nat} {n : Nat} {k : St σ → Option R} (hI : HI I) (hX : XOK C) (hq : quietCall C o.op = true) (h : opK C cl yh o st k = some r) (S : SI C I Γ Φ st a.tmps w) :
    ∃ V st', k st' = some r ∧ (∀ w', Like w w' → o.quietAtIn (wideAt ro) n C.P a (Like w') w' V) ∧ SI C I Γ Φ st' (a.put o.dst V).tmps w ∧ Stp C Γ st.hp w noΦ Γ st'.hp w noΦ := by
  obtain ⟨c, hop⟩ : ∃ c, o.op = .call c := by
    unfold quietCall at hq
    split at hq
    · exact ⟨_, ‹_›⟩
    · cases hq
  rw [hop] at hq
  simp only [quietCall] at hq
  split at hq
  · rename_i g hcal
    simp only [Bool.and_eq_true, Option.isSome_iff_exists] at hq
    obtain ⟨⟨hxp, pf, hpfx⟩, hent⟩ := hq
    simp only [opK, hop, hcal, opnd, callV, callF, hpfx, hxp, cond_true, List.map_nil, List.nil_append, List.append_nil] at h
    split at h
    · rename_i hna
      obtain ⟨ret, Hc, hpf, h⟩ := runTr_some h
      obtain ⟨hpf, hdet, rfl⟩ := plainTr_res hpf
      obtain ⟨h1, h2⟩ := need_some h
      simp only [List.map_nil, List.append_nil, det_rn hdet] at h2
      have hv := det_VP (Γ := Γ) (sh := shpOf st.hp) (w := w) hdet
      refine ⟨detV ret, _, h2, fun w' hw' => ?_, S.put hv.1 (by rw [hv.2]; simp), Stp.refl S.hr⟩
      obtain ⟨S', _⟩ := S.like hI hw'
      obtain ⟨hc, hn⟩ := S'.list c.args
      have hc1 := hc.snap S'.hr
      let Γc : Ctx := { Γ.all with nm := fun _ => none }
      have hc2 : CR Γc (shpOf []) w' (snapL st.hp (c.args.toList.map (opnd C st.sl))) (c.args.map a.eval) := hc1.bare (List.isEmpty_iff.1 hna) (fun _ h => h) rfl
      have hcall := hX.x g pf _ ret [] hpfx hpf Γc w' _ (fun _ => rfl) (bare_HR (fun _ => rfl) (all_lt S')) (S'.g.mono (fun _ _ => rfl) (fun _ h => Or.inl h)) hc2
      have hcalls := uponIn_calls (ro := ro) (n := n) (callFunc_enterB hent) hcall
      have hev : a.eval (.func g) = .func (.func g) #[] #[] := rfl
      have he : execOp a.eval o = (do let d ← Deferred.ofValue (a.eval (.func g)) (c.args.map a.eval); invoke d.target d.args) := by simp only [execOp, hop, resolve, hcal]
      unfold Oper.quietAtIn
      rw [he, hev]
      have hrun : (do let d ← Deferred.ofValue (Value.func (.func g) #[] #[]) (c.args.map a.eval); invoke d.target d.args : Sem Next).run C.P w' = .ok (.enter g (c.args.map a.eval)) w' := by
        have := callFunc_enterB (P := C.P) (Vs := c.args.map a.eval) (w := w') hent
        simpa [Deferred.ofValue, invoke] using this
      rw [hrun]
      refine ⟨rfl, fun h => (by simp [wideAt, Fence.wide] at h), hcalls.mono ?_⟩
      rintro e w'' ⟨V, rfl, Γ1, Φ1, hs, hH1, hvv, _⟩
      have := det_inv hvv hdet
      subst this
      exact ⟨rfl, ⟨fun g hg => hs.frame g hg (fun b => by simp [Γc]) (fun x => x), hs.size⟩, hs.os, hs.tape, hs.output⟩
    · cases h
  · cases hq


def Out.exit' : Out → Exit
  | .normal => .normal
  | .exit id => .exit id
  | .ret => .ret

end
end Go.Proofs.Ytfioahjeanmfpaa.E
