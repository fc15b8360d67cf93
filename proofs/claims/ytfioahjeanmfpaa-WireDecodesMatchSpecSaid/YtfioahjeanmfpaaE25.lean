/-
  Regions that draw their order; loops; the code.
-/
import Derived.Test.YtfioahjeanmfpaaE24
import Derived.Sort.QuietThIn
namespace Go.Proofs.Ytfioahjeanmfpaa.E
open Go
set_option linter.unusedVariables false

section quiet
variable {F : Fence} {n : Nat} {P : Program} {ops : Array Oper} {md : Region.Mode} {K : World → Prop}

theorem wpIn_of_quiet' {o : Oper} {a : Act} {N : Act → Prop} {N' : Act → World → Prop} {Q' : Exit → Act → World → Prop} {w : World} (hnd : ∀ c, o.op ≠ .defer c) (hw : K w) (h : ∀ a w', K w' → N a → N' a w')
    (ha : o.askedIn F P a K) (hh : o.quietIn F n P a K N) : o.wpIn F n P a w N' Q' := by
  obtain ⟨v, h1, h2⟩ := hh
  have h3 := h1 w hw
  unfold Oper.quietAtIn at h3
  unfold Oper.wpIn
  refine ⟨ha w hw, ?_⟩
  rw [Oper.semAt_eq _ _ _ hnd]
  generalize (execOp a.eval o).run P w = r at *
  cases r with
  | ok x w' =>
    cases x <;> simp only [Oper.quietUponIn] at h3 <;> simp only [Oper.uponIn]
    case value u =>
      obtain ⟨e1, e2⟩ := h3
      rw [e1, e2]
      exact h _ _ hw h2
    case skip =>
      obtain ⟨e1, e2⟩ := h3
      rw [e1, ← e2]
      exact h _ _ hw h2
    case enter f args =>
      obtain ⟨e1, hd, hc⟩ := h3
      rw [e1]
      exact ⟨hd, hc.mono fun e w'' ⟨he, hw''⟩ => by subst he; exact h _ _ hw'' h2⟩
  | halt x w' => simp only [Oper.quietUponIn] at h3

theorem wpOpIn_of_q' {i : Nat} {a : Act} {N : Act → Prop} {N' : Act → World → Prop} {Q' : Exit → Act → World → Prop} {w : World} (hnd : ∀ o ∈ ops, ∀ c, o.op ≠ .defer c) (hC : K w) (h : ∀ a w', K w' → N a → N' a w')
    (hh : qOpIn F n P ops K i N a) : wpOpIn F n P ops Q' i N' a w := by
  unfold qOpIn at hh
  unfold wpOpIn
  split
  · rename_i ho; simp only [ho] at hh; exact h _ _ hC hh
  · rename_i o ho
    simp only [ho] at hh
    obtain ⟨ha, hh⟩ := hh
    split
    · rename_i hw; simp only [hw, if_true] at hh; exact wpIn_of_quiet' (hnd o (Array.mem_of_getElem? ho)) hC h ha hh
    · rename_i hw; simp only [hw] at hh; exact ⟨ha w hC, h _ _ hC hh⟩

theorem wpAnyIn_of_q' {Q : Act → Prop} {Q' : Exit → Act → World → Prop} (hnd : ∀ o ∈ ops, ∀ c, o.op ≠ .defer c) (hQ : ∀ a w, K w → Q a → Q' .normal a w) : ∀ (fuel : Nat) (listed : Array Bool) (a : Act) (w : World), K w →
    wpAnyQIn F n P md ops K Q fuel listed a → wpAnyIn F n P md ops Q' fuel listed a w
  | 0, _, _, _, hw, h => ⟨h.1, hQ _ _ hw h.2⟩
  | fuel + 1, _, _, _, hw, h => ⟨fun h0 => hQ _ _ hw (h.1 h0), fun i hi => wpOpIn_of_q' hnd hw (fun a' w' hw' => wpAnyIn_of_q' hnd hQ fuel _ a' w' hw') (h.2 i hi)⟩

theorem wpIn_region_q' {id : Nat} {Q : Exit → Act → World → Prop} {a : Act} {w : World} (hnd : ∀ o ∈ ops, ∀ c, o.op ≠ .defer c) (hm : P.follows .mixedOrders = true) (hB : Region.lexB .any ops = true) (hC : K { w with drawn := w.drawn + 1 })
    (h : wpQuietIn F n P ops K (fun a' => ∀ w', K w' → Q .normal a' w') ops.toList a) : (Code.region id ops true).wpIn F n P Q a w := by
  simp only [Region.lexB, Bool.and_eq_true] at hB
  refine wpIn_region_any hm (wpAnyIn_of_q' (Q := fun a' => ∀ w', K w' → Q .normal a' w') hnd (fun _ w' hw' h => h w' hw') _ _ _ _ hC ?_)
  have := wpAnyQIn_lex (F := F) (n := n) (C := K) (md := .any) hB.1 ops.toList 0 (Array.replicate ops.size false) a (by simp) (by simpa using hB.2) h
  simpa using this

theorem wpIn_loopN {c : Code} {Q : Exit → Act → World → Prop} {a : Act} {w : World} (J : Nat → Act → World → Prop) (N : Nat) (h₀ : J N a w)
    (round : ∀ m a w, J m a w → c.wpIn F n P (Exit.then (fun a' w' => ∃ m', m' < m ∧ J m' a' w') Q) a w) : (Code.loop c).wpIn F n P Q a w := by
  intro b k cs hro hb hr
  have key : ∀ j a w, J j a w → ∃ e a' w', Q e a' w' ∧ ArrivesIn (Machine.fenced P F) P (lone (b.atR a (.code c :: .inLoop c :: k)) cs w) b k cs e a' w' := by
    intro j
    induction j using Nat.strongRecOn with
    | _ j ih =>
      intro a w hI
      obtain ⟨e, a₁, w₁, hq, harr⟩ := round j a w hI b (.inLoop c :: k) cs hro hb hr
      cases e with
      | normal =>
        obtain ⟨m, hlt, hI₁⟩ := hq
        obtain ⟨e₂, a₂, w₂, hq₂, harr₂⟩ := ih m hlt a₁ w₁ hI₁
        exact ⟨e₂, a₂, w₂, hq₂, .of_steps (StepsIn.trans harr (.one (fenced_calm hb hr rfl) stepR_inLoop)) harr₂⟩
      | exit id => exact ⟨_, a₁, w₁, hq, .pass (x := .inLoop c) rfl (fun _ _ => .inl (by simp)) harr⟩
      | goto l => exact ⟨_, a₁, w₁, hq, .pass (x := .inLoop c) rfl (fun _ _ => .inl (by simp)) harr⟩
      | ret => exact ⟨_, a₁, w₁, hq, .pass (x := .inLoop c) rfl (fun _ _ => .inl (by simp)) harr⟩
      | panic ch => exact ⟨_, a₁, w₁, hq, .pass (x := .inLoop c) rfl (fun _ _ => .inl (by simp)) harr⟩
      | outgrown => exact ⟨_, a₁, w₁, hq, .pass (x := .inLoop c) rfl (fun _ _ => .inl (by simp)) harr⟩
  obtain ⟨e, a', w', hq, harr⟩ := key N a w h₀
  exact ⟨e, a', w', hq, .of_steps (.one (fenced_calm hb hr rfl) stepR_loop) harr⟩
end quiet

section
variable {σ R : Type} {r : R} {C : Cfg} {I : σ → (Nat → Prop) → (Nat → Prop) → World → Prop} {Γ : Ctx} {Φ : Nat → Prop} {st : St σ} {a : Act} {w : World} {cl : CallT} {yh : Yh σ} {yv : Value} {o : Oper}

/-- The world but for its draws. -/
def Like (w w' : World) : Prop := w'.heap = w.heap ∧ w'.os = w.os ∧ w'.tape = w.tape ∧ w'.output = w.output

theorem SI.like (hI : HI I) (S : SI C I Γ Φ st a.tmps w) {w' : World} (h : Like w w') : SI C I Γ Φ st a.tmps w' ∧ Stp C Γ st.hp w Φ Γ st.hp w' Φ :=
  S.wide hI (St' := Γ.St) (fun g _ => by rw [h.1]) (by rw [h.1]; exact Nat.le_refl _) (fun _ h => h) (fun _ h => .inl h) (fun g hg => by rw [h.1]; exact S.hr.stlt g hg) h.2.1 h.2.2.1 h.2.2.2

/-- REGIONS THAT DRAW: one walk in the order of the text, nothing changed. -/
theorem opsK_quiet {ro : Option Nat} {n : Nat} {all : Array Oper} : ∀ (rest : List Oper) {st : St σ} {a : Act} {k : St σ → Option R}, (∀ o ∈ rest, quietOp C o.op = true) → opsK C cl yh all rest st k = some r → SI C I Γ Φ st a.tmps w →
    ∀ (N : Act → Prop), (∀ st' a', k st' = some r → SI C I Γ Φ st' a'.tmps w → Stp C Γ st.hp w noΦ Γ st'.hp w noΦ → a'.defers = a.defers → N a') → wpQuietIn (wideAt ro) n C.P all (Like w) N rest a
  | [], st, a, k, hq, h, S, N, hN => hN st a h S (Stp.refl S.hr) rfl
  | o :: rest, st, a, k, hq, h, S, N, hN => by
    have run : ∀ {st : St σ}, SI C I Γ Φ st a.tmps w → (∀ st' a', k st' = some r → SI C I Γ Φ st' a'.tmps w → Stp C Γ st.hp w noΦ Γ st'.hp w noΦ → a'.defers = a.defers → N a') → opK C cl yh o st (fun st' => opsK C cl yh all rest st' k) = some r → o.quietIn (wideAt ro) n C.P a (Like w) (wpQuietIn (wideAt ro) n C.P all (Like w) N rest) := fun S hN h => by
      obtain ⟨V, st', h1, h2, h3, h4⟩ := opK_quiet (hq o (by simp)) h S
      refine ⟨V, fun w' hw' => ?_, opsK_quiet rest (fun o ho => hq o (by simp [ho])) h1 h3 N fun st2 a2 k1 k2 k3 k4 => hN st2 a2 k1 k2 (h4.trans k3) (k4.trans (put_defers _ _ _))⟩
      unfold Oper.quietAtIn
      rw [h2 w' hw'.1]
      exact ⟨rfl, rfl⟩
    have skip : ∀ {st : St σ}, SI C I Γ Φ st a.tmps w → (∀ st' a', k st' = some r → SI C I Γ Φ st' a'.tmps w → Stp C Γ st.hp w noΦ Γ st'.hp w noΦ → a'.defers = a.defers → N a') → opsK C cl yh all rest { st with sl := putS o.dst (.tup []) st.sl } k = some r → wpQuietIn (wideAt ro) n C.P all (Like w) N rest (a.put o.dst undef) := fun {st} S hN h =>
      opsK_quiet rest (st := { st with sl := putS o.dst (.tup []) st.sl }) (fun o ho => hq o (by simp [ho])) h (S.put (o := o) undef_VP (by simp [PV.nms, nmsL])) N fun st2 a2 k1 k2 k3 k4 => hN st2 a2 k1 k2 k3 (k4.trans (put_defers _ _ _))
    refine ⟨fun _ _ _ _ => trivial, ?_⟩
    simp only [opsK] at h
    split at h
    · rename_i hg
      have hw : Region.wanted o (yielded all a.tmps) = true := by simp [Region.wanted, hg]
      rw [if_pos hw]
      exact run S hN h
    · rename_i j want hg
      split at h
      · rename_i g hjg
        have hyd1 : ∀ b, a.tmps[g]? = some (.bool b) → yielded all a.tmps j = some b := fun b e => by simp [yielded, hjg, e]
        have hyd0 : (∀ b, a.tmps[g]? ≠ some (.bool b)) → yielded all a.tmps j = none := fun hne => by
          simp only [yielded, hjg, Option.bind_some]
        have hslot : ∀ v, st.sl.getD g (.tup []) = v → ∀ V, a.tmps[g]? = some V → VP Γ (shpOf st.hp) w v V := fun v hv V hV => by
          have hlt : g < st.sl.length := by rw [← S.sr.size]; exact (Array.getElem?_eq_some_iff.1 hV).1
          obtain ⟨U, e1, e2⟩ := S.sr.slot g hlt
          rw [e1] at hV
          simp only [Option.some.injEq] at hV
          subst hV
          rw [getD_lt hlt] at hv
          rw [← hv]; exact e2
        split at h
        · rename_i b hb
          have hlt : g < st.sl.length := Decidable.byContradiction fun hge => by
            rw [List.getD_eq_getElem?_getD, List.getElem?_eq_none (Nat.le_of_not_lt hge)] at hb
            cases hb
          obtain ⟨U, e1, e2⟩ := S.sr.slot g hlt
          have hU := (hslot _ hb U e1).inv_bool
          subst hU
          have hyd' : yielded all a.tmps j = some b := hyd1 b e1
          have S' : SI C I Γ Φ { st with sl := st.sl.set g (.s (.bool b)) } a.tmps w := ⟨S.hr, S.sr.set g (hslot _ hb) (by simp [PV.nms]), S.g, S.inv, S.dis⟩
          have hsp : (if (b == want) = true then opK C cl yh o { st with sl := st.sl.set g (.s (.bool b)) } (fun st' => opsK C cl yh all rest st' k) else opsK C cl yh all rest { st with sl := putS o.dst (.tup []) (st.sl.set g (.s (.bool b))) } k) = some r := by
            cases b <;> exact h
          by_cases hbw : b = want
          · rw [if_pos (by simpa using hbw)] at hsp
            rw [if_pos (by simp [Region.wanted, hg, hyd', hbw])]
            exact run S' hN hsp
          · rw [if_neg (by simpa using hbw)] at hsp
            rw [if_neg (by simp [Region.wanted, hg, hyd', hbw])]
            exact skip S' hN hsp
        · rename_i hb
          have hyd' : yielded all a.tmps j = none := hyd0 fun b hbb => by
            obtain ⟨B, e, _⟩ := (hslot _ hb _ hbb).inv_tup
            cases e
          rw [if_neg (by simp [Region.wanted, hg, hyd'])]
          exact skip S hN h
        · cases h
      · cases h

/-- The code that the theorem is about. -/
def codeOK (C : Cfg) : Code → Bool
  | .region _ ops d => !d || (Region.lexB .any ops && ops.all fun o => quietOp C o.op)
  | .seq a b => codeOK C a && codeOK C b
  | .cond _ a b => codeOK C a && codeOK C b
  | .block _ a => codeOK C a
  | .loop a => codeOK C a
  | .rangeFunc _ _ _ _ => false
  | _ => true

theorem quiet_nd {op : Op} (h : quietOp C op = true) : ∀ c, op ≠ .defer c := by rintro c rfl; simp [quietOp] at h

def Out.exit' : Out → Exit
  | .normal => .normal
  | .exit id => .exit id
  | .ret => .ret

end
end Go.Proofs.Ytfioahjeanmfpaa.E
