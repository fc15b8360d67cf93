/-
  Operations that change the world, but call nothing.
-/
import Derived.Test.YtfioahjeanmfpaaE18
namespace Go.Proofs.Ytfioahjeanmfpaa.E
open Go
set_option linter.unusedVariables false

def callOp : Op → Bool
  | .call c => match c.callee with
    | .builtin _ => false
    | _ => true
  | _ => false

section
variable {σ R : Type} {r : R} {C : Cfg} {I : σ → (Nat → Prop) → (Nat → Prop) → World → Prop} {Γ : Ctx} {Φ : Nat → Prop} {st : St σ} {a : Act} {w : World} {cl : CallT} {yh : Yh σ} {o : Oper} {k : St σ → Option R}

/-- What an operation that calls nothing leaves. -/
def LOut (C : Cfg) (I : σ → (Nat → Prop) → (Nat → Prop) → World → Prop) (Γ : Ctx) (Φ : Nat → Prop) (st : St σ) (a : Act) (w : World) (o : Oper) (k : St σ → Option R) (r : R) : Prop :=
  ∃ V w' Γ' st', k st' = some r ∧ ((execOp a.eval o).run C.P w = .ok (.value V) w' ∨ (V = undef ∧ (execOp a.eval o).run C.P w = .ok .skip w')) ∧ SI C I Γ' Φ st' (a.put o.dst V).tmps w' ∧ Stp C Γ st.hp w Φ Γ' st'.hp w' Φ

theorem Stp.lift {Γ' : Ctx} {H H' : List Blk} {w' : World} (h : Stp C Γ H w noΦ Γ' H' w' noΦ) (Φ : Nat → Prop) : Stp C Γ H w Φ Γ' H' w' Φ :=
  ⟨h.os, h.tape, h.output, h.size, h.sub, h.stnew, h.own, fun _ h => .inl h, fun g hg hn _ => h.frame g hg hn (fun x => x), h.yv, h.len, h.keep⟩

theorem QOut.loud (h : QOut C I Γ Φ st a w o k r) : LOut C I Γ Φ st a w o k r := by
  obtain ⟨V, st', h1, h2, h3, h4⟩ := h
  exact ⟨V, w, Γ, st', h1, .inl (h2 w (Ext.refl w)), h3, h4.lift Φ⟩

theorem SI.after (hI : HI I) (S : SI C I Γ Φ st a.tmps w) {w' : World} {Γ' : Ctx} {H' : List Blk} {sl' : List PV} {v : PV} {V : Value} (h : Stp C Γ st.hp w noΦ Γ' H' w' noΦ) (hr : HR Γ' H' w') (hs : SR Γ st.hp w st.sl a.tmps → SR Γ' H' w' sl' a.tmps) (hv : VP Γ' (shpOf H') w' v V) (hn : ∀ c ∈ v.nms, c < H'.length) :
    SI C I Γ' Φ { sl := putS o.dst v sl', hp := H', s := st.s } (a.put o.dst V).tmps w' :=
  S.step hI (h.lift Φ) (fun g hg => h.frame g (hI.foot _ _ _ _ S.inv g hg).1 (fun b hb => S.dis b g hb hg) (fun x => x)) hr ((hs S.sr).put (ds := a.defers) o hv hn)

theorem WV.out {m : Sem Value} {v : PV} {sl' : List PV} {H' : List Blk} (hI : HI I) (S : SI C I Γ Φ st a.tmps w) (h : WV C Γ st.hp w st.sl a.tmps m v sl' H') (hk : k { sl := putS o.dst v sl', hp := H', s := st.s } = some r) (he : execOp a.eval o = (do pure (.value (← m)))) : LOut C I Γ Φ st a w o k r := by
  obtain ⟨V, w', Γ', h1, h2, h3, h4, h5, h6⟩ := h
  refine ⟨V, w', Γ', _, hk, .inl ?_, S.after hI h2 h3 h4 h5 h6, h2.lift Φ⟩
  rw [he]
  simp [h1]

theorem WV.outU {m : Sem Unit} {v : PV} {sl' : List PV} {H' : List Blk} (hI : HI I) (S : SI C I Γ Φ st a.tmps w) (h : WV C Γ st.hp w st.sl a.tmps (do m; pure undef) v sl' H') (hk : k { sl := putS o.dst v sl', hp := H', s := st.s } = some r) (he : execOp a.eval o = (do m; pure .skip)) : LOut C I Γ Φ st a w o k r := by
  obtain ⟨V, w', Γ', h1, h2, h3, h4, h5, h6⟩ := h
  have key : V = undef ∧ m.run C.P w = .ok () w' := by
    simp only [Sem.run_bind] at h1
    cases hm : m.run C.P w with
    | ok u w1 => rw [hm] at h1; simp at h1; exact ⟨h1.1.symm, by rw [h1.2]⟩
    | halt x w1 => rw [hm] at h1; simp [Result.andThen] at h1
  refine ⟨V, w', Γ', _, hk, .inr ⟨key.1, ?_⟩, S.after hI h2 h3 h4 h5 h6, h2.lift Φ⟩
  rw [he]
  simp [key.2]

theorem opK_loud (hI : HI I) (hq : callOp o.op = false) (h : opK C cl yh o st k = some r) (S : SI C I Γ Φ st a.tmps w) : LOut C I Γ Φ st a w o k r := by
  by_cases hqq : quietOp C o.op = true
  · exact (opK_quiet hqq h S).loud
  have h0 := h
  unfold opK at h
  dsimp only at h
  split at h
  · rename_i hop; exact absurd (by rw [hop]; rfl) hqq
  · rename_i hop; exact absurd (by rw [hop]; rfl) hqq
  · rename_i hop; exact absurd (by rw [hop]; rfl) hqq
  · rename_i e hop
    by_cases hok : (C.ti e).ok = true
    · obtain ⟨i, z, hi, hz, hsz, hCR⟩ := zero_CR (Γ := Γ) (sh := shpOf st.hp) (w := w) hok
      obtain ⟨v, H', hk, hv⟩ := boxK_sound (V := z) (sl := st.sl) (tmps := a.tmps) (m := Instr.alloc e true (.tuple #[])) S.hr h hCR (by rw [zero_nms]; simp) (by simp [Instr.alloc, zeroValue, typeInfo, hi, hz, newVar, newRow])
      exact hv.out hI S hk (by simp only [execOp, hop])
    · simp [boxK, hok] at h
  · rename_i e x hop
    split at h
    · rename_i hlen
      by_cases hok : (C.ti e).ok = true
      · obtain ⟨i, hi, hsz, hpos⟩ := ok_size hok
        have hne : (opnd C st.sl x).cells ≠ [] := by intro e; rw [e] at hlen; simp at hlen; omega
        obtain ⟨v, H', hk, hv⟩ := boxK_sound (V := a.eval x) (sl := st.sl) (tmps := a.tmps) (m := Instr.box e (a.eval x)) S.hr h ((S.opnd x).1.cells' hne) (fun c hc => (S.opnd x).2 c (PV.cells_nms c hc)) (by simp [Instr.box, newVar, newRow])
        exact hv.out hI S hk (by simp only [execOp, hop])
      · simp [boxK, hok] at h
    · cases h
  · rename_i hop; exact absurd (by rw [hop]; rfl) hqq
  · rename_i t len parts hop
    obtain ⟨h1, h2⟩ := S.parts parts.toList
    obtain ⟨v, H', hk, hv, _⟩ := buildSliceK_sound (ps := parts.map fun (i, x) => (i, a.eval x)) (sl := st.sl) (tmps := a.tmps) S.hr h (by rw [Array.toList_map]; exact h1)
    exact hv.out hI S hk (by simp only [execOp, hop])
  · rename_i hop; exact absurd (by rw [hop]; rfl) hqq
  · rename_i t x y hop
    obtain ⟨H', hk, hv⟩ := storeK_sound (sl := st.sl) (tmps := a.tmps) S.hr h (S.opnd x).1 (S.opnd y).1 (S.opnd y).2
    exact hv.outU hI S hk (by simp only [execOp, hop])
  · rename_i hop; exact absurd (by rw [hop]; rfl) hqq
  · rename_i hop; exact absurd (by rw [hop]; rfl) hqq
  · rename_i hop; exact absurd (by rw [hop]; rfl) hqq
  · rename_i src dst x hop
    split at h
    · obtain ⟨v, hk, hv⟩ := bytesK_sound (sl := st.sl) (tmps := a.tmps) S.hr h (S.opnd x).1
      exact hv.out hI S hk (by simp only [execOp, hop])
    · rename_i hne
      refine absurd ?_ hqq
      rw [hop]
      simp only [quietOp]
      done
  · rename_i hop; exact absurd (by rw [hop]; rfl) hqq
  · rename_i t l c hop
    obtain ⟨v, H', hk, hv⟩ := makeSliceK_sound (sl := st.sl) (tmps := a.tmps) S.hr h (S.opnd l).1 (S.opnd c).1
    exact hv.out hI S hk (by simp only [execOp, hop])
  · rename_i hop; exact absurd (by rw [hop]; rfl) hqq
  · rename_i hop; exact absurd (by rw [hop]; rfl) hqq
  · rename_i hop; exact absurd (by rw [hop]; rfl) hqq
  · rename_i hop; exact absurd (by rw [hop]; rfl) hqq
  · rename_i hop; exact absurd (by rw [hop]; rfl) hqq
  · rename_i t x hop
    split at h
    · rename_i l hx
      split at h
      · rename_i hsh
        have hv := (S.opnd x).1
        rw [hx] at hv
        obtain ⟨s, e, rfl⟩ := hv.inv_str
        have := range_WV (C := C) (s := s) (sl := st.sl) (tmps := a.tmps) S.hr (sh_str hsh)
        exact this.out hI S h (by simp only [execOp, hop, e])
      · cases h
    · cases h
  · rename_i it hop
    split at h
    · rename_i b hx
      have hv := (S.opnd it).1
      rw [hx] at hv
      split at h
      · rename_i l p hb
        by_cases hp : p < l.length
        · simp only [hp, decide_true, splitB, cond_true] at h
          have := next_WV (C := C) (ty := o.type) (sl := st.sl) (tmps := a.tmps) S.hr hv hb hp
          exact this.out hI S h (by simp only [execOp, hop])
        · simp only [hp, decide_false, splitB, cond_false] at h
          have := next_end_QV (C := C) (ty := o.type) S.hr hv hb hp
          exact (this.out S h (by simp only [execOp, hop])).loud
      · cases h
    · cases h
  · rename_i hop; exact absurd (by rw [hop]; rfl) hqq
  · rename_i c hop
    split at h
    · rename_i b hcb
      unfold builtinK at h
      dsimp only at h
      split at h
      · exact absurd (by rw [hop]; simp [quietOp, hcb]) hqq
      · rename_i t u s x hts hargs
        obtain ⟨s0, x0, hx0, rfl, rfl⟩ := args2 hargs
        have hts' : c.argTypes = [t, u].toArray := by rw [← hts]
        split at h
        · rename_i hu
          obtain ⟨v, sl', H', hk, hv⟩ := appendK_sound (ty := o.type) (tmps := a.tmps) S.hr hu h (S.opnd s0).1 (S.opnd x0).1
          refine hv.out hI S hk ?_
          obtain ⟨cs, he⟩ := exec_builtin (ρ := a.eval) hop hcb
          rw [he, hx0, hts']
          simp [builtin]
        · cases h
      · rename_i t u d x hts hargs
        obtain ⟨s0, x0, hx0, rfl, rfl⟩ := args2 hargs
        have hts' : c.argTypes = [t, u].toArray := by rw [← hts]
        obtain ⟨v, H', hk, hv⟩ := copyK_sound (u := u) (ty := o.type) (sl := st.sl) (tmps := a.tmps) S.hr h (S.opnd s0).1 (S.opnd x0).1
        refine hv.out hI S hk ?_
        obtain ⟨cs, he⟩ := exec_builtin (ρ := a.eval) hop hcb
        rw [he, hx0, hts']
        simp [builtin]
      · exact absurd (by rw [hop]; simp [quietOp, hcb]) hqq
      · exact absurd (by rw [hop]; simp [quietOp, hcb]) hqq
      · cases h
    · rename_i hcb; rw [hop] at hq; simp [callOp, hcb] at hq
    · cases h
  · cases h

end
end Go.Proofs.Ytfioahjeanmfpaa.E
