/-
  The code.
-/
import Derived.Test.YtfioahjeanmfpaaE36
namespace Go.Proofs.Ytfioahjeanmfpaa.E
open Go
set_option linter.unusedVariables false

section
variable {σ R : Type} {r : R} {C : Cfg} {I : σ → (Nat → Prop) → (Nat → Prop) → World → Prop} {Γ : Ctx} {Φ : Nat → Prop} {st : St σ} {a : Act} {w : World} {cl : CallT} {yh : Yh σ} {yv : Value} {o : Oper} {H : List Blk}

/-- THE CODE. -/
theorem evCode_wp (A : Ask C I cl yh yv) (hm : C.P.follows .mixedOrders = true) : ∀ (c : Code) {ro : Option Nat} {n n0 : Nat} {rf : Bool} {R : Type} {r : R} {Γ : Ctx} {Φ : Nat → Prop} {st : St σ} {a : Act} {w : World} {k : Out → St σ → Option R} {Q : Exit → Act → World → Prop},
    (rf = true → ro = none) → codeOKr C rf c = true → Γ.yv = yv → evCode C cl yh c st k = some r → SI C I Γ Φ st a.tmps w → Mk n0 Γ Φ w a.defers → Post C I n0 Γ Φ st.hp w k r Q → c.wpIn (wideAt ro) n C.P Q a w := by
  intro c
  induction c with
  | skip => intro ro n n0 rf R r Γ Φ st a w k Q hrf hok hyv h S hM hP; exact wpIn_skip (hP .normal st a w Γ Φ h (Stp.refl S.hr) S hM)
  | label l => intro ro n n0 rf R r Γ Φ st a w k Q hrf hok hyv h S hM hP; exact wpIn_label (hP .normal st a w Γ Φ h (Stp.refl S.hr) S hM)
  | region id ops d =>
    intro ro n n0 rf R r Γ Φ st a w k Q hrf hok hyv h S hM hP
    cases d with
    | false =>
      refine wpIn_region_list (opsK_wp A ops.toList hyv h S ?_)
      intro st' a' w' Γ' Φ' h1 h2 h3 h4
      obtain ⟨Γ2, S2, hs2⟩ := forgetR_sound A.hI h3 h2 (C.keepR id) (Nat.le_refl _)
      exact hP .normal _ a' w' Γ2 Φ' h1 hs2 S2 (by rw [h4]; exact hM.step hs2)
    | true =>
      simp only [codeOKr, Bool.not_true, Bool.false_or] at hok
      refine region_wp A hm hok hyv h S ?_
      intro st' a' w' Γ' Φ' h1 h2 h3 h4
      obtain ⟨Γ2, S2, hs2⟩ := forgetR_sound A.hI h3 h2 (C.keepR id) (Nat.le_refl _)
      exact hP .normal _ a' w' Γ2 Φ' h1 hs2 S2 (by rw [h4]; exact hM.step hs2)
  | seq x y ihx ihy =>
    intro ro n n0 rf R r Γ Φ st a w k Q hrf hok hyv h S hM hP
    simp only [codeOKr, Bool.and_eq_true] at hok
    refine wpIn_seq (ihx hrf hok.1 hyv h S hM ?_)
    intro o st' a' w' Γ' Φ' h1 h2 h3 h4
    cases o with
    | normal => exact ihy hrf hok.2 (h2.yv.trans hyv) h1 h3 h4 fun o2 st2 a2 w2 Γ2 Φ2 k1 k2 k3 k4 => hP o2 st2 a2 w2 Γ2 Φ2 k1 (h2.trans k2) k3 k4
    | exit id => exact hP (.exit id) st' a' w' Γ' Φ' h1 h2 h3 h4
    | ret => exact hP .ret st' a' w' Γ' Φ' h1 h2 h3 h4
  | cond c x y ihx ihy =>
    intro ro n n0 rf R r Γ Φ st a w k Q hrf hok hyv h S hM hP
    simp only [codeOKr, Bool.and_eq_true] at hok
    simp only [evCode] at h
    split at h
    · rename_i t hc
      have hv := (S.opnd c).1
      rw [hc] at hv
      have hb := hv.inv_bool
      cases t with
      | true => exact wpIn_cond hb (ihx hrf hok.1 hyv h S hM hP)
      | false => exact wpIn_cond hb (ihy hrf hok.2 hyv h S hM hP)
    · cases h
  | block id x ih =>
    intro ro n n0 rf R r Γ Φ st a w k Q hrf hok hyv h S hM hP
    refine wpIn_block (ih hrf hok hyv h S hM ?_)
    intro o st' a' w' Γ' Φ' h1 h2 h3 h4
    cases o with
    | normal => exact hP .normal st' a' w' Γ' Φ' h1 h2 h3 h4
    | exit j =>
      simp only [Out.exit', Exit.inBlock]
      dsimp only at h1
      split at h1
      · rename_i e; rw [if_pos e]; exact hP .normal st' a' w' Γ' Φ' h1 h2 h3 h4
      · rename_i e; rw [if_neg e]; exact hP (.exit j) st' a' w' Γ' Φ' h1 h2 h3 h4
    | ret => exact hP .ret st' a' w' Γ' Φ' h1 h2 h3 h4
  | loop x ih =>
    intro ro n n0 rf R r Γ Φ st a w k Q hrf hok hyv h S hM hP
    simp only [evCode] at h
    refine wpIn_loopN (fun m a' w' => ∃ st' Γ' Φ', loopK st.hp.length (C.keep (fstR x)) (fun st k => evCode C cl yh x st k) m st' k = some r ∧ Stp C Γ st.hp w Φ Γ' st'.hp w' Φ' ∧ SI C I Γ' Φ' st' a'.tmps w' ∧ Mk n0 Γ' Φ' w' a'.defers) C.lf ⟨_, Γ, Φ, h, by rw [forget_hp]; exact Stp.refl S.hr, forget_SI S _, hM⟩ ?_
    rintro m a1 w1 ⟨st1, Γ1, Φ1, h1, h2, h3, h4⟩
    cases m with
    | zero => simp [loopK] at h1
    | succ m =>
      simp only [loopK] at h1
      refine ih hrf hok (h2.yv.trans hyv) h1 h3 h4 ?_
      intro o st' a' w' Γ' Φ' k1 k2 k3 k4
      cases o with
      | normal =>
        obtain ⟨Γ2, S2, hs2, hsub⟩ := trunc_sound A.hI k3 (h2.trans k2)
        have hMt := Mk.sub k4 hsub
        exact ⟨m, Nat.lt_succ_self m, _, Γ2, Φ', k1, by rw [forget_hp]; exact hs2, forget_SI S2 _, hMt⟩
      | exit j => exact hP (.exit j) _ a' w' Γ' Φ' k1 (by rw [forget_hp]; exact h2.trans k2) (forget_SI k3 _) k4
      | ret => exact hP .ret _ a' w' Γ' Φ' k1 (by rw [forget_hp]; exact h2.trans k2) (forget_SI k3 _) k4
  | exit id => intro ro n n0 rf R r Γ Φ st a w k Q hrf hok hyv h S hM hP; exact wpIn_exit (hP (.exit id) _ a w Γ Φ h (by rw [forget_hp]; exact Stp.refl S.hr) (forget_SI S _) hM)
  | ret => intro ro n n0 rf R r Γ Φ st a w k Q hrf hok hyv h S hM hP; exact wpIn_ret (hP .ret _ a w Γ Φ h (by rw [forget_hp]; exact Stp.refl S.hr) (forget_SI S _) hM)
  | scope x ih =>
    intro ro n n0 rf R r Γ Φ st a w k Q hrf hok hyv h S hM hP
    refine wpIn_scopeN (ih (Q := fun e a w => (∀ l, e ≠ .goto l) ∧ Q e a w) hrf hok hyv h S hM ?_)
    intro o st' a' w' Γ' Φ' h1 h2 h3 h4
    exact ⟨fun l => by cases o <;> simp [Out.exit'], hP o st' a' w' Γ' Φ' h1 h2 h3 h4⟩
  | rangeFunc g ps x y ihx ihy =>
    intro ro n n0 rf R r Γ Φ st a w k Q hrf hok hyv h S hM hP
    simp only [codeOKr, Bool.and_eq_true] at hok
    obtain ⟨⟨rfl, hx⟩, hy⟩ := hok
    obtain rfl := hrf rfl
    simp only [evCode] at h
    exact rangeK_wp A hyv (fun {R r ro n n0 Γ Φ st a w k Q} h1 h2 h3 h4 h5 => ihx (rf := false) (fun h => by cases h) hx h1 h2 h3 h4 h5) (fun {R r ro n n0 Γ Φ st a w k Q} h1 h2 h3 h4 h5 => ihy (rf := false) (fun h => by cases h) hy h1 h2 h3 h4 h5) h S hM hP
  | _ => intro ro n n0 rf R r Γ Φ st a w k Q hrf hok hyv h S hM hP; simp [evCode] at h

end
end Go.Proofs.Ytfioahjeanmfpaa.E
