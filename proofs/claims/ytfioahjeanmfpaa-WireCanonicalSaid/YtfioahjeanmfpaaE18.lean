/-
  Operations that leave the world alone.
-/
import Derived.Test.YtfioahjeanmfpaaE17
namespace Go.Proofs.Ytfioahjeanmfpaa.E
open Go
set_option linter.unusedVariables false

section
variable {σ R : Type} {r : R} {C : Cfg} {I : σ → (Nat → Prop) → (Nat → Prop) → World → Prop} {Γ : Ctx} {Φ : Nat → Prop} {st : St σ} {a : Act} {w : World} {cl : CallT} {yh : Yh σ} {o : Oper} {k : St σ → Option R}

theorem SI.opnd (S : SI C I Γ Φ st a.tmps w) (x : Operand) : VP Γ (shpOf st.hp) w (opnd C st.sl x) (a.eval x) ∧ ∀ c ∈ (opnd C st.sl x).nms, c < st.hp.length :=
  opnd_sound (ds := a.defers) S.g S.sr x

/-- A quiet operation, what it leaves. -/
def QOut (C : Cfg) (I : σ → (Nat → Prop) → (Nat → Prop) → World → Prop) (Γ : Ctx) (Φ : Nat → Prop) (st : St σ) (a : Act) (w : World) (o : Oper) (k : St σ → Option R) (r : R) : Prop :=
  ∃ V st', k st' = some r ∧ (∀ w' : World, Ext w w' → (execOp a.eval o).run C.P w' = .ok (.value V) w') ∧ SI C I Γ Φ st' (a.put o.dst V).tmps w ∧ Stp C Γ st.hp w noΦ Γ st'.hp w noΦ

theorem SI.put (S : SI C I Γ Φ st a.tmps w) {v : PV} {V : Value} (hv : VP Γ (shpOf st.hp) w v V) (hn : ∀ c ∈ v.nms, c < st.hp.length) : SI C I Γ Φ { st with sl := putS o.dst v st.sl } (a.put o.dst V).tmps w :=
  ⟨S.hr, S.sr.put (ds := a.defers) o hv hn, S.g, S.inv, S.dis⟩

theorem QV.out {m : Sem Value} {v : PV} (S : SI C I Γ Φ st a.tmps w) (h : QV C.P Γ st.hp w m v) (hk : k { st with sl := putS o.dst v st.sl } = some r) (he : execOp a.eval o = (do pure (.value (← m)))) : QOut C I Γ Φ st a w o k r := by
  obtain ⟨hn, V, hv, hq⟩ := h
  refine ⟨V, _, hk, fun w' hw => ?_, S.put hv hn, Stp.refl S.hr⟩
  rw [he]
  simp [hq w' hw]

theorem QV.pure {P : Program} {H : List Blk} {v : PV} {V : Value} (hv : VP Γ (shpOf H) w v V) (hn : ∀ c ∈ v.nms, c < H.length) : QV P Γ H w (pure V) v := ⟨hn, V, hv, fun _ _ => rfl⟩

theorem SI.ov (S : SI C I Γ Φ st a.tmps w) (x : Option Operand) : OV Γ (shpOf st.hp) w (optMap (Go.Proofs.Ytfioahjeanmfpaa.E.opnd C st.sl) x) (x.map a.eval) := by
  cases x with
  | none => trivial
  | some x => exact (S.opnd x).1

theorem optMap_isSome {α β : Type} {f : α → β} {x : Option α} : (optMap f x).isSome = x.isSome := by cases x <;> rfl

theorem SI.parts (S : SI C I Γ Φ st a.tmps w) : ∀ (ps : List (Nat × Operand)), PR Γ (shpOf st.hp) w (ps.map fun (i, x) => (i, Go.Proofs.Ytfioahjeanmfpaa.E.opnd C st.sl x)) (ps.map fun (i, x) => (i, a.eval x)) ∧ ∀ p ∈ (ps.map fun (i, x) => (i, Go.Proofs.Ytfioahjeanmfpaa.E.opnd C st.sl x)), ∀ c ∈ p.2.nms, c < st.hp.length
  | [] => ⟨trivial, by simp⟩
  | (i, x) :: ps => by
    obtain ⟨h1, h2⟩ := S.parts ps
    refine ⟨⟨rfl, (S.opnd x).1, h1⟩, fun p hp => ?_⟩
    rcases List.mem_cons.1 hp with rfl | hp
    · exact (S.opnd x).2
    · exact h2 p hp

theorem SI.list (S : SI C I Γ Φ st a.tmps w) (xs : Array Operand) : CR Γ (shpOf st.hp) w (xs.toList.map (Go.Proofs.Ytfioahjeanmfpaa.E.opnd C st.sl)) (xs.map a.eval) ∧ ∀ c ∈ nmsL (xs.toList.map (Go.Proofs.Ytfioahjeanmfpaa.E.opnd C st.sl)), c < st.hp.length := by
  refine ⟨⟨by simp, fun j hj => ?_⟩, fun c hc => ?_⟩
  · have hj' : j < xs.size := by simpa using hj
    exact ⟨a.eval xs[j], by simp [hj'], by simpa using (S.opnd xs[j]).1⟩
  · obtain ⟨j, hj, hm⟩ := mem_nmsL.1 hc
    have hj' : j < xs.size := by simpa using hj
    exact (S.opnd xs[j]).2 c (by simpa using hm)

theorem mkFn_sound {f : Nat} {x y : List PV} {A B : Array Value} {sh : Nat → Option Shp} (hx : CR Γ sh w x A) (hy : CR Γ sh w y B) : VP Γ sh w (mkFn (.func f) x y) (.func (.func f) A B) := by
  unfold mkFn
  split
  · rename_i xs ys h1 h2
    obtain ⟨e1, e2⟩ := svs_sound (As := A.toList) h1 (by simpa using hx.1.symm) (fun j hj => by obtain ⟨U, e, k⟩ := hx.2 j hj; exact ⟨U, by simpa using e, k⟩)
    obtain ⟨f1, f2⟩ := svs_sound (As := B.toList) h2 (by simpa using hy.1.symm) (fun j hj => by obtain ⟨U, e, k⟩ := hy.2 j hj; exact ⟨U, by simpa using e, k⟩)
    refine .s _ _ (.fn _ xs ys A B (fun j => A.getD j undef) (fun j => B.getD j undef) (by simp) (by simpa using e1.symm) (by simpa using f1.symm) (fun j hj => ?_) (fun j hj => ?_) (fun j hj => ?_) (fun j hj => ?_))
    · obtain ⟨U, e, _⟩ := e2 j hj
      have e' : A[j]? = some U := by simpa using e
      rw [Array.getD_eq_getD_getElem?, e']; rfl
    · obtain ⟨U, e, _⟩ := f2 j hj
      have e' : B[j]? = some U := by simpa using e
      rw [Array.getD_eq_getD_getElem?, e']; rfl
    · obtain ⟨U, e, k⟩ := e2 j hj
      have e' : A[j]? = some U := by simpa using e
      rw [Array.getD_eq_getD_getElem?, e']; exact k
    · obtain ⟨U, e, k⟩ := f2 j hj
      have e' : B[j]? = some U := by simpa using e
      rw [Array.getD_eq_getD_getElem?, e']; exact k
  · refine .fnr _ x y A B (fun j => A.getD j undef) (fun j => B.getD j undef) (by simp) hx.1 hy.1 (fun j hj => ?_) (fun j hj => ?_) (fun j hj => ?_) (fun j hj => ?_)
    · obtain ⟨U, e, _⟩ := hx.2 j hj; rw [Array.getD_eq_getD_getElem?, e]; rfl
    · obtain ⟨U, e, _⟩ := hy.2 j hj; rw [Array.getD_eq_getD_getElem?, e]; rfl
    · obtain ⟨U, e, k⟩ := hx.2 j hj; rw [Array.getD_eq_getD_getElem?, e]; exact k
    · obtain ⟨U, e, k⟩ := hy.2 j hj; rw [Array.getD_eq_getD_getElem?, e]; exact k

theorem mkFn_nms {f : Fn} {x y : List PV} : ∀ c ∈ (mkFn f x y).nms, c ∈ nmsL x ∨ c ∈ nmsL y := by
  intro c hc
  unfold mkFn at hc
  split at hc
  · simp [PV.nms] at hc
  · simpa [PV.nms] using hc

theorem args1 {α β : Type} {f : α → β} {xs : Array α} {x : β} (h : xs.toList.map f = [x]) : ∃ x0, xs = #[x0] ∧ f x0 = x := by
  obtain ⟨l⟩ := xs
  match l, h with
  | [y], h => exact ⟨y, rfl, by simpa using h⟩

theorem args2 {α β : Type} {f : α → β} {xs : Array α} {x y : β} (h : xs.toList.map f = [x, y]) : ∃ x0 y0, xs = #[x0, y0] ∧ f x0 = x ∧ f y0 = y := by
  obtain ⟨l⟩ := xs
  match l, h with
  | [a, b], h => exact ⟨a, b, rfl, by simpa using h⟩

theorem exec_builtin {ρ : Operand → Value} {c : Call} {b : Builtin} (hop : o.op = .call c) (hcb : c.callee = .builtin b) :
    ∃ cs, execOp ρ o = builtin b c.argTypes o.type cs (c.args.map ρ) := by
  simp only [execOp, hop, resolve, hcb, pure_bind, invoke]
  exact ⟨_, rfl⟩

theorem SI.args_ints (S : SI C I Γ Φ st a.tmps w) {xs : Array Operand} {kd : IntKind} {x y : Int} (h : xs.toList.map (Go.Proofs.Ytfioahjeanmfpaa.E.opnd C st.sl) = [.s (.int kd x), .s (.int kd y)]) : xs.map a.eval = #[.int kd x, .int kd y] := by
  obtain ⟨x0, y0, rfl, e1, e2⟩ := args2 h
  have h1 := (S.opnd x0).1
  have h2 := (S.opnd y0).1
  rw [e1] at h1; rw [e2] at h2
  simp [h1.inv_int, h2.inv_int]

theorem opK_quiet (hq : quietOp C o.op = true) (h : opK C cl yh o st k = some r) (S : SI C I Γ Φ st a.tmps w) : QOut C I Γ Φ st a w o k r := by
  unfold opK at h
  dsimp only at h
  split at h
  · rename_i x hop
    exact (QV.pure (P := C.P) (S.opnd x).1 (S.opnd x).2).out S h (by simp [execOp, hop])
  · rename_i x hop
    split at h
    · rename_i hx
      have hv := (S.opnd x).1
      rw [hx] at hv
      refine ⟨a.eval x, _, h, fun w' hw => by simp only [execOp, hop, Sem.run_pure], ⟨nil_HR S.hr rfl (.inl ⟨rfl, rfl⟩), ?_, S.g, S.inv, S.dis⟩, nil_Stp S.hr⟩
      refine SR.put (ds := a.defers) (SR.grow (nil_mono _ S.hr) S.sr) o ?_ (by simp [PV.nms])
      rw [hv.inv_nsl]
      exact .flv _ _ _ (by rw [shpOf_append_eq]; rfl)
    · exact (QV.pure (P := C.P) (S.opnd x).1 (S.opnd x).2).out S h (by simp [execOp, hop])
  · rename_i c x y hop
    split at h
    · rename_i t hc
      have hv := (S.opnd c).1
      rw [hc] at hv
      have hb := hv.inv_bool
      have he : execOp a.eval o = (do Pure.pure (Next.value (if ← asBool (a.eval c) then a.eval x else a.eval y))) := by simp [execOp, hop]
      cases t with
      | true =>
        simp only [splitB, cond_true] at h
        refine ⟨_, _, h, fun w' hw => ?_, S.put (S.opnd x).1 (S.opnd x).2, Stp.refl S.hr⟩
        rw [he, hb]; simp [asBool]
      | false =>
        simp only [splitB, cond_false] at h
        refine ⟨_, _, h, fun w' hw => ?_, S.put (S.opnd y).1 (S.opnd y).2, Stp.refl S.hr⟩
        rw [he, hb]; simp [asBool]
    · cases h
  · rename_i hop; rw [hop] at hq; simp [quietOp] at hq
  · rename_i hop; rw [hop] at hq; simp [quietOp] at hq
  · rename_i t parts hop
    obtain ⟨h1, h2⟩ := S.parts parts.toList
    obtain ⟨v, hk, hv⟩ := buildK_sound (ps := parts.map fun (i, x) => (i, a.eval x)) h (by rw [Array.toList_map]; exact h1) h2
    exact hv.out S hk (by simp [execOp, hop])
  · rename_i hop; rw [hop] at hq; simp [quietOp] at hq
  · rename_i t x hop
    obtain ⟨v, hk, hv⟩ := loadK_sound S.hr h (S.opnd x).1
    exact hv.out S hk (by simp [execOp, hop])
  · rename_i hop; rw [hop] at hq; simp [quietOp] at hq
  · rename_i x hop
    split at h
    · rename_i hn
      have hv := (S.opnd x).1
      refine ⟨a.eval x, _, h, fun w' hw => ?_, S.put hv (S.opnd x).2, Stp.refl S.hr⟩
      simp only [execOp, hop]
      unfold nilChk at hn
      split at hn
      · rename_i hx; rw [hx] at hv
        obtain ⟨ad, e⟩ := hv.inv_ptr
        rw [e]; rfl
      · rename_i hx; rw [hx] at hv
        obtain ⟨ad, e⟩ := hv.inv_sp
        rw [e]; rfl
      · rename_i hx; rw [hx] at hv
        obtain ⟨A, B, e⟩ := hv.inv_fn
        rw [e]; rfl
      · rename_i hx; rw [hx] at hv
        obtain ⟨A, B, e⟩ := hv.inv_fnr
        rw [e]; rfl
      · cases hn
    · cases h
  · rename_i op t x y _ hop
    obtain ⟨v, hk, hv⟩ := binK_sound (ox := x) (oy := y) h (S.opnd x).1 (S.opnd y).1
    exact hv.out S hk (by simp only [execOp, hop])
  · rename_i op t x hop
    obtain ⟨v, hk, hv⟩ := unK_sound (P := C.P) h (S.opnd x).1
    exact hv.out S hk (by simp only [execOp, hop])
  · rename_i src dst x hop
    split at h
    · rename_i e hsh
      rw [hop] at hq; simp [quietOp, hsh] at hq
    · obtain ⟨v, hk, hv⟩ := convK_sound S.hr h (S.opnd x).1
      exact hv.out S hk (by simp only [execOp, hop])
  · rename_i g x y hop
    obtain ⟨h1, h2⟩ := S.list x
    obtain ⟨h3, h4⟩ := S.list y
    exact (QV.pure (P := C.P) (mkFn_sound h1 h3) (fun c hc => (mkFn_nms c hc).elim (h2 c) (h4 c))).out S h (by simp [execOp, hop, Instr.makeFunc])
  · rename_i hop; rw [hop] at hq; simp [quietOp] at hq
  · rename_i t x lo hi mx hop
    have hlo := S.ov lo
    have hhi := S.ov hi
    have hmx := S.ov mx
    split at h
    · rename_i n e b hsh hx
      split at h
      · rename_i v e' sz els hb
        split at h
        · rename_i hc
          obtain ⟨h1, h2⟩ := need_some h
          simp only [decide_eq_true_eq] at h1
          have hv := (S.opnd x).1
          rw [hx] at hv
          obtain ⟨v, hk, hv⟩ := sliceArrK_sound S.hr h2 hsh hc.1 hc.2.1 hb h1 (by omega) (by simp only [maxLen]; omega) hv hlo hhi hmx
          exact hv.out S hk (by simp only [execOp, hop])
        · cases h
      · cases h
    · split at h
      · rename_i hm
        obtain ⟨v, hk, hv⟩ := sliceK_sound S.hr h (S.opnd x).1 (S.opnd x).2 hlo hhi hmx (by rw [optMap_isSome, optMap_isSome]; intro h; simpa [h] using hm)
        exact hv.out S hk (by simp only [execOp, hop])
      · cases h
  · rename_i t x f hop
    obtain ⟨v, hk, hv⟩ := fieldAddrK_sound h (S.opnd x).1 (S.opnd x).2
    exact hv.out S hk (by simp only [execOp, hop])
  · rename_i t x f hop
    obtain ⟨v, hk, hv⟩ := fieldK_sound h (S.opnd x).1 (S.opnd x).2
    exact hv.out S hk (by simp only [execOp, hop])
  · rename_i t x i hop
    obtain ⟨v, hk, hv⟩ := indexAddrK_sound S.hr h (S.opnd x).1 (S.opnd i).1 (S.opnd x).2
    exact hv.out S hk (by simp only [execOp, hop])
  · rename_i t x i hop
    obtain ⟨v, hk, hv⟩ := indexK_sound h (S.opnd x).1 (S.opnd i).1 (S.opnd x).2
    exact hv.out S hk (by simp only [execOp, hop])
  · rename_i hop; rw [hop] at hq; simp [quietOp] at hq
  · rename_i hop; rw [hop] at hq; simp [quietOp] at hq
  · rename_i t i hop
    split at h
    · rename_i vs hx
      split at h
      · rename_i v hvs
        have hv := (S.opnd t).1
        have hn := (S.opnd t).2
        rw [hx] at hv hn
        obtain ⟨A, e, hA, hc⟩ := hv.inv_tup
        obtain ⟨hlt, hve⟩ := List.getElem?_eq_some_iff.1 hvs
        obtain ⟨U, e1, k1⟩ := hc i hlt
        rw [hve] at k1
        refine ⟨U, _, h, fun w' hw => ?_, S.put k1 (fun c hc => hn c (by simp only [PV.nms]; exact mem_nmsL.2 ⟨i, hlt, by rw [hve]; exact hc⟩)), Stp.refl S.hr⟩
        simp only [execOp, hop, e, Instr.extract, e1]
        rfl
      · cases h
    · cases h
  · rename_i c hop
    split at h
    · rename_i b hcb
      unfold builtinK at h
      dsimp only at h
      split at h
      · rename_i t rest x hts hargs
        obtain ⟨x0, hx0, rfl⟩ := args1 hargs
        obtain ⟨v, hk, hv⟩ := lenK_sound (ts := rest) (ty := o.type) S.hr h (S.opnd x0).1
        refine hv.out S hk ?_
        obtain ⟨cs, he⟩ := exec_builtin (ρ := a.eval) hop hcb
        have hts' : c.argTypes = (t :: rest).toArray := by rw [← hts]
        rw [he, hx0, hts']
        simp [builtin]
      · rw [hop] at hq; simp [quietOp, hcb] at hq
      · rw [hop] at hq; simp [quietOp, hcb] at hq
      · obtain ⟨v, x, y, kd, hk, hxs, hv⟩ := minmaxK_sound (P := C.P) (Γ := Γ) (H := st.hp) (w := w) c.argTypes o.type h
        refine hv.out S hk ?_
        obtain ⟨cs, he⟩ := exec_builtin (ρ := a.eval) hop hcb
        rw [he, S.args_ints hxs]
        simp [builtin]
      · obtain ⟨v, x, y, kd, hk, hxs, hv⟩ := minmaxK_sound (P := C.P) (Γ := Γ) (H := st.hp) (w := w) c.argTypes o.type h
        refine hv.out S hk ?_
        obtain ⟨cs, he⟩ := exec_builtin (ρ := a.eval) hop hcb
        rw [he, S.args_ints hxs]
        simp [builtin]
      · cases h
    · rename_i hcb; rw [hop] at hq; simp [quietOp, hcb] at hq
    · cases h
  · cases h

end
end Go.Proofs.Ytfioahjeanmfpaa.E
