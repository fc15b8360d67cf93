/-
  Results; functions; the soundness of the evaluator.
-/
import Derived.Test.YtfioahjeanmfpaaE37
import Derived.RangeFuncLeaves
namespace Go.Proofs.Ytfioahjeanmfpaa.E
open Go
set_option linter.unusedVariables false

section
variable {σ R : Type} {r : R} {C : Cfg} {I : σ → (Nat → Prop) → (Nat → Prop) → World → Prop} {Γ : Ctx} {Φ : Nat → Prop} {st : St σ} {a : Act} {w : World} {cl : CallT} {yh : Yh σ} {yv : Value} {o : Oper} {H : List Blk}

/-- One result. -/
def resOne (tmps : Array Value) : ResultVar → Sem Value
  | .tmp t => pure (tmps.getD t undef)
  | .cell a t => do loadVar t (← asAddr (tmps.getD a undef))

theorem results_eq (fn : Func) (tmps : Array Value) : results fn tmps = (fn.results.toList.mapM (resOne tmps) >>= fun l => pure (if h : l.length = 1 then l[0] else .tuple l.toArray)) := by
  unfold results
  have : ∀ (rs : Array ResultVar), (rs.mapM (resOne tmps) >>= fun vs => (pure (if h : vs.size = 1 then vs[0] else .tuple vs) : Sem Value)) = (rs.toList.mapM (resOne tmps) >>= fun l => pure (if h : l.length = 1 then l[0] else .tuple l.toArray)) := by
    intro rs
    rw [Array.mapM_eq_mapM_toList, map_eq_pure_bind, bind_assoc]
    congr 1
  exact this fn.results

theorem getD_slot (S : SR Γ H w st.sl a.tmps) (t : Nat) : VP Γ (shpOf H) w (st.sl.getD t (.tup [])) (a.tmps.getD t undef) ∧ ∀ c ∈ (st.sl.getD t (.tup [])).nms, c < H.length := by
  by_cases h : t < st.sl.length
  · obtain ⟨V, e, k⟩ := S.slot t h
    have hn : ∀ c ∈ (st.sl[t]).nms, c < H.length := fun c hc => S.nms c (mem_nmsL.2 ⟨t, h, hc⟩)
    rw [getD_lt h]
    rw [Array.getD_eq_getD_getElem?, e]
    exact ⟨k, hn⟩
  · have h1 : st.sl.getD t (.tup []) = .tup [] := by rw [List.getD_eq_getElem?_getD, List.getElem?_eq_none (Nat.le_of_not_lt h)]; rfl
    have h2 : a.tmps.getD t undef = undef := by rw [Array.getD_eq_getD_getElem?, Array.getElem?_eq_none (by rw [S.size]; exact Nat.le_of_not_lt h)]; rfl
    rw [h1, h2]
    exact ⟨undef_VP, by simp [PV.nms, nmsL]⟩

/-- Lists of values. -/
def LR (Γ : Ctx) (sh : Nat → Option Shp) (w : World) : List PV → List Value → Prop
  | [], [] => True
  | v :: r, V :: q => VP Γ sh w v V ∧ LR Γ sh w r q
  | _, _ => False

theorem LR.len {sh : Nat → Option Shp} : ∀ {l : List PV} {A : List Value}, LR Γ sh w l A → A.length = l.length
  | [], [], _ => rfl
  | v :: r, V :: q, h => by simp [LR.len h.2]
  | [], _ :: _, h => h.elim
  | _ :: _, [], h => h.elim

theorem LR.CR {sh : Nat → Option Shp} : ∀ {l : List PV} {A : List Value}, LR Γ sh w l A → ∀ j (h : j < l.length), ∃ U, A[j]? = some U ∧ VP Γ sh w (l[j]) U
  | [], [], _, j, h => by simp at h
  | v :: r, V :: q, h, 0, _ => ⟨V, rfl, h.1⟩
  | v :: r, V :: q, h, j + 1, hj => by
    obtain ⟨U, e, k⟩ := LR.CR h.2 j (by simpa using hj)
    exact ⟨U, by simpa using e, by simpa using k⟩
  | [], _ :: _, h, _, _ => h.elim
  | _ :: _, [], h, _, _ => h.elim

theorem load_as {t : TypeId} {A V : Value} {w' : World} (h : (Instr.loadAt t A).run C.P w' = .ok V w') : (do loadVar t (← asAddr A) : Sem Value).run C.P w' = .ok V w' := by
  simp only [Instr.loadAt] at h
  unfold Instr.sureAddr at h
  split at h
  · exact h
  · simp [stuck] at h

theorem resK_sound (hH : HR Γ H w) (S : SR Γ H w st.sl a.tmps) : ∀ (rs : List ResultVar) {k : List PV → Option R}, resK C st.sl H rs k = some r →
    ∃ vs Vs, k vs = some r ∧ (rs.mapM (resOne a.tmps)).run C.P w = .ok Vs w ∧ LR Γ (shpOf H) w vs Vs ∧ ∀ c ∈ nmsL vs, c < H.length
  | [], k, h => ⟨[], [], h, by simp, trivial, by simp [nmsL]⟩
  | .tmp t :: rest, k, h => by
    simp only [resK] at h
    obtain ⟨vs, Vs, h1, h2, h3, h4⟩ := resK_sound hH S rest h
    obtain ⟨g1, g2⟩ := getD_slot S t
    refine ⟨_, a.tmps.getD t undef :: Vs, h1, ?_, ⟨g1, h3⟩, fun c hc => ?_⟩
    · rw [List.mapM_cons]
      simp only [resOne, Sem.run_bind, Sem.run_pure, Result.andThen, h2]
    · simp only [nmsL, List.mem_append] at hc
      rcases hc with hc | hc
      · exact g2 c hc
      · exact h4 c hc
  | .cell x t :: rest, k, h => by
    simp only [resK] at h
    obtain ⟨g1, g2⟩ := getD_slot S x
    obtain ⟨v, hk, hn, V, hv, hq⟩ := loadK_sound hH h g1
    obtain ⟨vs, Vs, h1, h2, h3, h4⟩ := resK_sound hH S rest hk
    refine ⟨_, V :: Vs, h1, ?_, ⟨hv, h3⟩, fun c hc => ?_⟩
    · rw [List.mapM_cons]
      have := load_as (hq w (Ext.refl w))
      rw [show resOne a.tmps (.cell x t) = (do loadVar t (← asAddr (a.tmps.getD x undef)) : Sem Value) from rfl]
      rw [Sem.run_bind, this]
      simp only [Sem.run_bind, Sem.run_pure, Result.andThen, h2]
    · simp only [nmsL, List.mem_append] at hc
      rcases hc with hc | hc
      · exact hn c hc
      · exact h4 c hc

theorem packRes_nms {vs : List PV} {c : Nat} (h : c ∈ (packRes vs).nms) : c ∈ nmsL vs := by
  unfold packRes at h
  split at h
  · simp [nmsL, h]
  · exact h

theorem pack_VP {vs : List PV} {Vs : List Value} (h : LR Γ (shpOf H) w vs Vs) : VP Γ (shpOf H) w (packRes vs) (if h : Vs.length = 1 then Vs[0] else .tuple Vs.toArray) := by
  have hl := h.len
  unfold packRes
  split
  · rename_i v
    cases Vs with
    | nil => simp at hl
    | cons V q =>
      cases q with
      | nil => exact h.1
      | cons _ _ => simp at hl
  · rename_i hne
    have : Vs.length ≠ 1 := by
      intro e
      rw [e] at hl
      match vs, hl with
      | [v], _ => exact hne v rfl
    rw [dif_neg this]
    refine VP.mk_tup (by simpa using hl) fun j hj => ?_
    obtain ⟨U, e, k⟩ := h.CR j hj
    exact ⟨U, by simpa using e, k⟩

/-- The functions that the evaluator enters are in order. -/
def OkFns (C : Cfg) : Prop := ∀ f fn c, C.okf f = true → C.P.funcs[f]? = some fn → fn.body = some c → codeOK C c = true ∧ (fn.name == "runtime.NumGoroutine") = false

theorem callFunc_enter {f : Nat} {fn : Func} {c : Code} {Vs : Array Value} (hf : C.P.funcs[f]? = some fn) (hb : fn.body = some c) (hn : (fn.name == "runtime.NumGoroutine") = false) : (callFunc f Vs).run C.P w = .ok (.enter f Vs) w := by
  have hn' : ¬ fn.name = "runtime.NumGoroutine" := by simpa using hn
  simp [callFunc, hf, hb, hn', Result.andThen]

theorem args_SR {args : List PV} {Vs : Array Value} {n : Nat} (hc : CR Γ (shpOf H) w args Vs) (hn : ∀ c ∈ nmsL args, c < H.length) :
    SR Γ H w (args ++ List.replicate (n - args.length) (.tup [])) (Vs ++ Array.replicate (n - Vs.size) undef) := by
  have h2 : CR Γ (shpOf H) w (List.replicate (n - args.length) (.tup [])) (Array.replicate (n - Vs.size) undef) := ⟨by simp [hc.1], fun j hj => by
    simp only [List.length_replicate] at hj
    refine ⟨undef, by rw [hc.1]; simp [hj], ?_⟩
    simp only [List.getElem_replicate]
    exact undef_VP⟩
  have h3 := hc.append h2
  refine ⟨h3.1, fun c hcc => ?_, h3.2⟩
  rw [nmsL_append, List.mem_append] at hcc
  rcases hcc with hcc | hcc
  · exact hn c hcc
  · obtain ⟨j, hj, hcc⟩ := mem_nmsL.1 hcc
    simp [PV.nms, nmsL] at hcc

theorem Stp.put {Γ0 Γ' : Ctx} {H0 H' : List Blk} {w0 w' : World} {Φ0 Φ' : Nat → Prop} {D : Nat} {ob : Obj} (h : Stp C Γ0 H0 w0 Φ0 Γ' H' w' Φ') (hD : w0.heap.size ≤ D) (hO : Off Γ' Φ' w' D) : Stp C Γ0 H0 w0 Φ0 Γ' H' (w'.putObj D ob) Φ' := by
  refine ⟨h.os, h.tape, h.output, by rw [World.putObj_size]; exact h.size, h.sub, h.stnew, h.own, h.foot, fun g hg hn hp => ?_, h.yv, h.len, fun b hb hf => ?_⟩
  · rw [World.putObj_heap_other (by omega)]; exact h.frame g hg hn hp
  · obtain ⟨k1, k2, k3⟩ := h.keep b hb hf
    refine ⟨k1, k2, fun g hg => ?_⟩
    rw [← k3 g hg]
    refine shape_of_heap (World.putObj_heap_other ?_)
    rintro rfl
    exact hO.2.2.1 b (k1.trans hg)

/-- The marks are taken off. -/
theorem leavesM {F : Fence} {n : Nat} {fn : Func} {Rr : Ending → World → Prop} {Γ0 Γ' : Ctx} {H0 : List Blk} {w0 : World} {Φ0 Φ' : Nat → Prop} {st' : St σ} {tmps : Array Value} (hI : HI I)
    (hk : ∀ w', SI C I Γ' Φ' st' tmps w' → Stp C Γ0 H0 w0 Φ0 Γ' st'.hp w' Φ' → ∃ V, (results fn tmps).run C.P w' = .ok V w' ∧ Rr (.returned V) w') :
    ∀ (Ds : List Nat) (w : World), Ds.Nodup → (∀ D ∈ Ds, w0.heap.size ≤ D ∧ Off Γ' Φ' w D ∧ w.heap[D]? = some (.deferred (some []))) → SI C I Γ' Φ' st' tmps w → Stp C Γ0 H0 w0 Φ0 Γ' st'.hp w Φ' → LeavesInM F n C.P fn tmps Rr (Ds.map mkD) .returning w
  | [], w, _, _, S, h => hk w S h
  | D :: Ds, w, hn, hD, S, h => by
    obtain ⟨h1, h2, h3⟩ := hD D (by simp)
    refine ⟨by simp, .inl ⟨D, w.putObj D (.deferred none), rfl, run_takeDeferred h3, ?_⟩⟩
    have hn' := List.nodup_cons.1 hn
    refine leavesM hI hk Ds _ hn'.2 (fun E hE => ?_) (S.offW hI (OffW.put h2)) (h.put h1 h2)
    obtain ⟨k1, k2, k3⟩ := hD E (by simp [hE])
    refine ⟨k1, k2.put, (World.putObj_heap_other ?_).trans k3⟩
    rintro rfl
    exact hn'.1 hE

/-- THE EVALUATOR IS SOUND. -/
theorem evC_sound (hX : XOK C) (hO : OkFns C) (hm : C.P.follows .mixedOrders = true) : ∀ d, CalleeOK C (evC C d)
  | 0 => fun σ I yh yv hI hy g args H s ret Hc s' h => by simp [evC] at h
  | d + 1 => fun σ I yh yv hI hy g args H s ret Hc s' h Γ Φ w Vs hyv hH hg hi hdis hc hn => by
    have ih := evC_sound hX hO hm d
    simp only [evC] at h
    split at h
    · rename_i fn hok hf
      split at h
      · rename_i c hb
        obtain ⟨hcode, hname⟩ := hO g fn c hok hf hb
        intro ro n o a next Q hnext
        rw [callFunc_enter hf hb hname]
        simp only [Oper.uponIn_enter]
        refine ⟨fun h => (by simp [wideAt, Fence.wide] at h), ?_⟩
        have key : CallsIn Fence.wide (n - 1) C.P g Vs w fun e w'' => ∃ V, e = .returned V ∧ CRes C I Γ H w Φ ret Hc s' V w'' := by
          refine callsIn_of_wp_marks hf hb trivial ?_
          have S0 : SI C I Γ Φ { sl := args ++ List.replicate (fn.ntmps - args.length) (.tup []), hp := H, s := s } (Vs ++ Array.replicate (fn.ntmps - Vs.size) undef) w := ⟨hH, args_SR hc hn, hg, hi, hdis⟩
          refine evCode_wp (ro := none) (rf := true) (n := n - 1) (n0 := w.heap.size) (a := { tmps := Vs ++ Array.replicate (fn.ntmps - Vs.size) undef, defers := [] }) ⟨hI, ih, hX, hy⟩ hm c (fun _ => rfl) hcode hyv h S0 (Mk.nil (Nat.le_refl _)) ?_
          intro o st' a' w' Γ' Φ' k1 k2 k3 ⟨_, Ds, k4, k5, k6⟩
          suffices fin : ∀ w', SI C I Γ' Φ' st' a'.tmps w' → Stp C Γ H w Φ Γ' st'.hp w' Φ' → resK C st'.sl st'.hp fn.results.toList (fun vs => some (packRes vs, st'.hp, st'.s)) = some (ret, Hc, s') → ∃ V, (results fn a'.tmps).run C.P w' = .ok V w' ∧ ∃ V', Ending.returned V = .returned V' ∧ CRes C I Γ H w Φ ret Hc s' V' w' by
            have key2 : resK C st'.sl st'.hp fn.results.toList (fun vs => some (packRes vs, st'.hp, st'.s)) = some (ret, Hc, s') → LeavesInM (wideAt none) (n - 1) C.P fn a'.tmps (fun e w'' => ∃ V, e = .returned V ∧ CRes C I Γ H w Φ ret Hc s' V w'') a'.defers .returning w' := fun h => by
              rw [k4]
              exact leavesM hI (fun w' a b => fin w' a b h) Ds w' k5 k6 k3 k2
            cases o with
            | normal => exact key2 k1
            | ret => exact key2 k1
            | exit id => cases k1
          intro w' k3 k2
          have fin : ∀ (h : resK C st'.sl st'.hp fn.results.toList (fun vs => some (packRes vs, st'.hp, st'.s)) = some (ret, Hc, s')), ∃ V, (results fn a'.tmps).run C.P w' = .ok V w' ∧ ∃ V', Ending.returned V = .returned V' ∧ CRes C I Γ H w Φ ret Hc s' V' w' := fun h => by
            obtain ⟨vs, Us, h1, h2, h3, h4⟩ := resK_sound k3.hr k3.sr _ h
            simp only [Option.some.injEq, Prod.mk.injEq] at h1
            obtain ⟨rfl, rfl, rfl⟩ := h1
            refine ⟨_, ?_, _, rfl, Γ', Φ', k2, k3.hr, pack_VP h3, fun c hc => h4 c (packRes_nms hc), k3.inv, k3.dis⟩
            rw [results_eq, Sem.run_bind, h2]
            rfl
          exact fin
        have key' : CallsIn (wideAt ro) (n - 1) C.P g Vs w fun e w'' => ∃ V, e = .returned V ∧ CRes C I Γ H w Φ ret Hc s' V w'' := key
        refine key'.mono ?_
        rintro e w' ⟨V, rfl, hR⟩
        exact hnext V w' hR
      · cases h
    · cases h

end
end Go.Proofs.Ytfioahjeanmfpaa.E
